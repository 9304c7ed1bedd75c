/- Parts of the walks: X3b X4 X5 X6 X7 -/
import Derived.Test.YticlpjjkjpabmaaX3
import Derived.WalkKit
import Derived.OrdersIn
import Derived.TacticsIn
import Derived.RangeFuncIn
import Derived.RangeFuncRecord
import Derived.RangeFuncCalls

/- Reading cells back as data loses nothing. -/
namespace Go.X
open Go

def Ref (a b : AV) : Prop := ∀ κ Im w y, AV.rel κ Im w a y → AV.rel κ Im w b y
def RefL (a b : List AV) : Prop := ∀ κ Im w y, AV.rels κ Im w a y → AV.rels κ Im w b y

theorem Ref.refl (a : AV) : Ref a a := fun _ _ _ _ h => h
theorem RefL.refl (a : List AV) : RefL a a := fun _ _ _ _ h => h
theorem RefL.cons {a b : AV} {l m : List AV} (h : Ref a b) (hl : RefL l m) : RefL (a :: l) (b :: m) := by
  intro κ Im w y e
  simp only [AV.rels] at e ⊢
  obtain ⟨y, r, h1, h2, h3⟩ := e
  exact ⟨y, r, h1, h _ _ _ _ h2, hl _ _ _ _ h3⟩

theorem rels_append {κ Im w} : ∀ (l m : List AV) (ys : List Value), AV.rels κ Im w (l ++ m) ys ↔ ∃ a b, ys = a ++ b ∧ AV.rels κ Im w l a ∧ AV.rels κ Im w m b
  | [], m, ys => by
    simp only [List.nil_append, AV.rels]
    exact ⟨fun h => ⟨[], ys, rfl, rfl, h⟩, fun ⟨a, b, h1, h2, h3⟩ => by subst h2; simp at h1; subst h1; exact h3⟩
  | x :: l, m, ys => by
    simp only [List.cons_append, AV.rels]
    constructor
    · rintro ⟨y, r, h1, h2, h3⟩
      obtain ⟨a, b, h4, h5, h6⟩ := (rels_append l m r).1 h3
      exact ⟨y :: a, b, by rw [h1, h4]; rfl, ⟨y, a, rfl, h2, h5⟩, h6⟩
    · rintro ⟨a, b, h1, ⟨y, r, h2, h3, h4⟩, h5⟩
      exact ⟨y, r ++ b, by rw [h1, h2]; rfl, h3, (rels_append l m _).2 ⟨r, b, rfl, h4, h5⟩⟩

theorem RefL.append {a b l m : List AV} (h : RefL a b) (hl : RefL l m) : RefL (a ++ l) (b ++ m) := by
  intro κ Im w y e
  obtain ⟨p, q, h1, h2, h3⟩ := (rels_append _ _ _).1 e
  exact (rels_append _ _ _).2 ⟨p, q, h1, h _ _ _ _ h2, hl _ _ _ _ h3⟩

theorem rels_length {κ Im w} : ∀ (l : List AV) (ys : List Value), AV.rels κ Im w l ys → ys.length = l.length
  | [], _, h => by simp only [AV.rels] at h; simp [h]
  | a :: l, _, h => by
    simp only [AV.rels] at h
    obtain ⟨y, r, rfl, _, h3⟩ := h
    simp [rels_length l r h3]

theorem decInt_law {a : AV} {n : Int} (h : decInt a = some n) : Ref a (i64 n) := by
  unfold decInt at h; split at h <;> first | cases h | skip
  exact Ref.refl _
theorem decU32_law {a : AV} {n : Int} (h : decU32 a = some n) : Ref a (.v (.int .u32 n)) := by
  unfold decU32 at h; split at h <;> first | cases h | skip
  exact Ref.refl _
theorem decU8_law {a : AV} {n : Int} (h : decU8 a = some n) : Ref a (.v (.int .u8 n)) := by
  unfold decU8 at h; split at h <;> first | cases h | skip
  exact Ref.refl _
theorem decBool_law {a : AV} {n : Bool} (h : decBool a = some n) : Ref a (abl n) := by
  unfold decBool at h; split at h <;> first | cases h | skip
  exact Ref.refl _
theorem decRs_law {c : TC} {a : AV} {xs : List c.den} (h : decRs c a = some xs) : Ref a (.rs c xs) := by
  unfold decRs at h; split at h
  · split at h
    · rename_i e; subst e; cases h; exact Ref.refl _
    · cases h
  · cases h
    intro κ Im w y e
    simp only [AV.rel] at e ⊢
    exact ⟨none, 0, e, Nat.le_refl _, fun h => absurd rfl h⟩
  · cases h

theorem decId_law {l : List AV} {x : TieId} (h : decId l = some x) : RefL l (encId x) := by
  simp only [decId] at h
  (repeat' split at h) <;> cases h
  exact .cons (decInt_law ‹_›) (.cons (decInt_law ‹_›) (.cons (decInt_law ‹_›) (.cons (decInt_law ‹_›) (.refl _))))
theorem decHead_law {l : List AV} {x : Head} (h : decHead l = some x) : RefL l (encHead x) := by
  simp only [decHead] at h
  (repeat' split at h) <;> cases h
  exact .cons (decInt_law ‹_›) (.cons (decInt_law ‹_›) (.cons (decInt_law ‹_›) (.cons (decInt_law ‹_›) (.cons (decInt_law ‹_›) (.cons (decInt_law ‹_›) (.refl _))))))
theorem decEdge_law {l : List AV} {x : Edge} (h : decEdge l = some x) : RefL l (encEdge x) := by
  simp only [decEdge] at h
  (repeat' split at h) <;> cases h
  exact .cons (decInt_law ‹_›) (.cons (decInt_law ‹_›) (.cons (decInt_law ‹_›) (.refl _)))
theorem decPrefix_law {l : List AV} {x : Prefix} (h : decPrefix l = some x) : RefL l (encPrefix x) := by
  simp only [decPrefix] at h
  (repeat' split at h) <;> cases h
  exact .cons (decU32_law ‹_›) (.cons (decInt_law ‹_›) (.refl _))
theorem decReach_law {l : List AV} {x : Reach} (h : decReach l = some x) : RefL l (encReach x) := by
  simp only [decReach] at h
  (repeat' split at h) <;> cases h
  exact .cons (decU32_law ‹_›) (.cons (decInt_law ‹_›) (.cons (decInt_law ‹_›) (.refl _)))
theorem decTie_law {l : List AV} {x : Tie} (h : decTie l = some x) : RefL l (encTie x) := by
  simp only [decTie] at h
  (repeat' split at h) <;> cases h
  exact RefL.append (decHead_law ‹_›) (.cons (decInt_law ‹_›) (.cons (decBool_law ‹_›) (.cons (decRs_law ‹decRs .edge _ = _›) (.cons (decRs_law ‹decRs .reach _ = _›) (.refl _)))))
theorem decParent_law {l : List AV} {x : Parent} (h : decParent l = some x) : RefL l (encParent x) := by
  simp only [decParent] at h
  (repeat' split at h) <;> cases h
  exact .cons (decInt_law ‹_›) (.cons (decRs_law ‹_›) (.refl _))
theorem decHop_law {l : List AV} {x : Hop} (h : decHop l = some x) : RefL l (encHop x) := by
  simp only [decHop] at h
  (repeat' split at h) <;> cases h
  exact .cons (decInt_law ‹_›) (.cons (decInt_law ‹_›) (.cons (decRs_law ‹_›) (.refl _)))
theorem decPath_law {l : List AV} {x : Path} (h : decPath l = some x) : RefL l (encPath x) := by
  simp only [decPath] at h
  (repeat' split at h) <;> cases h
  exact .cons (decU32_law ‹_›) (.cons (decInt_law ‹_›) (.cons (decInt_law ‹_›) (.cons (decInt_law ‹_›) (.cons (decRs_law ‹_›) (.refl _)))))
theorem decNot_law {l : List AV} {x : Not} (h : decNot l = some x) : RefL l (encNot x) := by
  simp only [decNot] at h
  (repeat' split at h) <;> cases h
  exact .cons (decU32_law ‹_›) (.cons (decInt_law ‹_›) (.cons (decInt_law ‹_›) (.refl _)))
theorem decJob_law {l : List AV} {x : Job} (h : decJob l = some x) : RefL l (encJob x) := by
  simp only [decJob] at h
  (repeat' split at h) <;> cases h
  exact .cons (decInt_law ‹_›) (.cons (decInt_law ‹_›) (.refl _))
theorem decPiece_law {l : List AV} {x : Piece} (h : decPiece l = some x) : RefL l (encPiece x) := by
  simp only [decPiece] at h
  (repeat' split at h) <;> cases h
  rw [← List.take_append_drop 10 l, ‹l.drop 10 = _›]
  exact RefL.append (decTie_law ‹_›) (.cons (decInt_law ‹_›) (.refl _))
theorem decEntId_law {l : List AV} {x : EntId} (h : decEntId l = some x) : RefL l (encEntId x) := by
  simp only [decEntId] at h
  (repeat' split at h) <;> cases h
  rw [← List.take_append_drop 4 l, ‹l.drop 4 = _›]
  exact RefL.append (decId_law ‹_›) (.cons (decInt_law ‹_›) (.refl _))
theorem decEntHead_law {l : List AV} {x : EntHead} (h : decEntHead l = some x) : RefL l (encEntHead x) := by
  simp only [decEntHead] at h
  (repeat' split at h) <;> cases h
  rw [← List.take_append_drop 6 l, ‹l.drop 6 = _›]
  exact RefL.append (decHead_law ‹_›) (.cons (decInt_law ‹_›) (.refl _))
theorem decWait_law {l : List AV} {x : Wait} (h : decWait l = some x) : RefL l (encWait x) := by
  simp only [decWait] at h
  (repeat' split at h) <;> cases h
  rw [← List.take_append_drop 6 l, ‹l.drop 6 = _›]
  exact RefL.append (decHead_law ‹_›) (.cons (decInt_law ‹_›) (.refl _))
theorem decArr4_law {l : List AV} {x : Arr4} (h : decArr4 l = some x) : RefL l (encArr4 x) := by
  simp only [decArr4] at h
  (repeat' split at h) <;> cases h
  exact .cons (decInt_law ‹_›) (.cons (decInt_law ‹_›) (.cons (decInt_law ‹_›) (.cons (decInt_law ‹_›) (.refl _))))
theorem decOwn_law {l : List AV} {x : Own} (h : decOwn l = some x) : RefL l (encOwn x) := by
  simp only [decOwn] at h
  (repeat' split at h) <;> cases h
  exact .cons (decInt_law ‹_›) (.cons (decInt_law ‹_›) (.cons (decBool_law ‹_›) (.cons (decBool_law ‹_›) (.cons (decRs_law ‹decRs .edge _ = _›) (.cons (decRs_law ‹decRs .reach _ = _›) (.cons (decInt_law ‹_›) (.cons (decInt_law ‹_›) (.refl _))))))))
theorem decStep20_law {l : List AV} {x : Step20} (h : decStep20 l = some x) : RefL l (encStep20 x) := by
  simp only [decStep20] at h
  (repeat' split at h) <;> cases h
  exact .cons (decInt_law ‹_›) (.cons (decInt_law ‹_›) (decHead_law ‹_›))
theorem decStep12_law {l : List AV} {x : Step12} (h : decStep12 l = some x) : RefL l (encStep12 x) := by
  simp only [decStep12] at h
  (repeat' split at h) <;> cases h
  exact .cons (decInt_law ‹_›) (.cons (decInt_law ‹_›) (decTie_law ‹_›))
theorem decLie_law {l : List AV} {x : Lie} (h : decLie l = some x) : RefL l (encLie x) := by
  simp only [decLie] at h
  (repeat' split at h) <;> cases h
  exact .cons (decInt_law ‹_›) (.cons (decInt_law ‹_›) (.cons (decInt_law ‹_›) (.cons (decInt_law ‹_›) (.cons (decInt_law ‹_›) (.cons (decInt_law ‹_›) (.cons (decInt_law ‹_›) (.cons (decInt_law ‹_›)
    (.cons (decInt_law ‹_›) (.cons (decInt_law ‹_›) (.cons (decBool_law ‹_›) (.cons (decBool_law ‹_›) (.refl _))))))))))))
theorem decPacket_law {l : List AV} {x : Packet} (h : decPacket l = some x) : RefL l (encPacket x) := by
  simp only [decPacket] at h
  split at h
  · cases h
  rename_i a l
  (repeat' split at h) <;> cases h
  have e1 : l = l.take 12 ++ ((l.drop 12).take 10 ++ ((l.drop 22).take 4 ++ ((l.drop 26).take 4 ++ l.drop 30))) := by
    have h1 : l.drop 12 = (l.drop 12).take 10 ++ l.drop 22 := by rw [show l.drop 22 = (l.drop 12).drop 10 by simp, List.take_append_drop]
    have h2 : l.drop 22 = (l.drop 22).take 4 ++ l.drop 26 := by rw [show l.drop 26 = (l.drop 22).drop 4 by simp, List.take_append_drop]
    have h3 : l.drop 26 = (l.drop 26).take 4 ++ l.drop 30 := by rw [show l.drop 30 = (l.drop 26).drop 4 by simp, List.take_append_drop]
    rw [← h3, ← h2, ← h1, List.take_append_drop]
  rw [e1, ‹l.drop 30 = _›]
  exact .cons (decInt_law ‹_›) (RefL.append (decLie_law ‹_›) (RefL.append (decTie_law ‹_›) (RefL.append (decId_law ‹_›) (RefL.append (decId_law ‹_›) (.cons (decRs_law ‹_›) (.refl _))))))

theorem TC.dec_law : ∀ {c : TC} {l : List AV} {x : c.den}, c.dec l = some x → RefL l (c.enc x) := by
  intro c l x h
  cases c <;> simp only [TC.dec] at h
  case int => unfold one at h; split at h <;> first | cases h | exact .cons (decInt_law h) (.refl _)
  case bool => unfold one at h; split at h <;> first | cases h | exact .cons (decBool_law h) (.refl _)
  case u32 => unfold one at h; split at h <;> first | cases h | exact .cons (decU32_law h) (.refl _)
  case u8 => unfold one at h; split at h <;> first | cases h | exact .cons (decU8_law h) (.refl _)
  case tieId => exact decId_law h
  case head => exact decHead_law h
  case edge => exact decEdge_law h
  case prefix_ => exact decPrefix_law h
  case reach => exact decReach_law h
  case tie => exact decTie_law h
  case packet => exact decPacket_law h
  case parent => exact decParent_law h
  case hop => exact decHop_law h
  case path => exact decPath_law h
  case not_ => exact decNot_law h
  case job => exact decJob_law h
  case piece => exact decPiece_law h
  case entId => exact decEntId_law h
  case entHead => exact decEntHead_law h
  case wait => exact decWait_law h
  case arr4 => exact decArr4_law h
  case own => exact decOwn_law h
  case step12 => exact decStep12_law h
  case step20 => exact decStep20_law h

end Go.X

/- Each operation's effect. -/
namespace Go.X
open Go

/-- What a program's walks lean on: which code an element type has; the contracts of what is called. -/
structure CSpec where
  rd : List AV → (Nat → AObj) → List Nat
  n : Nat
  eff : List AV → Nat → (Nat → AObj) → Eff

structure Env where
  P : Program
  tc : TypeId → Option TC
  C : FuncId → Option CSpec

/-- The element's code of a slice type. -/
def Env.el (E : Env) (t : TypeId) : Option (TypeId × TC) := match E.P.underlying t with
  | some (.slice e) => (E.tc e).map (e, ·)
  | _ => none

def castL (c c' : TC) (xs : List c'.den) : Option (List c.den) := if h : c' = c then some (h ▸ xs) else none

/-- Sealing: what a row holds, as what stays. -/
def sealAV (o : Nat → AObj) : AV → AV
  | .hd i => match o i with | .row _ c xs => .rs c xs | _ => .hd i
  | .vw i k lo n => match o i with | .row _ c xs => if k = c.k then .rs c ((xs.drop lo).take n) else .vw i k lo n | _ => .vw i k lo n
  | a => a
def sealIds : AV → List Nat
  | .hd i | .vw i _ _ _ => [i]
  | _ => []
def deadAll (l : List Nat) : List (Nat × AObj) := l.map fun i => (i, .dead)

def sealD (o : Nat → AObj) : AV → AV
  | .agg l => .agg (l.map (sealAV o))
  | a => sealAV o a
def sealDIds : AV → List Nat
  | .agg l => l.flatMap sealIds
  | a => sealIds a

/-- A datum off a value. -/
def TC.rd (c : TC) (a : AV) : Option c.den := match c.isAgg with
  | true => match a with | .agg l => c.dec l | _ => none
  | false => c.dec [a]

/-- A part of a row of cells, as a value. -/
def partAV (P : Program) (t : TypeId) (cs : List AV) (off : Nat) : Option AV :=
  match P.underlying t with
  | none => none
  | some _ => if aggB P t then (if off + szOf P t ≤ cs.length then some (.agg ((cs.drop off).take (szOf P t))) else none) else cs[off]?

def effLoad (P : Program) (t : TypeId) (a : AV) (o : Nat → AObj) : Eff :=
  match (match a with
    | .ptr i off => match o i with | .cells cs _ => partAV P t cs off | _ => none
    | .ep c xs n off => partAV P t (c.enc (xs.getD n c.d)) off
    | .rp i k n off => match o i with | .row _ c xs => if k = c.k then partAV P t (c.enc (xs.getD n c.d)) off else none | _ => none
    | _ => none) with
  | some r => .ok r []
  | none => .bad

/-- What one cell may hold. -/
def oneAV : AV → Bool
  | .v (.agg _) | .v (.tuple _) | .agg _ | .tup _ | .any | .gd _ _ _ _ => false
  | _ => true

def effStore (P : Program) (t : TypeId) (a x : AV) (o : Nat → AObj) : Eff :=
  match cellsAV x with
  | none => .bad
  | some l =>
    if l.length = szOf P t ∧ 0 < l.length ∧ l.all oneAV = true then
      match a with
      | .ptr i off => match o i with
        | .cells cs E => if off + l.length ≤ cs.length then .ok (.v undef) [(i, .cells (spliceAV cs off l) E)] else .bad
        | _ => .bad
      | .rp i k n off => match o i with
        | .row E c xs => if k = c.k ∧ off + l.length ≤ k then
            match c.dec (spliceAV (c.enc (xs.getD n c.d)) off l) with
            | some y => .ok (.v undef) [(i, .row E c (xs.set n y))]
            | none => .bad
          else .bad
        | _ => .bad
      | _ => .bad
    else .bad

def fieldOff (P : Program) (s : TypeId) (f : Nat) : Option (Nat × TypeId) := match P.underlying s with
  | some (.struct fs) => match fs[f]? with | some x => if 0 < szOf P x.type then some (x.offset, x.type) else none | none => none
  | _ => none

def effFieldAddr (P : Program) (s : TypeId) (f : Nat) (a : AV) : Eff :=
  match fieldOff P s f with
  | none => .bad
  | some (d, _) => match a with
    | .ptr i off => .ok (.ptr i (off + d)) []
    | .ep c xs n off => .ok (.ep c xs n (off + d)) []
    | .rp i k n off => .ok (.rp i k n (off + d)) []
    | _ => .bad

def effField (P : Program) (s : TypeId) (f : Nat) (a : AV) : Eff :=
  match fieldOff P s f, a with
  | some (d, t), .agg cs => match partAV P t cs d with | some r => .ok r [] | none => .bad
  | _, _ => .bad

def effIndexAddr (E : Env) (t : TypeId) (a i : AV) (o : Nat → AObj) : Eff :=
  match E.P.underlying t with
  | some (.slice e) => match a, i with
    | .rs c xs, .v (.int _ n) => if szOf E.P e = c.k then .req (0 ≤ n ∧ n < xs.length) (.ep c xs n.toNat 0) [] else .bad
    | .hd j, .v (.int _ n) => match o j with
      | .row _ c xs => if szOf E.P e = c.k then .req (0 ≤ n ∧ n < xs.length) (.rp j c.k n.toNat 0) [] else .bad
      | _ => .bad
    | _, _ => .bad
  | some (.array len e) => match a, i with
    | .ptr j off, .v (.int _ n) => if 0 < szOf E.P e then .req (0 ≤ n ∧ n < len) (.ptr j (off + n.toNat * szOf E.P e)) [] else .bad
    | _, _ => .bad
  | _ => .bad

def effIndex (P : Program) (t : TypeId) (a i : AV) : Eff :=
  match P.underlying t, a, i with
  | some (.array len e), .agg cs, .v (.int _ n) => match partAV P e cs (n.toNat * szOf P e) with
    | some r => .req (0 ≤ n ∧ n < len) r []
    | none => .bad
  | _, _, _ => .bad

def eq1 : Bool → AV → AV → Option Bool
  | true, .v (.int k a), .v (.int k' b) => if k = k' then some (a == b) else none
  | false, .v (.bool a), .v (.bool b) => some (a == b)
  | _, _, _ => none

def allEq : List Bool → List AV → List AV → Option Bool
  | [], [], [] => some true
  | [q], [a], [b] => eq1 q a b
  | q :: ks, a :: l, b :: m => match eq1 q a b, allEq ks l m with | some x, some y => some (x && y) | _, _ => none
  | _, _, _ => none

/-- The cells of a type whose '==' looks at each cell in turn: numbers (true), bools (false), and structs of such. -/
def flatFs (P : Program) (g : TypeId → Option (List Bool)) : Nat → List Field → Option (List Bool)
  | _, [] => some []
  | acc, f :: r => if f.name ≠ "_" ∧ f.offset = acc then
      match g f.type with
      | some s => match flatFs P g (acc + s.length) r with | some q => some (s ++ q) | none => none
      | none => none
    else none
def flatSz (P : Program) : Nat → TypeId → Option (List Bool)
  | 0, _ => none
  | n + 1, t => match P.underlying t with
    | some (.int _) => some [true]
    | some .bool => some [false]
    | some (.struct fs) => if P.stoodInHeld t then none else
      match flatFs P (flatSz P n) 0 fs.toList with
      | some s => if szOf P t = s.length then some s else none
      | none => none
    | _ => none

def effBin (P : Program) (b : BinOp) (t : TypeId) (x y : AV) : Eff :=
  match x, y with
  | .v (.int k a), .v (.int k' c) =>
    match b with
    | .shl => .req (0 ≤ c) (.v (.int k (k.wrap (a * 2 ^ (min c.toNat k.bits))))) []
    | .shr => .req (0 ≤ c) (.v (.int k (a.fdiv (2 ^ (min c.toNat k.bits))))) []
    | _ => if k = k' then
      match b with
      | .add => .ok (.v (.int k (k.wrap (a + c)))) []
      | .sub => .ok (.v (.int k (k.wrap (a - c)))) []
      | .mul => .ok (.v (.int k (k.wrap (a * c)))) []
      | .quo => .req (c ≠ 0) (.v (.int k (k.wrap (a.tdiv c)))) []
      | .rem => .req (c ≠ 0) (.v (.int k (a.tmod c))) []
      | .and => .ok (.v (.int k (k.wrap (BitVec.ofInt k.bits a &&& BitVec.ofInt k.bits c).toNat))) []
      | .or => .ok (.v (.int k (k.wrap (BitVec.ofInt k.bits a ||| BitVec.ofInt k.bits c).toNat))) []
      | .xor => .ok (.v (.int k (k.wrap (BitVec.ofInt k.bits a ^^^ BitVec.ofInt k.bits c).toNat))) []
      | .andNot => .ok (.v (.int k (k.wrap (BitVec.ofInt k.bits a &&& ~~~(BitVec.ofInt k.bits c)).toNat))) []
      | .eql => .ok (abl (a == c)) []
      | .neq => .ok (abl (a != c)) []
      | .lss => .ok (abl (decide (a < c))) []
      | .leq => .ok (abl (decide (a ≤ c))) []
      | .gtr => .ok (abl (decide (a > c))) []
      | .geq => .ok (abl (decide (a ≥ c))) []
      | _ => .bad
    else .bad
  | .v (.bool a), .v (.bool c) => match b, P.underlying t with
    | .eql, some .bool => .ok (abl (a == c)) []
    | .neq, some .bool => .ok (abl (!(a == c))) []
    | _, _ => .bad
  | .agg l, .agg m => match flatSz P 20 t with
    | some ks => if aggB P t = true then
        match b, allEq ks l m with
        | .eql, some r => .ok (abl r) []
        | .neq, some r => .ok (abl (!r)) []
        | _, _ => .bad
      else .bad
    | none => .bad
  | .ptr _ _, .v (.pointer none) => match b, P.underlying t with
    | .eql, some (.pointer _) => .ok (abl false) []
    | .neq, some (.pointer _) => .ok (abl true) []
    | _, _ => .bad
  | .v (.pointer none), .v (.pointer none) => match b, P.underlying t with
    | .eql, some (.pointer _) => .ok (abl true) []
    | .neq, some (.pointer _) => .ok (abl false) []
    | _, _ => .bad
  | _, _ => .bad

def effUn (u : UnOp) (x : AV) : Eff :=
  match u, x with
  | .neg, .v (.int k n) => .ok (.v (.int k (k.wrap (0 - n)))) []
  | .not, .v (.bool b) => .ok (abl !b) []
  | _, _ => .bad

def effConv (P : Program) (s d : TypeId) (x : AV) : Eff :=
  match P.underlying s, P.underlying d, x with
  | some _, some (.int k), .v (.int _ n) => .ok (.v (.int k (k.wrap n))) []
  | _, _, _ => .bad

def fillAV (place : Nat → Option (Nat × Nat)) (cs : List AV) : List (Nat × AV) → Option (List AV)
  | [] => some cs
  | (i, x) :: r => match place i, cellsAV x with
    | some (off, size), some l => if l.length = size ∧ off + size ≤ cs.length then fillAV place (spliceAV cs off l) r else none
    | _, _ => none

def effBuild (P : Program) (t : TypeId) (ps : List (Nat × AV)) : Eff :=
  match (match P.info? t, P.underlying t with
    | some it, some (.array _ e) => match it.zero, P.info? e with
      | some z, some ie => fillAV (fun i => some (i * ie.size, ie.size)) (z.cells.toList.map .v) ps
      | _, _ => none
    | some it, some (.struct fields) => match it.zero, fields.toList.mapM (fun f => (P.info? f.type).map fun i => (f.offset, i.size)) with
      | some z, some places => fillAV (places.toArray[·]?) (z.cells.toList.map .v) ps
      | _, _ => none
    | _, _ => none) with
  | some l => .ok (.agg l) []
  | none => .bad

/-- Rows of cells, as data. -/
def decRows (c : TC) : Nat → List AV → Option (List c.den)
  | 0, [] => some []
  | 0, _ :: _ => none
  | n + 1, l => match c.dec (l.take c.k), decRows c n (l.drop c.k) with
    | some d, some ds => some (d :: ds)
    | _, _ => none

def sealIdsOf (x : AV) : List Nat := match cellsAV x with | some l => l.flatMap sealIds | none => []

def effBuildSlice (E : Env) (t : TypeId) (len : Nat) (ps : List (Nat × AV)) (id : Nat) (o : Nat → AObj) : Eff :=
  match E.el t with
  | none => .bad
  | some (e, c) => if szOf E.P e = c.k ∧ len * c.k ≤ 2 ^ 24 ∧ ((E.P.info? e).bind (·.zero)).isSome = true then
      match fillAV (fun i => some (i * c.k, c.k)) (List.replicate (len * c.k) .any) ps with
      | some l => match decRows c len (l.map (sealAV o)) with
        | some ds => .ok (.hd id) (deadAll (l.flatMap sealIds) ++ [(id, .row e c ds)])
        | none => .bad
      | none => .bad
    else .bad

/-- A slice, as what it holds. -/
def readSl (c : TC) (o : Nat → AObj) : AV → Option (List c.den)
  | .rs c' xs => castL c c' xs
  | .hd i => match o i with | .row _ c' xs => castL c c' xs | _ => none
  | .vw i k lo n => match o i with | .row _ c' xs => if k = c'.k then castL c c' ((xs.drop lo).take n) else none | _ => none
  | .v (.slice none 0 0) => some []
  | _ => none

def effAppend (E : Env) (ats : Array TypeId) (s x : AV) (id : Nat) (o : Nat → AObj) : Eff :=
  match ats[0]?, ats[1]? with
  | some t0, some t1 => match E.el t0 with
    | some (e, c) => if t1 = t0 ∧ ats.size = 2 ∧ szOf E.P e = c.k ∧ ((E.P.info? e).bind (·.zero)).map (·.cells.size) = some c.k ∧ 0 < byOf E.P e then
      match readSl c o x with
      | none => .bad
      | some ys => match s with
        | .v (.slice none 0 0) => .req (ys.length * byOf E.P e ≤ 2 ^ 47) (.hd id) [(id, .row e c ys)]
        | .hd i => match o i with
          | .row e' c' xs => match castL c c' xs with
            | some xs => if e' = e ∧ (sealIds x).contains i = false then .req ((xs.length + ys.length) * byOf E.P e ≤ 2 ^ 47) (.hd id) [(i, .dead), (id, .row e c (xs ++ ys))] else .bad
            | none => .bad
          | _ => .bad
        | _ => .bad
      else .bad
    | none => .bad
  | _, _ => .bad

/-! ### Maps -/
/-- The cells of a key that a map may have. -/
def TC.ks : TC → Option (List Bool)
  | .int => some [true] | .u32 => some [true] | .tieId => some [true, true, true, true] | .prefix_ => some [true, true]
  | _ => none
def keyOk (P : Program) (kt : TypeId) (c : TC) : Bool := match c.ks, flatSz P 20 kt with
  | some a, some b => a == b && (aggB P kt == c.isAgg)
  | _, _ => false
def castM (ck cv ck' cv' : TC) (m : List (ck'.den × cv'.den)) : Option (List (ck.den × cv.den)) :=
  if h : ck' = ck then if h' : cv' = cv then some (h ▸ h' ▸ m) else none else none
def mapOf (ck cv : TC) (o : Nat → AObj) : AV → Option (List (ck.den × cv.den))
  | .hd i => match o i with | .map ck' cv' m => castM ck cv ck' cv' m | _ => none
  | .v (.map none) => some []
  | _ => none
def zeroOf (P : Program) (c : TC) (t : TypeId) : Option c.den := match (P.info? t).bind (·.zero) with
  | some z => c.rd (toAV z)
  | none => none
structure MapT where
  kt : TypeId
  et : TypeId
  ck : TC
  cv : TC
def Env.mapT (E : Env) (t : TypeId) : Option MapT := match E.P.underlying t with
  | some (.map k v) => match E.tc k, E.tc v with | some a, some b => (match keyOk E.P k a with | true => some ⟨k, v, a, b⟩ | false => none) | _, _ => none
  | _ => none

def effLookup (E : Env) (t : TypeId) (ok : Bool) (m k : AV) (o : Nat → AObj) : Eff :=
  match E.mapT t with
  | some ⟨_, et, ck, cv⟩ => match ck.rd k, zeroOf E.P cv et, mapOf ck cv o m with
    | some x, some z, some l => match ok with
      | true => .ok (.tup [cv.av ((mget x l).getD z), abl (mget x l).isSome]) []
      | false => .ok (cv.av ((mget x l).getD z)) []
    | _, _, _ => .bad
  | none => .bad

def effMapUpdate (E : Env) (t : TypeId) (m k v : AV) (o : Nat → AObj) : Eff :=
  match E.mapT t with
  | some ⟨_, _, ck, cv⟩ => match ck.rd k, cv.rd (sealD o v), m with
    | some x, some y, .hd i => match mapOf ck cv o (.hd i), (sealDIds v).contains i with
      | some l, false => .ok (.v undef) (deadAll (sealDIds v) ++ [(i, .map ck cv (mput ck.lt x y l))])
      | _, _ => .bad
    | _, _, _ => .bad
  | none => .bad

def effDelete (E : Env) (ats : Array TypeId) (m k : AV) (o : Nat → AObj) : Eff :=
  match ats[0]? with
  | none => .bad
  | some t => match E.mapT t with
    | some ⟨_, _, ck, cv⟩ => match ck.rd k, m with
      | some x, .hd i => match mapOf ck cv o (.hd i) with
        | some l => .ok (.tup []) [(i, .map ck cv (mdel x l))]
        | none => .bad
      | _, _ => .bad
    | none => .bad

def effMakeMap (E : Env) (t : TypeId) (id : Nat) : Eff :=
  match E.mapT t with
  | some ⟨_, _, ck, cv⟩ => .ok (.hd id) [(id, .map ck cv [])]
  | none => .bad

/-- A range over a map. -/
def effRange (E : Env) (t : TypeId) (m : AV) (id : Nat) (o : Nat → AObj) : Eff :=
  match E.mapT t, m with
  | some ⟨_, _, ck, cv⟩, .hd i => match mapOf ck cv o (.hd i) with
    | some l => .ok (.ptr id 0) [(i, .lent), (id, .rng i ck cv l [] none)]
    | none => .bad
  | _, _ => .bad
def effNext (it : AV) (o : Nat → AObj) : Eff :=
  match it with
  | .ptr j off => match Nat.beq off 0, o j with
    | true, .rng i ck cv m seen cur => match ck.ks, o i with
      | some _, .lent => .alt (.nd Unit (fun _ => ∀ k ∈ m.map (·.1), k ∈ keyL seen cur) (fun _ => .tup [abl false]) (fun _ => [(j, .dead), (i, .map ck cv m)]))
        (.nd (ck.den × cv.den) (fun x => x ∈ m ∧ x.1 ∉ keyL seen cur) (fun x => .tup [abl true, ck.av x.1, cv.av x.2]) (fun x => [(j, .rng i ck cv m (keyL seen cur) (some x.1))]))
      | _, _ => .bad
    | _, _ => .bad
  | _ => .bad
def effEntry (it : AV) (o : Nat → AObj) : Eff :=
  match it with
  | .ptr j off => match Nat.beq off 0, o j with
    | true, .rng _ ck cv m _ (some k) => match ck.ks with
      | some _ => .ok (.tup [ck.av k, cv.av ((mget k m).getD cv.d)]) []
      | none => .bad
    | _, _ => .bad
  | _ => .bad

def lenSl (o : Nat → AObj) : AV → Option Int
  | .rs _ xs => some xs.length
  | .vw _ _ _ n => some n
  | .hd i => match o i with | .row _ _ xs => some xs.length | _ => none
  | .v (.slice none 0 0) => some 0
  | _ => none
def lenMp (o : Nat → AObj) : AV → Option Int
  | .hd i => match o i with | .map _ _ m => some m.length | _ => none
  | .v (.map none) => some 0
  | _ => none

def effLen (P : Program) (ats : Array TypeId) (x : AV) (o : Nat → AObj) : Eff :=
  match ats[0]? with
  | none => .bad
  | some t => match P.underlying t with
    | some (.slice _) => match lenSl o x with
      | some n => .ok (i64 n) []
      | none => .bad
    | some (.map _ _) => match lenMp o x with
      | some n => .ok (i64 n) []
      | none => .bad
    | _ => .bad

def loInt : Option AV → Option Int
  | none => some 0
  | some (.v (.int _ n)) => some n
  | _ => none

def effSlice (E : Env) (t : TypeId) (x : AV) (lo hi : Option AV) (o : Nat → AObj) : Eff :=
  match E.P.underlying t with
  | some (.slice e) =>
    match loInt lo with
    | none => .bad
    | some l =>
      match x with
      | .rs c xs => if szOf E.P e = c.k then match hi with
        | none => .req (0 ≤ l ∧ l ≤ xs.length) (.rs c (xs.drop l.toNat)) []
        | some (.v (.int _ h)) => .req (0 ≤ l ∧ l ≤ h ∧ h ≤ xs.length) (.rs c ((xs.take h.toNat).drop l.toNat)) []
        | _ => .bad else .bad
      | .hd i => match o i with
        | .row _ c xs => if szOf E.P e = c.k then match hi with
          | none => .req (0 ≤ l ∧ l ≤ xs.length) (.vw i c.k l.toNat (xs.length - l.toNat)) []
          | some (.v (.int _ h)) => .req (0 ≤ l ∧ l ≤ h ∧ h ≤ xs.length) (.vw i c.k l.toNat (h.toNat - l.toNat)) []
          | _ => .bad else .bad
        | _ => .bad
      | _ => .bad
  | _ => .bad

def effSliceOp (E : Env) (t : TypeId) (hl hh : Bool) (vs : List AV) (o : Nat → AObj) : Eff :=
  match hl, hh, vs with
  | false, false, [x] => effSlice E t x none none o
  | true, false, [x, l] => effSlice E t x (some l) none o
  | false, true, [x, h] => effSlice E t x none (some h) o
  | true, true, [x, l, h] => effSlice E t x (some l) (some h) o
  | _, _, _ => .bad

def effPick (c a b : AV) : Eff :=
  match c with
  | .v (.bool t) => match a, b with
    | .v (.bool true), .gd _ _ g (.v (.bool y)) => .req (t = false → g = true) (abl (t || y)) []
    | .v (.bool true), .v (.bool y) => .ok (abl (t || y)) []
    | .gd _ _ g (.v (.bool y)), .v (.bool false) => .req (t = true → g = true) (abl (t && y)) []
    | .v (.bool y), .v (.bool false) => .ok (abl (t && y)) []
    | .v (.bool x), .v (.bool y) => .ok (abl (bif t then x else y)) []
    | _, _ => .bad
  | _ => .bad

def mmAcc (mx : Bool) (k : IntKind) : Int → List AV → Option AV
  | a, [] => some (.v (.int k a))
  | a, .v (.int k' b) :: r => if k' = k then mmAcc mx k (if mx then (if b > a then b else a) else (if b < a then b else a)) r else none
  | _, _ => none
def minmax (mx : Bool) : List AV → Option AV
  | .v (.int k a) :: r => mmAcc mx k a r
  | _ => none

def effBuiltin (E : Env) (b : Builtin) (ats : Array TypeId) (args : List AV) (id : Nat) (o : Nat → AObj) : Eff :=
  match b, args with
  | .append, [s, x] => effAppend E ats s x id o
  | .len, [x] => effLen E.P ats x o
  | .delete, [m, k] => effDelete E ats m k o
  | .max, l => match minmax true l with | some r => .ok r [] | none => .bad
  | .min, l => match minmax false l with | some r => .ok r [] | none => .bad
  | _, _ => .bad

def newOp (E : Env) (op : Op) : Nat :=
  match op with
  | .alloc _ | .box _ _ | .buildSlice _ _ _ | .makeMap _ _ | .range _ _ => 1
  | .call c => match c.callee with
    | .builtin .append => 1
    | .value (.func f) => match E.C f with | some s => s.n | none => 0
    | .value _ => 2
    | _ => 0
  | _ => 0

def effOp (E : Env) (op : Op) (vs : List AV) (id : Nat) (o : Nat → AObj) : Eff :=
  match op with
  | .move _ | .assign _ => match vs with | [x] => .ok x [] | _ => .bad
  | .pick _ _ _ => match vs with | [c, a, b] => effPick c a b | _ => .bad
  | .alloc e => match (E.P.info? e).bind (·.zero) with | some z => .ok (.ptr id 0) [(id, .cells (z.cells.toList.map .v) e)] | none => .bad
  | .box e _ => match vs with
    | [x] => match cellsAV x with | some l => .ok (.ptr id 0) [(id, .cells l e)] | none => .bad
    | _ => .bad
  | .build t ps => effBuild E.P t ((ps.toList.map (·.1)).zip vs)
  | .buildSlice t n ps => effBuildSlice E t n ((ps.toList.map (·.1)).zip vs) id o
  | .load t _ => match vs with | [a] => effLoad E.P t a o | _ => .bad
  | .store t _ _ => match vs with | [a, x] => effStore E.P t a x o | _ => .bad
  | .nilCheck _ => match vs with
    | [.ptr i d] => .ok (.ptr i d) []
    | [.ep c xs n d] => .ok (.ep c xs n d) []
    | [.rp i k n d] => .ok (.rp i k n d) []
    | _ => .bad
  | .binOp b t _ _ _ => match vs with | [x, y] => effBin E.P b t x y | _ => .bad
  | .unOp u _ _ => match vs with | [x] => effUn u x | _ => .bad
  | .convert s d _ => match vs with | [x] => effConv E.P s d x | _ => .bad
  | .fieldAddr s _ f => match vs with | [a] => effFieldAddr E.P s f a | _ => .bad
  | .field s _ f => match vs with | [a] => effField E.P s f a | _ => .bad
  | .indexAddr t _ _ => match vs with | [a, i] => effIndexAddr E t a i o | _ => .bad
  | .index t _ _ => match vs with | [a, i] => effIndex E.P t a i | _ => .bad
  | .makeMap t none => effMakeMap E t id
  | .range t _ => match vs with | [m] => effRange E t m id o | _ => .bad
  | .next _ false => match vs with | [it] => effNext it o | _ => .bad
  | .entry _ => match vs with | [it] => effEntry it o | _ => .bad
  | .lookup t _ _ ok => match vs with | [m, k] => effLookup E t ok m k o | _ => .bad
  | .mapUpdate t _ _ _ => match vs with | [m, k, v] => effMapUpdate E t m k v o | _ => .bad
  | .extract _ n => match vs with | [.tup l] => (match l[n]? with | some r => .ok r [] | none => .bad) | _ => .bad
  | .makeFunc (.func f) first _ => if first.isEmpty then .ok (.fn f vs) [] else .bad
  | .slice t _ lo hi none => effSliceOp E t lo.isSome hi.isSome vs o
  | .call c => match c.callee with
    | .builtin b => effBuiltin E b c.argTypes vs id o
    | .value _ => match vs with
      | .fn f caps :: args => match E.C f with
        | some s => if s.n ≤ newOp E op then s.eff (args ++ caps) id o else .bad
        | none => .bad
      | _ => .bad
    | _ => .bad
  | _ => .bad

/-- The objects that an operation looks at, and those that it may turn; how many new ones it lays. -/
def ptrIds : AV → List Nat
  | .ptr i _ | .hd i | .vw i _ _ _ | .rp i _ _ _ => [i]
  | _ => []

def rngIds (o : Nat → AObj) : AV → List Nat
  | .ptr j _ => match o j with | .rng i _ _ _ _ _ => [j, i] | _ => [j]
  | _ => []

def rdOp (E : Env) (op : Op) (vs : List AV) (o : Nat → AObj) : List Nat :=
  match op with
  | .load _ _ | .store _ _ _ | .indexAddr _ _ _ | .slice _ _ _ _ _ | .lookup _ _ _ _ | .range _ _ | .entry _ => (vs.headD .any |> ptrIds)
  | .next _ _ => (vs.headD .any |> rngIds o)
  | .mapUpdate _ _ _ _ => (vs.headD .any |> ptrIds) ++ (vs.drop 2).flatMap sealDIds
  | .buildSlice _ _ _ => vs.flatMap sealIdsOf
  | .call c => match c.callee with
    | .builtin _ => vs.flatMap ptrIds
    | .value _ => match vs with
      | .fn f caps :: args => match E.C f with | some s => s.rd (args ++ caps) o | none => []
      | _ => []
    | _ => []
  | _ => []

end Go.X

/- Each effect is what the model's operation does: the operations that turn nothing. -/
namespace Go.X
open Go

def Eff.sat (E : Eff) (K : AV → List (Nat × AObj) → Prop) : Prop :=
  match E with
  | .bad => False
  | .ok r u => K r u
  | .req q r u => Ok q ∧ K r u
  | .nd ι q r u => ∀ x : ι, q x → K (r x) (u x)
  | .alt a b => a.sat K ∧ b.sat K
  | .when p a => Ok p ∧ a.sat K

def updH (H : List AObj) : List (Nat × AObj) → List AObj
  | [] => H
  | (i, o) :: r => updH (H.set i o) r

/-- What stands behind an operation in a state. -/
def Cont (c : Ctx) (κ : Kap) (Im : Nat → Prop) (w : World) (H : List AObj) (K : AV → List (Nat × AObj) → Prop) (k : Value → World → Prop) : Prop :=
  ∀ r u κ' Im' w' y, K r u → Le κ κ' Im Im' w w' → St c κ' Im' w' (updH H u) → AV.rel κ' Im' w' r y → k y w'

section
variable {P : Program} {c : Ctx} {κ : Kap} {Im : Nat → Prop} {w : World} {H : List AObj} {K : AV → List (Nat × AObj) → Prop} {k : Value → World → Prop}

theorem Cont.same (hk : Cont c κ Im w H K k) (hst : St c κ Im w H) {r : AV} {y : Value} (h : K r []) (hr : AV.rel κ Im w r y) : k y w :=
  hk r [] κ Im w y h (Le.refl κ Im w) hst hr

/-- An operation's answer: a value, and the world. -/
def Gives (P : Program) (s : Sem Next) (w : World) (k : Value → World → Prop) : Prop :=
  match s.run P w with
  | .ok (.value v) w' => k v w'
  | .ok .skip w' => k undef w'
  | .ok (.enter f args) w' => Calls P f args w' fun e w'' => ∃ v, e = .returned v ∧ k v w''
  | _ => False

theorem Gives.wp {o : Oper} {a : Act} {next : Act → World → Prop} {Q : Exit → Act → World → Prop} (h : Gives P (execOp a.eval o) w fun y w' => next (a.put o.dst y) w') : o.wp P a w next Q := by
  unfold Oper.wp
  unfold Gives at h
  generalize (execOp a.eval o).run P w = r at *
  cases r with
  | ok n w' =>
    cases n <;> simp only [Oper.upon] at h ⊢ <;> first | exact h | exact h.elim | skip
    exact Calls.mono h fun e w'' he => by obtain ⟨v, rfl, hv⟩ := he; exact hv
  | halt x w' => exact h.elim

/-- Every function, at whatever depth; in a round, or not. -/
def FR (r : Option Nat) : Fence := { Fence.wide with round := r }
theorem FR_none : FR none = Fence.wide := rfl
theorem callsIn_FR {r : Option Nat} {n : Nat} {f : FuncId} {args : Array Value} {R : Ending → World → Prop} (h : Calls P f args w R) : CallsIn (FR r) n P f args w R := by
  cases r with
  | none => exact callsIn_wide.2 h
  | some l => exact CallsIn.inRound l (callsIn_wide.2 h)

theorem Gives.wpIn {r : Option Nat} {n : Nat} {o : Oper} {a : Act} {next : Act → World → Prop} {Q : Exit → Act → World → Prop} (hnd : ∀ c, o.op ≠ .defer c) (h : Gives P (execOp a.eval o) w fun y w' => next (a.put o.dst y) w') :
    o.wpIn (FR r) n P a w next Q := by
  refine ⟨fun _ _ => trivial, ?_⟩
  rw [Oper.semAt_eq _ _ _ hnd]
  unfold Gives at h
  generalize (execOp a.eval o).run P w = r at *
  cases r with
  | ok x w' =>
    cases x <;> simp only [Oper.uponIn] at h ⊢ <;> first | exact h | exact h.elim | skip
    exact ⟨fun hd => (by cases hd), callsIn_FR (Calls.mono h fun e w'' he => by obtain ⟨v, rfl, hv⟩ := he; exact hv)⟩
  | halt x w' => exact h.elim

theorem Eff.sat_nb {e : Eff} {K : AV → List (Nat × AObj) → Prop} (h : e.sat K) : e ≠ .bad := by rintro rfl; exact h
theorem effOp_nd {E : Env} {o : Oper} {vs : List AV} {id : Nat} {ob : Nat → AObj} {K : AV → List (Nat × AObj) → Prop} (h : (effOp E o.op vs id ob).sat K) : ∀ c, o.op ≠ .defer c := by
  intro c hc; rw [hc] at h; exact h

theorem gives_value {s : Sem Next} {y : Value} {w' : World} (h : s.run P w = .ok (.value y) w') (hk : k y w') : Gives P s w k := by
  unfold Gives; rw [h]; exact hk
theorem gives_skip {s : Sem Next} {w' : World} (h : s.run P w = .ok .skip w') (hk : k undef w') : Gives P s w k := by
  unfold Gives; rw [h]; exact hk

/-! ### Facts on cells -/

theorem rels_getElem {l : List AV} {ys : List Value} (h : AV.rels κ Im w l ys) {i : Nat} {a : AV} (hi : l[i]? = some a) : ∃ y, ys[i]? = some y ∧ AV.rel κ Im w a y := by
  induction l generalizing ys i with
  | nil => cases hi
  | cons b l ih =>
    simp only [AV.rels] at h
    obtain ⟨y, r, rfl, h2, h3⟩ := h
    cases i with
    | zero => cases hi; exact ⟨y, rfl, h2⟩
    | succ i => exact ih h3 (by simpa using hi)

theorem rels_take {l : List AV} {ys : List Value} (h : AV.rels κ Im w l ys) (n : Nat) : AV.rels κ Im w (l.take n) (ys.take n) := by
  induction l generalizing ys n with
  | nil => simp only [AV.rels] at h; subst h; simp [AV.rels]
  | cons b l ih =>
    simp only [AV.rels] at h
    obtain ⟨y, r, rfl, h2, h3⟩ := h
    cases n with
    | zero => simp [AV.rels]
    | succ n => simp only [List.take_succ_cons, AV.rels]; exact ⟨y, _, rfl, h2, ih h3 n⟩

theorem rels_drop {l : List AV} {ys : List Value} (h : AV.rels κ Im w l ys) (n : Nat) : AV.rels κ Im w (l.drop n) (ys.drop n) := by
  induction l generalizing ys n with
  | nil => simp only [AV.rels] at h; subst h; simp [AV.rels]
  | cons b l ih =>
    have h' := h
    simp only [AV.rels] at h
    obtain ⟨y, r, rfl, h2, h3⟩ := h
    cases n with
    | zero => exact h'
    | succ n => simpa using ih h3 n

theorem rels_map_v (l : List Value) : AV.rels κ Im w (l.map .v) l := by
  induction l with
  | nil => simp [AV.rels]
  | cons a l ih => simp only [List.map_cons, AV.rels]; exact ⟨a, l, rfl, by simp [AV.rel], ih⟩

theorem toAV_rel (x : Value) : AV.rel κ Im w (toAV x) x := by
  unfold toAV
  split
  · simp only [AV.rel]; exact ⟨_, rfl, rels_map_v _⟩
  · split
    · rename_i f first caps h
      simp only [Bool.and_eq_true, Array.isEmpty_iff] at h
      obtain ⟨rfl, rfl⟩ := h
      simp only [AV.rel]; exact ⟨#[], rfl, by simp [AV.rels]⟩
    · simp only [AV.rel]
  · simp only [AV.rel]


theorem run_isAgg (t : TypeId) {d : TypeDesc} (h : P.underlying t = some d) : (isAgg t).run P w = .ok (aggB P t) w := by
  unfold isAgg aggB
  simp only [Sem.run_bind, run_underlying h, Result.andThen_ok, h]
  cases d <;> rfl

theorem run_sizeOf' (t : TypeId) {i : TypeInfo} (h : P.info? t = some i) : (sizeOf t).run P w = .ok (szOf P t) w := by
  unfold sizeOf szOf typeInfo
  simp [h]

end
end Go.X

/- Loads, stores, new blocks. -/
namespace Go.X
open Go
section
variable {P : Program} {c : Ctx} {κ : Kap} {Im : Nat → Prop} {w : World} {H : List AObj} {K : AV → List (Nat × AObj) → Prop} {k : Value → World → Prop}

theorem info_of_underlying {t : TypeId} {d : TypeDesc} (h : P.underlying t = some d) : ∃ i, P.info? t = some i := by
  unfold Program.underlying at h
  cases hi : P.info? t with
  | none => simp [hi] at h
  | some i => exact ⟨i, rfl⟩

theorem add_off (b o j : Nat) : (⟨b, o, none⟩ : Addr).add j = ⟨b, o + j, none⟩ := by
  unfold Addr.add; split <;> simp_all

theorem cell_at {b o : Nat} {arr : Array Value} {T : TypeId} {fz : Nat × Nat} (h : w.heap[b]? = some (.cells arr T fz)) : w.cell? ⟨b, o, none⟩ = arr[o]? := by
  simp [World.cell?, h]

theorem run_loadVar_seg {t : TypeId} {b s m off : Nat} {arr : Array Value} {T : TypeId} {fz : Nat × Nat} {cs : List AV} {r : AV} (hb : w.heap[b]? = some (.cells arr T fz))
    (hr : AV.rels κ Im w cs ((arr.toList.drop s).take m)) (hp : partAV P t cs off = some r) :
    ∃ y, (loadVar t ⟨b, s + off, none⟩).run P w = .ok y w ∧ AV.rel κ Im w r y := by
  unfold partAV at hp
  cases hu : P.underlying t with
  | none => simp [hu] at hp
  | some d =>
    simp only [hu] at hp
    obtain ⟨i, hi⟩ := info_of_underlying hu
    have hsz := run_sizeOf' (w := w) t hi
    have hag := run_isAgg (w := w) t hu
    by_cases ha : aggB P t = true
    · simp only [ha, if_true] at hp
      split at hp
      · rename_i hle
        cases hp
        have hlen := rels_length _ _ hr
        have hseg := rels_take (rels_drop hr off) (szOf P t)
        refine ⟨.agg ((((arr.toList.drop s).take m).drop off).take (szOf P t)).toArray, ?_, ?_⟩
        · have hl : ((((arr.toList.drop s).take m).drop off).take (szOf P t)).length = szOf P t := by
            rw [List.length_take, List.length_drop, hlen]; omega
          have := run_loadCells_list (P := P) w ⟨b, s + off, none⟩ ((((arr.toList.drop s).take m).drop off).take (szOf P t)) (fun j v hv => by
            rw [add_off, cell_at hb]
            rw [List.getElem?_take] at hv
            split at hv
            · rw [List.getElem?_drop, List.getElem?_take] at hv
              split at hv
              · rw [List.getElem?_drop] at hv
                rw [← Array.getElem?_toList, ← hv]
                congr 1; omega
              · cases hv
            · cases hv)
          rw [hl] at this
          simp [loadVar, hag, ha, hsz, this]
        · simp only [AV.rel]
          exact ⟨_, rfl, by simpa using hseg⟩
      · cases hp
    · simp only [ha] at hp
      obtain ⟨y, hy, hry⟩ := rels_getElem hr (by simpa using hp)
      refine ⟨y, ?_, hry⟩
      rw [List.getElem?_take] at hy
      split at hy
      · rw [List.getElem?_drop] at hy
        have hc : w.cell? ⟨b, s + off, none⟩ = some y := by rw [cell_at hb, ← Array.getElem?_toList]; exact hy
        simp [loadVar, hag, ha, hc]
      · cases hy

theorem getD_getElem {α : Type} {xs : List α} {n : Nat} (d : α) (h : n < xs.length) : xs.getD n d = xs[n] := by
  simp [List.getD, h]

theorem St.obj {i : Nat} {o : AObj} (hst : St c κ Im w H) (h : H[i]? = some o) : ∃ D, o.holds κ Im w (κ i) D := by
  obtain ⟨D, h1, _⟩ := hst.objs
  exact ⟨_, h1 i o h⟩

theorem getD_dead {i : Nat} {o : AObj} (ho : o ≠ .dead) (h : H.getD i .dead = o) : H[i]? = some o := by
  rw [List.getD] at h
  cases hi : H[i]? with
  | none => rw [hi] at h; exact absurd h.symm ho
  | some x => rw [hi] at h; simp at h; rw [h]

theorem load_sound {t : TypeId} {a : AV} {y : Value} (hst : St c κ Im w H) (ha : AV.rel κ Im w a y) (hs : (effLoad P t a (H.getD · .dead)).sat K)
    (hk : Cont c κ Im w H K k) : Gives P (do pure (.value (← Instr.loadAt t y))) w k := by
  unfold effLoad at hs
  split at hs
  · rename_i r hr
    have key : ∃ b off z, y = .pointer (some ⟨b, off, none⟩) ∧ (loadVar t ⟨b, off, none⟩).run P w = .ok z w ∧ AV.rel κ Im w r z := by
      cases a with
      | ptr i off =>
        simp only at hr
        split at hr
        · rename_i cs E ho
          obtain ⟨D, b, arr, h1, h2, h3, h4⟩ := hst.obj (getD_dead (by simp) ho)
          simp only [AV.rel] at ha
          obtain ⟨b', h5, h6⟩ := ha
          rw [h1] at h5
          cases h5
          obtain ⟨z, hz, hrz⟩ := run_loadVar_seg (P := P) (t := t) (s := 0) (m := arr.size) (off := off) h2 (by rw [List.drop_zero, List.take_of_length_le (by simp)]; exact h3) hr
          exact ⟨b, off, z, h6, by simpa using hz, hrz⟩
        · cases hr
      | ep cc xs n off =>
        simp only at hr
        simp only [AV.rel] at ha
        obtain ⟨h0, b, o, h1, h2, arr, T, fz, h3, h4⟩ := ha
        rw [getD_getElem _ h0] at hr
        obtain ⟨z, hz, hrz⟩ := run_loadVar_seg (P := P) (t := t) (off := off) h3 (h4 n h0) hr
        exact ⟨b, _, z, h1, hz, hrz⟩
      | rp i kk n off =>
        simp only at hr
        split at hr
        · rename_i E cc xs ho
          split at hr
          · rename_i hkk
            subst hkk
            obtain ⟨D, a, cap, h1, h2⟩ := hst.obj (getD_dead (by simp) ho)
            simp only [AV.rel] at ha
            obtain ⟨g, len, cap', h5, h6, h7⟩ := ha
            rw [h1] at h5
            cases h5
            rcases h2 with ⟨h2, _⟩ | ⟨g', arr, h8, h9, h10, h11, h12, h13, h14⟩
            · cases h2
            · cases h8
              rw [getD_getElem _ h6] at hr
              obtain ⟨z, hz, hrz⟩ := run_loadVar_seg (P := P) (t := t) (off := off) h9 (h13 n h6) hr
              exact ⟨_, _, z, h7, hz, hrz⟩
          · cases hr
        · cases hr
      | _ => cases hr
    obtain ⟨b, off, z, rfl, hz, hrz⟩ := key
    refine gives_value (y := z) (w' := w) ?_ (hk.same hst hs hrz)
    simp [Instr.loadAt, Instr.sureAddr, hz]
  · exact hs.elim

end
end Go.X

/- New blocks, stores; the operations on values. -/
namespace Go.X
open Go
section
variable {P : Program} {c : Ctx} {κ : Kap} {Im : Nat → Prop} {w : World} {H : List AObj} {K : AV → List (Nat × AObj) → Prop} {k : Value → World → Prop}

theorem cellsAV_sound {x : AV} {l : List AV} {y : Value} (h : cellsAV x = some l) (hr : AV.rel κ Im w x y) : AV.rels κ Im w l y.cells.toList := by
  have single : ∀ a : AV, a = x → (∀ ys, y ≠ .agg ys) → AV.rels κ Im w [a] y.cells.toList := fun a e hy => by
    have : y.cells = #[y] := by unfold Value.cells; split <;> simp_all
    rw [this]
    simp only [AV.rels]
    exact ⟨y, [], rfl, e ▸ hr, rfl⟩
  unfold cellsAV at h
  split at h
  · cases h
    simp only [AV.rel] at hr
    obtain ⟨ys, rfl, h2⟩ := hr
    exact h2
  · cases h
    simp only [AV.rel] at hr
    subst hr
    exact rels_map_v _
  · cases h
  · cases h
  · cases h
  · cases h
  · rename_i hx1 hx2 hx3 hx4 hx5 hx6
    cases h
    refine single _ rfl fun ys e => ?_
    subst e
    cases x with
    | v z => simp only [AV.rel] at hr; subst hr; exact hx2 _ rfl
    | any => exact hx5 rfl
    | gd j p t a => exact hx6 _ _ _ _ rfl
    | ptr i off => simp only [AV.rel] at hr; obtain ⟨b, _, h⟩ := hr; cases h
    | agg l => exact hx1 _ rfl
    | tup l => exact hx4 _ rfl
    | fn f l => simp only [AV.rel] at hr; obtain ⟨b, h, _⟩ := hr; cases h
    | rs cc xs => simp only [AV.rel] at hr; obtain ⟨b, cap, h, _⟩ := hr; cases h
    | ep cc xs n off => simp only [AV.rel] at hr; obtain ⟨_, b, o, h, _⟩ := hr; cases h
    | hd i => simp only [AV.rel, isH] at hr; cases hr.2
    | vw i kk lo n => simp only [AV.rel] at hr; obtain ⟨_, _, _, _, _, _, _, h, _⟩ := hr; cases h
    | rp i kk n off => simp only [AV.rel] at hr; obtain ⟨_, _, _, _, _, h⟩ := hr; cases h

theorem run_newVar (t : TypeId) (v : Value) : (newVar t v).run P w = .ok ⟨w.heap.size, 0, none⟩ (w.alloc (.cells v.cells t)) := by
  simp [newVar, newRow]

/-- A new block of cells, under a free id. -/
theorem Cont.cells (hk : Cont c κ Im w H K k) (hst : St c κ Im w H) {id : Nat} (hid : H[id]? = some .free) {l : List AV} {E : TypeId} {arr : Array Value}
    (h : K (.ptr id 0) [(id, .cells l E)]) (hl : AV.rels κ Im w l arr.toList) : k (.pointer (some ⟨w.heap.size, 0, none⟩)) (w.alloc (.cells arr E)) := by
  have ht := Turn.alloc w (.cells arr E)
  obtain ⟨h1, h2⟩ := hst.lay hid ht w.heap.size (Nat.le_refl _) (by simp) (.cells l E) (.pointer (some ⟨w.heap.size, 0, none⟩)) (fun κ' hle hκ =>
    ⟨w.heap.size, arr, rfl, heap_alloc_new w _, AV.rels_mono hle _ _ hl, fun x => Iff.rfl⟩)
  refine hk _ _ _ _ _ _ h h2 h1 ?_
  simp only [AV.rel]
  exact ⟨w.heap.size, setK_same _ _ _, rfl⟩

theorem alloc_sound {e : TypeId} {z : Value} {id : Nat} (hst : St c κ Im w H) (hid : H[id]? = some .free) (hz : (P.info? e).bind (·.zero) = some z)
    (hs : K (.ptr id 0) [(id, .cells (z.cells.toList.map .v) e)]) (hk : Cont c κ Im w H K k) : Gives P (do pure (.value (← Instr.alloc e true (.tuple #[])))) w k := by
  refine gives_value ?_ (hk.cells hst hid hs (rels_map_v _))
  cases hi : P.info? e with
  | none => simp [hi] at hz
  | some i =>
    have hz' : i.zero = some z := by simpa [hi] using hz
    simp [Instr.alloc, zeroValue, typeInfo, hi, hz', run_newVar]

theorem box_sound {e : TypeId} {x : AV} {y : Value} {l : List AV} {id : Nat} (hst : St c κ Im w H) (hid : H[id]? = some .free) (hx : AV.rel κ Im w x y) (hl : cellsAV x = some l)
    (hs : K (.ptr id 0) [(id, .cells l e)]) (hk : Cont c κ Im w H K k) : Gives P (do pure (.value (← Instr.box e y))) w k := by
  refine gives_value ?_ (hk.cells hst hid hs (cellsAV_sound hl hx))
  simp [Instr.box, run_newVar]

end
end Go.X

