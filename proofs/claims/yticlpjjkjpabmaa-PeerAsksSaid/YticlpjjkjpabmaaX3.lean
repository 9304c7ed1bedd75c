/- Parts of the walks: X0 X1 X2 X3 -/
import Derived.Orders
import Derived.RowKit3

/- The program's data as plain Lean data, and codes for the types that slices and maps hold. -/
namespace Go.X

structure TieId where
  Dir : Int
  Origin : Int
  Kind : Int
  Nr : Int
  deriving DecidableEq, Inhabited

structure Head where
  Id : TieId
  Seq : Int
  Life : Int
  deriving DecidableEq, Inhabited

structure Edge where
  Node : Int
  Level : Int
  Cost : Int
  deriving DecidableEq, Inhabited

structure Prefix where
  Net : Int
  Bits : Int
  deriving DecidableEq, Inhabited

structure Reach where
  Prefix : Prefix
  Metric : Int
  deriving DecidableEq, Inhabited

structure Tie where
  Head : Head
  Level : Int
  Overload : Bool
  Edges : List Edge
  Reaches : List Reach
  deriving DecidableEq, Inhabited

structure Lie where
  Node : Int
  Level : Int
  Pod : Int
  Mtu : Int
  Link : Int
  Nonce : Int
  Seen : Int
  SeenLink : Int
  SeenNonce : Int
  Hold : Int
  Repeat : Bool
  NoOffer : Bool
  deriving DecidableEq, Inhabited

structure Packet where
  Kind : Int
  Lie : Lie
  Tie : Tie
  From : TieId
  To : TieId
  Heads : List Head
  deriving DecidableEq, Inhabited

structure Parent where
  Node : Int
  Grands : List Int
  deriving DecidableEq, Inhabited

structure Own where
  Node : Int
  Level : Int
  Overload : Bool
  Top : Bool
  Others : List Edge
  Nets : List Reach
  Seq : Int
  Life : Int
  deriving DecidableEq, Inhabited

structure Hop where
  Node : Int
  Dist : Int
  Via : List Int
  deriving DecidableEq, Inhabited

structure Path where
  Prefix : Prefix
  Dir : Int
  Dist : Int
  Via : List Int
  deriving DecidableEq, Inhabited

structure Not where
  Prefix : Prefix
  Via : Int
  deriving DecidableEq, Inhabited

structure Step12 where
  Do : Int
  Now : Int
  T : Tie
  deriving DecidableEq, Inhabited

structure Step20 where
  Do : Int
  Now : Int
  H : Head
  deriving DecidableEq, Inhabited

structure Job where
  Key : Int
  At : Int
  deriving DecidableEq, Inhabited

/-- tiedb's piece; the reference's Known. -/
structure Piece where
  tie : Tie
  over : Int
  deriving DecidableEq, Inhabited

/-- peer's entries, at ids and at heads. -/
structure EntId where
  what : TieId
  last : Int
  deriving DecidableEq, Inhabited
structure EntHead where
  what : Head
  last : Int
  deriving DecidableEq, Inhabited

/-- The reference's Wait of layer 20. -/
structure Wait where
  H : Head
  Last : Int
  deriving DecidableEq, Inhabited

structure Arr4 where
  a : Int
  b : Int
  c : Int
  d : Int
  deriving DecidableEq, Inhabited

inductive TC where
  | int | bool | u32 | u8 | tieId | head | edge | prefix_ | reach | tie | packet | parent | hop | path | not_ | step12 | step20 | job
  | piece | entId | entHead | wait | arr4 | own
  deriving DecidableEq, Inhabited

@[reducible] def TC.den : TC → Type
  | .int => Int | .bool => Bool | .u32 => Int | .u8 => Int
  | .tieId => TieId | .head => Head | .edge => Edge | .prefix_ => Prefix | .reach => Reach | .tie => Tie | .packet => Packet
  | .parent => Parent | .hop => Hop | .path => Path | .not_ => Not | .step12 => Step12 | .step20 => Step20 | .job => Job
  | .piece => Piece | .entId => EntId | .entHead => EntHead | .wait => Wait | .arr4 => Arr4 | .own => Own

def TC.d : (c : TC) → c.den
  | .int => 0 | .bool => false | .u32 => 0 | .u8 => 0
  | .tieId => (default : TieId) | .head => (default : Head) | .edge => (default : Edge) | .prefix_ => (default : Prefix) | .reach => (default : Reach)
  | .tie => (default : Tie) | .packet => (default : Packet)
  | .parent => (default : Parent) | .hop => (default : Hop) | .path => (default : Path) | .not_ => (default : Not) | .step12 => (default : Step12)
  | .step20 => (default : Step20) | .job => (default : Job)
  | .piece => (default : Piece) | .entId => (default : EntId) | .entHead => (default : EntHead) | .wait => (default : Wait) | .arr4 => (default : Arr4) | .own => (default : Own)

/-- How many cells one takes. -/
def TC.k : TC → Nat
  | .int => 1 | .bool => 1 | .u32 => 1 | .u8 => 1
  | .tieId => 4 | .head => 6 | .edge => 3 | .prefix_ => 2 | .reach => 3 | .tie => 10 | .packet => 32
  | .parent => 2 | .hop => 3 | .path => 5 | .not_ => 3 | .step12 => 12 | .step20 => 8 | .job => 2
  | .piece => 11 | .entId => 5 | .entHead => 7 | .wait => 7 | .arr4 => 4 | .own => 8

/-- How deep slices lie in it. -/
def TC.lvl : TC → Nat
  | .tie | .parent | .hop | .path | .step12 | .piece | .own => 1
  | .packet => 2
  | _ => 0

/-! ### Maps, as lists of pairs -/
def mget {α β : Type} [DecidableEq α] (k : α) : List (α × β) → Option β
  | [] => none
  | p :: l => if p.1 = k then some p.2 else mget k l
def mdel {α β : Type} [DecidableEq α] (k : α) (m : List (α × β)) : List (α × β) := m.filter fun p => !decide (p.1 = k)
def mins {α β : Type} (lt : α → α → Bool) (p : α × β) : List (α × β) → List (α × β)
  | [] => [p]
  | q :: l => if lt p.1 q.1 = true then p :: q :: l else q :: mins lt p l
def mput {α β : Type} [DecidableEq α] (lt : α → α → Bool) (k : α) (v : β) (m : List (α × β)) : List (α × β) := mins lt (k, v) (mdel k m)

def idLt (a b : TieId) : Bool :=
  decide (a.Dir < b.Dir) || (decide (a.Dir = b.Dir) && (decide (a.Origin < b.Origin) || (decide (a.Origin = b.Origin) && (decide (a.Kind < b.Kind) || (decide (a.Kind = b.Kind) && decide (a.Nr < b.Nr))))))
def prefixLt (a b : Prefix) : Bool := decide (a.Net < b.Net) || (decide (a.Net = b.Net) && decide (a.Bits < b.Bits))
def TC.lt : (c : TC) → c.den → c.den → Bool
  | .int, a, b => decide ((show Int from a) < b)
  | .u32, a, b => decide ((show Int from a) < b)
  | .tieId, a, b => idLt a b
  | .prefix_, a, b => prefixLt a b
  | _, _, _ => false
instance TC.deq : (c : TC) → DecidableEq c.den
  | .int => inferInstanceAs (DecidableEq Int) | .bool => inferInstanceAs (DecidableEq Bool) | .u32 => inferInstanceAs (DecidableEq Int) | .u8 => inferInstanceAs (DecidableEq Int)
  | .tieId => inferInstanceAs (DecidableEq TieId) | .head => inferInstanceAs (DecidableEq Head) | .edge => inferInstanceAs (DecidableEq Edge) | .prefix_ => inferInstanceAs (DecidableEq Prefix)
  | .reach => inferInstanceAs (DecidableEq Reach) | .tie => inferInstanceAs (DecidableEq Tie) | .packet => inferInstanceAs (DecidableEq Packet) | .parent => inferInstanceAs (DecidableEq Parent)
  | .hop => inferInstanceAs (DecidableEq Hop) | .path => inferInstanceAs (DecidableEq Path) | .not_ => inferInstanceAs (DecidableEq Not) | .step12 => inferInstanceAs (DecidableEq Step12)
  | .step20 => inferInstanceAs (DecidableEq Step20) | .job => inferInstanceAs (DecidableEq Job) | .piece => inferInstanceAs (DecidableEq Piece) | .entId => inferInstanceAs (DecidableEq EntId)
  | .entHead => inferInstanceAs (DecidableEq EntHead) | .wait => inferInstanceAs (DecidableEq Wait) | .arr4 => inferInstanceAs (DecidableEq Arr4) | .own => inferInstanceAs (DecidableEq Own)

section
variable {α β : Type} [DecidableEq α]
omit [DecidableEq α] in
theorem mins_perm (lt : α → α → Bool) (p : α × β) : ∀ l : List (α × β), (mins lt p l).Perm (p :: l)
  | [] => .refl _
  | q :: l => by
    unfold mins
    split
    · exact .refl _
    · exact ((mins_perm lt p l).cons q).trans (.swap p q l)
theorem mput_perm (lt : α → α → Bool) (k : α) (v : β) (m : List (α × β)) : (mput lt k v m).Perm ((k, v) :: mdel k m) := mins_perm lt _ _
theorem mdel_keys (k : α) (m : List (α × β)) : (mdel k m).map (·.1) = (m.map (·.1)).filter fun x => !decide (x = k) := by
  unfold mdel; rw [List.filter_map]; rfl
theorem mdel_nodup {k : α} {m : List (α × β)} (h : (m.map (·.1)).Nodup) : ((mdel k m).map (·.1)).Nodup := by rw [mdel_keys]; exact h.filter _
theorem mput_nodup {lt : α → α → Bool} {k : α} {v : β} {m : List (α × β)} (h : (m.map (·.1)).Nodup) : ((mput lt k v m).map (·.1)).Nodup := by
  refine ((mput_perm lt k v m).map (·.1)).nodup_iff.2 ?_
  rw [List.map_cons, List.nodup_cons]
  refine ⟨?_, mdel_nodup h⟩
  rw [mdel_keys]
  simp
theorem mget_none {k : α} {m : List (α × β)} (h : k ∉ m.map (·.1)) : mget k m = none := by
  induction m with
  | nil => rfl
  | cons p m ih =>
    simp only [List.map_cons, List.mem_cons, not_or] at h
    unfold mget
    rw [if_neg (fun e => h.1 e.symm), ih h.2]
theorem mget_mem {k : α} {v : β} {m : List (α × β)} (hn : (m.map (·.1)).Nodup) (h : (k, v) ∈ m) : mget k m = some v := by
  induction m with
  | nil => cases h
  | cons p m ih =>
    simp only [List.map_cons, List.nodup_cons] at hn
    unfold mget
    rcases List.mem_cons.1 h with rfl | h
    · simp
    · rw [if_neg, ih hn.2 h]
      intro e
      exact hn.1 (e ▸ List.mem_map.2 ⟨_, h, rfl⟩)
theorem mdel_of_notMem {k : α} {m : List (α × β)} (h : k ∉ m.map (·.1)) : mdel k m = m := by
  unfold mdel
  rw [List.filter_eq_self]
  intro p hp
  have : p.1 ≠ k := fun e => h (e ▸ List.mem_map.2 ⟨p, hp, rfl⟩)
  simp [this]
end
end Go.X

/- The abstract values of a symbolic executor over the model, and what each of them says of a concrete value. -/
namespace Go.X
open Go

/-- An abstract value. Ids are places in a list of objects of the call's own. -/
inductive AV where
  | v (x : Value)
  | any
  | gd (j : Nat) (p : Bool) (t : Bool) (a : AV)
  | ptr (i off : Nat)
  | agg (l : List AV)
  | tup (l : List AV)
  | fn (f : Nat) (caps : List AV)
  | rs (c : TC) (xs : List c.den)
  | ep (c : TC) (xs : List c.den) (n off : Nat)
  | hd (i : Nat)
  | vw (i : Nat) (k lo n : Nat)
  | rp (i : Nat) (k n off : Nat)

instance : Inhabited AV := ⟨.any⟩

@[reducible] def i64 (n : Int) : AV := .v (.int .i64 n)
@[reducible] def abl (b : Bool) : AV := .v (.bool b)

def encId (x : TieId) : List AV := [i64 x.Dir, i64 x.Origin, i64 x.Kind, i64 x.Nr]
def encHead (x : Head) : List AV := [i64 x.Id.Dir, i64 x.Id.Origin, i64 x.Id.Kind, i64 x.Id.Nr, i64 x.Seq, i64 x.Life]
def encEdge (x : Edge) : List AV := [i64 x.Node, i64 x.Level, i64 x.Cost]
def encPrefix (x : Prefix) : List AV := [.v (.int .u32 x.Net), i64 x.Bits]
def encReach (x : Reach) : List AV := [.v (.int .u32 x.Prefix.Net), i64 x.Prefix.Bits, i64 x.Metric]
def encTie (x : Tie) : List AV :=
  [i64 x.Head.Id.Dir, i64 x.Head.Id.Origin, i64 x.Head.Id.Kind, i64 x.Head.Id.Nr, i64 x.Head.Seq, i64 x.Head.Life, i64 x.Level, abl x.Overload,
   .rs .edge x.Edges, .rs .reach x.Reaches]
def encLie (x : Lie) : List AV :=
  [i64 x.Node, i64 x.Level, i64 x.Pod, i64 x.Mtu, i64 x.Link, i64 x.Nonce, i64 x.Seen, i64 x.SeenLink, i64 x.SeenNonce, i64 x.Hold, abl x.Repeat, abl x.NoOffer]
def encPacket (x : Packet) : List AV :=
  [i64 x.Kind,
   i64 x.Lie.Node, i64 x.Lie.Level, i64 x.Lie.Pod, i64 x.Lie.Mtu, i64 x.Lie.Link, i64 x.Lie.Nonce, i64 x.Lie.Seen, i64 x.Lie.SeenLink, i64 x.Lie.SeenNonce, i64 x.Lie.Hold, abl x.Lie.Repeat, abl x.Lie.NoOffer,
   i64 x.Tie.Head.Id.Dir, i64 x.Tie.Head.Id.Origin, i64 x.Tie.Head.Id.Kind, i64 x.Tie.Head.Id.Nr, i64 x.Tie.Head.Seq, i64 x.Tie.Head.Life, i64 x.Tie.Level, abl x.Tie.Overload,
   .rs .edge x.Tie.Edges, .rs .reach x.Tie.Reaches,
   i64 x.From.Dir, i64 x.From.Origin, i64 x.From.Kind, i64 x.From.Nr,
   i64 x.To.Dir, i64 x.To.Origin, i64 x.To.Kind, i64 x.To.Nr,
   .rs .head x.Heads]
def encParent (x : Parent) : List AV := [i64 x.Node, .rs .int x.Grands]
def encHop (x : Hop) : List AV := [i64 x.Node, i64 x.Dist, .rs .int x.Via]
def encPath (x : Path) : List AV := [.v (.int .u32 x.Prefix.Net), i64 x.Prefix.Bits, i64 x.Dir, i64 x.Dist, .rs .int x.Via]
def encNot (x : Not) : List AV := [.v (.int .u32 x.Prefix.Net), i64 x.Prefix.Bits, i64 x.Via]
def encStep12 (x : Step12) : List AV :=
  [i64 x.Do, i64 x.Now, i64 x.T.Head.Id.Dir, i64 x.T.Head.Id.Origin, i64 x.T.Head.Id.Kind, i64 x.T.Head.Id.Nr, i64 x.T.Head.Seq, i64 x.T.Head.Life, i64 x.T.Level, abl x.T.Overload,
   .rs .edge x.T.Edges, .rs .reach x.T.Reaches]
def encStep20 (x : Step20) : List AV :=
  [i64 x.Do, i64 x.Now, i64 x.H.Id.Dir, i64 x.H.Id.Origin, i64 x.H.Id.Kind, i64 x.H.Id.Nr, i64 x.H.Seq, i64 x.H.Life]
def encJob (x : Job) : List AV := [i64 x.Key, i64 x.At]
def encPiece (x : Piece) : List AV :=
  [i64 x.tie.Head.Id.Dir, i64 x.tie.Head.Id.Origin, i64 x.tie.Head.Id.Kind, i64 x.tie.Head.Id.Nr, i64 x.tie.Head.Seq, i64 x.tie.Head.Life, i64 x.tie.Level, abl x.tie.Overload,
   .rs .edge x.tie.Edges, .rs .reach x.tie.Reaches, i64 x.over]
def encEntId (x : EntId) : List AV := [i64 x.what.Dir, i64 x.what.Origin, i64 x.what.Kind, i64 x.what.Nr, i64 x.last]
def encEntHead (x : EntHead) : List AV :=
  [i64 x.what.Id.Dir, i64 x.what.Id.Origin, i64 x.what.Id.Kind, i64 x.what.Id.Nr, i64 x.what.Seq, i64 x.what.Life, i64 x.last]

def encWait (x : Wait) : List AV := [i64 x.H.Id.Dir, i64 x.H.Id.Origin, i64 x.H.Id.Kind, i64 x.H.Id.Nr, i64 x.H.Seq, i64 x.H.Life, i64 x.Last]
def encOwn (x : Own) : List AV := [i64 x.Node, i64 x.Level, abl x.Overload, abl x.Top, .rs .edge x.Others, .rs .reach x.Nets, i64 x.Seq, i64 x.Life]
def encArr4 (x : Arr4) : List AV := [i64 x.a, i64 x.b, i64 x.c, i64 x.d]

/-- What the cells of one hold. -/
def TC.enc : (c : TC) → c.den → List AV
  | .int, x => [i64 x] | .bool, x => [abl x] | .u32, x => [.v (.int .u32 x)] | .u8, x => [.v (.int .u8 x)]
  | .tieId, x => encId x | .head, x => encHead x | .edge, x => encEdge x | .prefix_, x => encPrefix x | .reach, x => encReach x
  | .tie, x => encTie x | .packet, x => encPacket x | .parent, x => encParent x | .hop, x => encHop x | .path, x => encPath x
  | .not_, x => encNot x | .step12, x => encStep12 x | .step20, x => encStep20 x | .job, x => encJob x
  | .piece, x => encPiece x | .entId, x => encEntId x | .entHead, x => encEntHead x | .wait, x => encWait x | .arr4, x => encArr4 x | .own, x => encOwn x

theorem TC.enc_len : ∀ (c : TC) (x : c.den), (c.enc x).length = c.k := by
  intro c x; cases c <;> rfl

def TC.wt (c : TC) : Nat := 1000 ^ (c.lvl + 1)

mutual
def AV.ms : AV → Nat
  | .gd _ _ _ a => 1 + a.ms
  | .agg l | .tup l | .fn _ l => 1 + AV.mss l
  | .rs c _ | .ep c _ _ _ => c.wt
  | _ => 1
def AV.mss : List AV → Nat
  | [] => 1
  | a :: l => a.ms + AV.mss l
end

theorem TC.enc_ms : ∀ (c : TC) (x : c.den), AV.mss (c.enc x) < c.wt := by
  intro c x
  cases c <;> simp [TC.enc, encId, encHead, encEdge, encPrefix, encReach, encTie, encPacket, encParent, encHop, encPath, encNot, encStep12, encStep20, encJob, encPiece, encEntId, encEntHead, encWait, encArr4, encOwn, AV.mss, AV.ms, TC.wt, TC.lvl]

theorem TC.wt_pos (c : TC) : 0 < c.wt := Nat.pow_pos (by omega)
theorem AV.ms_pos (a : AV) : 0 < a.ms := by cases a <;> simp only [AV.ms] <;> first | omega | exact TC.wt_pos _
theorem AV.mss_pos (l : List AV) : 0 < AV.mss l := by
  cases l with
  | nil => simp [AV.mss]
  | cons a l => have := a.ms_pos; simp only [AV.mss]; omega

def isH : Value → Bool
  | .pointer _ | .slice _ _ _ | .map _ => true
  | .func (.yield _) _ _ => true
  | _ => false

/-- What of a loop's record stays. -/
def lstat : Option Obj → Option (Array Tmp × Code × Code × Array Value)
  | some (.loop r) => some (r.params, r.assign, r.body, r.tmps)
  | _ => none
def Recs (w w' : World) : Prop := ∀ (b : Nat) s, lstat w.heap[b]? = some s → lstat w'.heap[b]? = some s
theorem Recs.refl (w : World) : Recs w w := fun _ _ h => h
theorem Recs.trans {a b c : World} (h : Recs b c) (h' : Recs a b) : Recs a c := fun i s e => h i s (h' i s e)
theorem Recs.of_same {w w' : World} (h : ∀ b : Nat, b < w.heap.size → w'.heap[b]? = w.heap[b]?) : Recs w w' := fun b s e => by
  have : b < w.heap.size := by
    rcases Nat.lt_or_ge b w.heap.size with h' | h'
    · exact h'
    · rw [Array.getElem?_eq_none h'] at e; cases e
  rw [h b this]; exact e
theorem Recs.of_but {w w' : World} {g : Nat} (hg : lstat w.heap[g]? = none) (h : ∀ b : Nat, b < w.heap.size → b ≠ g → w'.heap[b]? = w.heap[b]?) : Recs w w' := fun b s e => by
  have hlt : b < w.heap.size := by
    rcases Nat.lt_or_ge b w.heap.size with h' | h'
    · exact h'
    · rw [Array.getElem?_eq_none h'] at e; cases e
  have hne : b ≠ g := fun e' => by rw [e', hg] at e; cases e
  rw [h b hlt hne]; exact e

abbrev Kap := Nat → Option Value

mutual
/-- What an abstract value says of a concrete one: κ names the objects' handles, Im the blocks that stay as they are. -/
def AV.rel (κ : Kap) (Im : Nat → Prop) (w : World) : AV → Value → Prop
  | .v x, y => y = x
  | .any, _ => True
  | .gd _ _ t a, y => (t = true → AV.rel κ Im w a y) ∧ (t = false → y = undef)
  | .ptr i off, y => ∃ b, κ i = some (.pointer (some ⟨b, 0, none⟩)) ∧ y = .pointer (some ⟨b, off, none⟩)
  | .agg l, y => ∃ ys : Array Value, y = .agg ys ∧ AV.rels κ Im w l ys.toList
  | .tup l, y => ∃ ys : Array Value, y = .tuple ys ∧ AV.rels κ Im w l ys.toList
  | .fn f caps, y => ∃ ys : Array Value, y = .func (.func f) #[] ys ∧ AV.rels κ Im w caps ys.toList
  | .rs c xs, y => ∃ a cap, y = .slice a xs.length cap ∧ xs.length ≤ cap ∧ (xs ≠ [] → ∃ b o, a = some ⟨b, o, none⟩ ∧ Im b ∧ ∃ arr T fz, w.heap[b]? = some (.cells arr T fz) ∧
      ∀ i (h : i < xs.length), AV.rels κ Im w (c.enc xs[i]) ((arr.toList.drop (o + i * c.k)).take c.k))
  | .ep c xs n off, y => n < xs.length ∧ ∃ b o, y = .pointer (some ⟨b, o + n * c.k + off, none⟩) ∧ Im b ∧ ∃ arr T fz, w.heap[b]? = some (.cells arr T fz) ∧
      ∀ i (h : i < xs.length), AV.rels κ Im w (c.enc xs[i]) ((arr.toList.drop (o + i * c.k)).take c.k)
  | .hd i, y => κ i = some y ∧ isH y = true
  | .vw i k lo n, y => ∃ a len cap a' cap', κ i = some (.slice a len cap) ∧ lo + n ≤ len ∧ y = .slice a' n cap' ∧ n ≤ cap' ∧ (n ≠ 0 → a' = a.map (·.add (lo * k)))
  | .rp i k n off, y => ∃ g len cap, κ i = some (.slice (some ⟨g, 0, none⟩) len cap) ∧ n < len ∧ y = .pointer (some ⟨g, n * k + off, none⟩)
termination_by a => a.ms
decreasing_by all_goals (simp only [AV.ms]; first | omega | (have := TC.enc_ms _ xs[i]; omega))
def AV.rels (κ : Kap) (Im : Nat → Prop) (w : World) : List AV → List Value → Prop
  | [], ys => ys = []
  | a :: l, ys => ∃ y r, ys = y :: r ∧ AV.rel κ Im w a y ∧ AV.rels κ Im w l r
termination_by l => AV.mss l
decreasing_by all_goals (simp only [AV.mss]; have h1 := AV.ms_pos a; have h2 := AV.mss_pos l; omega)
end

/-- What a step may turn: handles stay, blocks that stay as they are stay. -/
structure Le (κ κ' : Kap) (Im Im' : Nat → Prop) (w w' : World) : Prop where
  k : ∀ i v, κ i = some v → κ' i = some v
  im : ∀ b, Im b → Im' b
  heap : ∀ b, Im b → w'.heap[b]? = w.heap[b]?
  recs : Recs w w'

theorem Le.refl (κ Im w) : Le κ κ Im Im w w := ⟨fun _ _ h => h, fun _ h => h, fun _ _ => rfl, Recs.refl w⟩
theorem Le.trans {κ κ' κ'' Im Im' Im'' w w' w''} (h : Le κ κ' Im Im' w w') (h' : Le κ' κ'' Im' Im'' w' w'') : Le κ κ'' Im Im'' w w'' :=
  ⟨fun i v e => h'.k i v (h.k i v e), fun b e => h'.im b (h.im b e), fun b e => (h'.heap b (h.im b e)).trans (h.heap b e), h'.recs.trans h.recs⟩

section
variable {κ κ' : Kap} {Im Im' : Nat → Prop} {w w' : World}

mutual
theorem AV.rel_mono (h : Le κ κ' Im Im' w w') : ∀ (a : AV) (y : Value), AV.rel κ Im w a y → AV.rel κ' Im' w' a y
  | .v _, _, e => by simpa only [AV.rel] using e
  | .any, _, _ => by simp only [AV.rel]
  | .gd _ _ _ a, y, e => by
    simp only [AV.rel] at e ⊢
    exact ⟨fun ht => AV.rel_mono h a y (e.1 ht), e.2⟩
  | .ptr _ _, _, e => by
    simp only [AV.rel] at e ⊢
    obtain ⟨b, h1, h2⟩ := e
    exact ⟨b, h.k _ _ h1, h2⟩
  | .agg l, _, e => by
    simp only [AV.rel] at e ⊢
    obtain ⟨ys, h1, h2⟩ := e
    exact ⟨ys, h1, AV.rels_mono h l _ h2⟩
  | .tup l, _, e => by
    simp only [AV.rel] at e ⊢
    obtain ⟨ys, h1, h2⟩ := e
    exact ⟨ys, h1, AV.rels_mono h l _ h2⟩
  | .fn _ caps, _, e => by
    simp only [AV.rel] at e ⊢
    obtain ⟨ys, h1, h2⟩ := e
    exact ⟨ys, h1, AV.rels_mono h caps _ h2⟩
  | .rs c xs, _, e => by
    simp only [AV.rel] at e ⊢
    obtain ⟨a, cap, h1, h0, h2⟩ := e
    refine ⟨a, cap, h1, h0, fun hx => ?_⟩
    obtain ⟨b, o, h3, h4, arr, T, fz, h5, h6⟩ := h2 hx
    exact ⟨b, o, h3, h.im b h4, arr, T, fz, (h.heap b h4).trans h5, fun i hi => AV.rels_mono h (c.enc xs[i]) _ (h6 i hi)⟩
  | .ep c xs n off, _, e => by
    simp only [AV.rel] at e ⊢
    obtain ⟨h0, b, o, h3, h4, arr, T, fz, h5, h6⟩ := e
    exact ⟨h0, b, o, h3, h.im b h4, arr, T, fz, (h.heap b h4).trans h5, fun i hi => AV.rels_mono h (c.enc xs[i]) _ (h6 i hi)⟩
  | .hd _, _, e => by
    simp only [AV.rel] at e ⊢
    exact ⟨h.k _ _ e.1, e.2⟩
  | .vw _ _ _ _, _, e => by
    simp only [AV.rel] at e ⊢
    obtain ⟨a, len, cap, a', cap', h1, h2⟩ := e
    exact ⟨a, len, cap, a', cap', h.k _ _ h1, h2⟩
  | .rp _ _ _ _, _, e => by
    simp only [AV.rel] at e ⊢
    obtain ⟨g, len, cap, h1, h2⟩ := e
    exact ⟨g, len, cap, h.k _ _ h1, h2⟩
termination_by a => a.ms
decreasing_by all_goals (simp only [AV.ms]; first | omega | (have := TC.enc_ms _ xs[i]; omega))
theorem AV.rels_mono (h : Le κ κ' Im Im' w w') : ∀ (l : List AV) (ys : List Value), AV.rels κ Im w l ys → AV.rels κ' Im' w' l ys
  | [], _, e => by simpa only [AV.rels] using e
  | a :: l, _, e => by
    simp only [AV.rels] at e ⊢
    obtain ⟨y, r, h1, h2, h3⟩ := e
    exact ⟨y, r, h1, AV.rel_mono h a y h2, AV.rels_mono h l r h3⟩
termination_by l => AV.mss l
decreasing_by all_goals (simp only [AV.mss]; have h1 := AV.ms_pos a; have h2 := AV.mss_pos l; omega)
end
end

end Go.X

/- The objects that a call owns, and the state of a walk: which world fits which objects. -/
namespace Go.X
open Go

def TC.isAgg : TC → Bool
  | .int | .bool | .u32 | .u8 => false
  | _ => true

/-- A datum as one value. -/
def TC.av (c : TC) (x : c.den) : AV := if c.isAgg then .agg (c.enc x) else (c.enc x).headD .any

inductive LSt where
  | exh
  | ready
  | busy
  | ret
  | exit (id : Nat)
  deriving DecidableEq

inductive AObj where
  | free
  | dead
  | cells (cs : List AV) (E : TypeId)
  | row (E : TypeId) (c : TC) (xs : List c.den)
  | map (ck cv : TC) (m : List (ck.den × cv.den))
  /-- A handle that is known; what it leads to is another object's for now. -/
  | lent
  /-- A range over a map that is under way: the map's own object, what came, what came last. -/
  | rng (i : Nat) (ck cv : TC) (m : List (ck.den × cv.den)) (seen : List ck.den) (cur : Option ck.den)
  /-- The record of a range over a function. -/
  | loop (st : LSt)

instance : Inhabited AObj := ⟨.dead⟩

def entsRel (κ : Kap) (Im : Nat → Prop) (w : World) (ck cv : TC) : List (ck.den × cv.den) → List MapEntry → Prop
  | [], [] => True
  | p :: m, e :: es => AV.rel κ Im w (ck.av p.1) e.key ∧ AV.rel κ Im w (cv.av p.2) e.val ∧ entsRel κ Im w ck cv m es
  | _, _ => False

def seenRel (κ : Kap) (Im : Nat → Prop) (w : World) (ck : TC) (es : List MapEntry) : List ck.den → List Nat → Prop
  | [], [] => True
  | k :: ks, n :: ns => (∃ e ∈ es, e.born = n ∧ AV.rel κ Im w (ck.av k) e.key) ∧ seenRel κ Im w ck es ks ns
  | _, _ => False
def stOk (st : LSt) (r : Loop) : Prop := match st with
  | .ready => r.state = .ready ∧ r.pending = none
  | .busy => r.state = .busy
  | .ret => r.state = .done ∧ r.pending = some .ret
  | .exit id => r.state = .done ∧ r.pending = some (.exit id)
  | .exh => True
def keyL {α : Type} (seen : List α) : Option α → List α
  | none => seen
  | some k => seen ++ [k]

def AObj.holds (κ : Kap) (Im : Nat → Prop) (w : World) (h : Option Value) (D : Nat → Prop) : AObj → Prop
  | .free => h = none ∧ ∀ b, ¬ D b
  | .dead => ∀ b, ¬ D b
  | .cells cs E => ∃ b arr, h = some (.pointer (some ⟨b, 0, none⟩)) ∧ w.heap[b]? = some (.cells arr E (0, 0)) ∧ AV.rels κ Im w cs arr.toList ∧ ∀ x, D x ↔ x = b
  | .row E c xs => ∃ a cap, h = some (.slice a xs.length cap) ∧
      ((a = none ∧ cap = 0 ∧ xs = [] ∧ ∀ b, ¬ D b) ∨
       ∃ g arr, a = some ⟨g, 0, none⟩ ∧ w.heap[g]? = some (.cells arr E (0, 0)) ∧ arr.size = cap * c.k ∧ xs.length ≤ cap ∧ cap ≤ maxLen ∧
         (∀ i (hi : i < xs.length), AV.rels κ Im w (c.enc xs[i]) ((arr.toList.drop (i * c.k)).take c.k)) ∧ ∀ x, D x ↔ x = g)
  | .map ck cv m => ∃ b es clock, h = some (.map (some b)) ∧ w.heap[b]? = some (.map es clock) ∧ (∃ m', m'.Perm m ∧ entsRel κ Im w ck cv m' es.toList) ∧
      (∀ e ∈ es.toList, e.born < clock) ∧ (es.toList.map (·.born)).Nodup ∧ (m.map (·.1)).Nodup ∧ ∀ x, D x ↔ x = b
  | .lent => (∃ v, h = some v) ∧ ∀ b, ¬ D b
  | .rng i ck cv m seen cur => ∃ r b es clock sb, h = some (.pointer (some ⟨r, 0, none⟩)) ∧ κ i = some (.map (some b)) ∧ w.heap[b]? = some (.map es clock) ∧ w.heap[r]? = some (.mapIter (some b) clock sb clock) ∧
      (∃ m', m'.Perm m ∧ entsRel κ Im w ck cv m' es.toList) ∧ (∀ e ∈ es.toList, e.born < clock) ∧ (es.toList.map (·.born)).Nodup ∧ (m.map (·.1)).Nodup ∧ seenRel κ Im w ck es.toList (keyL seen cur) sb.toList ∧
      ∀ x, D x ↔ x = b ∨ x = r
  | .loop st => ∃ l rec, h = some (.func (.yield l) #[] #[]) ∧ w.heap[l]? = some (.loop rec) ∧ stOk st rec ∧ ∀ x, D x ↔ x = l

theorem seenRel_mono {κ κ' : Kap} {Im Im' : Nat → Prop} {w w' : World} {ck : TC} {es : List MapEntry} (hl : Le κ κ' Im Im' w w') : ∀ (ks : List ck.den) (ns : List Nat), seenRel κ Im w ck es ks ns → seenRel κ' Im' w' ck es ks ns
  | [], [], h => h
  | [], _ :: _, h => h.elim
  | _ :: _, [], h => h.elim
  | _ :: ks, _ :: ns, h => ⟨let ⟨e, h1, h2, h3⟩ := h.1; ⟨e, h1, h2, AV.rel_mono hl _ _ h3⟩, seenRel_mono hl ks ns h.2⟩

theorem entsRel_mono {κ κ' : Kap} {Im Im' : Nat → Prop} {w w' : World} {ck cv : TC} (hl : Le κ κ' Im Im' w w') : ∀ (m : List (ck.den × cv.den)) (es : List MapEntry), entsRel κ Im w ck cv m es → entsRel κ' Im' w' ck cv m es
  | [], [], h => h
  | [], _ :: _, h => h.elim
  | _ :: _, [], h => h.elim
  | _ :: m, _ :: es, h => ⟨AV.rel_mono hl _ _ h.1, AV.rel_mono hl _ _ h.2.1, entsRel_mono hl m es h.2.2⟩

theorem AObj.holds_mono {κ κ' : Kap} {Im Im' : Nat → Prop} {w w' : World} {h : Option Value} {D : Nat → Prop} (hl : Le κ κ' Im Im' w w')
    (hd : ∀ b, D b → w'.heap[b]? = w.heap[b]?) : ∀ (o : AObj), o.holds κ Im w h D → o.holds κ' Im' w' h D
  | .free, e => e
  | .dead, e => e
  | .cells cs E, e => by
    obtain ⟨b, arr, h1, h2, h3, h4⟩ := e
    exact ⟨b, arr, h1, (hd b ((h4 b).2 rfl)).trans h2, AV.rels_mono hl _ _ h3, h4⟩
  | .row E c xs, e => by
    obtain ⟨a, cap, h1, h2⟩ := e
    refine ⟨a, cap, h1, ?_⟩
    rcases h2 with h2 | ⟨g, arr, h3, h4, h5, h6, h6', h7, h8⟩
    · exact .inl h2
    · exact .inr ⟨g, arr, h3, (hd g ((h8 g).2 rfl)).trans h4, h5, h6, h6', fun i hi => AV.rels_mono hl _ _ (h7 i hi), h8⟩
  | .map ck cv m, e => by
    obtain ⟨b, es, clock, h1, h2, ⟨m', h3, h3'⟩, h4, h5, h6, h7⟩ := e
    exact ⟨b, es, clock, h1, (hd b ((h7 b).2 rfl)).trans h2, ⟨m', h3, entsRel_mono hl _ _ h3'⟩, h4, h5, h6, h7⟩
  | .lent, e => e
  | .rng i ck cv m seen cur, e => by
    obtain ⟨r, b, es, clock, sb, h1, h2, h3, h3', ⟨m', h4, h4'⟩, h5, h6, h7, h8, h9⟩ := e
    exact ⟨r, b, es, clock, sb, h1, hl.k _ _ h2, (hd b ((h9 b).2 (.inl rfl))).trans h3, (hd r ((h9 r).2 (.inr rfl))).trans h3', ⟨m', h4, entsRel_mono hl _ _ h4'⟩, h5, h6, h7, seenRel_mono hl _ _ h8, h9⟩
  | .loop st, e => by
    obtain ⟨l, r, h1, h2, h3, h4⟩ := e
    exact ⟨l, r, h1, (hd l ((h4 l).2 rfl)).trans h2, h3, h4⟩

theorem entsRel_len {κ : Kap} {Im : Nat → Prop} {w : World} {ck cv : TC} : ∀ (m : List (ck.den × cv.den)) (es : List MapEntry), entsRel κ Im w ck cv m es → m.length = es.length
  | [], [], _ => rfl
  | [], _ :: _, h => h.elim
  | _ :: _, [], h => h.elim
  | _ :: m, _ :: es, h => by simp [entsRel_len m es h.2.2]

/-- A range over a function under way: the object of its record, the frame's slots as they stood, what the rounds do. -/
structure RD where
  j : Nat
  T : List AV
  ps : Array Tmp
  ca : Code
  cb : Code

/-- Where a walk began: the world, the handles, the blocks that it may turn, those that stay. -/
structure Ctx where
  w : World
  κ : Kap
  M : Nat → Prop
  Im : Nat → Prop
  /-- The temporaries, and those that may be written. -/
  t0 : Array Value
  W : Nat → Bool
  m0 : Nat
  R : List RD

/-- Nothing is put out; draws go on. -/
def Outs (w w' : World) : Prop := w'.output = w.output ∧ w.drawn ≤ w'.drawn ∧ Recs w w'
theorem Outs.refl (w : World) : Outs w w := ⟨rfl, Nat.le_refl _, Recs.refl w⟩
theorem Outs.trans {a b c : World} (h : Outs b c) (h' : Outs a b) : Outs a c := ⟨h.1.trans h'.1, Nat.le_trans h'.2.1 h.2.1, h.2.2.trans h'.2.2⟩
theorem ask_drawn {α : Type} : ∀ (q : Ask α) (w : World), w.drawn ≤ (w.ask q).2.drawn
  | .done a, w => Nat.le_refl _
  | .ask what range k, w => by
    unfold World.ask
    simp only
    split
    · exact ask_drawn _ w
    · have := ask_drawn (k ((Question.extern what range).cut (w.tape w.drawn (Question.extern what range)))) { w with drawn := w.drawn + 1 }
      exact Nat.le_trans (Nat.le_succ w.drawn) this
theorem sys_drawn (w : World) (c : Sys) : w.drawn ≤ (w.sys c).2.drawn := by
  have := ask_drawn (Kernel.perform c w.os) w
  unfold World.sys
  split
  · exact Nat.le_refl _
  · rename_i h; rw [h] at this; exact this
theorem viewStore_drawn {P : Program} {w : World} {at_ : Addr} {u : TypeId} {k : Addr} {v : Value} {m : Bool} {r : World × List Addr} (h : w.viewStore P at_ u k v m = .ok r) : r.1.drawn = w.drawn := by
  unfold World.viewStore at h
  simp only [bind, Except.bind, pure, Except.pure, throw, throwThe, MonadExceptOf.throw] at h
  repeat' (split at h <;> try cases h)
  all_goals rfl
theorem farStore_drawn {P : Program} {w : World} {a : Addr} {v : Value} {m : Bool} {r : World × List Addr} (h : w.farStore P a v m = .ok r) : r.1.drawn = w.drawn := by
  unfold World.farStore at h
  split at h
  · split at h
    · cases h; exact viewStore_drawn ‹_›
    · cases h
  · cases h
/-- A run draws forward. -/
theorem run_drawn {P : Program} {α : Type} (s : Sem α) : ∀ {w w' : World} {v : α}, s.run P w = .ok v w' → w.drawn ≤ w'.drawn := by
  induction s with
  | pure a => intro w w' v h; simp only [Sem.run] at h; cases h; exact Nat.le_refl _
  | load m a k ih =>
    intro w w' v h
    simp only [Sem.run] at h
    split at h
    · exact ih _ h
    · split at h
      · exact ih _ h
      · cases h
  | store m a u k ih =>
    intro w w' v h
    have key : ∀ w1 : World, w1.drawn = w.drawn → k.run P w1 = .ok v w' → w.drawn ≤ w'.drawn := fun w1 e h => e ▸ ih h
    have fin : (match w.cell? a with
      | some _ => if w.frozen? a then .halt (.unsupported (.unsafePointer "a write to bytes that a string shares")) w else k.run P (w.setCell a u)
      | none => match w.farStore P a u (m == .atomic) with
        | .ok (w, _) => k.run P w
        | .error h => .halt h w) = Result.ok v w' → w.drawn ≤ w'.drawn := by
      intro h
      split at h
      · split at h
        · cases h
        · exact key (w.setCell a u) rfl h
      · split at h
        · rename_i e; exact key _ (farStore_drawn e) h
        · cases h
    cases u <;> first | (simp only [Sem.run] at h; cases h; done) | (simp only [Sem.run] at h; exact fin h)
  | new o k ih => intro w w' v h; simp only [Sem.run] at h; have := ih _ h; exact this
  | shape r k ih => intro w w' v h; simp only [Sem.run] at h; exact ih _ h
  | freeze a n k ih =>
    intro w w' v h
    simp only [Sem.run] at h
    have := ih h
    unfold World.freeze at this
    split at this <;> exact this
  | frozen a k ih => intro w w' v h; simp only [Sem.run] at h; exact ih _ h
  | getObj r k ih =>
    intro w w' v h
    simp only [Sem.run] at h
    split at h
    · cases h
    · exact ih _ h
    · cases h
  | setObj r o k ih =>
    intro w w' v h
    simp only [Sem.run] at h
    split at h
    · cases h
    · have := ih h; exact this
    · cases h
  | choose q k ih =>
    intro w w' v h
    simp only [Sem.run] at h
    split at h
    · exact ih _ h
    · have := ih _ h
      exact Nat.le_trans (Nat.le_succ w.drawn) this
  | sys c k ih =>
    intro w w' v h
    simp only [Sem.run] at h
    exact Nat.le_trans (sys_drawn w c) (ih _ h)
  | program k ih => intro w w' v h; simp only [Sem.run] at h; exact ih _ h
  | mark m k ih => intro w w' v h; simp only [Sem.run] at h; exact ih h
  | halt e => intro w w' v h; simp only [Sem.run] at h; cases h

structure St (c : Ctx) (κ : Kap) (Im : Nat → Prop) (w : World) (H : List AObj) : Prop where
  objs : ∃ D : Nat → Nat → Prop, (∀ (i : Nat) (o : AObj), H[i]? = some o → o.holds κ Im w (κ i) (D i)) ∧
    (∀ i b, D i b → i < H.length ∧ b < w.heap.size ∧ ¬ Im b ∧ (c.M b ∨ c.w.heap.size ≤ b)) ∧ (∀ i j b, D i b → D j b → i = j)
  fresh : ∀ i, H.length ≤ i → κ i = none
  im : ∀ b, Im b → b < w.heap.size ∧ (c.Im b ∨ c.M b ∨ c.w.heap.size ≤ b)
  keep : ∀ b, c.Im b → Im b
  frame : ∀ b, b < c.w.heap.size → ¬ c.M b → w.heap[b]? = c.w.heap[b]?
  size : c.w.heap.size ≤ w.heap.size
  k0 : ∀ i v, c.κ i = some v → κ i = some v
  os : w.os = c.w.os
  tape : w.tape = c.w.tape
  output : Outs c.w w

theorem St.drew {c κ Im w H} (h : St c κ Im w H) : St c κ Im { w with drawn := w.drawn + 1 } H := by
  have ho := h.output
  obtain ⟨⟨D, h1, h2, h3⟩, r⟩ := h
  exact ⟨⟨D, fun i o ho => AObj.holds_mono (w := w) (w' := { w with drawn := w.drawn + 1 }) ⟨fun _ _ e => e, fun _ e => e, fun _ _ => rfl, Recs.refl _⟩ (fun _ _ => rfl) o (h1 i o ho), h2, h3⟩, ‹_›, ‹_›, ‹_›, ‹_›, ‹_›, ‹_›, ‹_›, ‹_›, ⟨ho.1, Nat.le_succ_of_le ho.2.1, ho.2.2⟩⟩

def setK (κ : Kap) (i : Nat) (v : Value) : Kap := fun j => if j = i then some v else κ j

theorem setK_same (κ i v) : setK κ i v i = some v := by simp [setK]
theorem setK_ne (κ) {i j} (v) (h : j ≠ i) : setK κ i v j = κ j := by simp [setK, h]

theorem le_setK {κ : Kap} {i : Nat} (v : Value) {Im : Nat → Prop} {w w' : World} (hi : κ i = none) (hw : ∀ b, Im b → w'.heap[b]? = w.heap[b]?) (hr : Recs w w') : Le κ (setK κ i v) Im Im w w' :=
  ⟨fun j u e => by
    by_cases h : j = i
    · subst h; rw [hi] at e; cases e
    · rw [setK_ne _ _ h]; exact e, fun _ h => h, hw, hr⟩

/-- The world has turned at block g alone, or nowhere; new blocks may lie behind. -/
structure Turn (g : Option Nat) (w w' : World) : Prop where
  os : w'.os = w.os
  tape : w'.tape = w.tape
  output : Outs w w'
  size : w.heap.size ≤ w'.heap.size
  block : ∀ b, b < w.heap.size → some b ≠ g → w'.heap[b]? = w.heap[b]?

theorem Turn.refl (g w) : Turn g w w := ⟨rfl, rfl, Outs.refl w, Nat.le_refl _, fun _ _ _ => rfl⟩
theorem Turn.trans {g w w' w''} (h : Turn g w w') (h' : Turn g w' w'') : Turn g w w'' :=
  ⟨h'.os.trans h.os, h'.tape.trans h.tape, h'.output.trans h.output, Nat.le_trans h.size h'.size, fun b hb hg => (h'.block b (Nat.lt_of_lt_of_le hb h.size) hg).trans (h.block b hb hg)⟩
theorem Turn.alloc (w : World) (o : Obj) : Turn none w (w.alloc o) := ⟨rfl, rfl, ⟨rfl, Nat.le_refl _, Recs.of_same fun b hb => by show (w.heap.push o)[b]? = _; rw [Array.getElem?_push, if_neg (by omega)]⟩, by simp, fun b hb _ => by show (w.heap.push o)[b]? = _; rw [Array.getElem?_push, if_neg (by omega)]⟩

/-- Blocks are laid that nobody owns. -/
theorem St.garb {c κ Im w w' H} (h : St c κ Im w H) (ht : Turn none w w') : St c κ Im w' H ∧ Le κ κ Im Im w w' := by
  obtain ⟨⟨D, h1, h2, h3⟩, hfresh, him, hkeep, hframe, hsize, hk0, hos, htape, hout⟩ := h
  have hs := ht.size
  have hb : ∀ b, b < w.heap.size → w'.heap[b]? = w.heap[b]? := fun b hb => ht.block b hb (by simp)
  have hle : Le κ κ Im Im w w' := ⟨fun _ _ e => e, fun _ e => e, fun b h => hb b (him b h).1, ht.output.2.2⟩
  exact ⟨⟨⟨D, fun i o ho => AObj.holds_mono hle (fun b hd => hb b (h2 i b hd).2.1) o (h1 i o ho), fun i b hd => by
      obtain ⟨a1, a2, a3, a4⟩ := h2 i b hd
      exact ⟨a1, by omega, a3, a4⟩, h3⟩, hfresh, fun b h => ⟨by have := (him b h).1; omega, (him b h).2⟩, hkeep, fun b hlt hM => (hb b (by omega)).trans (hframe b hlt hM), by omega, hk0,
      ht.os.trans hos, ht.tape.trans htape, ht.output.trans hout⟩, hle⟩

/-- A new block under a free id. -/
theorem St.lay {c κ Im w w' H} (h : St c κ Im w H) {id : Nat} (hid : H[id]? = some .free) (ht : Turn none w w') (g : Nat) (hg : w.heap.size ≤ g) (hg' : g < w'.heap.size) (o : AObj) (v : Value)
    (ho : ∀ κ', Le κ κ' Im Im w w' → κ' id = some v → o.holds κ' Im w' (some v) (fun b => b = g)) :
    St c (setK κ id v) Im w' (H.set id o) ∧ Le κ (setK κ id v) Im Im w w' := by
  have hlt : id < H.length := (List.getElem?_eq_some_iff.1 hid).1
  have hsame : ∀ b, b < w.heap.size → w'.heap[b]? = w.heap[b]? := fun b hb => ht.block b hb (by simp)
  have hs := ht.size
  obtain ⟨⟨D, h1, h2, h3⟩, hfresh, him, hkeep, hframe, hsize, hk0, hos, htape, hout⟩ := h
  have hnone : κ id = none := (h1 id _ hid).1
  have hle : Le κ (setK κ id v) Im Im w w' := le_setK v hnone (fun b hb => hsame b (him b hb).1) ht.output.2.2
  refine ⟨⟨⟨fun i b => if i = id then b = g else D i b, ?_, ?_, ?_⟩, ?_, ?_, hkeep, ?_, by omega, ?_, ht.os.trans hos, ht.tape.trans htape, ht.output.trans hout⟩, hle⟩
  · intro i o' hi
    by_cases e : i = id
    · subst e
      simp only [List.getElem?_set_self hlt, Option.some.injEq] at hi
      subst hi
      simp only [setK_same, if_true]
      exact ho _ hle (setK_same _ _ _)
    · rw [List.getElem?_set_ne (fun h => e h.symm)] at hi
      rw [setK_ne _ _ e]
      simp only [e, if_false]
      exact AObj.holds_mono hle (fun b hb => hsame b (h2 i b hb).2.1) o' (h1 i o' hi)
  · intro i b hb
    by_cases e : i = id
    · subst e
      simp only [if_true] at hb
      subst hb
      refine ⟨by simpa using hlt, hg', fun hi => ?_, .inr (by omega)⟩
      have := (him _ hi).1; omega
    · simp only [e, if_false] at hb
      obtain ⟨a1, a2, a3, a4⟩ := h2 i b hb
      exact ⟨by simpa using a1, by omega, a3, a4⟩
  · intro i j b hi hj
    by_cases ei : i = id <;> by_cases ej : j = id <;> simp only [ei, ej, if_true, if_false] at hi hj
    · rw [ei, ej]
    · have := (h2 j b hj).2.1; omega
    · have := (h2 i b hi).2.1; omega
    · exact h3 i j b hi hj
  · intro i hi
    have hi' : H.length ≤ i := by simpa using hi
    rw [setK_ne _ _ (by omega)]
    exact hfresh i hi'
  · intro b hb
    obtain ⟨a1, a2⟩ := him b hb
    exact ⟨by omega, a2⟩
  · intro b hb hM
    exact (hsame b (by omega)).trans (hframe b hb hM)
  · intro i u e
    exact hle.k _ _ (hk0 i u e)

/-- A value without a block under a free id. -/
theorem St.name {c κ Im w H} (h : St c κ Im w H) {id : Nat} (hid : H[id]? = some .free) (o : AObj) (v : Value)
    (ho : ∀ κ', Le κ κ' Im Im w w → κ' id = some v → o.holds κ' Im w (some v) (fun _ => False)) :
    St c (setK κ id v) Im w (H.set id o) ∧ Le κ (setK κ id v) Im Im w w := by
  have hlt : id < H.length := (List.getElem?_eq_some_iff.1 hid).1
  obtain ⟨⟨D, h1, h2, h3⟩, hfresh, him, hkeep, hframe, hsize, hk0, hos, htape, hout⟩ := h
  have hnone : κ id = none := (h1 id _ hid).1
  have hle : Le κ (setK κ id v) Im Im w w := le_setK v hnone (fun b hb => rfl) (Recs.refl _)
  refine ⟨⟨⟨fun i b => if i = id then False else D i b, ?_, ?_, ?_⟩, ?_, him, hkeep, hframe, hsize, ?_, hos, htape, hout⟩, hle⟩
  · intro i o' hi
    by_cases e : i = id
    · subst e
      simp only [List.getElem?_set_self hlt, Option.some.injEq] at hi
      subst hi
      simp only [setK_same, if_true]
      exact ho _ hle (setK_same _ _ _)
    · rw [List.getElem?_set_ne (fun h => e h.symm)] at hi
      rw [setK_ne _ _ e]
      simp only [e, if_false]
      exact AObj.holds_mono hle (fun b hb => rfl) o' (h1 i o' hi)
  · intro i b hb
    by_cases e : i = id
    · simp only [e, if_true] at hb
    · simp only [e, if_false] at hb
      obtain ⟨a1, a2, a3, a4⟩ := h2 i b hb
      exact ⟨by simpa using a1, a2, a3, a4⟩
  · intro i j b hi hj
    by_cases ei : i = id <;> by_cases ej : j = id <;> simp only [ei, ej, if_true, if_false] at hi hj
    exact h3 i j b hi hj
  · intro i hi
    have hi' : H.length ≤ i := by simpa using hi
    rw [setK_ne _ _ (by omega)]
    exact hfresh i hi'
  · intro i u e
    exact hle.k _ _ (hk0 i u e)

/-- What an object's block holds is turned. -/
theorem St.turn {c κ Im w w' H} (h : St c κ Im w H) {id : Nat} {o o' : AObj} (hid : H[id]? = some o) {g : Nat} (ht : Turn (some g) w w')
    (hold : ∀ D, o.holds κ Im w (κ id) D → ∀ x, D x ↔ x = g)
    (hnew : Le κ κ Im Im w w' → o'.holds κ Im w' (κ id) (fun b => b = g)) :
    St c κ Im w' (H.set id o') ∧ Le κ κ Im Im w w' := by
  have hlt : id < H.length := (List.getElem?_eq_some_iff.1 hid).1
  obtain ⟨⟨D, h1, h2, h3⟩, hfresh, him, hkeep, hframe, hsize, hk0, hos, htape, hout⟩ := h
  have hD := hold _ (h1 id _ hid)
  have hDg := h2 id g ((hD g).2 rfl)
  have hs := ht.size
  have hset : ∀ b, b < w.heap.size → b ≠ g → w'.heap[b]? = w.heap[b]? := fun b hb hne => ht.block b hb (fun e => hne (by cases e; rfl))
  have hle : Le κ κ Im Im w w' := ⟨fun _ _ e => e, fun _ e => e, fun b hb => hset b (him b hb).1 (fun e => hDg.2.2.1 (e ▸ hb)), ht.output.2.2⟩
  refine ⟨⟨⟨D, ?_, ?_, h3⟩, ?_, ?_, hkeep, ?_, by omega, hk0, ht.os.trans hos, ht.tape.trans htape, ht.output.trans hout⟩, hle⟩
  · intro i x hi
    by_cases e : i = id
    · subst e
      simp only [List.getElem?_set_self hlt, Option.some.injEq] at hi
      subst hi
      have : D i = fun b => b = g := funext fun b => propext (hD b)
      rw [this]
      exact hnew hle
    · rw [List.getElem?_set_ne (fun h => e h.symm)] at hi
      exact AObj.holds_mono hle (fun b hb => hset b (h2 i b hb).2.1 (fun eb => by subst eb; exact e (h3 i id b hb ((hD b).2 rfl)))) x (h1 i x hi)
  · intro i b hb
    obtain ⟨a1, a2, a3, a4⟩ := h2 i b hb
    exact ⟨by simpa using a1, by omega, a3, a4⟩
  · intro i hi
    exact hfresh i (by simpa using hi)
  · intro b hb
    obtain ⟨a1, a2⟩ := him b hb
    exact ⟨by omega, a2⟩
  · intro b hb hM
    refine (hset b (by omega) (fun e => ?_)).trans (hframe b hb hM)
    subst e
    rcases hDg.2.2.2 with h | h
    · exact hM h
    · omega

/-- An object is given up: its block stays as it is from here on. -/
theorem St.seal {c κ Im w H} (h : St c κ Im w H) {id : Nat} {o : AObj} (hid : H[id]? = some o) {g : Nat} (hold : ∀ D, o.holds κ Im w (κ id) D → ∀ x, D x ↔ x = g) :
    ∃ Im', St c κ Im' w (H.set id .dead) ∧ Le κ κ Im Im' w w ∧ Im' g := by
  have hlt : id < H.length := (List.getElem?_eq_some_iff.1 hid).1
  obtain ⟨⟨D, h1, h2, h3⟩, hfresh, him, hkeep, hframe, hsize, hk0, hos, htape, hout⟩ := h
  have hD := hold _ (h1 id _ hid)
  have hDg := h2 id g ((hD g).2 rfl)
  have hle : Le κ κ Im (fun b => Im b ∨ b = g) w w := ⟨fun _ _ e => e, fun _ e => .inl e, fun _ _ => rfl, Recs.refl _⟩
  refine ⟨fun b => Im b ∨ b = g, ⟨⟨fun i b => i ≠ id ∧ D i b, ?_, ?_, ?_⟩, ?_, ?_, ?_, hframe, hsize, hk0, hos, htape, hout⟩, hle, .inr rfl⟩
  · intro i x hi
    by_cases e : i = id
    · subst e
      simp only [List.getElem?_set_self hlt, Option.some.injEq] at hi
      subst hi
      exact fun b hb => hb.1 rfl
    · rw [List.getElem?_set_ne (fun h => e h.symm)] at hi
      have : (fun b => i ≠ id ∧ D i b) = D i := funext fun b => propext ⟨fun h => h.2, fun h => ⟨e, h⟩⟩
      rw [show ((fun i b => i ≠ id ∧ D i b) i) = D i from this]
      exact AObj.holds_mono hle (fun b hb => rfl) x (h1 i x hi)
  · intro i b ⟨hne, hb⟩
    obtain ⟨a1, a2, a3, a4⟩ := h2 i b hb
    exact ⟨by simpa using a1, a2, fun h => h.elim a3 (fun e => by subst e; exact hne (h3 i id b hb ((hD b).2 rfl))), a4⟩
  · intro i j b hi hj
    exact h3 i j b hi.2 hj.2
  · intro i hi
    exact hfresh i (by simpa using hi)
  · rintro b (hb | rfl)
    · exact him b hb
    · exact ⟨hDg.2.1, .inr hDg.2.2.2⟩
  · intro b hb
    exact .inl (hkeep b hb)

/-- An object without a block is given up. -/
theorem St.drop {c κ Im w H} (h : St c κ Im w H) {id : Nat} {o : AObj} (hid : H[id]? = some o) : St c κ Im w (H.set id .dead) := by
  have hlt : id < H.length := (List.getElem?_eq_some_iff.1 hid).1
  obtain ⟨⟨D, h1, h2, h3⟩, hfresh, him, hkeep, hframe, hsize, hk0, hos, htape, hout⟩ := h
  refine ⟨⟨fun i b => i ≠ id ∧ D i b, ?_, ?_, ?_⟩, ?_, him, hkeep, hframe, hsize, hk0, hos, htape, hout⟩
  · intro i x hi
    by_cases e : i = id
    · subst e
      simp only [List.getElem?_set_self hlt, Option.some.injEq] at hi
      subst hi
      exact fun b hb => hb.1 rfl
    · rw [List.getElem?_set_ne (fun h => e h.symm)] at hi
      have : (fun b => i ≠ id ∧ D i b) = D i := funext fun b => propext ⟨fun h => h.2, fun h => ⟨e, h⟩⟩
      rw [show ((fun i b => i ≠ id ∧ D i b) i) = D i from this]
      exact h1 i x hi
  · intro i b ⟨hne, hb⟩
    obtain ⟨a1, a2, a3, a4⟩ := h2 i b hb
    exact ⟨by simpa using a1, a2, a3, a4⟩
  · intro i j b hi hj
    exact h3 i j b hi.2 hj.2
  · intro i hi
    exact hfresh i (by simpa using hi)

end Go.X

/- What an operation does to abstract values and objects. -/
namespace Go.X
open Go

def szOf (P : Program) (t : TypeId) : Nat := ((P.info? t).map (·.size)).getD 0
def byOf (P : Program) (t : TypeId) : Nat := ((P.info? t).map (·.bytes)).getD 0
def aggB (P : Program) (t : TypeId) : Bool := match P.underlying t with | some (.struct _) | some (.array _ _) => true | _ => false

def cellsAV : AV → Option (List AV)
  | .agg l => some l
  | .v (.agg l) => some (l.toList.map .v)
  | .v (.tuple _) | .tup _ | .any | .gd _ _ _ _ => none
  | a => some [a]

def toAV : Value → AV
  | .agg l => .agg (l.toList.map .v)
  | .func (.func f) first caps => if first.isEmpty && caps.isEmpty then .fn f [] else .v (.func (.func f) first caps)
  | x => .v x

def ev (T : List AV) : Operand → AV
  | .tmp i => T.getD i .any
  | .const x => toAV x
  | .global g => .v (.pointer (some ⟨g, 0, none⟩))
  | .func f => .fn f []

/-- A claim that the walk leaves to its reader. -/
inductive Ok (p : Prop) : Prop
  | mk : p → Ok p
theorem Ok.out {p : Prop} : Ok p → p | ⟨h⟩ => h

inductive Eff where
  | bad
  | ok (r : AV) (u : List (Nat × AObj))
  | req (q : Prop) (r : AV) (u : List (Nat × AObj))
  | nd (ι : Type) (q : ι → Prop) (r : ι → AV) (u : ι → List (Nat × AObj))
  /-- The one or the other. -/
  | alt (a b : Eff)
  /-- Where something is shown. -/
  | when (p : Prop) (a : Eff)

def spliceAV (cs : List AV) (off : Nat) (l : List AV) : List AV := cs.take off ++ l ++ cs.drop (off + l.length)

def decInt : AV → Option Int | .v (.int .i64 n) => some n | _ => none
def decU32 : AV → Option Int | .v (.int .u32 n) => some n | _ => none
def decU8 : AV → Option Int | .v (.int .u8 n) => some n | _ => none
def decBool : AV → Option Bool | .v (.bool n) => some n | _ => none
def decRs (c : TC) : AV → Option (List c.den)
  | .rs c' xs => if h : c' = c then some (h ▸ xs) else none
  | .v (.slice none 0 0) => some []
  | _ => none

def decId : List AV → Option TieId
  | [a, b, c, d] => match decInt a, decInt b, decInt c, decInt d with
    | some a, some b, some c, some d => some ⟨a, b, c, d⟩
    | _, _, _, _ => none
  | _ => none
def decHead : List AV → Option Head
  | [a, b, c, d, e, f] => match decInt a, decInt b, decInt c, decInt d, decInt e, decInt f with
    | some a, some b, some c, some d, some e, some f => some ⟨⟨a, b, c, d⟩, e, f⟩
    | _, _, _, _, _, _ => none
  | _ => none
def decEdge : List AV → Option Edge
  | [a, b, c] => match decInt a, decInt b, decInt c with
    | some a, some b, some c => some ⟨a, b, c⟩
    | _, _, _ => none
  | _ => none
def decPrefix : List AV → Option Prefix
  | [a, b] => match decU32 a, decInt b with
    | some a, some b => some ⟨a, b⟩
    | _, _ => none
  | _ => none
def decReach : List AV → Option Reach
  | [a, b, c] => match decU32 a, decInt b, decInt c with
    | some a, some b, some c => some ⟨⟨a, b⟩, c⟩
    | _, _, _ => none
  | _ => none
def decTie : List AV → Option Tie
  | [a, b, c, d, e, f, g, h, i, j] => match decHead [a, b, c, d, e, f], decInt g, decBool h, decRs .edge i, decRs .reach j with
    | some x, some g, some h, some i, some j => some ⟨x, g, h, i, j⟩
    | _, _, _, _, _ => none
  | _ => none
def decParent : List AV → Option Parent
  | [a, b] => match decInt a, decRs .int b with
    | some a, some b => some ⟨a, b⟩
    | _, _ => none
  | _ => none
def decHop : List AV → Option Hop
  | [a, b, c] => match decInt a, decInt b, decRs .int c with
    | some a, some b, some c => some ⟨a, b, c⟩
    | _, _, _ => none
  | _ => none
def decPath : List AV → Option Path
  | [a, b, c, d, e] => match decU32 a, decInt b, decInt c, decInt d, decRs .int e with
    | some a, some b, some c, some d, some e => some ⟨⟨a, b⟩, c, d, e⟩
    | _, _, _, _, _ => none
  | _ => none
def decNot : List AV → Option Not
  | [a, b, c] => match decU32 a, decInt b, decInt c with
    | some a, some b, some c => some ⟨⟨a, b⟩, c⟩
    | _, _, _ => none
  | _ => none
def decJob : List AV → Option Job
  | [a, b] => match decInt a, decInt b with
    | some a, some b => some ⟨a, b⟩
    | _, _ => none
  | _ => none
def decPiece (l : List AV) : Option Piece :=
  match decTie (l.take 10), l.drop 10 with
  | some t, [n] => match decInt n with | some n => some ⟨t, n⟩ | none => none
  | _, _ => none
def decEntId (l : List AV) : Option EntId :=
  match decId (l.take 4), l.drop 4 with
  | some t, [n] => match decInt n with | some n => some ⟨t, n⟩ | none => none
  | _, _ => none
def decEntHead (l : List AV) : Option EntHead :=
  match decHead (l.take 6), l.drop 6 with
  | some t, [n] => match decInt n with | some n => some ⟨t, n⟩ | none => none
  | _, _ => none
def decWait (l : List AV) : Option Wait :=
  match decHead (l.take 6), l.drop 6 with
  | some t, [n] => match decInt n with | some n => some ⟨t, n⟩ | none => none
  | _, _ => none
def decArr4 : List AV → Option Arr4
  | [a, b, c, d] => match decInt a, decInt b, decInt c, decInt d with
    | some a, some b, some c, some d => some ⟨a, b, c, d⟩
    | _, _, _, _ => none
  | _ => none
def decLie (l : List AV) : Option Lie :=
  match l with
  | [a, b, c, d, e, f, g, h, i, j, k, m] => match decInt a, decInt b, decInt c, decInt d, decInt e, decInt f, decInt g, decInt h, decInt i, decInt j, decBool k, decBool m with
    | some a, some b, some c, some d, some e, some f, some g, some h, some i, some j, some k, some m => some ⟨a, b, c, d, e, f, g, h, i, j, k, m⟩
    | _, _, _, _, _, _, _, _, _, _, _, _ => none
  | _ => none
def decPacket (l : List AV) : Option Packet :=
  match l with
  | [] => none
  | a :: l => match decInt a, decLie (l.take 12), decTie ((l.drop 12).take 10), decId ((l.drop 22).take 4), decId ((l.drop 26).take 4), l.drop 30 with
    | some a, some b, some c, some d, some e, [f] => match decRs .head f with
      | some f => some ⟨a, b, c, d, e, f⟩
      | none => none
    | _, _, _, _, _, _ => none

def decOwn : List AV → Option Own
  | [a, b, c, d, e, f, g, h] => match decInt a, decInt b, decBool c, decBool d, decRs .edge e, decRs .reach f, decInt g, decInt h with
    | some a, some b, some c, some d, some e, some f, some g, some h => some ⟨a, b, c, d, e, f, g, h⟩
    | _, _, _, _, _, _, _, _ => none
  | _ => none
def decStep20 : List AV → Option Step20
  | a :: b :: l => match decInt a, decInt b, decHead l with
    | some a, some b, some l => some ⟨a, b, l⟩
    | _, _, _ => none
  | _ => none
def decStep12 : List AV → Option Step12
  | a :: b :: l => match decInt a, decInt b, decTie l with
    | some a, some b, some l => some ⟨a, b, l⟩
    | _, _, _ => none
  | _ => none

def one {α : Type} (f : AV → Option α) : List AV → Option α
  | [a] => f a
  | _ => none

def TC.dec : (c : TC) → List AV → Option c.den
  | .int => one decInt | .bool => one decBool | .u32 => one decU32 | .u8 => one decU8
  | .tieId => decId | .head => decHead | .edge => decEdge | .prefix_ => decPrefix | .reach => decReach | .tie => decTie | .packet => decPacket
  | .parent => decParent | .hop => decHop | .path => decPath | .not_ => decNot | .step12 => decStep12 | .step20 => decStep20 | .job => decJob
  | .piece => decPiece | .entId => decEntId | .entHead => decEntHead | .wait => decWait | .arr4 => decArr4 | .own => decOwn

end Go.X

