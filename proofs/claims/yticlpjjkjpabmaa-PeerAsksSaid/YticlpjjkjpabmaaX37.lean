/- Parts of the walks: T17 K17 K18 X25 X26 X37 -/
import Derived.Test.YticlpjjkjpabmaaK16
import Derived.Test.YticlpjjkjpabmaaX28
import Derived.ProofKit
import Derived.Test.YticlpjjkjpabmaaK12
import Derived.DataReads

namespace Go.Proofs.Yticlpjjkjpabmaa
open Go Go.X Go.Proofs
set_option maxRecDepth 100000

def l_asks : List (Nat × LoopS) := [(8, { S := [.map .tieId .entHead, .cells [.d .head] 38], at_ := [some 3, some 4], slots := [8, 9], ar := [.tc .bool, .tc .int], keep := [0, 1, 2] })]
def w_asks (l : List Head) (h : Head) : Prop := exec E10 (loopsOf Try.prog l_asks) 20 (bodyOf Try.f4) (startT 102 (avs [.sl .head, .tc .head] (l, h, ()))) [] (retK Try.prog [.tmp 4] [.tc .bool] (true, ()))

theorem nf_asks (l : List Head) (h : Head) : w_asks l h = (
Ok True ∧
  Ok True ∧
    Ok ((!!true) = true → (!!true) = true) ∧
      Ok ((!true) = false → (!!true) = true) ∧
        ∀ (R0 : (List (TieId × EntHead) × (Head × Unit) × Unit) × Bool × Int × Unit → Prop),
          (∀ (l1 : List (TieId × EntHead)) (x2 : Head) (b3 : Bool) (i4 : Int),
              Ok (decide (i4 < ↑l.length) = true → decide (i4 < ↑l.length) = true) ∧
                  Ok (decide (i4 < ↑l.length) = true → decide (i4 < ↑l.length) = true) ∧
                    cnd (decide (i4 < ↑l.length) && decide (i4 < (100 : Int)))
                      (Ok ((0 : Int) ≤ i4 ∧ i4 < ↑l.length) ∧
                        Ok True ∧
                          Ok ((!!b3) = true → (!!b3) = true) ∧
                            Ok ((!!b3) = true → (!!b3) = true) ∧
                              Ok ((!!b3) = true → (!!b3) = true) ∧
                                Ok ((!!b3) = true → (!!b3) = true) ∧
                                  Ok ((!b3) = false → (!!b3) = true) ∧
                                    cnd (!b3 || decide ((l.getD i4.toNat TC.head.d).Seq > x2.Seq))
                                      (Ok
                                          (AObj.cells
                                              [AV.v (Value.int IntKind.i64 h.Id.Dir), AV.v (Value.int IntKind.i64 h.Id.Origin), AV.v (Value.int IntKind.i64 h.Id.Kind),
                                                AV.v (Value.int IntKind.i64 h.Id.Nr), AV.v (Value.int IntKind.i64 h.Seq), AV.v (Value.int IntKind.i64 h.Life)]
                                              (38 : Nat) =
                                            AObj.cells
                                              [AV.v (Value.int IntKind.i64 h.Id.Dir), AV.v (Value.int IntKind.i64 h.Id.Origin), AV.v (Value.int IntKind.i64 h.Id.Kind),
                                                AV.v (Value.int IntKind.i64 h.Id.Nr), AV.v (Value.int IntKind.i64 h.Seq), AV.v (Value.int IntKind.i64 h.Life)]
                                              (38 : Nat)) ∧
                                        Ok (AObj.cells [AV.hd (nat_lit 2), AV.hd (nat_lit 3)] (63 : TypeId) = AObj.cells [AV.hd (nat_lit 2), AV.hd (nat_lit 3)] (63 : TypeId)) ∧
                                          Ok (AObj.map TC.tieId TC.entId [] = AObj.map TC.tieId TC.entId []) ∧
                                            R0
                                              ((askF { Id := h.Id, Seq := (l.getD i4.toNat TC.head.d).Seq, Life := h.Life : Head } l1,
                                                  ({ Id := h.Id, Seq := (l.getD i4.toNat TC.head.d).Seq, Life := h.Life : Head }, ()), ()),
                                                true, IntKind.i64.wrap (i4 + (1 : Int)), ()))
                                      (Ok
                                          (AObj.cells
                                              [AV.v (Value.int IntKind.i64 h.Id.Dir), AV.v (Value.int IntKind.i64 h.Id.Origin), AV.v (Value.int IntKind.i64 h.Id.Kind),
                                                AV.v (Value.int IntKind.i64 h.Id.Nr), AV.v (Value.int IntKind.i64 h.Seq), AV.v (Value.int IntKind.i64 h.Life)]
                                              (38 : Nat) =
                                            AObj.cells
                                              [AV.v (Value.int IntKind.i64 h.Id.Dir), AV.v (Value.int IntKind.i64 h.Id.Origin), AV.v (Value.int IntKind.i64 h.Id.Kind),
                                                AV.v (Value.int IntKind.i64 h.Id.Nr), AV.v (Value.int IntKind.i64 h.Seq), AV.v (Value.int IntKind.i64 h.Life)]
                                              (38 : Nat)) ∧
                                        Ok (AObj.cells [AV.hd (nat_lit 2), AV.hd (nat_lit 3)] (63 : TypeId) = AObj.cells [AV.hd (nat_lit 2), AV.hd (nat_lit 3)] (63 : TypeId)) ∧
                                          Ok (AObj.map TC.tieId TC.entId [] = AObj.map TC.tieId TC.entId []) ∧
                                            R0 ((askF { Id := h.Id, Seq := (l.getD i4.toNat TC.head.d).Seq, Life := h.Life : Head } l1, (x2, ()), ()), b3, IntKind.i64.wrap (i4 + (1 : Int)), ())))
                      (Ok ((Rise ([] : List (TieId × EntId)) ∧ ([] : List (TieId × EntId)).length ≤ (2 : Nat) ^ (30 : Nat)) ∧ Rise l1 ∧ l1.length ≤ (2 : Nat) ^ (30 : Nat)) ∧
                        Ok ((!tErr (5 : Int) != (0 : Int)) = true → (!tErr (5 : Int) != (0 : Int)) = true) ∧
                          Ok ((!tErr (5 : Int) != (0 : Int)) = true → (!tErr (5 : Int) != (0 : Int)) = true) ∧
                            Ok ((!tErr (5 : Int) != (0 : Int)) = true → (!tErr (5 : Int) != (0 : Int)) = true) ∧
                              Ok ((!tErr (5 : Int) != (0 : Int)) = true → (!tErr (5 : Int) != (0 : Int)) = true) ∧
                                Ok ((tErr (5 : Int) != (0 : Int)) = false → (!tErr (5 : Int) != (0 : Int)) = true) ∧
                                  Ok
                                      ((!(tErr (5 : Int) != (0 : Int) || !(↑(tOutA (5 : Int) l1).length == (1 : Int)) == b3)) = true →
                                        (!(tErr (5 : Int) != (0 : Int) || !(↑(tOutA (5 : Int) l1).length == (1 : Int)) == b3)) = true) ∧
                                    Ok
                                        ((!(tErr (5 : Int) != (0 : Int) || !(↑(tOutA (5 : Int) l1).length == (1 : Int)) == b3) && b3) = true →
                                          (!(tErr (5 : Int) != (0 : Int) || !(↑(tOutA (5 : Int) l1).length == (1 : Int)) == b3) && b3) = true) ∧
                                      Ok
                                          ((!(tErr (5 : Int) != (0 : Int) || !(↑(tOutA (5 : Int) l1).length == (1 : Int)) == b3) && b3) = true →
                                            (0 : Int) ≤ (0 : Int) ∧ (0 : Int) < ↑(tOutA (5 : Int) l1).length) ∧
                                        Ok
                                            ((!(tErr (5 : Int) != (0 : Int) || !(↑(tOutA (5 : Int) l1).length == (1 : Int)) == b3) && b3) = true →
                                              (!(tErr (5 : Int) != (0 : Int) || !(↑(tOutA (5 : Int) l1).length == (1 : Int)) == b3) && b3) = true) ∧
                                          Ok
                                              ((!(tErr (5 : Int) != (0 : Int) || !(↑(tOutA (5 : Int) l1).length == (1 : Int)) == b3) && b3) = true →
                                                (!(tErr (5 : Int) != (0 : Int) || !(↑(tOutA (5 : Int) l1).length == (1 : Int)) == b3) && b3) = true) ∧
                                            Ok
                                                ((!(tErr (5 : Int) != (0 : Int) || !(↑(tOutA (5 : Int) l1).length == (1 : Int)) == b3) && b3) = true →
                                                  (!(tErr (5 : Int) != (0 : Int) || !(↑(tOutA (5 : Int) l1).length == (1 : Int)) == b3) && b3) = true) ∧
                                              Ok
                                                  ((!(tErr (5 : Int) != (0 : Int) || !(↑(tOutA (5 : Int) l1).length == (1 : Int)) == b3)) = true →
                                                    (!(tErr (5 : Int) != (0 : Int) || !(↑(tOutA (5 : Int) l1).length == (1 : Int)) == b3)) = true) ∧
                                                Ok
                                                    ((!(tErr (5 : Int) != (0 : Int) || !(↑(tOutA (5 : Int) l1).length == (1 : Int)) == b3)) = true →
                                                      b3 = true → (!(tErr (5 : Int) != (0 : Int) || !(↑(tOutA (5 : Int) l1).length == (1 : Int)) == b3) && b3) = true) ∧
                                                  Ok
                                                      ((tErr (5 : Int) != (0 : Int) || !(↑(tOutA (5 : Int) l1).length == (1 : Int)) == b3) = false →
                                                        (!(tErr (5 : Int) != (0 : Int) || !(↑(tOutA (5 : Int) l1).length == (1 : Int)) == b3)) = true) ∧
                                                    cnd
                                                      (tErr (5 : Int) != (0 : Int) || !(↑(tOutA (5 : Int) l1).length == (1 : Int)) == b3 ||
                                                        b3 &&
                                                          !(((tOutA (5 : Int) l1).getD (Int.toNat (0 : Int)) TC.head.d).Id.Dir == x2.Id.Dir &&
                                                              (((tOutA (5 : Int) l1).getD (Int.toNat (0 : Int)) TC.head.d).Id.Origin == x2.Id.Origin &&
                                                                (((tOutA (5 : Int) l1).getD (Int.toNat (0 : Int)) TC.head.d).Id.Kind == x2.Id.Kind &&
                                                                  (((tOutA (5 : Int) l1).getD (Int.toNat (0 : Int)) TC.head.d).Id.Nr == x2.Id.Nr &&
                                                                    (((tOutA (5 : Int) l1).getD (Int.toNat (0 : Int)) TC.head.d).Seq == x2.Seq &&
                                                                      ((tOutA (5 : Int) l1).getD (Int.toNat (0 : Int)) TC.head.d).Life == x2.Life))))))
                                                      (Ok ((false, ()) = (true, ())))
                                                      (Ok True ∧
                                                        Ok True ∧
                                                          Ok (b3 = true → b3 = true) ∧
                                                            Ok (b3 = true → b3 = true) ∧
                                                              Ok (b3 = true → b3 = true) ∧
                                                                Ok (b3 = true → b3 = true) ∧
                                                                  Ok (b3 = true → b3 = true) ∧
                                                                    Ok (((↑(gotF h (tickA (5 : Int) l1)).length == (1 : Int)) == (b3 && decide (x2.Seq > h.Seq)), ()) = (true, ())))) →
                R0 ((l1, (x2, ()), ()), b3, i4, ())) →
            R0 (([], ({ Id := { Dir := (0 : Int), Origin := (0 : Int), Kind := (0 : Int), Nr := (0 : Int) : TieId }, Seq := (0 : Int), Life := (0 : Int) : Head }, ()), ()), false, (0 : Int), ())) := by kernel_rfl

end Go.Proofs.Yticlpjjkjpabmaa

namespace Go.Proofs.Yticlpjjkjpabmaa
open Go Go.X Go.Proofs Go.Sort
set_option maxRecDepth 100000

theorem loop_nat {β : Type} (N : Nat) (R : β → Nat → Prop) (inv : β → Prop) (step : ∀ i b, inv b → (∀ b', i < N → inv b' → R b' (i + 1)) → R b i) : ∀ b, inv b → ∀ i, R b i := by
  have key : ∀ (n i : Nat) (b : β), N - i ≤ n → inv b → R b i := by
    intro n
    induction n with
    | zero => exact fun i b h hb => step i b hb fun b' hi _ => by omega
    | succ n ih => exact fun i b h hb => step i b hb fun b' hi hb' => ih (i + 1) b' (by omega) hb'
  exact fun b hb i => key _ i b (Nat.le_refl _) hb

theorem farI_self (a : Int) : farI a a = false := by simp [farI]
theorem newI_pos {a b : Head} (h : a.Life = b.Life) : 0 < newI a b ↔ b.Seq < a.Seq := by
  unfold newI
  rw [h, farI_self]
  split
  · unfold cmpI; split
    · omega
    · split <;> omega
  · simp; omega
theorem newI_np {a b : Head} (h : a.Life = b.Life) : newI a b ≤ 0 ↔ ¬ b.Seq < a.Seq := by rw [← newI_pos h]; omega

def askInv (h : Head) (st : List (TieId × EntHead) × Head × Bool) : Prop :=
  st = ([], ⟨⟨0, 0, 0, 0⟩, 0, 0⟩, false) ∨ ∃ x : Head, x.Id = h.Id ∧ x.Life = h.Life ∧ st = ([(h.Id, ⟨x, -1⟩)], x, true)

theorem mput_nil {β : Type} (k : TieId) (v : β) : mput idLt k v [] = [(k, v)] := rfl
theorem mput_one {β : Type} (k : TieId) (v v' : β) : mput idLt k v' [(k, v)] = [(k, v')] := by simp [mput, mdel, mins]
theorem askF_nil (x : Head) : askF x [] = [(x.Id, ⟨x, -1⟩)] := rfl
theorem askF_one (x y : Head) (hi : y.Id = x.Id) (hl : x.Life = y.Life) : askF x [(y.Id, ⟨y, -1⟩)] = if y.Seq < x.Seq then [(y.Id, ⟨x, -1⟩)] else [(y.Id, ⟨y, -1⟩)] := by
  unfold askF
  simp only [mget, hi, if_true]
  simp only [newI_pos hl, mput_one]

theorem askInv_step {h : Head} {l1 : List (TieId × EntHead)} {x2 : Head} {b3 : Bool} (hi : askInv h (l1, x2, b3)) (q : Int) :
    ((!b3 || decide (q > x2.Seq)) = true → askInv h (askF ⟨h.Id, q, h.Life⟩ l1, ⟨h.Id, q, h.Life⟩, true)) ∧ ((!b3 || decide (q > x2.Seq)) = false → askInv h (askF ⟨h.Id, q, h.Life⟩ l1, x2, b3)) := by
  rcases hi with hi | ⟨x, e1, e2, hi⟩
  · cases hi
    exact ⟨fun _ => .inr ⟨⟨h.Id, q, h.Life⟩, rfl, rfl, rfl⟩, fun e => by simp at e⟩
  · cases hi
    have e := askF_one ⟨h.Id, q, h.Life⟩ x2 e1 e2.symm
    rw [e1] at e
    rw [e]
    refine ⟨fun e => ?_, fun e => ?_⟩
    · have : x2.Seq < q := by simpa using e
      rw [if_pos this]
      exact .inr ⟨⟨h.Id, q, h.Life⟩, rfl, rfl, rfl⟩
    · have : ¬ x2.Seq < q := by simpa using e
      rw [if_neg this]
      exact .inr ⟨x2, e1, e2, rfl⟩
end Go.Proofs.Yticlpjjkjpabmaa

namespace Go.Proofs.Yticlpjjkjpabmaa
open Go Go.X Go.Proofs Go.Sort
set_option maxRecDepth 100000

theorem badT5 : badT 5 = false := by decide
theorem tErr5 : tErr 5 = 0 := by decide
theorem tOutA5 (x : Head) (k : TieId) : tOutA 5 [(k, ⟨x, -1⟩)] = [x] := by
  simp only [tOutA, badT5, Bool.false_eq_true, if_false, outsA]
  simp [isDue]
theorem tickA5 (x : Head) (k : TieId) : tickA 5 [(k, ⟨x, -1⟩)] = [(k, ⟨x, 5⟩)] := by
  simp only [tickA, badT5, Bool.false_eq_true, if_false]
  simp [turnA, isDue]
theorem gotF_one (h x : Head) (t : Int) (hl : x.Life = h.Life) : gotF h [(h.Id, ⟨x, t⟩)] = if h.Seq < x.Seq then [(h.Id, ⟨x, t⟩)] else [] := by
  unfold gotF
  simp only [mget, if_true]
  by_cases hs : h.Seq < x.Seq
  · rw [if_pos hs, if_neg (by rw [newI_np hl]; simpa using hs)]
  · rw [if_neg hs, if_pos (by rw [newI_np hl]; exact hs)]
    simp [mdel]

theorem k_asks (l : List Head) (h : Head) : w_asks l h := by
  rw [nf_asks]
  refine ⟨⟨trivial⟩, ⟨trivial⟩, ⟨id⟩, ⟨fun _ => rfl⟩, ?_⟩
  intro R hR
  refine loop_nat 100 (fun (b : List (TieId × EntHead) × Head × Bool) i => R ((b.1, (b.2.1, ()), ()), b.2.2, (i : Int), ())) (askInv h) ?_ ([], ⟨⟨0, 0, 0, 0⟩, 0, 0⟩, false) (.inl rfl) 0
  rintro i ⟨l1, x2, b3⟩ hinv next
  have hst := fun q => askInv_step hinv q
  apply hR
  refine ⟨⟨id⟩, ⟨id⟩, ?_⟩
  rw [cnd_iff]
  refine ⟨fun hc => ?_, fun _ => ?_⟩
  · simp only [Bool.and_eq_true, decide_eq_true_eq] at hc
    have hi : i < 100 := by omega
    refine ⟨⟨by omega, hc.1⟩, ⟨trivial⟩, ⟨id⟩, ⟨id⟩, ⟨id⟩, ⟨id⟩, ⟨fun e => by rw [e]; rfl⟩, ?_⟩
    rw [cnd_iff, wrap_nat (by omega)]
    exact ⟨fun e => ⟨⟨rfl⟩, ⟨rfl⟩, ⟨rfl⟩, next (askF ⟨h.Id, _, h.Life⟩ l1, ⟨h.Id, _, h.Life⟩, true) hi ((hst _).1 e)⟩, fun e => ⟨⟨rfl⟩, ⟨rfl⟩, ⟨rfl⟩, next (askF ⟨h.Id, _, h.Life⟩ l1, x2, b3) hi ((hst _).2 e)⟩⟩
  · rcases hinv with hinv | ⟨x, e1, e2, hinv⟩
    · cases hinv
      have hg : gotF h (tickA 5 []) = [] := rfl
      have ho : tOutA 5 [] = [] := rfl
      simp only [tErr5, ho, hg]
      refine ⟨⟨⟨by decide, by decide⟩, by decide, by decide⟩, ⟨id⟩, ⟨id⟩, ⟨id⟩, ⟨id⟩, ⟨fun _ => rfl⟩, ⟨id⟩, ⟨id⟩, ⟨fun e => by simp at e⟩, ⟨id⟩, ⟨id⟩, ⟨id⟩, ⟨id⟩, ⟨fun _ e => by cases e⟩, ⟨fun _ => rfl⟩, ?_⟩
      rw [cnd_iff]
      exact ⟨fun e => by simp at e, fun _ => ⟨⟨trivial⟩, ⟨trivial⟩, ⟨id⟩, ⟨id⟩, ⟨id⟩, ⟨id⟩, ⟨id⟩, ⟨by simp⟩⟩⟩
    · cases hinv
      simp only [tErr5, tOutA5, tickA5, gotF_one h x2 5 e2]
      have hr : Rise [(h.Id, (⟨x2, -1⟩ : EntHead))] := by simp [Rise]
      refine ⟨⟨⟨by decide, by decide⟩, hr, by simp⟩, ⟨id⟩, ⟨id⟩, ⟨id⟩, ⟨id⟩, ⟨fun _ => rfl⟩, ⟨id⟩, ⟨id⟩, ⟨fun _ => ⟨by omega, by simp⟩⟩, ⟨id⟩, ⟨id⟩, ⟨id⟩, ⟨id⟩, ⟨fun _ _ => rfl⟩, ⟨fun _ => rfl⟩, ?_⟩
      rw [cnd_iff]
      refine ⟨fun e => by simp at e, fun _ => ⟨⟨trivial⟩, ⟨trivial⟩, ⟨id⟩, ⟨id⟩, ⟨id⟩, ⟨id⟩, ⟨id⟩, ⟨?_⟩⟩⟩
      by_cases hs : h.Seq < x2.Seq
      · simp [hs]
      · simp [hs]
theorem p4 : PureOk Try.prog 4 [.sl .head, .tc .head] (fun _ => True) [.tc .bool] (fun _ => (true, ())) :=
  pure_of_exec ok10 (L := loopsOf Try.prog l_asks) (fuel := 20) Try.func4 (code := bodyOf Try.f4) (by kernel_rfl) (by kernel_rfl) (rvs := [.tmp 4]) (by kernel_rfl) rfl (by
    rintro ⟨l, h, ⟨⟩⟩ -
    exact k_asks l h)
end Go.Proofs.Yticlpjjkjpabmaa

/- What an argument's reading says of its cells. -/
namespace Go.X
open Go

inductive Lf where
  | int (k : IntKind)
  | bool
  | sl (e : TypeId)

def leafFs (P : Program) (g : TypeId → Option (List Lf)) : Nat → List Field → Option (List Lf)
  | _, [] => some []
  | acc, f :: r => match Nat.beq f.offset acc with
    | false => none
    | true => match g f.type with
      | none => none
      | some s => match Nat.beq (P.cellsOf f.type) s.length with
        | false => none
        | true => match leafFs P g (acc + s.length) r with
          | some q => some (s ++ q)
          | none => none
def leaves (P : Program) : Nat → TypeId → Option (List Lf)
  | 0, _ => none
  | n + 1, t => match P.underlying t with
    | some (.int k) => some [.int k]
    | some .bool => some [.bool]
    | some (.slice e) => some [.sl e]
    | some (.struct fs) => match leafFs P (leaves P n) 0 fs.toList with
      | some ls => match Nat.beq (P.cellsOf t) ls.length with | true => some ls | false => none
      | none => none
    | _ => none

section
variable {H : Type} (enc : TypeId × Value → H) (P : Program) (w : World) (base : Nat) (spare : Nat → Bool) (held : Bool)

def leafOk : Lf → Value → Prop
  | .int k, v => ∃ n, v = .int k n ∧ (Lit.int k n).wf = true
  | .bool, v => ∃ b, v = .bool b
  | .sl e, v => v = .slice none 0 0 ∨ ∃ a len cap, v = .slice (some a) len cap ∧ len ≤ cap ∧ cap ≤ maxLen ∧
      ∀ i, i < len → ∃ cs fuel y, w.cells? base (a.add (i * P.cellsOf e)) (P.cellsOf e) = some cs ∧ DataW.trod enc P w base spare held fuel e cs = some y
def leavesOk : List Lf → List Value → Prop
  | [], [] => True
  | l :: ls, v :: vs => leafOk enc P w base spare held l v ∧ leavesOk ls vs
  | _, _ => False

variable {enc P w base spare held}

theorem leavesOk_append {ls ms : List Lf} {vs us : List Value} (h : leavesOk enc P w base spare held ls vs) (h' : leavesOk enc P w base spare held ms us) : leavesOk enc P w base spare held (ls ++ ms) (vs ++ us) := by
  induction ls generalizing vs with
  | nil => cases vs with | nil => exact h' | cons _ _ => exact h.elim
  | cons l ls ih => cases vs with | nil => exact h.elim | cons v vs => exact ⟨h.1, ih h.2⟩

theorem leafFs_ok {fuel n : Nat} (ih : ∀ t ls cs y, leaves P n t = some ls → DataW.trod enc P w base spare held fuel t cs = some y → leavesOk enc P w base spare held ls cs) (cs : List Value) :
    ∀ (fs : List Field) (acc : Nat) (ls : List Lf) xs, leafFs P (leaves P n) acc fs = some ls → (fs.mapM fun f => DataW.trod enc P w base spare held fuel f.type ((cs.drop f.offset).take (P.cellsOf f.type))) = some xs →
      leavesOk enc P w base spare held ls ((cs.drop acc).take ls.length)
  | [], acc, ls, xs, h, _ => by cases h; simp [leavesOk]
  | f :: r, acc, ls, xs, h, hx => by
    simp only [leafFs] at h
    split at h
    · cases h
    · rename_i ho
      have ho' : f.offset = acc := by simpa using ho
      split at h
      · cases h
      · rename_i s hs
        split at h
        · cases h
        · rename_i hc
          have hc' : P.cellsOf f.type = s.length := by simpa using hc
          split at h
          · rename_i q hq
            cases h
            rw [List.mapM_cons] at hx
            simp only [Option.bind_eq_bind, Option.bind_eq_some_iff] at hx
            obtain ⟨x, hx1, xs', hx2, _⟩ := hx
            have h1 := ih _ _ _ _ hs hx1
            rw [ho', hc'] at h1
            have h2 := leafFs_ok ih cs r (acc + s.length) q xs' hq hx2
            have e : (cs.drop acc).take (s ++ q).length = (cs.drop acc).take s.length ++ (cs.drop (acc + s.length)).take q.length := by
              rw [List.length_append, List.take_add, List.drop_drop]
            rw [e]
            exact leavesOk_append h1 h2
          · cases h

theorem leavesOk_len : ∀ {ls : List Lf} {vs : List Value}, leavesOk enc P w base spare held ls vs → vs.length = ls.length
  | [], [], _ => rfl
  | [], _ :: _, h => h.elim
  | _ :: _, [], h => h.elim
  | l :: ls, v :: vs, h => by simp [leavesOk_len h.2]

theorem leaves_ok : ∀ (n : Nat) (t : TypeId) (ls : List Lf) (fuel : Nat) (cs : List Value) y, leaves P n t = some ls → DataW.trod enc P w base spare held fuel t cs = some y → leavesOk enc P w base spare held ls cs
  | 0, _, _, _, _, _, h, _ => by cases h
  | _ + 1, _, _, 0, _, _, _, h => by simp [DataW.trod] at h
  | n + 1, t, ls, fuel + 1, cs, y, h, hy => by
    unfold leaves at h
    split at h
    · rename_i k hu
      cases h
      unfold DataW.trod at hy
      simp only [hu] at hy
      split at hy <;> simp_all [leavesOk, leafOk]
    · rename_i hu
      cases h
      unfold DataW.trod at hy
      simp only [hu] at hy
      split at hy <;> simp_all [leavesOk, leafOk]
    · rename_i e hu
      cases h
      unfold DataW.trod at hy
      simp only [hu] at hy
      split at hy
      all_goals first
        | (rename_i heq; cases heq; done)
        | (cases hy; done)
        | skip
      · exact ⟨.inl rfl, trivial⟩
      · rename_i heq
        cases heq
        split at hy
        · rename_i hle
          simp only [Option.bind_eq_some_iff] at hy
          obtain ⟨elems, he, _⟩ := hy
          refine ⟨.inr ⟨_, _, _, rfl, hle.2.1, hle.2.2, fun i hi => ?_⟩, trivial⟩
          have : ∀ (l : List Nat) es, (l.mapM fun i => (w.cells? base (Addr.add ‹Addr› (i * P.cellsOf e)) (P.cellsOf e)).bind (DataW.trod enc P w base spare held fuel e)) = some es → ∀ i ∈ l, ∃ cs fuel y, w.cells? base (Addr.add ‹Addr› (i * P.cellsOf e)) (P.cellsOf e) = some cs ∧ DataW.trod enc P w base spare held fuel e cs = some y := by
            intro l
            induction l with
            | nil => intro _ _ i hi; cases hi
            | cons a l ih =>
              intro es h i hi
              rw [List.mapM_cons] at h
              simp only [Option.bind_eq_bind, Option.bind_eq_some_iff] at h
              obtain ⟨x, ⟨cs, h1, h2⟩, xs, h3, _⟩ := h
              rcases List.mem_cons.1 hi with rfl | hi
              · exact ⟨cs, fuel, x, h1, h2⟩
              · exact ih xs h3 i hi
          exact this _ _ he i (List.mem_range.2 hi)
        · cases hy
    · rename_i fs hu
      split at h
      · rename_i ls' hls
        split at h
        · rename_i hc
          cases h
          have hc' : P.cellsOf t = ls.length := by simpa using hc
          unfold DataW.trod at hy
          simp only [hu] at hy
          split at hy
          · rename_i hlen
            rw [Option.map_eq_some_iff] at hy
            obtain ⟨xs, hxs, _⟩ := hy
            have := leafFs_ok (n := n) (fun t ls cs y => leaves_ok n t ls fuel cs y) cs fs.toList 0 ls xs hls hxs
            rw [List.drop_zero, List.take_of_length_le (by omega)] at this
            exact this
          · cases hy
        · cases h
      · cases h
    · cases h

end
end Go.X

/- A law's row: it gives true, and leaves what it was given. -/
namespace Go.X
open Go Go.ChangeShapes Go.WideShapes Go.ChangeAt Go.RowKit

section
variable {H : Type} {enc : TypeId × Value → H} {P : Program}

theorem trodAll_below (hl : laidOutB P = true) {W W' : World} (hb : Below W.heap.size W W') : ∀ (ts : List TypeId) (vs : List Value) (ds : List (DataW H)) (ps : List MemPlace),
    (∀ t ∈ ts, P.readableRec t = true ∧ t < P.types.size) → DataW.TrodAll enc P W 0 (fun _ => true) true ts vs ds ps → (∀ p ∈ ps, p.block < W.heap.size) →
    ∀ sp : Nat → Bool, (∀ p ∈ ps, sp p.block = true) → DataW.TrodAll enc P W' 0 sp true ts vs ds ps
  | [], [], [], _, _, h, _, _, _ => h
  | [], _ :: _, _, _, _, h, _, _, _ => h.elim
  | [], [], _ :: _, _, _, h, _, _, _ => h.elim
  | _ :: _, [], _, _, _, h, _, _, _ => h.elim
  | _ :: _, _ :: _, [], _, _, h, _, _, _ => h.elim
  | t :: ts, v :: vs, d :: ds, ps, hr, h, hlt, sp, hsp => by
    obtain ⟨p, q, h1, h2, rfl⟩ := h
    obtain ⟨r1, r2⟩ := hr t (by simp)
    refine ⟨p, q, WideElems.Trod_stays hl r1 r2 h1 (fun x hx => hb.same (hlt x (by simp [hx]))) (fun x hx => hsp x (by simp [hx])), ?_, rfl⟩
    exact trodAll_below hl hb ts vs ds q (fun t ht => hr t (by simp [ht])) h2 (fun x hx => hlt x (by simp [hx])) sp (fun x hx => hsp x (by simp [hx]))

theorem law_post (hl : laidOutB P = true) {f : Func} {s : ChangeSpec} {apart fresh handsOn again : Bool} {W W' : World} {args : Array Value} {ds gs : List (DataW H)} {before : List MemPlace}
    (hW : DataW.Whole enc P f.params.toList s.vars apart W args.toList ds gs before) (hv : s.vars = []) (hb : Below W.heap.size W W')
    (hr : ∀ t ∈ f.params.toList, P.readableRec t = true ∧ t < P.types.size) {t : TypeId} (hrt : f.resultTypes = #[t]) (ht : P.underlying t = some .bool)
    (hs : s.fn H (ds ++ gs) = { results := [.lit (.bool true)], args := ds }) : s.post enc P f apart fresh handsOn again W args (.bool true) W' := by
  have hlt := hW.lt
  have hW' := hW
  obtain ⟨p, q, hA, hV, hps, hz, hn⟩ := hW'
  rw [hv] at hV
  obtain ⟨rfl, rfl⟩ := trodVars_none hV
  simp only [List.append_nil] at hps hs
  subst hps
  have hres : ∀ (b : Nat) (sp : Nat → Bool) (hd : Bool), DataW.TrodAll enc P W' b sp hd f.resultTypes.toList ((Value.bool true).resultList f.resultTypes.size) (s.fn H ds).results [] := by
    intro b sp hd
    rw [hs, hrt]
    exact trodAll_mk1 ⟨1, by simp [DataW.trod, ht, Value.cells]⟩
  have hargs : ∀ sp : Nat → Bool, (∀ x ∈ before, sp x.block = true) → DataW.TrodAll enc P W' 0 sp true f.params.toList args.toList (s.fn H ds).args before := by
    intro sp hsp
    rw [hs]
    exact trodAll_below hl hb _ _ _ _ hr hA hlt sp hsp
  have hold : ∀ x ∈ before, (fun b => decide (b < W.heap.size)) x.block = true := fun x hx => by simpa using hlt x hx
  have hvars : ∀ sp : Nat → Bool, DataW.TrodVars enc P W' sp s.vars (s.fn H ds).vars [] := by
    intro sp
    rw [hv, hs]
    exact rfl
  refine ⟨ds, [], before, [], before, [], hW, by simpa using hres _ _ _, by simpa using hargs _ hold, by simpa using hvars _, hb.frame _, fun _ => ⟨?_, _, _, [] ++ before, ⟨[] ++ before, [], trodAll_append (hargs _ (fun _ _ => rfl)) (hres _ _ _), hvars _, by simp, ?_, ?_⟩, ?_⟩⟩
  · intro j u r h1 h2
    rw [hrt] at h1 h2
    cases j with
    | zero =>
      simp only [List.getElem?_toArray, List.getElem?_cons_zero, Option.some.injEq] at h1
      have : r = .bool true := by simpa [Value.resultList] using h2.symm
      rw [this, ← h1]
      exact okWide_bool_mk ht true
    | succ j => simp at h1
  · intro b off hp
    have hp' : MemPlace.cell b off ∈ before := by simpa using hp
    rw [hb.frozen (hlt _ hp')]
    exact hz b off hp'
  · intro ha
    simpa using hn ha
  · intro x hx _
    simpa using hx
end
end Go.X

/- What an argument's slice holds. -/
namespace Go.X
open Go
section
variable {H : Type} {enc : TypeId × Value → H} {P : Program} {w : World} {sp : Nat → Bool} {held : Bool}

/-- A list of those that are there, place by place. -/
theorem list_of {α : Type} {p : Nat → α → Prop} : ∀ (n : Nat), (∀ i, i < n → ∃ x, p i x) → ∃ xs : List α, xs.length = n ∧ ∀ i (h : i < xs.length), p i xs[i]
  | 0, _ => ⟨[], rfl, fun i h => by simp at h⟩
  | n + 1, h => by
    obtain ⟨xs, h1, h2⟩ := list_of n fun i hi => h i (by omega)
    obtain ⟨x, hx⟩ := h n (by omega)
    refine ⟨xs ++ [x], by simp [h1], fun i hi => ?_⟩
    by_cases e : i < xs.length
    · rw [List.getElem_append_left e]; exact h2 i e
    · have : i = n := by simp at hi; omega
      subst this
      rw [List.getElem_append_right (by omega)]
      simpa using hx

theorem sl_rel {c : TC} (hk : 0 < c.k) {e : TypeId} (hc : P.cellsOf e = c.k) {v : Value} (h : leafOk enc P w 0 sp held (.sl e) v)
    (hel : ∀ cs fuel y, DataW.trod enc P w 0 sp held fuel e cs = some y → ∃ x : c.den, ∀ κ Im w, AV.rels κ Im w (c.enc x) cs) :
    ∃ xs : List c.den, ∀ κ, AV.rel κ (fun b => b < w.heap.size) w (.rs c xs) v := by
  rcases h with rfl | ⟨a, len, cap, rfl, h1, h2, h3⟩
  · exact ⟨[], fun κ => by simp only [AV.rel]; exact ⟨none, 0, rfl, Nat.le_refl _, fun h => absurd rfl h⟩⟩
  · rw [hc] at h3
    have h4 : ∀ i, i < len → ∃ x : c.den, ∃ cs, w.cells? 0 (a.add (i * c.k)) c.k = some cs ∧ ∀ κ Im w, AV.rels κ Im w (c.enc x) cs := fun i hi => by
      obtain ⟨cs, fuel, y, q1, q2⟩ := h3 i hi
      obtain ⟨x, hx⟩ := hel cs fuel y q2
      exact ⟨x, cs, q1, hx⟩
    obtain ⟨xs, hl, hx⟩ := list_of len h4
    refine ⟨xs, fun κ => ?_⟩
    simp only [AV.rel]
    refine ⟨some a, cap, by rw [hl], by omega, fun hne => ?_⟩
    have h0 : 0 < xs.length := List.length_pos_iff.2 hne
    have cell : ∀ i (h : i < xs.length) (j : Nat), j < c.k → ∀ cs, w.cells? 0 (a.add (i * c.k)) c.k = some cs → w.cell? ((a.add (i * c.k)).add j) = cs[j]? ∧ cs.length = c.k := fun i hi j hj cs hcs => by
      obtain ⟨_, q2, q3⟩ := World.cells?_some hcs
      exact ⟨q3 j hj, q2⟩
    obtain ⟨b, o, spt⟩ := a
    obtain ⟨arr, T, fz, hb, rfl⟩ : ∃ arr T fz, w.heap[b]? = some (.cells arr T fz) ∧ spt = none := by
      obtain ⟨cs, q1, _⟩ := hx 0 h0
      obtain ⟨q2, q3⟩ := cell 0 h0 0 hk cs q1
      simp only [Nat.zero_mul, Addr.add, if_true] at q2
      rw [List.getElem?_eq_getElem (by omega)] at q2
      unfold World.cell? at q2
      simp only at q2
      split at q2
      · rename_i arr T fz hb
        cases spt with
        | none => exact ⟨arr, T, fz, hb, rfl⟩
        | some _ => simp at q2
      · cases q2
    refine ⟨b, o, rfl, (Array.getElem?_eq_some_iff.1 hb).1, arr, T, fz, hb, fun i hi => ?_⟩
    obtain ⟨cs, q1, q2⟩ := hx i hi
    have hadd : ∀ j, ((⟨b, o, none⟩ : Addr).add (i * c.k)).add j = ⟨b, o + i * c.k + j, none⟩ := fun j => by
      unfold Addr.add
      split <;> split <;> simp_all
    have hcs : (arr.toList.drop (o + i * c.k)).take c.k = cs := by
      have hlen := (cell i hi 0 hk cs q1).2
      refine List.ext_getElem? fun j => ?_
      rw [List.getElem?_take]
      by_cases hj : j < c.k
      · obtain ⟨r1, _⟩ := cell i hi j hj cs q1
        rw [hadd] at r1
        rw [if_pos hj, List.getElem?_drop, Array.getElem?_toList, ← r1]
        simp [World.cell?, hb]
      · rw [if_neg hj, List.getElem?_eq_none (by omega)]
    rw [hcs]
    exact q2 _ _ _
end
end Go.X

