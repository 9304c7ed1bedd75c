/- Each effect is what the model's operation does: the operations that turn nothing. -/
import Derived.Test.YtlpbalinhikboaaX4
import Derived.WalkKit
namespace Go.X
open Go

def Eff.sat (E : Eff) (K : AV → List (Nat × AObj) → Prop) : Prop :=
  match E with
  | .bad => False
  | .ok r u => K r u
  | .req q r u => Ok q ∧ K r u
  | .nd ι q r u => ∀ x : ι, q x → K (r x) (u x)

def updH (H : List AObj) : List (Nat × AObj) → List AObj
  | [] => H
  | (i, o) :: r => updH (H.set i o) r

/-- What stands behind an operation in a state. -/
def Cont (c : Ctx) (κ : Kap) (Im : Nat → Prop) (w : World) (H : List AObj) (K : AV → List (Nat × AObj) → Prop) (k : Value → World → Prop) : Prop :=
  ∀ r u κ' Im' w' y, K r u → Le κ κ' Im Im' w w' → St c κ' Im' w' (updH H u) → AV.rel κ' Im' w' r y → k y w'

section
variable {P : Program} {c : Ctx} {κ : Kap} {Im : Nat → Prop} {w : World} {H : List AObj} {K : AV → List (Nat × AObj) → Prop} {k : Value → World → Prop}

theorem Cont.same (hk : Cont c κ Im w H K k) (hst : St c κ Im w H) {r : AV} {y : Value} (h : K r []) (hr : AV.rel κ Im w r y) : k y w :=
  hk r [] κ Im w y h (Le.refl κ Im w) hst hr

/-- An operation's answer: a value, and the world. -/
def Gives (P : Program) (s : Sem Next) (w : World) (k : Value → World → Prop) : Prop :=
  match s.run P w with
  | .ok (.value v) w' => k v w'
  | .ok .skip w' => k undef w'
  | .ok (.enter f args) w' => Calls P f args w' fun e w'' => ∃ v, e = .returned v ∧ k v w''
  | _ => False

theorem Gives.wp {o : Oper} {a : Act} {next : Act → World → Prop} {Q : Exit → Act → World → Prop} (h : Gives P (execOp a.eval o) w fun y w' => next (a.put o.dst y) w') : o.wp P a w next Q := by
  unfold Oper.wp
  unfold Gives at h
  generalize (execOp a.eval o).run P w = r at *
  cases r with
  | ok n w' =>
    cases n <;> simp only [Oper.upon] at h ⊢ <;> first | exact h | exact h.elim | skip
    exact Calls.mono h fun e w'' he => by obtain ⟨v, rfl, hv⟩ := he; exact hv
  | halt x w' => exact h.elim

theorem gives_value {s : Sem Next} {y : Value} {w' : World} (h : s.run P w = .ok (.value y) w') (hk : k y w') : Gives P s w k := by
  unfold Gives; rw [h]; exact hk
theorem gives_skip {s : Sem Next} {w' : World} (h : s.run P w = .ok .skip w') (hk : k undef w') : Gives P s w k := by
  unfold Gives; rw [h]; exact hk

/-! ### Facts on cells -/

theorem rels_getElem {l : List AV} {ys : List Value} (h : AV.rels κ Im w l ys) {i : Nat} {a : AV} (hi : l[i]? = some a) : ∃ y, ys[i]? = some y ∧ AV.rel κ Im w a y := by
  induction l generalizing ys i with
  | nil => cases hi
  | cons b l ih =>
    simp only [AV.rels] at h
    obtain ⟨y, r, rfl, h2, h3⟩ := h
    cases i with
    | zero => cases hi; exact ⟨y, rfl, h2⟩
    | succ i => exact ih h3 (by simpa using hi)

theorem rels_take {l : List AV} {ys : List Value} (h : AV.rels κ Im w l ys) (n : Nat) : AV.rels κ Im w (l.take n) (ys.take n) := by
  induction l generalizing ys n with
  | nil => simp only [AV.rels] at h; subst h; simp [AV.rels]
  | cons b l ih =>
    simp only [AV.rels] at h
    obtain ⟨y, r, rfl, h2, h3⟩ := h
    cases n with
    | zero => simp [AV.rels]
    | succ n => simp only [List.take_succ_cons, AV.rels]; exact ⟨y, _, rfl, h2, ih h3 n⟩

theorem rels_drop {l : List AV} {ys : List Value} (h : AV.rels κ Im w l ys) (n : Nat) : AV.rels κ Im w (l.drop n) (ys.drop n) := by
  induction l generalizing ys n with
  | nil => simp only [AV.rels] at h; subst h; simp [AV.rels]
  | cons b l ih =>
    have h' := h
    simp only [AV.rels] at h
    obtain ⟨y, r, rfl, h2, h3⟩ := h
    cases n with
    | zero => exact h'
    | succ n => simpa using ih h3 n

theorem rels_map_v (l : List Value) : AV.rels κ Im w (l.map .v) l := by
  induction l with
  | nil => simp [AV.rels]
  | cons a l ih => simp only [List.map_cons, AV.rels]; exact ⟨a, l, rfl, by simp [AV.rel], ih⟩

theorem run_isAgg (t : TypeId) {d : TypeDesc} (h : P.underlying t = some d) : (isAgg t).run P w = .ok (aggB P t) w := by
  unfold isAgg aggB
  simp only [Sem.run_bind, run_underlying h, Result.andThen_ok, h]
  cases d <;> rfl

theorem run_sizeOf' (t : TypeId) {i : TypeInfo} (h : P.info? t = some i) : (sizeOf t).run P w = .ok (szOf P t) w := by
  unfold sizeOf szOf typeInfo
  simp [h]

end
end Go.X
