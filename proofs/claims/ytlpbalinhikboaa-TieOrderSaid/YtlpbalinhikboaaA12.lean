/- A part of the walk of the tie laws. -/
import Derived.Test.YtlpbalinhikboaaA11
namespace Go.Proofs.Ytlpbalinhikboaa
open Go Go.X Go.Proofs

theorem cmpI_neg (x y : Int) : cmpI x y = - cmpI y x := by
  unfold cmpI
  by_cases h : x < y
  · simp [h, show ¬ y < x from by omega]
  · by_cases h' : y < x
    · simp [h, h']
    · simp [h, h']
theorem far_not (a b : Int) (h : farI a b = true) : farI b a = false := by
  unfold farI at *
  rw [Bool.and_eq_true] at h
  rw [Bool.and_eq_false_iff]
  refine .inl ?_
  have := h.1
  simp at this ⊢
  omega
theorem newI_neg (a b : Head) : newI a b = - newI b a := by
  unfold newI
  by_cases hs : a.Seq = b.Seq
  · simp only [hs, ne_eq, not_true, if_false]
    by_cases h : farI a.Life b.Life = true
    · simp [h, far_not _ _ h]
    · by_cases h' : farI b.Life a.Life = true
      · simp [h, h']
      · simp [h, h']
  · simp only [ne_eq, hs, not_false_iff, if_true, show ¬ b.Seq = a.Seq from fun e => hs e.symm]
    exact cmpI_neg _ _
theorem newI_range (a b : Head) : -1 ≤ newI a b ∧ newI a b ≤ 1 := by
  unfold newI cmpI
  repeat' split
  all_goals omega
theorem newI_self (a : Head) : newI a a = 0 := by have := newI_neg a a; omega
theorem newI_seq (a b : Head) (h : ¬ a.Seq ≤ b.Seq) : newI a b = 1 := by
  unfold newI cmpI
  have h1 : a.Seq ≠ b.Seq := by omega
  have h2 : ¬ a.Seq < b.Seq := by omega
  have h3 : a.Seq > b.Seq := by omega
  simp [h1, h2, h3]

theorem p3 : PureOk Try.prog 3 [Hd, Hd] (fun _ => True) [B] out3 := by
  refine pure_of_exec (E := E5) ok5 (L := L0) (fuel := 20) (n := 37) Try.func3 (code := bodyOf Try.f3) (by kernel_rfl) (by kernel_rfl) (rvs := [.tmp 4]) (by kernel_rfl) rfl ?_
  rintro ⟨a, b, ⟨⟩⟩ -
  rw [show exec E5 L0 20 (bodyOf Try.f3) (startT 37 (avs [Hd, Hd] (a, b, PUnit.unit))) [] (retK E5.P [.tmp 4] [B] (out3 (a, b, PUnit.unit))) = _ from nf3 a b]
  have e1 : IntKind.i64.wrap (0 - newI b a) = newI a b := by
    have := newI_range b a
    rw [wrap64 (by omega) (by omega), newI_neg a b]; omega
  simp only [Ok_iff, imp_self, true_and, implies_true, out8, outN, out3, e1, newI_self, Bool.true_and, BEq.rfl]
  by_cases h : a.Seq ≤ b.Seq
  · simp [h]
  · simp [h, newI_seq a b h]
end Go.Proofs.Ytlpbalinhikboaa
