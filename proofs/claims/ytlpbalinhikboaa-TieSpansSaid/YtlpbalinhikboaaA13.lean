/- A part of the walk of the tie laws. -/
import Derived.Test.YtlpbalinhikboaaA12
namespace Go.Proofs.Ytlpbalinhikboaa
open Go Go.X Go.Proofs
set_option maxHeartbeats 1000000
theorem cmpId_neg (a b : TieId) : cmpId a b = - cmpId b a := by
  unfold cmpId
  by_cases h1 : a.Dir = b.Dir
  · by_cases h2 : a.Origin = b.Origin
    · by_cases h3 : a.Kind = b.Kind
      · simp only [h1, h2, h3, ne_eq, not_true, if_false]; exact cmpI_neg _ _
      · simp only [h1, h2, h3, Ne.symm h3, ne_eq, not_true, not_false_iff, if_false, if_true]; exact cmpI_neg _ _
    · simp only [h1, h2, Ne.symm h2, ne_eq, not_true, not_false_iff, if_false, if_true]; exact cmpI_neg _ _
  · simp only [h1, Ne.symm h1, ne_eq, not_false_iff, if_true]; exact cmpI_neg _ _
theorem cmpId_range (a b : TieId) : -1 ≤ cmpId a b ∧ cmpId a b ≤ 1 := by
  unfold cmpId cmpI
  repeat' split
  all_goals omega
theorem cmpId_gt (a b : TieId) : cmpId a b > 0 ↔ (a.Dir > b.Dir ∨ (a.Dir = b.Dir ∧ (a.Origin > b.Origin ∨ (a.Origin = b.Origin ∧ (a.Kind > b.Kind ∨ (a.Kind = b.Kind ∧ a.Nr > b.Nr)))))) := by
  unfold cmpId cmpI
  repeat' split
  all_goals omega
theorem cmpId_le (a b : TieId) : cmpId a b ≤ 0 ↔ ¬ (a.Dir > b.Dir ∨ (a.Dir = b.Dir ∧ (a.Origin > b.Origin ∨ (a.Origin = b.Origin ∧ (a.Kind > b.Kind ∨ (a.Kind = b.Kind ∧ a.Nr > b.Nr)))))) := by
  rw [← cmpId_gt]; omega
theorem cmpId_zero (a b : TieId) : cmpId a b = 0 ↔ (a.Dir = b.Dir ∧ a.Origin = b.Origin ∧ a.Kind = b.Kind ∧ a.Nr = b.Nr) := by
  unfold cmpId cmpI
  repeat' split
  all_goals omega
theorem after_is (a : TieId) : (afterI a).2 = (rightI a && !(a.Dir == 2 && (a.Origin == 1000 && (a.Kind == 4 && a.Nr == 65535)))) := by
  by_cases h : rightI a = true
  · have hr := (right_iff a).1 h
    simp only [afterI, h, if_true, Bool.true_and]
    rw [Bool.eq_iff_iff]
    simp only [Bool.not_eq_true', Bool.and_eq_false_iff, beq_eq_false_iff_ne, ne_eq]
    repeat' split
    all_goals simp only [Bool.false_eq_true, true_iff, false_iff]
    all_goals omega
  · simp only [Bool.not_eq_true] at h
    simp [afterI, h]
theorem p5 : PureOk Try.prog 5 [T, T, T] (fun _ => True) [B] out5 := by
  refine pure_of_exec (E := E5) ok5 (L := L0) (fuel := 20) (n := 47) Try.func5 (code := bodyOf Try.f5) (by kernel_rfl) (by kernel_rfl) (rvs := [.tmp 6]) (by kernel_rfl) rfl ?_
  rintro ⟨a, b, c, ⟨⟩⟩ -
  rw [show exec E5 L0 20 (bodyOf Try.f5) (startT 47 (avs [T, T, T] (a, b, c, PUnit.unit))) [] (retK E5.P [.tmp 6] [B] (out5 (a, b, c, PUnit.unit))) = _ from nf5 a b c]
  have e1 : IntKind.i64.wrap (0 - cmpId b a) = cmpId a b := by
    have := cmpId_range b a
    rw [wrap64 (by omega) (by omega), cmpId_neg a b]; omega
  simp only [Ok_iff, imp_self, true_and, implies_true, out8, outC, out5, e1, Bool.true_and, BEq.rfl, cnd_iff, Bool.not_true, Bool.false_or, bne_self_eq_false]
  have hz : (cmpId a b == 0) = (a.Dir == b.Dir && (a.Origin == b.Origin && (a.Kind == b.Kind && a.Nr == b.Nr))) := by
    rw [Bool.eq_iff_iff]; simp [cmpId_zero]
  rw [hz]
  have hf : (decide (cmpId a b > 0) || decide (cmpId b c > 0) || decide (cmpId a c ≤ 0)) = true := by
    simp only [Bool.or_eq_true, decide_eq_true_eq, cmpId_gt, cmpId_le]; omega
  refine ⟨fun _ => rfl, fun _ => rfl, fun h => by simp at h, fun _ => ⟨fun h => by rw [h]; rfl, fun h => by rw [h]; rfl, congrArg (fun x : Bool => ((x, ()) : Bool × Unit)) hf⟩⟩
theorem p7 : PureOk Try.prog 7 [T] (fun _ => True) [B] out7 := by
  refine pure_of_exec (E := E5) ok5 (L := L0) (fuel := 20) (n := 51) Try.func7 (code := bodyOf Try.f7) (by kernel_rfl) (by kernel_rfl) (rvs := [.tmp 2]) (by kernel_rfl) rfl ?_
  rintro ⟨a, ⟨⟩⟩ -
  rw [show exec E5 L0 20 (bodyOf Try.f7) (startT 51 (avs [T] (a, PUnit.unit))) [] (retK E5.P [.tmp 2] [B] (out7 (a, PUnit.unit))) = _ from nf7 a]
  have k1 : afterI lastI = (zeroI, false) := by decide
  have k2 : afterI ⟨2, 1000, 4, 65535⟩ = (zeroI, false) := k1
  simp only [Ok_iff, imp_self, true_and, implies_true, out8, outC, outA, outL, outF, out19, out7, Bool.true_and, BEq.rfl, cnd_iff, Bool.not_true, Bool.false_or, bne_self_eq_false, lastI, k2]
  have h1 : (afterI a).snd == (rightI a && !(a.Dir == 2 && (a.Origin == 1000 && (a.Kind == 4 && a.Nr == 65535)))) := by rw [after_is]; exact beq_self_eq_true _
  rw [h1]
  by_cases h : rightI a = true
  · have hr := (right_iff a).1 h
    have h2 : cmpId firstI a ≤ 0 := by rw [cmpId_le]; simp only [firstI]; omega
    have h3 : cmpId a ⟨2, 1000, 4, 65535⟩ ≤ 0 := by rw [cmpId_le]; simp only; omega
    simp [h, h2, h3]
  · simp only [Bool.not_eq_true] at h
    simp [h]
theorem cmpId_lt (a b : TieId) : cmpId a b < 0 ↔ (a.Dir < b.Dir ∨ (a.Dir = b.Dir ∧ (a.Origin < b.Origin ∨ (a.Origin = b.Origin ∧ (a.Kind < b.Kind ∨ (a.Kind = b.Kind ∧ a.Nr < b.Nr)))))) := by
  unfold cmpId cmpI
  repeat' split
  all_goals omega
theorem after_false (a : TieId) (h : (afterI a).2 = false) : (afterI a).1 = zeroI := by
  unfold afterI at *
  repeat' split
  all_goals simp_all
theorem after_true (a : TieId) (h : (afterI a).2 = true) : rightI a = true ∧
    ((a.Nr < 65535 ∧ (afterI a).1 = { a with Nr := a.Nr + 1 }) ∨ (a.Nr = 65535 ∧ a.Kind < 4 ∧ (afterI a).1 = { a with Nr := 0, Kind := a.Kind + 1 }) ∨
     (a.Nr = 65535 ∧ a.Kind = 4 ∧ a.Origin < 1000 ∧ (afterI a).1 = { a with Nr := 0, Kind := 1, Origin := a.Origin + 1 }) ∨
     (a.Nr = 65535 ∧ a.Kind = 4 ∧ a.Origin = 1000 ∧ a.Dir < 2 ∧ (afterI a).1 = { Nr := 0, Kind := 1, Origin := 1, Dir := a.Dir + 1 })) := by
  by_cases hr0 : rightI a = true
  · have hr := (right_iff a).1 hr0
    refine ⟨hr0, ?_⟩
    simp only [afterI, hr0, if_true] at h ⊢
    by_cases h1 : a.Nr < 65535
    · simp [h1]
    · have e1 : a.Nr = 65535 := by omega
      by_cases h2 : a.Kind < 4
      · simp [e1, h2]
      · have e2 : a.Kind = 4 := by omega
        by_cases h3 : a.Origin < 1000
        · simp [e1, e2, h3]
        · have e3 : a.Origin = 1000 := by omega
          by_cases h4 : a.Dir < 2
          · simp [e1, e2, e3, h4]
          · simp [e1, e2, e3, h4] at h
  · simp only [Bool.not_eq_true] at hr0
    simp [afterI, hr0] at h
theorem p6 : PureOk Try.prog 6 [T, T] (fun _ => True) [B] out6 := by
  refine pure_of_exec (E := E5) ok5 (L := L0) (fuel := 20) (n := 66) Try.func6 (code := bodyOf Try.f6) (by kernel_rfl) (by kernel_rfl) (rvs := [.tmp 4]) (by kernel_rfl) rfl ?_
  rintro ⟨a, b, ⟨⟩⟩ -
  rw [show exec E5 L0 20 (bodyOf Try.f6) (startT 66 (avs [T, T] (a, b, PUnit.unit))) [] (retK E5.P [.tmp 4] [B] (out6 (a, b, PUnit.unit))) = _ from nf6 a b]
  simp only [Ok_iff, imp_self, true_and, implies_true, out8, outC, outA, outL, outF, out19, out6, Bool.true_and, BEq.rfl, cnd_iff, Bool.not_true, Bool.false_or, bne_self_eq_false, lastI]
  refine ⟨fun _ => rfl, fun h => ?_, fun h => ?_⟩
  · simp only [Bool.not_eq_true'] at h
    have hz := after_false a h
    have hl := after_is a
    rw [h] at hl
    rw [hz]
    simp only [zeroI]
    by_cases hr : rightI a = true
    · rw [hr, Bool.true_and] at hl
      have hl' : (a.Dir == 2 && (a.Origin == 1000 && (a.Kind == 4 && a.Nr == 65535))) = true := by simpa using hl.symm
      rw [hl']
      refine ⟨fun _ h => by simp at h, ?_⟩
      simp
    · simp only [Bool.not_eq_true] at hr
      refine ⟨fun _ h => by rw [h]; simp, ?_⟩
      simp [hr]
  · simp only [Bool.not_eq_false'] at h
    obtain ⟨hr0, hc⟩ := after_true a h
    have hr := (right_iff a).1 hr0
    have f1 : cmpId a (afterI a).1 < 0 := by
      rw [cmpId_lt]
      rcases hc with ⟨_, e⟩ | ⟨_, _, e⟩ | ⟨_, _, _, e⟩ | ⟨_, _, _, _, e⟩ <;> rw [e] <;> simp <;> omega
    have f2 : cmpId (afterI a).1 ⟨2, 1000, 4, 65535⟩ ≤ 0 := by
      rw [cmpId_le]
      rcases hc with ⟨_, e⟩ | ⟨_, _, e⟩ | ⟨_, _, _, e⟩ | ⟨_, _, _, _, e⟩ <;> rw [e] <;> simp only <;> omega
    have f3 : ¬ (cmpId a b < 0 ∧ cmpId b (afterI a).1 < 0 ∧ rightI b = true) := by
      rintro ⟨g1, g2, g3⟩
      have gb := (right_iff b).1 g3
      rw [cmpId_lt] at g1 g2
      rcases hc with ⟨_, e⟩ | ⟨_, _, e⟩ | ⟨_, _, _, e⟩ | ⟨_, _, _, _, e⟩ <;> rw [e] at g2 <;> simp only at g2 <;> omega
    have f4 : (!(decide (cmpId a b < 0) && decide (cmpId b (afterI a).fst < 0)) || !rightI b) = true := by
      rw [Bool.eq_iff_iff]
      simp only [Bool.or_eq_true, Bool.not_eq_true', Bool.and_eq_false_iff, decide_eq_false_iff_not, iff_true]
      by_cases g1 : cmpId a b < 0
      · by_cases g2 : cmpId b (afterI a).1 < 0
        · right
          cases hb : rightI b with
          | false => rfl
          | true => exact absurd ⟨g1, g2, hb⟩ f3
        · exact .inl (.inr g2)
      · exact .inl (.inl g1)
    have f1' : decide (cmpId a (afterI a).1 < 0) = true := by simpa using f1
    have f2' : decide (cmpId (afterI a).1 ⟨2, 1000, 4, 65535⟩ ≤ 0) = true := by simpa using f2
    refine ⟨fun _ h => ?_, ?_⟩
    · simp only [Bool.not_eq_false'] at h
      exact Bool.and_eq_true_iff.2 ⟨f1', by rw [Bool.not_not]; exact h⟩
    · have hall : (decide (cmpId a (afterI a).1 < 0) && (!(decide (cmpId a b < 0) && decide (cmpId b (afterI a).fst < 0)) || !rightI b) && decide (cmpId (afterI a).1 ⟨2, 1000, 4, 65535⟩ ≤ 0)) = true := by
        rw [f1', f4, f2']; rfl
      exact congrArg (fun x : Bool => ((x, ()) : Bool × Unit)) hall
end Go.Proofs.Ytlpbalinhikboaa
