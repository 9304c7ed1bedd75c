/- A part of the walk of the tie laws. -/
import Derived.Test.YtlpbalinhikboaaA3
namespace Go.Proofs.Ytlpbalinhikboaa
open Go Go.X Go.Proofs

theorem wrap64 {n : Int} (h1 : -(2 ^ 63) ≤ n) (h2 : n < 2 ^ 63) : IntKind.i64.wrap n = n := by
  simp [IntKind.wrap, IntKind.bits, IntKind.signed]
  omega

theorem p20 : PureOk Try.prog 20 [I, I] (fun _ => True) [I] out20 :=
  pure_of_exec ok1 (L := L0) (fuel := 20) Try.func20 (code := bodyOf Try.f20) (by kernel_rfl) (by kernel_rfl) (rvs := [.tmp 4]) (by kernel_rfl) rfl (by
    rintro ⟨a, b, ⟨⟩⟩ -
    refine (nf20 a b).mpr ?_
    simp only [cnd_iff, Ok_iff, out20, cmpI, decide_eq_true_eq, decide_eq_false_iff_not, true_and]
    refine ⟨fun h => by simp [h], fun h => ⟨fun h' => by simp [h, h'], fun h' => by simp [h, h']⟩⟩)

theorem p13 : PureOk Try.prog 13 [T, T] (fun _ => True) [I] outC :=
  pure_of_exec ok1 (L := L0) (fuel := 20) Try.func13 (code := bodyOf Try.f13) (by kernel_rfl) (by kernel_rfl) (rvs := [.tmp 4]) (by kernel_rfl) rfl (by
    rintro ⟨a, b, ⟨⟩⟩ -
    refine (nf13 a b).mpr ?_
    simp only [cnd_iff, Ok_iff, out20, outC, cmpId, bne_iff_ne, ne_eq, bne_eq_false_iff_eq, true_and]
    refine ⟨fun h => by simp [h], fun h => ⟨fun h1 => by simp [h, h1], fun h1 => ⟨fun h2 => by simp [h, h1, h2], fun h2 => by simp [h, h1, h2]⟩⟩⟩)

theorem p14 : PureOk Try.prog 14 [Hd, Hd] (fun _ => True) [I] outN :=
  pure_of_exec ok1 (L := L0) (fuel := 20) Try.func14 (code := bodyOf Try.f14) (by kernel_rfl) (by kernel_rfl) (rvs := [.tmp 4]) (by kernel_rfl) rfl (by
    rintro ⟨a, b, ⟨⟩⟩ -
    refine (nf14 a b).mpr ?_
    simp only [cnd_iff, Ok_iff, out20, out23, outN, newI, bne_iff_ne, ne_eq, bne_eq_false_iff_eq, true_and]
    refine ⟨fun h => by simp [h], fun h => ⟨fun h1 => by simp [h, h1], fun h1 => ⟨fun h2 => by simp [h, h1, h2], fun h2 => by simp [h, h1, h2]⟩⟩⟩)

theorem right_iff (x : TieId) : rightI x = true ↔ (1 ≤ x.Dir ∧ x.Dir ≤ 2 ∧ 1 ≤ x.Origin ∧ x.Origin ≤ 1000 ∧ 1 ≤ x.Kind ∧ x.Kind ≤ 4 ∧ 0 ≤ x.Nr ∧ x.Nr ≤ 65535) := by
  simp only [rightI, Bool.and_eq_true, decide_eq_true_eq]
  omega

theorem p11 : PureOk Try.prog 11 [T] (fun _ => True) [T, B] outA :=
  pure_of_exec ok1 (L := L0) (fuel := 20) Try.func11 (code := bodyOf Try.f11) (by kernel_rfl) (by kernel_rfl) (rvs := [.cell 2 23, .tmp 3]) (by kernel_rfl) rfl (by
    rintro ⟨a, ⟨⟩⟩ -
    refine (nf11 a).mpr ?_
    simp only [cnd_iff, Ok_iff, out19, outA, true_and, Bool.not_eq_true', Bool.not_eq_false', decide_eq_true_eq, decide_eq_false_iff_not]
    refine ⟨fun h => ?_, fun h => ?_⟩
    · simp only [afterI, h]; rfl
    · have hr := (right_iff a).1 h
      have e1 : IntKind.i64.wrap (a.Nr + 1) = a.Nr + 1 := wrap64 (by omega) (by omega)
      have e2 : IntKind.i64.wrap (a.Kind + 1) = a.Kind + 1 := wrap64 (by omega) (by omega)
      have e3 : IntKind.i64.wrap (a.Origin + 1) = a.Origin + 1 := wrap64 (by omega) (by omega)
      have e4 : IntKind.i64.wrap (a.Dir + 1) = a.Dir + 1 := wrap64 (by omega) (by omega)
      simp only [afterI, h, if_true, e1, e2, e3, e4]
      refine ⟨fun h1 => by simp [h1], fun h1 => ⟨fun h2 => by simp [h1, h2], fun h2 => ⟨fun h3 => by simp [h1, h2, h3], fun h3 => ⟨fun h4 => by simp [h1, h2, h3, h4], fun h4 => by simp [h1, h2, h3, h4, zeroI]⟩⟩⟩⟩)

theorem aft_bad {a : TieId} (h : ¬ (1 ≤ a.Dir ∧ a.Dir ≤ 2 ∧ 1 ≤ a.Origin ∧ a.Origin ≤ 1000 ∧ 1 ≤ a.Kind ∧ a.Kind ≤ 4 ∧ 0 ≤ a.Nr ∧ a.Nr ≤ 65535)) :
    (({ Dir := 0, Origin := 0, Kind := 0, Nr := 0 }, false, ()) : Dat [T, B]) = ((afterI a).1, (afterI a).2, ()) := by
  have : rightI a = false := by
    rw [← right_iff] at h; simpa using h
  simp [afterI, this, zeroI]

set_option maxHeartbeats 2000000 in
theorem p10 : PureOk Try.prog 10 [T] (fun _ => True) [T, B] outA :=
  pure_of_exec ok1 (L := L0) (fuel := 20) Try.func10 (code := bodyOf Try.f10) (by kernel_rfl) (by kernel_rfl) (rvs := [.cell 2 23, .tmp 3]) (by kernel_rfl) rfl (by
    rintro ⟨a, ⟨⟩⟩ -
    refine (nf10 a).mpr ?_
    have w1 : IntKind.i64.wrap (0 + 1) = 1 := wrap64 (by omega) (by omega)
    have w2 : IntKind.i64.wrap (1 + 1) = 2 := wrap64 (by omega) (by omega)
    have w3 : IntKind.i64.wrap (2 + 1) = 3 := wrap64 (by omega) (by omega)
    simp only [Ok_iff, imp_self, true_and, cnd_iff, Bool.not_eq_true', Bool.or_eq_true, Bool.or_eq_false_iff, decide_eq_true_eq, decide_eq_false_iff_not, w1, w2, w3]
    simp only [outF, outL, firstI, lastI, outA]
    refine ⟨by omega, fun h => aft_bad (by omega), fun h1 => ⟨by omega, fun h => aft_bad (by omega), fun h2 => ⟨by omega, fun h => aft_bad (by omega), fun h3 => ⟨by omega, fun h => aft_bad (by omega), fun h4 => ⟨by omega, ?_⟩⟩⟩⟩⟩
    have hr : 1 ≤ a.Dir ∧ a.Dir ≤ 2 ∧ 1 ≤ a.Origin ∧ a.Origin ≤ 1000 ∧ 1 ≤ a.Kind ∧ a.Kind ≤ 4 ∧ 0 ≤ a.Nr ∧ a.Nr ≤ 65535 := by omega
    have h := (right_iff a).2 hr
    have e1 : IntKind.i64.wrap (a.Nr + 1) = a.Nr + 1 := wrap64 (by omega) (by omega)
    have e2 : IntKind.i64.wrap (a.Kind + 1) = a.Kind + 1 := wrap64 (by omega) (by omega)
    have e3 : IntKind.i64.wrap (a.Origin + 1) = a.Origin + 1 := wrap64 (by omega) (by omega)
    have e4 : IntKind.i64.wrap (a.Dir + 1) = a.Dir + 1 := wrap64 (by omega) (by omega)
    simp only [afterI, h, if_true, e1, e2, e3, e4]
    refine ⟨fun h1 => by simp [h1], fun h1 => ⟨by omega, fun h2 => by simp [h1, h2], fun h2 => ⟨by omega, fun h3 => by simp [h1, h2, h3], fun h3 => ⟨by omega, fun h4 => by simp [h1, h2, h3, h4], fun h4 => by simp [h1, h2, h3, h4, zeroI]⟩⟩⟩⟩)

def rpre (d : Dat [Li]) : Prop := d.1.length = 4 ∨ d.1.length = 8
noncomputable def E2 : Env := mkEnv Try.prog tcS [.pure p24 Try.call24, .pure p22 Try.call22, .pure p23 Try.call23, .pure p19 Try.call19, .pure p15 Try.call15, .pure p16 Try.call16, .pure p17 Try.call17, .pure p18 Try.call18,
  .pure p20 Try.call20, .pure p13 Try.call13, .pure p14 Try.call14, .pure p11 Try.call11, .pure p10 Try.call10]
theorem ok2 : EnvOk E2 := mkEnv_ok mixed tcS _
end Go.Proofs.Ytlpbalinhikboaa
