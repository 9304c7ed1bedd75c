/- A part of the walk of the tie laws. -/
import Derived.Test.YtlpbalinhikboaaA5
namespace Go.Proofs.Ytlpbalinhikboaa
open Go Go.X Go.Proofs

theorem rise_cons (a b : Int) (l : List Int) : rise (a :: b :: l) = if cmpI a b ≠ 0 then cmpI a b else rise l := by
  simp only [rise, cmpI]
  by_cases h : a < b
  · simp [h]
  · by_cases h' : b < a
    · simp [h, h']
    · simp [h, h']

theorem p21 : PureOk Try.prog 21 [Li] rpre [I] out21 :=
  pure_of_exec ok2 (L := L0) (fuel := 20) Try.func21 (code := bodyOf Try.f21) (by kernel_rfl) (by kernel_rfl) (rvs := [.tmp 2]) (by kernel_rfl) rfl (by
    rintro ⟨l, ⟨⟩⟩ hp
    have w1 : IntKind.i64.wrap (0 + 1) = 1 := wrap64 (by omega) (by omega)
    have w2 : IntKind.i64.wrap (0 + 2) = 2 := wrap64 (by omega) (by omega)
    have w3 : IntKind.i64.wrap (2 + 1) = 3 := wrap64 (by omega) (by omega)
    have w4 : IntKind.i64.wrap (2 + 2) = 4 := wrap64 (by omega) (by omega)
    have w5 : IntKind.i64.wrap (4 + 1) = 5 := wrap64 (by omega) (by omega)
    have w6 : IntKind.i64.wrap (4 + 2) = 6 := wrap64 (by omega) (by omega)
    have w7 : IntKind.i64.wrap (6 + 1) = 7 := wrap64 (by omega) (by omega)
    rcases hp with hp | hp
    · match l, hp with
      | [a, b, c, d], _ =>
        refine (nf21a a b c d).mpr ?_
        simp only [Ok_iff, cnd_iff, true_and, w1, w2, w3, out20, out21, rise_cons, bne_iff_ne, ne_eq, bne_eq_false_iff_eq]
        simp (config := { contextual := true }) [rise]
    · match l, hp with
      | [a, b, c, d, e, f, g, h], _ =>
        refine (nf21b a b c d e f g h).mpr ?_
        simp only [Ok_iff, cnd_iff, true_and, w1, w2, w3, w4, w5, w6, w7, out20, out21, rise_cons, bne_iff_ne, ne_eq, bne_eq_false_iff_eq]
        simp (config := { contextual := true }) [rise])

theorem rise_cmp (a b : TieId) : rise [a.Dir, b.Dir, a.Origin, b.Origin, a.Kind, b.Kind, a.Nr, b.Nr] = cmpId a b := by
  have hz : ∀ x y, cmpI x y = 0 ↔ x = y := fun x y => by unfold cmpI; split <;> (try split) <;> omega
  rw [rise_cons, rise_cons, rise_cons, rise_cons, show rise [] = 0 from rfl]
  simp only [cmpId, ne_eq, hz]
  by_cases h1 : a.Dir = b.Dir
  · by_cases h2 : a.Origin = b.Origin
    · by_cases h3 : a.Kind = b.Kind
      · by_cases h4 : a.Nr = b.Nr
        · simp only [h1, h2, h3, h4, not_true, if_false]; exact ((hz _ _).2 rfl).symm
        · simp only [h1, h2, h3, h4, not_true, not_false_iff, if_false, if_true]
      · simp only [h1, h2, h3, not_true, not_false_iff, if_false, if_true]
    · simp only [h1, h2, not_true, not_false_iff, if_false, if_true]
  · simp only [h1, not_false_iff, if_true]

noncomputable def E3 : Env := mkEnv Try.prog tcS [.pure p24 Try.call24, .pure p22 Try.call22, .pure p23 Try.call23, .pure p19 Try.call19, .pure p15 Try.call15, .pure p16 Try.call16, .pure p17 Try.call17, .pure p18 Try.call18,
  .pure p20 Try.call20, .pure p13 Try.call13, .pure p14 Try.call14, .pure p11 Try.call11, .pure p10 Try.call10, .pure p21 Try.call21]
theorem ok3 : EnvOk E3 := mkEnv_ok mixed tcS _
end Go.Proofs.Ytlpbalinhikboaa
