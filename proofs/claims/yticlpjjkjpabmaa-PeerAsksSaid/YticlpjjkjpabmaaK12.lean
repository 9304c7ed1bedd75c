/- Parts of the walks: T4 T5 T6 T7 T8 A3 T9 T10 T11 X36 K11 K12 -/
import Derived.Test.YticlpjjkjpabmaaT3

namespace Go.Proofs.Yticlpjjkjpabmaa
open Go Go.X Go.Proofs
set_option maxRecDepth 100000

theorem wrap64 {n : Int} (h1 : -(2 ^ 63) ≤ n) (h2 : n < 2 ^ 63) : IntKind.i64.wrap n = n := by
  simp [IntKind.wrap, IntKind.bits, IntKind.signed]
  omega

theorem p46 : PureOk Try.prog 46 [I, I] (fun _ => True) [I] out46 :=
  pure_of_exec ok1 (L := L0) (fuel := 20) Try.func46 (code := bodyOf Try.f46) (by kernel_rfl) (by kernel_rfl) (rvs := [.tmp 4]) (by kernel_rfl) rfl (by
    rintro ⟨a, b, ⟨⟩⟩ -
    refine (nf46 a b).mpr ?_
    simp only [cnd_iff, Ok_iff, out46, cmpI, decide_eq_true_eq, decide_eq_false_iff_not, true_and]
    refine ⟨fun h => by simp [h], fun h => ⟨fun h' => by simp [h, h'], fun h' => by simp [h, h']⟩⟩)

theorem p23 : PureOk Try.prog 23 [T, T] (fun _ => True) [I] outC :=
  pure_of_exec ok1 (L := L0) (fuel := 20) Try.func23 (code := bodyOf Try.f23) (by kernel_rfl) (by kernel_rfl) (rvs := [.tmp 4]) (by kernel_rfl) rfl (by
    rintro ⟨a, b, ⟨⟩⟩ -
    refine (nf23 a b).mpr ?_
    simp only [cnd_iff, Ok_iff, out46, outC, cmpId, bne_iff_ne, ne_eq, bne_eq_false_iff_eq, true_and]
    refine ⟨fun h => by simp [h], fun h => ⟨fun h1 => by simp [h, h1], fun h1 => ⟨fun h2 => by simp [h, h1, h2], fun h2 => by simp [h, h1, h2]⟩⟩⟩)

theorem p44 : PureOk Try.prog 44 [Hd, Hd] (fun _ => True) [I] outN :=
  pure_of_exec ok1 (L := L0) (fuel := 20) Try.func44 (code := bodyOf Try.f44) (by kernel_rfl) (by kernel_rfl) (rvs := [.tmp 4]) (by kernel_rfl) rfl (by
    rintro ⟨a, b, ⟨⟩⟩ -
    refine (nf44 a b).mpr ?_
    simp only [cnd_iff, Ok_iff, out46, out60, outN, newI, bne_iff_ne, ne_eq, bne_eq_false_iff_eq, true_and]
    refine ⟨fun h => by simp [h], fun h => ⟨fun h1 => by simp [h, h1], fun h1 => ⟨fun h2 => by simp [h, h1, h2], fun h2 => by simp [h, h1, h2]⟩⟩⟩)

theorem right_iff (x : TieId) : rightI x = true ↔ (1 ≤ x.Dir ∧ x.Dir ≤ 2 ∧ 1 ≤ x.Origin ∧ x.Origin ≤ 1000 ∧ 1 ≤ x.Kind ∧ x.Kind ≤ 4 ∧ 0 ≤ x.Nr ∧ x.Nr ≤ 65535) := by
  simp only [rightI, Bool.and_eq_true, decide_eq_true_eq]
  omega

theorem aft_bad {a : TieId} (h : ¬ (1 ≤ a.Dir ∧ a.Dir ≤ 2 ∧ 1 ≤ a.Origin ∧ a.Origin ≤ 1000 ∧ 1 ≤ a.Kind ∧ a.Kind ≤ 4 ∧ 0 ≤ a.Nr ∧ a.Nr ≤ 65535)) :
    (({ Dir := 0, Origin := 0, Kind := 0, Nr := 0 }, false, ()) : Dat [T, B]) = ((afterI a).1, (afterI a).2, ()) := by
  have : rightI a = false := by
    rw [← right_iff] at h; simpa using h
  simp [afterI, this, zeroI]

set_option maxHeartbeats 2000000 in
theorem p39 : PureOk Try.prog 39 [T] (fun _ => True) [T, B] outA :=
  pure_of_exec ok1 (L := L0) (fuel := 20) Try.func39 (code := bodyOf Try.f39) (by kernel_rfl) (by kernel_rfl) (rvs := [.cell 2 29, .tmp 3]) (by kernel_rfl) rfl (by
    rintro ⟨a, ⟨⟩⟩ -
    refine (nf39 a).mpr ?_
    have w1 : IntKind.i64.wrap (0 + 1) = 1 := wrap64 (by omega) (by omega)
    have w2 : IntKind.i64.wrap (1 + 1) = 2 := wrap64 (by omega) (by omega)
    have w3 : IntKind.i64.wrap (2 + 1) = 3 := wrap64 (by omega) (by omega)
    simp only [Ok_iff, imp_self, true_and, cnd_iff, Bool.not_eq_true', Bool.or_eq_true, Bool.or_eq_false_iff, decide_eq_true_eq, decide_eq_false_iff_not, w1, w2, w3]
    simp only [outF, outL, firstI, lastI, outA]
    refine ⟨by omega, fun h => aft_bad (by omega), fun h1 => ⟨by omega, fun h => aft_bad (by omega), fun h2 => ⟨by omega, fun h => aft_bad (by omega), fun h3 => ⟨by omega, fun h => aft_bad (by omega), fun h4 => ⟨by omega, ?_⟩⟩⟩⟩⟩
    have hr : 1 ≤ a.Dir ∧ a.Dir ≤ 2 ∧ 1 ≤ a.Origin ∧ a.Origin ≤ 1000 ∧ 1 ≤ a.Kind ∧ a.Kind ≤ 4 ∧ 0 ≤ a.Nr ∧ a.Nr ≤ 65535 := by omega
    have h := (right_iff a).2 hr
    have e1 : IntKind.i64.wrap (a.Nr + 1) = a.Nr + 1 := wrap64 (by omega) (by omega)
    have e2 : IntKind.i64.wrap (a.Kind + 1) = a.Kind + 1 := wrap64 (by omega) (by omega)
    have e3 : IntKind.i64.wrap (a.Origin + 1) = a.Origin + 1 := wrap64 (by omega) (by omega)
    have e4 : IntKind.i64.wrap (a.Dir + 1) = a.Dir + 1 := wrap64 (by omega) (by omega)
    simp only [afterI, h, if_true, e1, e2, e3, e4]
    refine ⟨fun h1 => by simp [h1], fun h1 => ⟨by omega, fun h2 => by simp [h1, h2], fun h2 => ⟨by omega, fun h3 => by simp [h1, h2, h3], fun h3 => ⟨by omega, fun h4 => by simp [h1, h2, h3, h4], fun h4 => by simp [h1, h2, h3, h4, zeroI]⟩⟩⟩⟩)

def rpre (d : Dat [Li]) : Prop := d.1.length = 4 ∨ d.1.length = 8
noncomputable def E2 : Env := mkEnv Try.prog tcS [.pure p61 Try.call61, .pure p38 Try.call38, .pure p60 Try.call60, .pure p54 Try.call54, .pure p55 Try.call55,
  .pure p46 Try.call46, .pure p23 Try.call23, .pure p44 Try.call44, .pure p39 Try.call39]
theorem ok2 : EnvOk E2 := mkEnv_ok mixed tcS _
end Go.Proofs.Yticlpjjkjpabmaa

namespace Go.Proofs.Yticlpjjkjpabmaa
open Go Go.X Go.Proofs
set_option maxRecDepth 100000

theorem nf45a (a b c d : Int) : exec E2 L0 20 (bodyOf Try.f45) (startT 25 (avs [Li] ([a, b, c, d], ()))) [] (retK Try.prog [.tmp 2] [I] (out45 ([a, b, c, d], ()))) = (
Ok ((0 : Int) ≤ (0 : Int) ∧ (0 : Int) < ↑[a, b, c, d].length) ∧
  Ok ((0 : Int) ≤ IntKind.i64.wrap ((0 : Int) + (1 : Int)) ∧ IntKind.i64.wrap ((0 : Int) + (1 : Int)) < ↑[a, b, c, d].length) ∧
    Ok True ∧
      cnd ((out46 ([a, b, c, d].getD (Int.toNat (0 : Int)) TC.int.d, [a, b, c, d].getD (IntKind.i64.wrap ((0 : Int) + (1 : Int))).toNat TC.int.d, ())).fst != (0 : Int))
        (Ok (((out46 ([a, b, c, d].getD (Int.toNat (0 : Int)) TC.int.d, [a, b, c, d].getD (IntKind.i64.wrap ((0 : Int) + (1 : Int))).toNat TC.int.d, ())).fst, ()) = out45 ([a, b, c, d], ())))
        (Ok ((0 : Int) ≤ IntKind.i64.wrap ((0 : Int) + (2 : Int)) ∧ IntKind.i64.wrap ((0 : Int) + (2 : Int)) < ↑[a, b, c, d].length) ∧
          Ok ((0 : Int) ≤ IntKind.i64.wrap (IntKind.i64.wrap ((0 : Int) + (2 : Int)) + (1 : Int)) ∧ IntKind.i64.wrap (IntKind.i64.wrap ((0 : Int) + (2 : Int)) + (1 : Int)) < ↑[a, b, c, d].length) ∧
            Ok True ∧
              cnd
                ((out46
                      ([a, b, c, d].getD (IntKind.i64.wrap ((0 : Int) + (2 : Int))).toNat TC.int.d,
                        [a, b, c, d].getD (IntKind.i64.wrap (IntKind.i64.wrap ((0 : Int) + (2 : Int)) + (1 : Int))).toNat TC.int.d, ())).fst !=
                  (0 : Int))
                (Ok
                  (((out46
                          ([a, b, c, d].getD (IntKind.i64.wrap ((0 : Int) + (2 : Int))).toNat TC.int.d,
                            [a, b, c, d].getD (IntKind.i64.wrap (IntKind.i64.wrap ((0 : Int) + (2 : Int)) + (1 : Int))).toNat TC.int.d, ())).fst,
                      ()) =
                    out45 ([a, b, c, d], ())))
                (Ok (((0 : Int), ()) = out45 ([a, b, c, d], ()))))) := by kernel_rfl

theorem nf45b (a b c d e f g h : Int) : exec E2 L0 20 (bodyOf Try.f45) (startT 25 (avs [Li] ([a, b, c, d, e, f, g, h], ()))) [] (retK Try.prog [.tmp 2] [I] (out45 ([a, b, c, d, e, f, g, h], ()))) = (
Ok ((0 : Int) ≤ (0 : Int) ∧ (0 : Int) < ↑[a, b, c, d, e, f, g, h].length) ∧
  Ok ((0 : Int) ≤ IntKind.i64.wrap ((0 : Int) + (1 : Int)) ∧ IntKind.i64.wrap ((0 : Int) + (1 : Int)) < ↑[a, b, c, d, e, f, g, h].length) ∧
    Ok True ∧
      cnd ((out46 ([a, b, c, d, e, f, g, h].getD (Int.toNat (0 : Int)) TC.int.d, [a, b, c, d, e, f, g, h].getD (IntKind.i64.wrap ((0 : Int) + (1 : Int))).toNat TC.int.d, ())).fst != (0 : Int))
        (Ok
          (((out46 ([a, b, c, d, e, f, g, h].getD (Int.toNat (0 : Int)) TC.int.d, [a, b, c, d, e, f, g, h].getD (IntKind.i64.wrap ((0 : Int) + (1 : Int))).toNat TC.int.d, ())).fst, ()) =
            out45 ([a, b, c, d, e, f, g, h], ())))
        (Ok ((0 : Int) ≤ IntKind.i64.wrap ((0 : Int) + (2 : Int)) ∧ IntKind.i64.wrap ((0 : Int) + (2 : Int)) < ↑[a, b, c, d, e, f, g, h].length) ∧
          Ok
              ((0 : Int) ≤ IntKind.i64.wrap (IntKind.i64.wrap ((0 : Int) + (2 : Int)) + (1 : Int)) ∧
                IntKind.i64.wrap (IntKind.i64.wrap ((0 : Int) + (2 : Int)) + (1 : Int)) < ↑[a, b, c, d, e, f, g, h].length) ∧
            Ok True ∧
              cnd
                ((out46
                      ([a, b, c, d, e, f, g, h].getD (IntKind.i64.wrap ((0 : Int) + (2 : Int))).toNat TC.int.d,
                        [a, b, c, d, e, f, g, h].getD (IntKind.i64.wrap (IntKind.i64.wrap ((0 : Int) + (2 : Int)) + (1 : Int))).toNat TC.int.d, ())).fst !=
                  (0 : Int))
                (Ok
                  (((out46
                          ([a, b, c, d, e, f, g, h].getD (IntKind.i64.wrap ((0 : Int) + (2 : Int))).toNat TC.int.d,
                            [a, b, c, d, e, f, g, h].getD (IntKind.i64.wrap (IntKind.i64.wrap ((0 : Int) + (2 : Int)) + (1 : Int))).toNat TC.int.d, ())).fst,
                      ()) =
                    out45 ([a, b, c, d, e, f, g, h], ())))
                (Ok
                    ((0 : Int) ≤ IntKind.i64.wrap (IntKind.i64.wrap ((0 : Int) + (2 : Int)) + (2 : Int)) ∧
                      IntKind.i64.wrap (IntKind.i64.wrap ((0 : Int) + (2 : Int)) + (2 : Int)) < ↑[a, b, c, d, e, f, g, h].length) ∧
                  Ok
                      ((0 : Int) ≤ IntKind.i64.wrap (IntKind.i64.wrap (IntKind.i64.wrap ((0 : Int) + (2 : Int)) + (2 : Int)) + (1 : Int)) ∧
                        IntKind.i64.wrap (IntKind.i64.wrap (IntKind.i64.wrap ((0 : Int) + (2 : Int)) + (2 : Int)) + (1 : Int)) < ↑[a, b, c, d, e, f, g, h].length) ∧
                    Ok True ∧
                      cnd
                        ((out46
                              ([a, b, c, d, e, f, g, h].getD (IntKind.i64.wrap (IntKind.i64.wrap ((0 : Int) + (2 : Int)) + (2 : Int))).toNat TC.int.d,
                                [a, b, c, d, e, f, g, h].getD (IntKind.i64.wrap (IntKind.i64.wrap (IntKind.i64.wrap ((0 : Int) + (2 : Int)) + (2 : Int)) + (1 : Int))).toNat TC.int.d, ())).fst !=
                          (0 : Int))
                        (Ok
                          (((out46
                                  ([a, b, c, d, e, f, g, h].getD (IntKind.i64.wrap (IntKind.i64.wrap ((0 : Int) + (2 : Int)) + (2 : Int))).toNat TC.int.d,
                                    [a, b, c, d, e, f, g, h].getD (IntKind.i64.wrap (IntKind.i64.wrap (IntKind.i64.wrap ((0 : Int) + (2 : Int)) + (2 : Int)) + (1 : Int))).toNat TC.int.d, ())).fst,
                              ()) =
                            out45 ([a, b, c, d, e, f, g, h], ())))
                        (Ok
                            ((0 : Int) ≤ IntKind.i64.wrap (IntKind.i64.wrap (IntKind.i64.wrap ((0 : Int) + (2 : Int)) + (2 : Int)) + (2 : Int)) ∧
                              IntKind.i64.wrap (IntKind.i64.wrap (IntKind.i64.wrap ((0 : Int) + (2 : Int)) + (2 : Int)) + (2 : Int)) < ↑[a, b, c, d, e, f, g, h].length) ∧
                          Ok
                              ((0 : Int) ≤ IntKind.i64.wrap (IntKind.i64.wrap (IntKind.i64.wrap (IntKind.i64.wrap ((0 : Int) + (2 : Int)) + (2 : Int)) + (2 : Int)) + (1 : Int)) ∧
                                IntKind.i64.wrap (IntKind.i64.wrap (IntKind.i64.wrap (IntKind.i64.wrap ((0 : Int) + (2 : Int)) + (2 : Int)) + (2 : Int)) + (1 : Int)) <
                                  ↑[a, b, c, d, e, f, g, h].length) ∧
                            Ok True ∧
                              cnd
                                ((out46
                                      ([a, b, c, d, e, f, g, h].getD (IntKind.i64.wrap (IntKind.i64.wrap (IntKind.i64.wrap ((0 : Int) + (2 : Int)) + (2 : Int)) + (2 : Int))).toNat TC.int.d,
                                        [a, b, c, d, e, f, g, h].getD
                                          (IntKind.i64.wrap (IntKind.i64.wrap (IntKind.i64.wrap (IntKind.i64.wrap ((0 : Int) + (2 : Int)) + (2 : Int)) + (2 : Int)) + (1 : Int))).toNat TC.int.d,
                                        ())).fst !=
                                  (0 : Int))
                                (Ok
                                  (((out46
                                          ([a, b, c, d, e, f, g, h].getD (IntKind.i64.wrap (IntKind.i64.wrap (IntKind.i64.wrap ((0 : Int) + (2 : Int)) + (2 : Int)) + (2 : Int))).toNat TC.int.d,
                                            [a, b, c, d, e, f, g, h].getD
                                              (IntKind.i64.wrap (IntKind.i64.wrap (IntKind.i64.wrap (IntKind.i64.wrap ((0 : Int) + (2 : Int)) + (2 : Int)) + (2 : Int)) + (1 : Int))).toNat TC.int.d,
                                            ())).fst,
                                      ()) =
                                    out45 ([a, b, c, d, e, f, g, h], ())))
                                (Ok (((0 : Int), ()) = out45 ([a, b, c, d, e, f, g, h], ()))))))) := by kernel_rfl
end Go.Proofs.Yticlpjjkjpabmaa

namespace Go.Proofs.Yticlpjjkjpabmaa
open Go Go.X Go.Proofs
set_option maxRecDepth 100000

theorem rise_cons (a b : Int) (l : List Int) : rise (a :: b :: l) = if cmpI a b ≠ 0 then cmpI a b else rise l := by
  simp only [rise, cmpI]
  by_cases h : a < b
  · simp [h]
  · by_cases h' : b < a
    · simp [h, h']
    · simp [h, h']

theorem p45 : PureOk Try.prog 45 [Li] rpre [I] out45 :=
  pure_of_exec ok2 (L := L0) (fuel := 20) Try.func45 (code := bodyOf Try.f45) (by kernel_rfl) (by kernel_rfl) (rvs := [.tmp 2]) (by kernel_rfl) rfl (by
    rintro ⟨l, ⟨⟩⟩ hp
    have w1 : IntKind.i64.wrap (0 + 1) = 1 := wrap64 (by omega) (by omega)
    have w2 : IntKind.i64.wrap (0 + 2) = 2 := wrap64 (by omega) (by omega)
    have w3 : IntKind.i64.wrap (2 + 1) = 3 := wrap64 (by omega) (by omega)
    have w4 : IntKind.i64.wrap (2 + 2) = 4 := wrap64 (by omega) (by omega)
    have w5 : IntKind.i64.wrap (4 + 1) = 5 := wrap64 (by omega) (by omega)
    have w6 : IntKind.i64.wrap (4 + 2) = 6 := wrap64 (by omega) (by omega)
    have w7 : IntKind.i64.wrap (6 + 1) = 7 := wrap64 (by omega) (by omega)
    rcases hp with hp | hp
    · match l, hp with
      | [a, b, c, d], _ =>
        refine (nf45a a b c d).mpr ?_
        simp only [Ok_iff, cnd_iff, true_and, w1, w2, w3, out46, out45, rise_cons, bne_iff_ne, ne_eq, bne_eq_false_iff_eq]
        simp (config := { contextual := true }) [rise]
    · match l, hp with
      | [a, b, c, d, e, f, g, h], _ =>
        refine (nf45b a b c d e f g h).mpr ?_
        simp only [Ok_iff, cnd_iff, true_and, w1, w2, w3, w4, w5, w6, w7, out46, out45, rise_cons, bne_iff_ne, ne_eq, bne_eq_false_iff_eq]
        simp (config := { contextual := true }) [rise])

theorem rise_cmp (a b : TieId) : rise [a.Dir, b.Dir, a.Origin, b.Origin, a.Kind, b.Kind, a.Nr, b.Nr] = cmpId a b := by
  have hz : ∀ x y, cmpI x y = 0 ↔ x = y := fun x y => by unfold cmpI; split <;> (try split) <;> omega
  rw [rise_cons, rise_cons, rise_cons, rise_cons, show rise [] = 0 from rfl]
  simp only [cmpId, ne_eq, hz]
  by_cases h1 : a.Dir = b.Dir
  · by_cases h2 : a.Origin = b.Origin
    · by_cases h3 : a.Kind = b.Kind
      · by_cases h4 : a.Nr = b.Nr
        · simp only [h1, h2, h3, h4, not_true, if_false]; exact ((hz _ _).2 rfl).symm
        · simp only [h1, h2, h3, h4, not_true, not_false_iff, if_false, if_true]
      · simp only [h1, h2, h3, not_true, not_false_iff, if_false, if_true]
    · simp only [h1, h2, not_true, not_false_iff, if_false, if_true]
  · simp only [h1, not_false_iff, if_true]

noncomputable def E3 : Env := mkEnv Try.prog tcS [.pure p61 Try.call61, .pure p38 Try.call38, .pure p60 Try.call60, .pure p54 Try.call54, .pure p55 Try.call55,
  .pure p46 Try.call46, .pure p23 Try.call23, .pure p44 Try.call44, .pure p39 Try.call39, .pure p45 Try.call45]
theorem ok3 : EnvOk E3 := mkEnv_ok mixed tcS _
end Go.Proofs.Yticlpjjkjpabmaa

namespace Go.Proofs.Yticlpjjkjpabmaa
open Go Go.X Go.Proofs
set_option maxRecDepth 100000

theorem nf27 (a b : TieId) : exec E3 L0 20 (bodyOf Try.f27) (startT 23 (avs [T, T] (a, b, ()))) [] (retK E3.P [.tmp 4] [I] (outC (a, b, ()))) = (
Ok (rpre ([a.Dir, b.Dir, a.Origin, b.Origin, a.Kind, b.Kind, a.Nr, b.Nr], ())) ∧ Ok (((out45 ([a.Dir, b.Dir, a.Origin, b.Origin, a.Kind, b.Kind, a.Nr, b.Nr], ())).fst, ()) = outC (a, b, ()))) := by kernel_rfl

theorem nf28 (a b : Head) : exec E3 L0 20 (bodyOf Try.f28) (startT 32 (avs [Hd, Hd] (a, b, ()))) [] (retK E3.P [.tmp 4] [I] (outN (a, b, ()))) = (
Ok True ∧
  cnd
    (decide
      (IntKind.u64.wrap
          (IntKind.u64.wrap (if true = true then if b.Life > a.Life then b.Life else a.Life else if b.Life < a.Life then b.Life else a.Life) -
            IntKind.u64.wrap (if false = true then if b.Life > a.Life then b.Life else a.Life else if b.Life < a.Life then b.Life else a.Life)) ≤
        (300 : Int)))
    (Ok (rpre ([a.Seq, b.Seq, (0 : Int), (0 : Int)], ())) ∧ Ok (((out45 ([a.Seq, b.Seq, (0 : Int), (0 : Int)], ())).fst, ()) = outN (a, b, ())))
    (Ok (rpre ([a.Seq, b.Seq, (out46 (a.Life, b.Life, ())).fst, (0 : Int)], ())) ∧ Ok (((out45 ([a.Seq, b.Seq, (out46 (a.Life, b.Life, ())).fst, (0 : Int)], ())).fst, ()) = outN (a, b, ())))) := by kernel_rfl
end Go.Proofs.Yticlpjjkjpabmaa

namespace Go.Proofs.Yticlpjjkjpabmaa
open Go Go.X Go.Proofs
set_option maxRecDepth 100000

theorem h2_27 (a b : TieId) : (((out45 ([(a, b, ()).fst.Dir, (a, b, ()).snd.fst.Dir, (a, b, ()).fst.Origin, (a, b, ()).snd.fst.Origin, (a, b, ()).fst.Kind, (a, b, ()).snd.fst.Kind, (a, b, ()).fst.Nr, (a, b, ()).snd.fst.Nr], ())).fst, ()) : Dat [I]) = outC (a, b, ()) := by
  simp only [out45]; rw [rise_cmp]; rfl
theorem h1_27 (a b : TieId) : rpre ([(a, b, ()).fst.Dir, (a, b, ()).snd.fst.Dir, (a, b, ()).fst.Origin, (a, b, ()).snd.fst.Origin, (a, b, ()).fst.Kind, (a, b, ()).snd.fst.Kind, (a, b, ()).fst.Nr, (a, b, ()).snd.fst.Nr], ()) := Or.inr rfl
theorem k27 (a b : TieId) : (Ok (rpre ([(a, b, ()).fst.Dir, (a, b, ()).snd.fst.Dir, (a, b, ()).fst.Origin, (a, b, ()).snd.fst.Origin, (a, b, ()).fst.Kind, (a, b, ()).snd.fst.Kind, (a, b, ()).fst.Nr, (a, b, ()).snd.fst.Nr], ())) ∧
  Ok
    (((out45
            ([(a, b, ()).fst.Dir, (a, b, ()).snd.fst.Dir, (a, b, ()).fst.Origin, (a, b, ()).snd.fst.Origin, (a, b, ()).fst.Kind, (a, b, ()).snd.fst.Kind, (a, b, ()).fst.Nr, (a, b, ()).snd.fst.Nr],
              ())).fst,
        ()) =
      outC (a, b, ()))) := And.intro (Ok.mk (h1_27 a b)) (Ok.mk (h2_27 a b))
theorem p27 : PureOk Try.prog 27 [T, T] (fun _ => True) [I] outC := by
  refine pure_of_exec (E := E3) ok3 (L := L0) (fuel := 20) (n := 23) Try.func27 (code := bodyOf Try.f27) (by kernel_rfl) (by kernel_rfl) (rvs := [.tmp 4]) (by kernel_rfl) rfl ?_
  rintro ⟨a, b, ⟨⟩⟩ -
  rw [show exec E3 L0 20 (bodyOf Try.f27) (startT 23 (avs [T, T] (a, b, PUnit.unit))) [] (retK E3.P [.tmp 4] [I] (outC (a, b, PUnit.unit))) = _ from nf27 a b]
  exact k27 a b

theorem cmpI_zero (x y : Int) : cmpI x y = 0 ↔ x = y := by unfold cmpI; split <;> (try split) <;> omega
theorem cmpI_cmpI (x y : Int) : cmpI (cmpI x y) 0 = cmpI x y := by
  unfold cmpI
  by_cases h : x < y
  · simp [h]
  · by_cases h' : y < x
    · simp [h, h']
    · simp [h, h']

theorem p28 : PureOk Try.prog 28 [Hd, Hd] (fun _ => True) [I] outN := by
    refine pure_of_exec (E := E3) ok3 (L := L0) (fuel := 20) (n := 32) Try.func28 (code := bodyOf Try.f28) (by kernel_rfl) (by kernel_rfl) (rvs := [.tmp 4]) (by kernel_rfl) rfl ?_
    rintro ⟨a, b, ⟨⟩⟩ -
    refine cast (nf28 a b).symm ?_
    refine And.intro (Ok.mk trivial) ?_
    rw [cnd_iff]
    simp only [Ok_iff, decide_eq_true_eq, decide_eq_false_iff_not, Bool.false_eq_true, if_true, if_false]
    have hm : ∀ n, rise [a.Seq, b.Seq, n, 0] = if a.Seq ≠ b.Seq then cmpI a.Seq b.Seq else cmpI n 0 := by
      intro n
      rw [rise_cons, rise_cons, show rise [] = 0 from rfl]
      simp only [ne_eq, cmpI_zero]
      by_cases h : a.Seq = b.Seq
      · by_cases h' : n = 0
        · simp only [h, h', not_true, if_false]; exact ((cmpI_zero _ _).2 rfl).symm
        · simp only [h, h', not_true, not_false_iff, if_false, if_true]
      · simp only [h, not_false_iff, if_true]
    simp only [out45, out46, outN, newI, hm, cmpI_cmpI]
    refine ⟨fun h => ⟨.inl rfl, ?_⟩, fun h => ⟨.inl rfl, ?_⟩⟩
    · by_cases hs : a.Seq = b.Seq
      · simp only [hs, ne_eq, not_true, if_false]
        have f901 : farI a.Life b.Life = false := by
          unfold farI
          rw [Bool.and_eq_false_iff]
          by_cases hab : a.Life > b.Life
          · have hba : ¬ b.Life > a.Life := by omega
            have hba' : b.Life < a.Life := hab
            simp only [hba, hba', if_true, if_false] at h
            exact .inr (by simpa using h)
          · exact .inl (by simpa using hab)
        have f902 : farI b.Life a.Life = false := by
          unfold farI
          rw [Bool.and_eq_false_iff]
          by_cases hab : b.Life > a.Life
          · have hba : ¬ b.Life < a.Life := by omega
            simp only [hba, hab, if_true, if_false] at h
            exact .inr (by simpa using h)
          · exact .inl (by simpa using hab)
        simp [f901, f902, cmpI]
      · simp only [hs, ne_eq, not_false_iff, if_true]
    · by_cases hs : a.Seq = b.Seq
      · simp only [hs, ne_eq, not_true, if_false]
        by_cases hab : a.Life > b.Life
        · have hba : ¬ b.Life > a.Life := by omega
          have hba' : b.Life < a.Life := hab
          simp only [hba, hba', if_true, if_false] at h
          have f901 : farI a.Life b.Life = true := by
            unfold farI; rw [Bool.and_eq_true]; exact ⟨by simpa using hab, by simpa using h⟩
          simp only [f901, if_true]
          simp [cmpI, hab, show ¬ a.Life < b.Life from by omega]
        · by_cases hba : b.Life > a.Life
          · have hba' : ¬ b.Life < a.Life := by omega
            simp only [hba, hba', if_true, if_false] at h
            have f901 : farI a.Life b.Life = false := by
              unfold farI; rw [Bool.and_eq_false_iff]; exact .inl (by simpa using hab)
            have f902 : farI b.Life a.Life = true := by
              unfold farI; rw [Bool.and_eq_true]; exact ⟨by simpa using hba, by simpa using h⟩
            simp only [f901, f902, if_true, Bool.false_eq_true, if_false]
            simp [cmpI, show a.Life < b.Life from hba]
          · exfalso
            have e : a.Life = b.Life := by omega
            apply h
            simp [e, IntKind.wrap, IntKind.signed]
      · simp only [hs, ne_eq, not_false_iff, if_true]

noncomputable def E4 : Env := mkEnv Try.prog tcS [.pure p60 Try.call60, .pure p54 Try.call54, .pure p55 Try.call55,
  .pure p23 Try.call23, .pure p44 Try.call44, .pure p39 Try.call39, .pure p27 Try.call27, .pure p28 Try.call28]
theorem ok4 : EnvOk E4 := mkEnv_ok mixed tcS _
def out908 (_ : Dat []) : Dat [B] := (true, ())
end Go.Proofs.Yticlpjjkjpabmaa

namespace Go.Proofs.Yticlpjjkjpabmaa
open Go Go.X Go.Proofs Go.Shelf
set_option maxRecDepth 100000

def sortH_ren : Go.Shelf.Ren := ⟨fun | 6 => 58 | 15 => 68 | 14 => 67 | 28 => 79 | 29 => 80 | 20 => 71 | 21 => 72 | 22 => 73 | 23 => 74 | 24 => 75 | 25 => 76 | 26 => 77 | 27 => 78 | 46 => 89 | 47 => 90 | 48 => 91 | 49 => 92 | 50 => 93 | 57 => 97 | n => n, fun | 22 => 30 | 24 => 38 | 25 => 56 | 3 => 3 | 39 => 114 | 0 => 0 | 53 => 126 | 55 => 82 | 4 => 4 | 46 => 119 | 45 => 118 | 50 => 123 | 5 => 5 | 9 => 9 | 66 => 133 | 70 => 95 | 76 => 140 | 77 => 34 | n => n, fun | n => n⟩
theorem sortH : SlLaysF0.n6 Try.prog sortH_ren := {
  mixed := by kernel_rfl
  f6 := ⟨Try.f58.name, by kernel_rfl, Try.func58.trans (congrArg some (by kernel_rfl))⟩
  f14 := ⟨Try.f67.name, by kernel_rfl, Try.func67.trans (congrArg some (by kernel_rfl))⟩
  f15 := Try.func68.trans (congrArg some (by kernel_rfl))
  f20 := ⟨Try.f71.name, by kernel_rfl, Try.func71.trans (congrArg some (by kernel_rfl))⟩
  f21 := ⟨Try.f72.name, by kernel_rfl, Try.func72.trans (congrArg some (by kernel_rfl))⟩
  f22 := ⟨Try.f73.name, by kernel_rfl, Try.func73.trans (congrArg some (by kernel_rfl))⟩
  f23 := ⟨Try.f74.name, by kernel_rfl, Try.func74.trans (congrArg some (by kernel_rfl))⟩
  f24 := ⟨Try.f75.name, by kernel_rfl, Try.func75.trans (congrArg some (by kernel_rfl))⟩
  f25 := ⟨Try.f76.name, by kernel_rfl, Try.func76.trans (congrArg some (by kernel_rfl))⟩
  f26 := ⟨Try.f77.name, by kernel_rfl, Try.func77.trans (congrArg some (by kernel_rfl))⟩
  f27 := ⟨Try.f78.name, by kernel_rfl, Try.func78.trans (congrArg some (by kernel_rfl))⟩
  f28 := Try.func79.trans (congrArg some (by kernel_rfl))
  f29 := Try.func80.trans (congrArg some (by kernel_rfl))
  f46 := ⟨Try.f89.name, by kernel_rfl, Try.func89.trans (congrArg some (by kernel_rfl))⟩
  f47 := Try.func90.trans (congrArg some (by kernel_rfl))
  f48 := Try.func91.trans (congrArg some (by kernel_rfl))
  f49 := ⟨Try.f92.name, by kernel_rfl, Try.func92.trans (congrArg some (by kernel_rfl))⟩
  f50 := ⟨Try.f93.name, by kernel_rfl, Try.func93.trans (congrArg some (by kernel_rfl))⟩
  f57 := ⟨Try.f97.name, by kernel_rfl, Try.func97.trans (congrArg some (by kernel_rfl))⟩
  t0 := Try.underlying0
  a0 := Try.isAgg0
  z0 := Try.sizeOf0
  v0 := Try.zeroValue0
  t3 := Try.underlying3
  a3 := Try.isAgg3
  z3 := Try.sizeOf3
  v3 := Try.zeroValue3
  t4 := Try.underlying4
  a4 := Try.isAgg4
  z4 := Try.sizeOf4
  v4 := Try.zeroValue4
  t5 := Try.underlying5
  a5 := Try.isAgg5
  z5 := Try.sizeOf5
  v5 := Try.zeroValue5
  t9 := Try.underlying9
  a9 := Try.isAgg9
  z9 := Try.sizeOf9
  v9 := Try.zeroValue9
  t22 := Try.underlying30
  a22 := Try.isAgg30
  z22 := Try.sizeOf30
  v22 := Try.zeroValue30
  t25 := Try.underlying56
  a25 := Try.isAgg56
  z25 := Try.sizeOf56
  v25 := Try.zeroValue56
  t39 := Try.underlying114
  a39 := Try.isAgg114
  z39 := Try.sizeOf114
  v39 := Try.zeroValue114
  t45 := Try.underlying118
  a45 := Try.isAgg118
  z45 := Try.sizeOf118
  v45 := Try.zeroValue118
  t46 := Try.underlying119
  a46 := Try.isAgg119
  z46 := Try.sizeOf119
  v46 := Try.zeroValue119
  t50 := Try.underlying123
  a50 := Try.isAgg123
  z50 := Try.sizeOf123
  v50 := Try.zeroValue123
  t53 := Try.underlying126
  a53 := Try.isAgg126
  z53 := Try.sizeOf126
  v53 := Try.zeroValue126
  t55 := Try.underlying82
  a55 := Try.isAgg82
  z55 := Try.sizeOf82
  v55 := Try.zeroValue82
  t66 := Try.underlying133
  a66 := Try.isAgg133
  z66 := Try.sizeOf133
  v66 := Try.zeroValue133
  t70 := Try.underlying95
  a70 := Try.isAgg95
  z70 := Try.sizeOf95
  v70 := Try.zeroValue95
  t76 := Try.underlying140
  a76 := Try.isAgg140
  z76 := Try.sizeOf140
  v76 := Try.zeroValue140
  t77 := Try.underlying34
  a77 := Try.isAgg34
  z77 := Try.sizeOf34
  v77 := Try.zeroValue34 }

def sortT_ren : Go.Shelf.Ren := ⟨fun | 6 => 63 | 15 => 68 | 14 => 70 | 28 => 79 | 29 => 80 | 20 => 81 | 21 => 82 | 22 => 83 | 23 => 84 | 24 => 85 | 25 => 86 | 26 => 87 | 27 => 88 | 46 => 94 | 47 => 90 | 48 => 91 | 49 => 95 | 50 => 96 | 57 => 98 | n => n, fun | 22 => 22 | 24 => 29 | 25 => 54 | 3 => 3 | 39 => 114 | 0 => 0 | 53 => 126 | 55 => 82 | 4 => 4 | 46 => 119 | 45 => 118 | 50 => 123 | 5 => 5 | 9 => 9 | 66 => 133 | 70 => 95 | 76 => 140 | 77 => 34 | n => n, fun | n => n⟩
theorem sortT : SlLaysF0.n6 Try.prog sortT_ren := {
  mixed := by kernel_rfl
  f6 := ⟨Try.f63.name, by kernel_rfl, Try.func63.trans (congrArg some (by kernel_rfl))⟩
  f14 := ⟨Try.f70.name, by kernel_rfl, Try.func70.trans (congrArg some (by kernel_rfl))⟩
  f15 := Try.func68.trans (congrArg some (by kernel_rfl))
  f20 := ⟨Try.f81.name, by kernel_rfl, Try.func81.trans (congrArg some (by kernel_rfl))⟩
  f21 := ⟨Try.f82.name, by kernel_rfl, Try.func82.trans (congrArg some (by kernel_rfl))⟩
  f22 := ⟨Try.f83.name, by kernel_rfl, Try.func83.trans (congrArg some (by kernel_rfl))⟩
  f23 := ⟨Try.f84.name, by kernel_rfl, Try.func84.trans (congrArg some (by kernel_rfl))⟩
  f24 := ⟨Try.f85.name, by kernel_rfl, Try.func85.trans (congrArg some (by kernel_rfl))⟩
  f25 := ⟨Try.f86.name, by kernel_rfl, Try.func86.trans (congrArg some (by kernel_rfl))⟩
  f26 := ⟨Try.f87.name, by kernel_rfl, Try.func87.trans (congrArg some (by kernel_rfl))⟩
  f27 := ⟨Try.f88.name, by kernel_rfl, Try.func88.trans (congrArg some (by kernel_rfl))⟩
  f28 := Try.func79.trans (congrArg some (by kernel_rfl))
  f29 := Try.func80.trans (congrArg some (by kernel_rfl))
  f46 := ⟨Try.f94.name, by kernel_rfl, Try.func94.trans (congrArg some (by kernel_rfl))⟩
  f47 := Try.func90.trans (congrArg some (by kernel_rfl))
  f48 := Try.func91.trans (congrArg some (by kernel_rfl))
  f49 := ⟨Try.f95.name, by kernel_rfl, Try.func95.trans (congrArg some (by kernel_rfl))⟩
  f50 := ⟨Try.f96.name, by kernel_rfl, Try.func96.trans (congrArg some (by kernel_rfl))⟩
  f57 := ⟨Try.f98.name, by kernel_rfl, Try.func98.trans (congrArg some (by kernel_rfl))⟩
  t0 := Try.underlying0
  a0 := Try.isAgg0
  z0 := Try.sizeOf0
  v0 := Try.zeroValue0
  t3 := Try.underlying3
  a3 := Try.isAgg3
  z3 := Try.sizeOf3
  v3 := Try.zeroValue3
  t4 := Try.underlying4
  a4 := Try.isAgg4
  z4 := Try.sizeOf4
  v4 := Try.zeroValue4
  t5 := Try.underlying5
  a5 := Try.isAgg5
  z5 := Try.sizeOf5
  v5 := Try.zeroValue5
  t9 := Try.underlying9
  a9 := Try.isAgg9
  z9 := Try.sizeOf9
  v9 := Try.zeroValue9
  t22 := Try.underlying22
  a22 := Try.isAgg22
  z22 := Try.sizeOf22
  v22 := Try.zeroValue22
  t25 := Try.underlying54
  a25 := Try.isAgg54
  z25 := Try.sizeOf54
  v25 := Try.zeroValue54
  t39 := Try.underlying114
  a39 := Try.isAgg114
  z39 := Try.sizeOf114
  v39 := Try.zeroValue114
  t45 := Try.underlying118
  a45 := Try.isAgg118
  z45 := Try.sizeOf118
  v45 := Try.zeroValue118
  t46 := Try.underlying119
  a46 := Try.isAgg119
  z46 := Try.sizeOf119
  v46 := Try.zeroValue119
  t50 := Try.underlying123
  a50 := Try.isAgg123
  z50 := Try.sizeOf123
  v50 := Try.zeroValue123
  t53 := Try.underlying126
  a53 := Try.isAgg126
  z53 := Try.sizeOf126
  v53 := Try.zeroValue126
  t55 := Try.underlying82
  a55 := Try.isAgg82
  z55 := Try.sizeOf82
  v55 := Try.zeroValue82
  t66 := Try.underlying133
  a66 := Try.isAgg133
  z66 := Try.sizeOf133
  v66 := Try.zeroValue133
  t70 := Try.underlying95
  a70 := Try.isAgg95
  z70 := Try.sizeOf95
  v70 := Try.zeroValue95
  t76 := Try.underlying140
  a76 := Try.isAgg140
  z76 := Try.sizeOf140
  v76 := Try.zeroValue140
  t77 := Try.underlying34
  a77 := Try.isAgg34
  z77 := Try.sizeOf34
  v77 := Try.zeroValue34 }

end Go.Proofs.Yticlpjjkjpabmaa

namespace Go.Proofs.Yticlpjjkjpabmaa
open Go Go.X Go.Proofs Go.Shelf Go.Sort
set_option maxRecDepth 100000

theorem cmpI_lt (x y : Int) : cmpI x y < 0 ↔ x < y := by unfold cmpI; split <;> (try split) <;> omega
theorem cmpI_nn (x y : Int) : 0 ≤ cmpI x y ↔ y ≤ x := by unfold cmpI; split <;> (try split) <;> omega
theorem cmpId_lt (a b : TieId) : cmpId a b < 0 ↔ a.Dir < b.Dir ∨ (a.Dir = b.Dir ∧ (a.Origin < b.Origin ∨ (a.Origin = b.Origin ∧ (a.Kind < b.Kind ∨ (a.Kind = b.Kind ∧ a.Nr < b.Nr))))) := by
  unfold cmpId
  split
  · rw [cmpI_lt]; omega
  · split
    · rw [cmpI_lt]; omega
    · split
      · rw [cmpI_lt]; omega
      · rw [cmpI_lt]; omega
theorem idLt_cmp (a b : TieId) : idLt a b = decide (cmpId a b < 0) := by
  rw [Bool.eq_iff_iff, decide_eq_true_eq, cmpId_lt]
  simp only [idLt, Bool.or_eq_true, Bool.and_eq_true, decide_eq_true_eq, beq_iff_eq]
theorem cmpId_tot {a b : TieId} (h1 : 0 ≤ cmpId a b) (h2 : 0 ≤ cmpId b a) : a = b := by
  have h1' : ¬ cmpId a b < 0 := by omega
  have h2' : ¬ cmpId b a < 0 := by omega
  rw [cmpId_lt] at h1' h2'
  obtain ⟨a1, a2, a3, a4⟩ := a
  obtain ⟨b1, b2, b3, b4⟩ := b
  simp only [TieId.mk.injEq] at *
  omega
theorem swoId : SWO (ltOf cmpId) where
  irrefl x := by simp only [ltOf, decide_eq_false_iff_not, cmpId_lt]; omega
  trans x y z h1 h2 := by simp only [ltOf, decide_eq_true_eq, cmpId_lt] at *; omega
  ntrans x y z h1 h2 := by simp only [ltOf, decide_eq_false_iff_not, cmpId_lt] at *; omega
def cmpHd (a b : Head) : Int := cmpId a.Id b.Id
theorem swoHd : SWO (ltOf cmpHd) := ⟨fun x => swoId.irrefl x.Id, fun x y z => swoId.trans x.Id y.Id z.Id, fun x y z => swoId.ntrans x.Id y.Id z.Id⟩

theorem m63 : MutOk Try.prog 63 { S := [.row .tieId 29], ar := [.hd 0, .fn 27 []], S' := [.row .tieId 29], keep := [some 0], rs := [] }
    (fun d _ => d.1.length < 4611686018427387904 ∧ ∀ x ∈ d.1, ∀ y ∈ d.1, 0 ≤ cmpId x y → 0 ≤ cmpId y x → x = y) (fun d _ => ((sortBy cmpId d.1, ()), ())) :=
  sortFunc_ok (c := .tieId) rfl sortT Try.isAgg29 Try.sizeOf29 Try.call27 p27 swoId 29
end Go.Proofs.Yticlpjjkjpabmaa

namespace Go.Proofs.Yticlpjjkjpabmaa
open Go Go.X Go.Proofs
set_option maxRecDepth 100000
noncomputable def E5 : Env := mkEnv Try.prog tcS [.pure p27 Try.call27, .pure p28 Try.call28, .mut m63 Try.call63]
theorem ok5 : EnvOk E5 := mkEnv_ok mixed tcS _
end Go.Proofs.Yticlpjjkjpabmaa

namespace Go.Proofs.Yticlpjjkjpabmaa
open Go Go.X Go.Proofs
set_option maxRecDepth 100000

def g_keysS : MSig := { S := [.map .tieId .entId], ar := [.hd 0], S' := [.map .tieId .entId, .cells [.hd 0] 59], keep := [some 0, none], rs := [.fn 64 [1]] }
def l_keysS : List (Nat × LoopS) := []
def w_keysS (m : List (TieId × EntId)) : Prop := exec E5 (loopsOf Try.prog l_keysS) 20 (bodyOf Try.f48) (startT 4 (aAV _root_.id [.hd 0] ())) (olay _root_.id [.map .tieId .entId] (m, ())) (retM Try.prog [.tmp 2] g_keysS ((m, (), ()), ()))
def g_keysA : MSig := { S := [.map .tieId .entHead], ar := [.hd 0], S' := [.map .tieId .entHead, .cells [.hd 0] 61], keep := [some 0, none], rs := [.fn 65 [1]] }
def l_keysA : List (Nat × LoopS) := []
def w_keysA (m : List (TieId × EntHead)) : Prop := exec E5 (loopsOf Try.prog l_keysA) 20 (bodyOf Try.f49) (startT 4 (aAV _root_.id [.hd 0] ())) (olay _root_.id [.map .tieId .entHead] (m, ())) (retM Try.prog [.tmp 2] g_keysA ((m, (), ()), ()))
def g_sortS : MSig := { S := [.cells [.hd 1] 59, .map .tieId .entId], ar := [.fn 64 [0], .fn 27 []], S' := [.cells [.hd 1] 59, .map .tieId .entId, .row .tieId 29], keep := [some 0, some 1, none], rs := [.hd 2] }
def l_sortS : List (Nat × LoopS) := []
def l_sortS_62 : List (Nat × LoopS) := []
def l_sortS_69 : List (Nat × LoopS) := []
def l_sortS_64 : List (Nat × LoopS) := [(1, { S := [.cells [.hd 1] 22, .row .tieId 29, .lent, .rng 2 .tieId .entId], at_ := [some 2, none, some 1, some 4], slots := [], ar := [], keep := [0, 3] })]
noncomputable def i_sortS : List (FuncId × ItS Try.prog) := [(62, ⟨bodyOf Try.f62, 5, [.tmp 2], loopsL Try.prog l_sortS_62⟩), (69, ⟨bodyOf Try.f69, 13, [.tmp 4], loopsL Try.prog l_sortS_69⟩), (64, ⟨bodyOf Try.f64, 14, [], loopsL Try.prog l_sortS_64⟩)]
theorem i_sortS_ok : AllGood Try.prog i_sortS := ⟨.mk _ Try.call62 Try.func62 (by kernel_rfl) (by kernel_rfl) (by kernel_rfl) rfl, .mk _ Try.call69 Try.func69 (by kernel_rfl) (by kernel_rfl) (by kernel_rfl) rfl, .mk _ Try.call64 Try.func64 (by kernel_rfl) (by kernel_rfl) (by kernel_rfl) rfl, trivial⟩
def w_sortS (m : List (TieId × EntId)) (y : List TieId) : Prop := exec E5 (ltsOf l_sortS i_sortS 3 i_sortS_ok) 20 (bodyOf Try.f47) (startT 12 (aAV _root_.id [.fn 64 [0], .fn 27 []] ())) (olay _root_.id [.cells [.hd 1] 59, .map .tieId .entId] ((), m, ())) (retM Try.prog [.tmp 4] g_sortS (((), m, y, ()), ()))
def g_sortA : MSig := { S := [.cells [.hd 1] 61, .map .tieId .entHead], ar := [.fn 65 [0], .fn 27 []], S' := [.cells [.hd 1] 61, .map .tieId .entHead, .row .tieId 29], keep := [some 0, some 1, none], rs := [.hd 2] }
def l_sortA : List (Nat × LoopS) := []
def l_sortA_62 : List (Nat × LoopS) := []
def l_sortA_69 : List (Nat × LoopS) := []
def l_sortA_65 : List (Nat × LoopS) := [(1, { S := [.cells [.hd 1] 22, .row .tieId 29, .lent, .rng 2 .tieId .entHead], at_ := [some 2, none, some 1, some 4], slots := [], ar := [], keep := [0, 3] })]
noncomputable def i_sortA : List (FuncId × ItS Try.prog) := [(62, ⟨bodyOf Try.f62, 5, [.tmp 2], loopsL Try.prog l_sortA_62⟩), (69, ⟨bodyOf Try.f69, 13, [.tmp 4], loopsL Try.prog l_sortA_69⟩), (65, ⟨bodyOf Try.f65, 14, [], loopsL Try.prog l_sortA_65⟩)]
theorem i_sortA_ok : AllGood Try.prog i_sortA := ⟨.mk _ Try.call62 Try.func62 (by kernel_rfl) (by kernel_rfl) (by kernel_rfl) rfl, .mk _ Try.call69 Try.func69 (by kernel_rfl) (by kernel_rfl) (by kernel_rfl) rfl, .mk _ Try.call65 Try.func65 (by kernel_rfl) (by kernel_rfl) (by kernel_rfl) rfl, trivial⟩
def w_sortA (m : List (TieId × EntHead)) (y : List TieId) : Prop := exec E5 (ltsOf l_sortA i_sortA 3 i_sortA_ok) 20 (bodyOf Try.f47) (startT 12 (aAV _root_.id [.fn 65 [0], .fn 27 []] ())) (olay _root_.id [.cells [.hd 1] 61, .map .tieId .entHead] ((), m, ())) (retM Try.prog [.tmp 4] g_sortA (((), m, y, ()), ()))

theorem nf_keysS (m : List (TieId × EntId)) : w_keysS m = (
Ok (((m, (), ()), ()) = ((m, (), ()), ()))) := by kernel_rfl

theorem nf_keysA (m : List (TieId × EntHead)) : w_keysA m = (
Ok (((m, (), ()), ()) = ((m, (), ()), ()))) := by kernel_rfl

theorem nf_sortS (m : List (TieId × EntId)) (y : List TieId) : w_sortS m y = (
∀ (R0 : (Unit × List TieId × Unit × (List (TieId × EntId) × List TieId) × Unit) × Unit → Prop),
  (∀ (l1 : List TieId) (l2 : List (TieId × EntId)) (l3 : List TieId),
      ((∀ (x4 : Unit),
            (∀ (x5 : TieId),
                List.Mem x5 (List.map (fun (x : TC.tieId.den × TC.entId.den) => x.fst) ((), l1, (), (l2, l3), ()).snd.snd.snd.fst.fst) →
                  List.Mem x5 (keyL ((), l1, (), (l2, l3), ()).snd.snd.snd.fst.snd none)) →
              Ok (l1.length < (4611686018427387904 : Nat) ∧ ∀ (x : TC.tieId.den), x ∈ l1 → ∀ (y : TC.tieId.den), y ∈ l1 → (0 : Int) ≤ cmpId x y → (0 : Int) ≤ cmpId y x → x = y) ∧
                Ok ((((), l2, sortBy cmpId l1, ()), ()) = (((), m, y, ()), ()))) ∧
          ∀ (x6 : TieId × EntId),
            List.Mem x6 ((), l1, (), (l2, l3), ()).snd.snd.snd.fst.fst ∧ (List.Mem x6.fst (keyL ((), l1, (), (l2, l3), ()).snd.snd.snd.fst.snd none) → False) →
              Ok ((l1.length + [x6.fst].length) * (32 : Nat) ≤ (2 : Nat) ^ (47 : Nat)) ∧
                Ok (AObj.cells [AV.hd (nat_lit 1)] (59 : TypeId) = AObj.cells (fAV id [FS.hd (1 : Nat)] ()) (59 : TypeId)) ∧
                  Ok (AObj.loop LSt.ready = AObj.loop LSt.ready) ∧ R0 (((), l1 ++ [x6.fst], (), (l2, keyL (keyL l3 none) (some x6.fst)), ()), ())) →
        R0 (((), l1, (), (l2, l3), ()), ())) →
    R0 (((), [], (), (m, keyL [] none), ()), ())) := by kernel_rfl

theorem nf_sortA (m : List (TieId × EntHead)) (y : List TieId) : w_sortA m y = (
∀ (R0 : (Unit × List TieId × Unit × (List (TieId × EntHead) × List TieId) × Unit) × Unit → Prop),
  (∀ (l1 : List TieId) (l2 : List (TieId × EntHead)) (l3 : List TieId),
      ((∀ (x4 : Unit),
            (∀ (x5 : TieId),
                List.Mem x5 (List.map (fun (x : TC.tieId.den × TC.entHead.den) => x.fst) ((), l1, (), (l2, l3), ()).snd.snd.snd.fst.fst) →
                  List.Mem x5 (keyL ((), l1, (), (l2, l3), ()).snd.snd.snd.fst.snd none)) →
              Ok (l1.length < (4611686018427387904 : Nat) ∧ ∀ (x : TC.tieId.den), x ∈ l1 → ∀ (y : TC.tieId.den), y ∈ l1 → (0 : Int) ≤ cmpId x y → (0 : Int) ≤ cmpId y x → x = y) ∧
                Ok ((((), l2, sortBy cmpId l1, ()), ()) = (((), m, y, ()), ()))) ∧
          ∀ (x6 : TieId × EntHead),
            List.Mem x6 ((), l1, (), (l2, l3), ()).snd.snd.snd.fst.fst ∧ (List.Mem x6.fst (keyL ((), l1, (), (l2, l3), ()).snd.snd.snd.fst.snd none) → False) →
              Ok ((l1.length + [x6.fst].length) * (32 : Nat) ≤ (2 : Nat) ^ (47 : Nat)) ∧
                Ok (AObj.cells [AV.hd (nat_lit 1)] (61 : TypeId) = AObj.cells (fAV id [FS.hd (1 : Nat)] ()) (61 : TypeId)) ∧
                  Ok (AObj.loop LSt.ready = AObj.loop LSt.ready) ∧ R0 (((), l1 ++ [x6.fst], (), (l2, keyL (keyL l3 none) (some x6.fst)), ()), ())) →
        R0 (((), l1, (), (l2, l3), ()), ())) →
    R0 (((), [], (), (m, keyL [] none), ()), ())) := by kernel_rfl

end Go.Proofs.Yticlpjjkjpabmaa

/- Ranges over maps, and what is sorted: laws. -/
namespace Go.X
open Go Go.Proofs Go.Sort

/-- A range over a map: the keys come, each once, in some order. -/
theorem loop_keys {α : Type} {keys : List α} (R : List α → Prop) (h : ∀ l : List α, l.Nodup → (∀ k ∈ l, k ∈ keys) → (∀ k, k ∈ keys → k ∉ l → R (l ++ [k])) → R l) : R [] := by
  have key : ∀ (n : Nat) (l : List α), l.Nodup → (∀ k ∈ l, k ∈ keys) → keys.length - l.length ≤ n → R l := by
    intro n
    induction n with
    | zero =>
      intro l hl hs hlen
      refine h l hl hs fun k hk hkl => ?_
      have h1 : (l ++ [k]).Nodup := List.nodup_append.2 ⟨hl, by simp, fun a ha b hb => by simp at hb; subst hb; intro e; subst e; exact hkl ha⟩
      have h2 := List.Nodup.length_le_of_subset h1 (l₂ := keys) fun a ha => by
        rcases List.mem_append.1 ha with h | h
        · exact hs a h
        · simp at h; subst h; exact hk
      simp at h2
      omega
    | succ n ih =>
      intro l hl hs hlen
      refine h l hl hs fun k hk hkl => ?_
      have h1 : (l ++ [k]).Nodup := List.nodup_append.2 ⟨hl, by simp, fun a ha b hb => by simp at hb; subst hb; intro e; subst e; exact hkl ha⟩
      refine ih _ h1 (fun a ha => ?_) (by simp; omega)
      rcases List.mem_append.1 ha with h | h
      · exact hs a h
      · simp at h; subst h; exact hk
  exact key keys.length [] (by simp) (by simp) (by simp)

theorem keys_perm {α : Type} {keys l : List α} (hn : keys.Nodup) (hl : l.Nodup) (h1 : ∀ k ∈ l, k ∈ keys) (h2 : ∀ k ∈ keys, k ∈ l) : l.Perm keys := (List.perm_ext_iff_of_nodup hl hn).2 fun a => ⟨h1 a, h2 a⟩

/-- What is sorted already is what sorting a permutation of it gives. -/
theorem sortBy_of {α : Type} {cf : α → α → Int} (hS : SWO (ltOf cf)) {l m : List α} (hp : l.Perm m) (hm : m.Pairwise fun a b => cf a b < 0) (hanti : ∀ x ∈ m, ∀ y ∈ m, 0 ≤ cf x y → 0 ≤ cf y x → x = y) : sortBy cf l = m := by
  unfold sortBy
  refine List.Perm.eq_of_pairwise (le := fun x y => (!ltOf cf y x) = true) ?_ ?_ ?_ ((List.mergeSort_perm _ _).trans hp)
  · intro a b ha hb h1 h2
    simp only [Bool.not_eq_true', ltOf, decide_eq_false_iff_not, Int.not_lt] at h1 h2
    exact hanti a (hp.mem_iff.1 ((List.mergeSort_perm _ _).mem_iff.1 ha)) b hb h2 h1
  · refine List.pairwise_mergeSort ?_ ?_ _
    · intro a b c h1 h2
      simp only [Bool.not_eq_true'] at h1 h2 ⊢
      exact hS.ntrans c b a h2 h1
    · intro a b
      cases h : ltOf cf b a with
      | false => simp
      | true =>
        have : ltOf cf a b = false := by
          cases h2 : ltOf cf a b with
          | false => rfl
          | true => have := hS.trans _ _ _ h h2; rw [hS.irrefl] at this; cases this
        simp [this]
  · refine hm.imp fun {a b} h => ?_
    simp only [Bool.not_eq_true']
    cases h2 : ltOf cf b a with
    | false => rfl
    | true =>
      have h3 : ltOf cf a b = true := by simpa [ltOf] using h
      have := hS.trans _ _ _ h3 h2
      rw [hS.irrefl] at this; cases this
end Go.X

namespace Go.Proofs.Yticlpjjkjpabmaa
open Go Go.X Go.Proofs Go.Sort
set_option maxRecDepth 100000

/-- A map's entries, rising. -/
def Rise {β : Type} (m : List (TieId × β)) : Prop := (m.map (·.1)).Pairwise fun a b => cmpId a b < 0
theorem rise_nodup {β : Type} {m : List (TieId × β)} (h : Rise m) : (m.map (·.1)).Nodup := by
  refine List.Pairwise.imp ?_ h
  intro a b h e
  subst e
  rw [cmpId_lt] at h
  omega

theorem k_sortS (m : List (TieId × EntId)) (hm : Rise m) (hl : m.length ≤ 2 ^ 30) : w_sortS m (m.map (·.1)) := by
  rw [nf_sortS]
  intro R hR
  refine loop_keys (keys := m.map (·.1)) (fun l => R (((), l, (), (m, l), ()), ())) fun l hn hs ih => ?_
  have hlen : l.length ≤ m.length := by simpa using List.Nodup.length_le_of_subset hn (l₂ := m.map (·.1)) (fun a ha => hs a ha)
  refine hR l m l ⟨fun _ hall => ⟨⟨by omega, fun x _ y _ h1 h2 => cmpId_tot h1 h2⟩, ⟨?_⟩⟩, fun x hx => ⟨⟨?_⟩, ⟨rfl⟩, ⟨rfl⟩, ih x.1 (List.mem_map.2 ⟨x, hx.1, rfl⟩) hx.2⟩⟩
  · rw [sortBy_of swoId (keys_perm (rise_nodup hm) hn hs hall) hm fun x _ y _ h1 h2 => cmpId_tot h1 h2]
  · simp only [List.length_cons, List.length_nil]; omega
theorem k_sortA (m : List (TieId × EntHead)) (hm : Rise m) (hl : m.length ≤ 2 ^ 30) : w_sortA m (m.map (·.1)) := by
  rw [nf_sortA]
  intro R hR
  refine loop_keys (keys := m.map (·.1)) (fun l => R (((), l, (), (m, l), ()), ())) fun l hn hs ih => ?_
  have hlen : l.length ≤ m.length := by simpa using List.Nodup.length_le_of_subset hn (l₂ := m.map (·.1)) (fun a ha => hs a ha)
  refine hR l m l ⟨fun _ hall => ⟨⟨by omega, fun x _ y _ h1 h2 => cmpId_tot h1 h2⟩, ⟨?_⟩⟩, fun x hx => ⟨⟨?_⟩, ⟨rfl⟩, ⟨rfl⟩, ih x.1 (List.mem_map.2 ⟨x, hx.1, rfl⟩) hx.2⟩⟩
  · rw [sortBy_of swoId (keys_perm (rise_nodup hm) hn hs hall) hm fun x _ y _ h1 h2 => cmpId_tot h1 h2]
  · simp only [List.length_cons, List.length_nil]; omega

theorem m47S : MutOk Try.prog 47 g_sortS (fun d _ => Rise d.2.1 ∧ d.2.1.length ≤ 2 ^ 30) (fun d _ => (((), d.2.1, d.2.1.map (·.1), ()), ())) :=
  mut_of_exec ok5 (L := ltsOf l_sortS i_sortS 3 i_sortS_ok) (fuel := 20) Try.func47 (code := bodyOf Try.f47) (by kernel_rfl) (by kernel_rfl) (rvs := [.tmp 4]) (by kernel_rfl) rfl (by
    rintro ⟨⟨⟩, m, ⟨⟩⟩ ⟨⟩ ⟨h1, h2⟩
    exact k_sortS m h1 h2)
end Go.Proofs.Yticlpjjkjpabmaa

namespace Go.Proofs.Yticlpjjkjpabmaa
open Go Go.X Go.Proofs Go.Sort
set_option maxRecDepth 100000

theorem m47A : MutOk Try.prog 47 g_sortA (fun d _ => Rise d.2.1 ∧ d.2.1.length ≤ 2 ^ 30) (fun d _ => (((), d.2.1, d.2.1.map (·.1), ()), ())) :=
  mut_of_exec ok5 (L := ltsOf l_sortA i_sortA 3 i_sortA_ok) (fuel := 20) Try.func47 (code := bodyOf Try.f47) (by kernel_rfl) (by kernel_rfl) (rvs := [.tmp 4]) (by kernel_rfl) rfl (by
    rintro ⟨⟨⟩, m, ⟨⟩⟩ ⟨⟩ ⟨h1, h2⟩
    exact k_sortA m h1 h2)
theorem m48 : MutOk Try.prog 48 g_keysS (fun _ _ => True) (fun d _ => ((d.1, (), ()), ())) :=
  mut_of_exec ok5 (L := loopsOf Try.prog l_keysS) (fuel := 20) Try.func48 (code := bodyOf Try.f48) (by kernel_rfl) (by kernel_rfl) (rvs := [.tmp 2]) (by kernel_rfl) rfl (by
    rintro ⟨m, ⟨⟩⟩ ⟨⟩ -
    refine (nf_keysS m).mpr ⟨rfl⟩)
theorem m49 : MutOk Try.prog 49 g_keysA (fun _ _ => True) (fun d _ => ((d.1, (), ()), ())) :=
  mut_of_exec ok5 (L := loopsOf Try.prog l_keysA) (fuel := 20) Try.func49 (code := bodyOf Try.f49) (by kernel_rfl) (by kernel_rfl) (rvs := [.tmp 2]) (by kernel_rfl) rfl (by
    rintro ⟨m, ⟨⟩⟩ ⟨⟩ -
    refine (nf_keysA m).mpr ⟨rfl⟩)
noncomputable def E6 : Env := mkEnv Try.prog tcS [.pure p27 Try.call27, .pure p28 Try.call28, .mut m47S Try.call47, .mut m48 Try.call48]
theorem ok6 : EnvOk E6 := mkEnv_ok mixed tcS _
noncomputable def E7 : Env := mkEnv Try.prog tcS [.pure p27 Try.call27, .pure p28 Try.call28, .mut m47A Try.call47, .mut m49 Try.call49]
theorem ok7 : EnvOk E7 := mkEnv_ok mixed tcS _
end Go.Proofs.Yticlpjjkjpabmaa

