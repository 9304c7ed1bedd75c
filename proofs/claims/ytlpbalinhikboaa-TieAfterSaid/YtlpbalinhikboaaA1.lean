/- A part of the walk of the tie laws. -/
import Derived.Test.YtlpbalinhikboaaA0
namespace Go.Proofs.Ytlpbalinhikboaa
open Go Go.X Go.Proofs
set_option maxRecDepth 100000

theorem nf24 (a : Int) : exec E0 L0 20 (bodyOf Try.f24) (startT 6 (avs [I] (a, ()))) [] (retK Try.prog [.tmp 2] [B] (out24 (a, ()))) = (
Ok (((a, ()).fst != (a, ()).fst, ()) = out24 (a, ()))) := by kernel_rfl

theorem nf22 (a b : Int) : exec E0 L0 20 (bodyOf Try.f22) (startT 11 (avs [I, I] (a, b, ()))) [] (retK Try.prog [.tmp 4] [I] (out20 (a, b, ()))) = (
cnd (decide ((a, b, ()).fst < (a, b, ()).snd.fst)) (Ok (((-1 : Int), ()) = out20 (a, b, ())))
  (cnd (decide ((a, b, ()).fst > (a, b, ()).snd.fst)) (Ok (((1 : Int), ()) = out20 (a, b, ()))) (Ok (((0 : Int), ()) = out20 (a, b, ()))))) := by kernel_rfl

theorem nf23 (a b : Int) : exec E0 L0 20 (bodyOf Try.f23) (startT 16 (avs [I, I] (a, b, ()))) [] (retK Try.prog [.tmp 4] [B] (out23 (a, b, ()))) = (
Ok (decide ((a, b, ()).fst > (a, b, ()).snd.fst) = true → decide ((a, b, ()).fst > (a, b, ()).snd.fst) = true) ∧
  Ok (decide ((a, b, ()).fst > (a, b, ()).snd.fst) = true → decide ((a, b, ()).fst > (a, b, ()).snd.fst) = true) ∧
    Ok (decide ((a, b, ()).fst > (a, b, ()).snd.fst) = true → decide ((a, b, ()).fst > (a, b, ()).snd.fst) = true) ∧
      Ok (decide ((a, b, ()).fst > (a, b, ()).snd.fst) = true → decide ((a, b, ()).fst > (a, b, ()).snd.fst) = true) ∧
        Ok (decide ((a, b, ()).fst > (a, b, ()).snd.fst) = true → decide ((a, b, ()).fst > (a, b, ()).snd.fst) = true) ∧
          Ok (decide ((a, b, ()).fst > (a, b, ()).snd.fst) = true → decide ((a, b, ()).fst > (a, b, ()).snd.fst) = true) ∧
            Ok
              ((decide ((a, b, ()).fst > (a, b, ()).snd.fst) && decide (IntKind.u64.wrap (IntKind.u64.wrap (a, b, ()).fst - IntKind.u64.wrap (a, b, ()).snd.fst) > (300 : Int)), ()) = out23 (a, b, ()))) := by kernel_rfl

theorem nf19 (x : TieId) : exec E0 L0 20 (bodyOf Try.f19) (startT 41 (avs [T] (x, ()))) [] (retK Try.prog [.tmp 2] [B] (out19 (x, ()))) = (
Ok (decide ((x, ()).fst.Dir ≥ (1 : Int)) = true → decide ((x, ()).fst.Dir ≥ (1 : Int)) = true) ∧
  Ok (decide ((x, ()).fst.Dir ≥ (1 : Int)) = true → decide ((x, ()).fst.Dir ≥ (1 : Int)) = true) ∧
    Ok (decide ((x, ()).fst.Dir ≥ (1 : Int)) = true → decide ((x, ()).fst.Dir ≥ (1 : Int)) = true) ∧
      Ok ((decide ((x, ()).fst.Dir ≥ (1 : Int)) && decide ((x, ()).fst.Dir ≤ (2 : Int))) = true → (decide ((x, ()).fst.Dir ≥ (1 : Int)) && decide ((x, ()).fst.Dir ≤ (2 : Int))) = true) ∧
        Ok ((decide ((x, ()).fst.Dir ≥ (1 : Int)) && decide ((x, ()).fst.Dir ≤ (2 : Int))) = true → (decide ((x, ()).fst.Dir ≥ (1 : Int)) && decide ((x, ()).fst.Dir ≤ (2 : Int))) = true) ∧
          Ok ((decide ((x, ()).fst.Dir ≥ (1 : Int)) && decide ((x, ()).fst.Dir ≤ (2 : Int))) = true → (decide ((x, ()).fst.Dir ≥ (1 : Int)) && decide ((x, ()).fst.Dir ≤ (2 : Int))) = true) ∧
            Ok
                ((decide ((x, ()).fst.Dir ≥ (1 : Int)) && decide ((x, ()).fst.Dir ≤ (2 : Int)) && decide ((x, ()).fst.Origin ≥ (1 : Int))) = true →
                  (decide ((x, ()).fst.Dir ≥ (1 : Int)) && decide ((x, ()).fst.Dir ≤ (2 : Int)) && decide ((x, ()).fst.Origin ≥ (1 : Int))) = true) ∧
              Ok
                  ((decide ((x, ()).fst.Dir ≥ (1 : Int)) && decide ((x, ()).fst.Dir ≤ (2 : Int)) && decide ((x, ()).fst.Origin ≥ (1 : Int))) = true →
                    (decide ((x, ()).fst.Dir ≥ (1 : Int)) && decide ((x, ()).fst.Dir ≤ (2 : Int)) && decide ((x, ()).fst.Origin ≥ (1 : Int))) = true) ∧
                Ok
                    ((decide ((x, ()).fst.Dir ≥ (1 : Int)) && decide ((x, ()).fst.Dir ≤ (2 : Int)) && decide ((x, ()).fst.Origin ≥ (1 : Int))) = true →
                      (decide ((x, ()).fst.Dir ≥ (1 : Int)) && decide ((x, ()).fst.Dir ≤ (2 : Int)) && decide ((x, ()).fst.Origin ≥ (1 : Int))) = true) ∧
                  Ok
                      ((decide ((x, ()).fst.Dir ≥ (1 : Int)) && decide ((x, ()).fst.Dir ≤ (2 : Int)) && decide ((x, ()).fst.Origin ≥ (1 : Int)) && decide ((x, ()).fst.Origin ≤ (1000 : Int))) = true →
                        (decide ((x, ()).fst.Dir ≥ (1 : Int)) && decide ((x, ()).fst.Dir ≤ (2 : Int)) && decide ((x, ()).fst.Origin ≥ (1 : Int)) && decide ((x, ()).fst.Origin ≤ (1000 : Int))) =
                          true) ∧
                    Ok
                        ((decide ((x, ()).fst.Dir ≥ (1 : Int)) && decide ((x, ()).fst.Dir ≤ (2 : Int)) && decide ((x, ()).fst.Origin ≥ (1 : Int)) && decide ((x, ()).fst.Origin ≤ (1000 : Int))) =
                            true →
                          (decide ((x, ()).fst.Dir ≥ (1 : Int)) && decide ((x, ()).fst.Dir ≤ (2 : Int)) && decide ((x, ()).fst.Origin ≥ (1 : Int)) && decide ((x, ()).fst.Origin ≤ (1000 : Int))) =
                            true) ∧
                      Ok
                          ((decide ((x, ()).fst.Dir ≥ (1 : Int)) && decide ((x, ()).fst.Dir ≤ (2 : Int)) && decide ((x, ()).fst.Origin ≥ (1 : Int)) && decide ((x, ()).fst.Origin ≤ (1000 : Int))) =
                              true →
                            (decide ((x, ()).fst.Dir ≥ (1 : Int)) && decide ((x, ()).fst.Dir ≤ (2 : Int)) && decide ((x, ()).fst.Origin ≥ (1 : Int)) && decide ((x, ()).fst.Origin ≤ (1000 : Int))) =
                              true) ∧
                        Ok
                            ((decide ((x, ()).fst.Dir ≥ (1 : Int)) && decide ((x, ()).fst.Dir ≤ (2 : Int)) && decide ((x, ()).fst.Origin ≥ (1 : Int)) && decide ((x, ()).fst.Origin ≤ (1000 : Int)) &&
                                  decide ((x, ()).fst.Kind ≥ (1 : Int))) =
                                true →
                              (decide ((x, ()).fst.Dir ≥ (1 : Int)) && decide ((x, ()).fst.Dir ≤ (2 : Int)) && decide ((x, ()).fst.Origin ≥ (1 : Int)) && decide ((x, ()).fst.Origin ≤ (1000 : Int)) &&
                                  decide ((x, ()).fst.Kind ≥ (1 : Int))) =
                                true) ∧
                          Ok
                              ((decide ((x, ()).fst.Dir ≥ (1 : Int)) && decide ((x, ()).fst.Dir ≤ (2 : Int)) && decide ((x, ()).fst.Origin ≥ (1 : Int)) && decide ((x, ()).fst.Origin ≤ (1000 : Int)) &&
                                    decide ((x, ()).fst.Kind ≥ (1 : Int))) =
                                  true →
                                (decide ((x, ()).fst.Dir ≥ (1 : Int)) && decide ((x, ()).fst.Dir ≤ (2 : Int)) && decide ((x, ()).fst.Origin ≥ (1 : Int)) &&
                                      decide ((x, ()).fst.Origin ≤ (1000 : Int)) &&
                                    decide ((x, ()).fst.Kind ≥ (1 : Int))) =
                                  true) ∧
                            Ok
                                ((decide ((x, ()).fst.Dir ≥ (1 : Int)) && decide ((x, ()).fst.Dir ≤ (2 : Int)) && decide ((x, ()).fst.Origin ≥ (1 : Int)) &&
                                        decide ((x, ()).fst.Origin ≤ (1000 : Int)) &&
                                      decide ((x, ()).fst.Kind ≥ (1 : Int))) =
                                    true →
                                  (decide ((x, ()).fst.Dir ≥ (1 : Int)) && decide ((x, ()).fst.Dir ≤ (2 : Int)) && decide ((x, ()).fst.Origin ≥ (1 : Int)) &&
                                        decide ((x, ()).fst.Origin ≤ (1000 : Int)) &&
                                      decide ((x, ()).fst.Kind ≥ (1 : Int))) =
                                    true) ∧
                              Ok
                                  ((decide ((x, ()).fst.Dir ≥ (1 : Int)) && decide ((x, ()).fst.Dir ≤ (2 : Int)) && decide ((x, ()).fst.Origin ≥ (1 : Int)) &&
                                            decide ((x, ()).fst.Origin ≤ (1000 : Int)) &&
                                          decide ((x, ()).fst.Kind ≥ (1 : Int)) &&
                                        decide ((x, ()).fst.Kind ≤ (4 : Int))) =
                                      true →
                                    (decide ((x, ()).fst.Dir ≥ (1 : Int)) && decide ((x, ()).fst.Dir ≤ (2 : Int)) && decide ((x, ()).fst.Origin ≥ (1 : Int)) &&
                                            decide ((x, ()).fst.Origin ≤ (1000 : Int)) &&
                                          decide ((x, ()).fst.Kind ≥ (1 : Int)) &&
                                        decide ((x, ()).fst.Kind ≤ (4 : Int))) =
                                      true) ∧
                                Ok
                                    ((decide ((x, ()).fst.Dir ≥ (1 : Int)) && decide ((x, ()).fst.Dir ≤ (2 : Int)) && decide ((x, ()).fst.Origin ≥ (1 : Int)) &&
                                              decide ((x, ()).fst.Origin ≤ (1000 : Int)) &&
                                            decide ((x, ()).fst.Kind ≥ (1 : Int)) &&
                                          decide ((x, ()).fst.Kind ≤ (4 : Int))) =
                                        true →
                                      (decide ((x, ()).fst.Dir ≥ (1 : Int)) && decide ((x, ()).fst.Dir ≤ (2 : Int)) && decide ((x, ()).fst.Origin ≥ (1 : Int)) &&
                                              decide ((x, ()).fst.Origin ≤ (1000 : Int)) &&
                                            decide ((x, ()).fst.Kind ≥ (1 : Int)) &&
                                          decide ((x, ()).fst.Kind ≤ (4 : Int))) =
                                        true) ∧
                                  Ok
                                      ((decide ((x, ()).fst.Dir ≥ (1 : Int)) && decide ((x, ()).fst.Dir ≤ (2 : Int)) && decide ((x, ()).fst.Origin ≥ (1 : Int)) &&
                                                decide ((x, ()).fst.Origin ≤ (1000 : Int)) &&
                                              decide ((x, ()).fst.Kind ≥ (1 : Int)) &&
                                            decide ((x, ()).fst.Kind ≤ (4 : Int))) =
                                          true →
                                        (decide ((x, ()).fst.Dir ≥ (1 : Int)) && decide ((x, ()).fst.Dir ≤ (2 : Int)) && decide ((x, ()).fst.Origin ≥ (1 : Int)) &&
                                                decide ((x, ()).fst.Origin ≤ (1000 : Int)) &&
                                              decide ((x, ()).fst.Kind ≥ (1 : Int)) &&
                                            decide ((x, ()).fst.Kind ≤ (4 : Int))) =
                                          true) ∧
                                    Ok
                                        ((decide ((x, ()).fst.Dir ≥ (1 : Int)) && decide ((x, ()).fst.Dir ≤ (2 : Int)) && decide ((x, ()).fst.Origin ≥ (1 : Int)) &&
                                                    decide ((x, ()).fst.Origin ≤ (1000 : Int)) &&
                                                  decide ((x, ()).fst.Kind ≥ (1 : Int)) &&
                                                decide ((x, ()).fst.Kind ≤ (4 : Int)) &&
                                              decide ((x, ()).fst.Nr ≥ (0 : Int))) =
                                            true →
                                          (decide ((x, ()).fst.Dir ≥ (1 : Int)) && decide ((x, ()).fst.Dir ≤ (2 : Int)) && decide ((x, ()).fst.Origin ≥ (1 : Int)) &&
                                                    decide ((x, ()).fst.Origin ≤ (1000 : Int)) &&
                                                  decide ((x, ()).fst.Kind ≥ (1 : Int)) &&
                                                decide ((x, ()).fst.Kind ≤ (4 : Int)) &&
                                              decide ((x, ()).fst.Nr ≥ (0 : Int))) =
                                            true) ∧
                                      Ok
                                          ((decide ((x, ()).fst.Dir ≥ (1 : Int)) && decide ((x, ()).fst.Dir ≤ (2 : Int)) && decide ((x, ()).fst.Origin ≥ (1 : Int)) &&
                                                      decide ((x, ()).fst.Origin ≤ (1000 : Int)) &&
                                                    decide ((x, ()).fst.Kind ≥ (1 : Int)) &&
                                                  decide ((x, ()).fst.Kind ≤ (4 : Int)) &&
                                                decide ((x, ()).fst.Nr ≥ (0 : Int))) =
                                              true →
                                            (decide ((x, ()).fst.Dir ≥ (1 : Int)) && decide ((x, ()).fst.Dir ≤ (2 : Int)) && decide ((x, ()).fst.Origin ≥ (1 : Int)) &&
                                                      decide ((x, ()).fst.Origin ≤ (1000 : Int)) &&
                                                    decide ((x, ()).fst.Kind ≥ (1 : Int)) &&
                                                  decide ((x, ()).fst.Kind ≤ (4 : Int)) &&
                                                decide ((x, ()).fst.Nr ≥ (0 : Int))) =
                                              true) ∧
                                        Ok
                                            ((decide ((x, ()).fst.Dir ≥ (1 : Int)) && decide ((x, ()).fst.Dir ≤ (2 : Int)) && decide ((x, ()).fst.Origin ≥ (1 : Int)) &&
                                                        decide ((x, ()).fst.Origin ≤ (1000 : Int)) &&
                                                      decide ((x, ()).fst.Kind ≥ (1 : Int)) &&
                                                    decide ((x, ()).fst.Kind ≤ (4 : Int)) &&
                                                  decide ((x, ()).fst.Nr ≥ (0 : Int))) =
                                                true →
                                              (decide ((x, ()).fst.Dir ≥ (1 : Int)) && decide ((x, ()).fst.Dir ≤ (2 : Int)) && decide ((x, ()).fst.Origin ≥ (1 : Int)) &&
                                                        decide ((x, ()).fst.Origin ≤ (1000 : Int)) &&
                                                      decide ((x, ()).fst.Kind ≥ (1 : Int)) &&
                                                    decide ((x, ()).fst.Kind ≤ (4 : Int)) &&
                                                  decide ((x, ()).fst.Nr ≥ (0 : Int))) =
                                                true) ∧
                                          Ok
                                            ((decide ((x, ()).fst.Dir ≥ (1 : Int)) && decide ((x, ()).fst.Dir ≤ (2 : Int)) && decide ((x, ()).fst.Origin ≥ (1 : Int)) &&
                                                          decide ((x, ()).fst.Origin ≤ (1000 : Int)) &&
                                                        decide ((x, ()).fst.Kind ≥ (1 : Int)) &&
                                                      decide ((x, ()).fst.Kind ≤ (4 : Int)) &&
                                                    decide ((x, ()).fst.Nr ≥ (0 : Int)) &&
                                                  decide ((x, ()).fst.Nr ≤ (65535 : Int)),
                                                ()) =
                                              out19 (x, ()))) := by kernel_rfl

theorem nf15  : exec E0 L0 20 (bodyOf Try.f15) (startT 2 (avs [] ())) [] (retK Try.prog [.cell 0 23] [T] (outF ())) = (
Ok (({ Dir := (1 : Int), Origin := (1 : Int), Kind := (1 : Int), Nr := (0 : Int) }, ()) = outF ())) := by kernel_rfl

theorem nf16  : exec E0 L0 20 (bodyOf Try.f16) (startT 2 (avs [] ())) [] (retK Try.prog [.cell 0 23] [T] (outF ())) = (
Ok (({ Dir := (1 : Int), Origin := (1 : Int), Kind := (1 : Int), Nr := (0 : Int) }, ()) = outF ())) := by kernel_rfl

theorem nf17  : exec E0 L0 20 (bodyOf Try.f17) (startT 2 (avs [] ())) [] (retK Try.prog [.cell 0 23] [T] (outL ())) = (
Ok (({ Dir := (2 : Int), Origin := (1000 : Int), Kind := (4 : Int), Nr := (65535 : Int) }, ()) = outL ())) := by kernel_rfl

theorem nf18  : exec E0 L0 20 (bodyOf Try.f18) (startT 2 (avs [] ())) [] (retK Try.prog [.cell 0 23] [T] (outL ())) = (
Ok (({ Dir := (2 : Int), Origin := (1000 : Int), Kind := (4 : Int), Nr := (65535 : Int) }, ()) = outL ())) := by kernel_rfl

