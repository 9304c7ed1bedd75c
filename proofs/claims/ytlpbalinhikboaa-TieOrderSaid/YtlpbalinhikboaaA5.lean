/- A part of the walk of the tie laws. -/
import Derived.Test.YtlpbalinhikboaaA4
namespace Go.Proofs.Ytlpbalinhikboaa
open Go Go.X Go.Proofs
set_option maxRecDepth 100000

theorem nf21a (a b c d : Int) : exec E2 L0 20 (bodyOf Try.f21) (startT 25 (avs [Li] ([a, b, c, d], ()))) [] (retK Try.prog [.tmp 2] [I] (out21 ([a, b, c, d], ()))) = (
Ok ((0 : Int) ≤ (0 : Int) ∧ (0 : Int) < ↑(List.length ([a, b, c, d], ()).fst)) ∧
  Ok ((0 : Int) ≤ IntKind.i64.wrap ((0 : Int) + (1 : Int)) ∧ IntKind.i64.wrap ((0 : Int) + (1 : Int)) < ↑(List.length ([a, b, c, d], ()).fst)) ∧
    Ok True ∧
      cnd ((out20 (List.getD ([a, b, c, d], ()).fst (Int.toNat (0 : Int)) TC.int.d, List.getD ([a, b, c, d], ()).fst (IntKind.i64.wrap ((0 : Int) + (1 : Int))).toNat TC.int.d, ())).fst != (0 : Int))
        (Ok
          (((out20 (List.getD ([a, b, c, d], ()).fst (Int.toNat (0 : Int)) TC.int.d, List.getD ([a, b, c, d], ()).fst (IntKind.i64.wrap ((0 : Int) + (1 : Int))).toNat TC.int.d, ())).fst, ()) =
            out21 ([a, b, c, d], ())))
        (Ok ((0 : Int) ≤ IntKind.i64.wrap ((0 : Int) + (2 : Int)) ∧ IntKind.i64.wrap ((0 : Int) + (2 : Int)) < ↑(List.length ([a, b, c, d], ()).fst)) ∧
          Ok
              ((0 : Int) ≤ IntKind.i64.wrap (IntKind.i64.wrap ((0 : Int) + (2 : Int)) + (1 : Int)) ∧
                IntKind.i64.wrap (IntKind.i64.wrap ((0 : Int) + (2 : Int)) + (1 : Int)) < ↑(List.length ([a, b, c, d], ()).fst)) ∧
            Ok True ∧
              cnd
                ((out20
                      (List.getD ([a, b, c, d], ()).fst (IntKind.i64.wrap ((0 : Int) + (2 : Int))).toNat TC.int.d,
                        List.getD ([a, b, c, d], ()).fst (IntKind.i64.wrap (IntKind.i64.wrap ((0 : Int) + (2 : Int)) + (1 : Int))).toNat TC.int.d, ())).fst !=
                  (0 : Int))
                (Ok
                  (((out20
                          (List.getD ([a, b, c, d], ()).fst (IntKind.i64.wrap ((0 : Int) + (2 : Int))).toNat TC.int.d,
                            List.getD ([a, b, c, d], ()).fst (IntKind.i64.wrap (IntKind.i64.wrap ((0 : Int) + (2 : Int)) + (1 : Int))).toNat TC.int.d, ())).fst,
                      ()) =
                    out21 ([a, b, c, d], ())))
                (Ok (((0 : Int), ()) = out21 ([a, b, c, d], ()))))) := by kernel_rfl

theorem nf21b (a b c d e f g h : Int) : exec E2 L0 20 (bodyOf Try.f21) (startT 25 (avs [Li] ([a, b, c, d, e, f, g, h], ()))) [] (retK Try.prog [.tmp 2] [I] (out21 ([a, b, c, d, e, f, g, h], ()))) = (
Ok ((0 : Int) ≤ (0 : Int) ∧ (0 : Int) < ↑(List.length ([a, b, c, d, e, f, g, h], ()).fst)) ∧
  Ok ((0 : Int) ≤ IntKind.i64.wrap ((0 : Int) + (1 : Int)) ∧ IntKind.i64.wrap ((0 : Int) + (1 : Int)) < ↑(List.length ([a, b, c, d, e, f, g, h], ()).fst)) ∧
    Ok True ∧
      cnd
        ((out20
              (List.getD ([a, b, c, d, e, f, g, h], ()).fst (Int.toNat (0 : Int)) TC.int.d, List.getD ([a, b, c, d, e, f, g, h], ()).fst (IntKind.i64.wrap ((0 : Int) + (1 : Int))).toNat TC.int.d,
                ())).fst !=
          (0 : Int))
        (Ok
          (((out20
                  (List.getD ([a, b, c, d, e, f, g, h], ()).fst (Int.toNat (0 : Int)) TC.int.d, List.getD ([a, b, c, d, e, f, g, h], ()).fst (IntKind.i64.wrap ((0 : Int) + (1 : Int))).toNat TC.int.d,
                    ())).fst,
              ()) =
            out21 ([a, b, c, d, e, f, g, h], ())))
        (Ok ((0 : Int) ≤ IntKind.i64.wrap ((0 : Int) + (2 : Int)) ∧ IntKind.i64.wrap ((0 : Int) + (2 : Int)) < ↑(List.length ([a, b, c, d, e, f, g, h], ()).fst)) ∧
          Ok
              ((0 : Int) ≤ IntKind.i64.wrap (IntKind.i64.wrap ((0 : Int) + (2 : Int)) + (1 : Int)) ∧
                IntKind.i64.wrap (IntKind.i64.wrap ((0 : Int) + (2 : Int)) + (1 : Int)) < ↑(List.length ([a, b, c, d, e, f, g, h], ()).fst)) ∧
            Ok True ∧
              cnd
                ((out20
                      (List.getD ([a, b, c, d, e, f, g, h], ()).fst (IntKind.i64.wrap ((0 : Int) + (2 : Int))).toNat TC.int.d,
                        List.getD ([a, b, c, d, e, f, g, h], ()).fst (IntKind.i64.wrap (IntKind.i64.wrap ((0 : Int) + (2 : Int)) + (1 : Int))).toNat TC.int.d, ())).fst !=
                  (0 : Int))
                (Ok
                  (((out20
                          (List.getD ([a, b, c, d, e, f, g, h], ()).fst (IntKind.i64.wrap ((0 : Int) + (2 : Int))).toNat TC.int.d,
                            List.getD ([a, b, c, d, e, f, g, h], ()).fst (IntKind.i64.wrap (IntKind.i64.wrap ((0 : Int) + (2 : Int)) + (1 : Int))).toNat TC.int.d, ())).fst,
                      ()) =
                    out21 ([a, b, c, d, e, f, g, h], ())))
                (Ok
                    ((0 : Int) ≤ IntKind.i64.wrap (IntKind.i64.wrap ((0 : Int) + (2 : Int)) + (2 : Int)) ∧
                      IntKind.i64.wrap (IntKind.i64.wrap ((0 : Int) + (2 : Int)) + (2 : Int)) < ↑(List.length ([a, b, c, d, e, f, g, h], ()).fst)) ∧
                  Ok
                      ((0 : Int) ≤ IntKind.i64.wrap (IntKind.i64.wrap (IntKind.i64.wrap ((0 : Int) + (2 : Int)) + (2 : Int)) + (1 : Int)) ∧
                        IntKind.i64.wrap (IntKind.i64.wrap (IntKind.i64.wrap ((0 : Int) + (2 : Int)) + (2 : Int)) + (1 : Int)) < ↑(List.length ([a, b, c, d, e, f, g, h], ()).fst)) ∧
                    Ok True ∧
                      cnd
                        ((out20
                              (List.getD ([a, b, c, d, e, f, g, h], ()).fst (IntKind.i64.wrap (IntKind.i64.wrap ((0 : Int) + (2 : Int)) + (2 : Int))).toNat TC.int.d,
                                List.getD ([a, b, c, d, e, f, g, h], ()).fst (IntKind.i64.wrap (IntKind.i64.wrap (IntKind.i64.wrap ((0 : Int) + (2 : Int)) + (2 : Int)) + (1 : Int))).toNat TC.int.d,
                                ())).fst !=
                          (0 : Int))
                        (Ok
                          (((out20
                                  (List.getD ([a, b, c, d, e, f, g, h], ()).fst (IntKind.i64.wrap (IntKind.i64.wrap ((0 : Int) + (2 : Int)) + (2 : Int))).toNat TC.int.d,
                                    List.getD ([a, b, c, d, e, f, g, h], ()).fst (IntKind.i64.wrap (IntKind.i64.wrap (IntKind.i64.wrap ((0 : Int) + (2 : Int)) + (2 : Int)) + (1 : Int))).toNat
                                      TC.int.d,
                                    ())).fst,
                              ()) =
                            out21 ([a, b, c, d, e, f, g, h], ())))
                        (Ok
                            ((0 : Int) ≤ IntKind.i64.wrap (IntKind.i64.wrap (IntKind.i64.wrap ((0 : Int) + (2 : Int)) + (2 : Int)) + (2 : Int)) ∧
                              IntKind.i64.wrap (IntKind.i64.wrap (IntKind.i64.wrap ((0 : Int) + (2 : Int)) + (2 : Int)) + (2 : Int)) < ↑(List.length ([a, b, c, d, e, f, g, h], ()).fst)) ∧
                          Ok
                              ((0 : Int) ≤ IntKind.i64.wrap (IntKind.i64.wrap (IntKind.i64.wrap (IntKind.i64.wrap ((0 : Int) + (2 : Int)) + (2 : Int)) + (2 : Int)) + (1 : Int)) ∧
                                IntKind.i64.wrap (IntKind.i64.wrap (IntKind.i64.wrap (IntKind.i64.wrap ((0 : Int) + (2 : Int)) + (2 : Int)) + (2 : Int)) + (1 : Int)) <
                                  ↑(List.length ([a, b, c, d, e, f, g, h], ()).fst)) ∧
                            Ok True ∧
                              cnd
                                ((out20
                                      (List.getD ([a, b, c, d, e, f, g, h], ()).fst (IntKind.i64.wrap (IntKind.i64.wrap (IntKind.i64.wrap ((0 : Int) + (2 : Int)) + (2 : Int)) + (2 : Int))).toNat
                                          TC.int.d,
                                        List.getD ([a, b, c, d, e, f, g, h], ()).fst
                                          (IntKind.i64.wrap (IntKind.i64.wrap (IntKind.i64.wrap (IntKind.i64.wrap ((0 : Int) + (2 : Int)) + (2 : Int)) + (2 : Int)) + (1 : Int))).toNat TC.int.d,
                                        ())).fst !=
                                  (0 : Int))
                                (Ok
                                  (((out20
                                          (List.getD ([a, b, c, d, e, f, g, h], ()).fst (IntKind.i64.wrap (IntKind.i64.wrap (IntKind.i64.wrap ((0 : Int) + (2 : Int)) + (2 : Int)) + (2 : Int))).toNat
                                              TC.int.d,
                                            List.getD ([a, b, c, d, e, f, g, h], ()).fst
                                              (IntKind.i64.wrap (IntKind.i64.wrap (IntKind.i64.wrap (IntKind.i64.wrap ((0 : Int) + (2 : Int)) + (2 : Int)) + (2 : Int)) + (1 : Int))).toNat TC.int.d,
                                            ())).fst,
                                      ()) =
                                    out21 ([a, b, c, d, e, f, g, h], ())))
                                (Ok (((0 : Int), ()) = out21 ([a, b, c, d, e, f, g, h], ()))))))) := by kernel_rfl

