/- A part of the walk of the tie laws. -/
import Derived.Test.YtlpbalinhikboaaA2
namespace Go.Proofs.Ytlpbalinhikboaa
open Go Go.X Go.Proofs
set_option maxRecDepth 100000

theorem nf20 (a b : Int) : exec E1 L0 20 (bodyOf Try.f20) (startT 20 (avs [I, I] (a, b, ()))) [] (retK Try.prog [.tmp 4] [I] (out20 (a, b, ()))) = (
Ok True ∧
  Ok True ∧
    cnd (decide ((a, b, ()).fst < (a, b, ()).snd.fst)) (Ok (((-1 : Int), ()) = out20 (a, b, ())))
      (cnd (decide ((a, b, ()).fst > (a, b, ()).snd.fst)) (Ok (((1 : Int), ()) = out20 (a, b, ()))) (Ok (((0 : Int), ()) = out20 (a, b, ()))))) := by kernel_rfl

theorem nf13 (a b : TieId) : exec E1 L0 20 (bodyOf Try.f13) (startT 40 (avs [T, T] (a, b, ()))) [] (retK Try.prog [.tmp 4] [I] (outC (a, b, ()))) = (
cnd ((a, b, ()).fst.Dir != (a, b, ()).snd.fst.Dir) (Ok True ∧ Ok (((out20 ((a, b, ()).fst.Dir, (a, b, ()).snd.fst.Dir, ())).fst, ()) = outC (a, b, ())))
  (cnd ((a, b, ()).fst.Origin != (a, b, ()).snd.fst.Origin) (Ok True ∧ Ok (((out20 ((a, b, ()).fst.Origin, (a, b, ()).snd.fst.Origin, ())).fst, ()) = outC (a, b, ())))
    (cnd ((a, b, ()).fst.Kind != (a, b, ()).snd.fst.Kind) (Ok True ∧ Ok (((out20 ((a, b, ()).fst.Kind, (a, b, ()).snd.fst.Kind, ())).fst, ()) = outC (a, b, ())))
      (Ok True ∧ Ok (((out20 ((a, b, ()).fst.Nr, (a, b, ()).snd.fst.Nr, ())).fst, ()) = outC (a, b, ())))))) := by kernel_rfl

theorem nf14 (a b : Head) : exec E1 L0 20 (bodyOf Try.f14) (startT 25 (avs [Hd, Hd] (a, b, ()))) [] (retK Try.prog [.tmp 4] [I] (outN (a, b, ()))) = (
cnd ((a, b, ()).fst.Seq != (a, b, ()).snd.fst.Seq) (Ok True ∧ Ok (((out20 ((a, b, ()).fst.Seq, (a, b, ()).snd.fst.Seq, ())).fst, ()) = outN (a, b, ())))
  (Ok True ∧
    cnd (out23 ((a, b, ()).fst.Life, (a, b, ()).snd.fst.Life, ())).fst (Ok (((1 : Int), ()) = outN (a, b, ())))
      (Ok True ∧ cnd (out23 ((a, b, ()).snd.fst.Life, (a, b, ()).fst.Life, ())).fst (Ok (((-1 : Int), ()) = outN (a, b, ()))) (Ok (((0 : Int), ()) = outN (a, b, ())))))) := by kernel_rfl

theorem nf11 (a : TieId) : exec E1 L0 20 (bodyOf Try.f11) (startT 46 (avs [T] (a, ()))) [] (retK Try.prog [.cell 2 23, .tmp 3] [T, B] (outA (a, ()))) = (
Ok True ∧
  cnd (!(out19 ({ Dir := (a, ()).fst.Dir, Origin := (a, ()).fst.Origin, Kind := (a, ()).fst.Kind, Nr := (a, ()).fst.Nr }, ())).fst)
    (Ok (({ Dir := (0 : Int), Origin := (0 : Int), Kind := (0 : Int), Nr := (0 : Int) }, false, ()) = outA (a, ())))
    (cnd (decide ((a, ()).fst.Nr < (65535 : Int)))
      (Ok (({ Dir := (a, ()).fst.Dir, Origin := (a, ()).fst.Origin, Kind := (a, ()).fst.Kind, Nr := IntKind.i64.wrap ((a, ()).fst.Nr + (1 : Int)) }, true, ()) = outA (a, ())))
      (cnd (decide ((a, ()).fst.Kind < (4 : Int)))
        (Ok (({ Dir := (a, ()).fst.Dir, Origin := (a, ()).fst.Origin, Kind := IntKind.i64.wrap ((a, ()).fst.Kind + (1 : Int)), Nr := (0 : Int) }, true, ()) = outA (a, ())))
        (cnd (decide ((a, ()).fst.Origin < (1000 : Int)))
          (Ok (({ Dir := (a, ()).fst.Dir, Origin := IntKind.i64.wrap ((a, ()).fst.Origin + (1 : Int)), Kind := (1 : Int), Nr := (0 : Int) }, true, ()) = outA (a, ())))
          (cnd (decide ((a, ()).fst.Dir < (2 : Int)))
            (Ok (({ Dir := IntKind.i64.wrap ((a, ()).fst.Dir + (1 : Int)), Origin := (1 : Int), Kind := (1 : Int), Nr := (0 : Int) }, true, ()) = outA (a, ())))
            (Ok (({ Dir := (0 : Int), Origin := (0 : Int), Kind := (0 : Int), Nr := (0 : Int) }, false, ()) = outA (a, ())))))))) := by kernel_rfl

theorem nf10 (a : TieId) : exec E1 L0 20 (bodyOf Try.f10) (startT 85 (avs [T] (a, ()))) [] (retK Try.prog [.cell 2 23, .tmp 3] [T, B] (outA (a, ()))) = (
Ok True ∧
  Ok True ∧
    Ok ((0 : Int) ≤ (0 : Int) ∧ (0 : Int) < ↑(4 : Nat)) ∧
      Ok ((!decide ((a, ()).fst.Nr < (outF ()).fst.Nr)) = true → (!decide ((a, ()).fst.Nr < (outF ()).fst.Nr)) = true) ∧
        Ok ((!decide ((a, ()).fst.Nr < (outF ()).fst.Nr)) = true → (!decide ((a, ()).fst.Nr < (outF ()).fst.Nr)) = true) ∧
          Ok ((!decide ((a, ()).fst.Nr < (outF ()).fst.Nr)) = true → (!decide ((a, ()).fst.Nr < (outF ()).fst.Nr)) = true) ∧
            Ok ((!decide ((a, ()).fst.Nr < (outF ()).fst.Nr)) = true → (!decide ((a, ()).fst.Nr < (outF ()).fst.Nr)) = true) ∧
              Ok ((!decide ((a, ()).fst.Nr < (outF ()).fst.Nr)) = true → (!decide ((a, ()).fst.Nr < (outF ()).fst.Nr)) = true) ∧
                Ok ((!decide ((a, ()).fst.Nr < (outF ()).fst.Nr)) = true → (!decide ((a, ()).fst.Nr < (outF ()).fst.Nr)) = true) ∧
                  Ok ((!decide ((a, ()).fst.Nr < (outF ()).fst.Nr)) = true → (!decide ((a, ()).fst.Nr < (outF ()).fst.Nr)) = true) ∧
                    Ok ((!decide ((a, ()).fst.Nr < (outF ()).fst.Nr)) = true → (!decide ((a, ()).fst.Nr < (outF ()).fst.Nr)) = true) ∧
                      Ok (decide ((a, ()).fst.Nr < (outF ()).fst.Nr) = false → (!decide ((a, ()).fst.Nr < (outF ()).fst.Nr)) = true) ∧
                        cnd (decide ((a, ()).fst.Nr < (outF ()).fst.Nr) || decide ((a, ()).fst.Nr > (outL ()).fst.Nr))
                          (Ok (({ Dir := (0 : Int), Origin := (0 : Int), Kind := (0 : Int), Nr := (0 : Int) }, false, ()) = outA (a, ())))
                          (Ok ((0 : Int) ≤ IntKind.i64.wrap ((0 : Int) + (1 : Int)) ∧ IntKind.i64.wrap ((0 : Int) + (1 : Int)) < ↑(4 : Nat)) ∧
                            Ok ((!decide ((a, ()).fst.Kind < (outF ()).fst.Kind)) = true → (!decide ((a, ()).fst.Kind < (outF ()).fst.Kind)) = true) ∧
                              Ok ((!decide ((a, ()).fst.Kind < (outF ()).fst.Kind)) = true → (!decide ((a, ()).fst.Kind < (outF ()).fst.Kind)) = true) ∧
                                Ok ((!decide ((a, ()).fst.Kind < (outF ()).fst.Kind)) = true → (!decide ((a, ()).fst.Kind < (outF ()).fst.Kind)) = true) ∧
                                  Ok ((!decide ((a, ()).fst.Kind < (outF ()).fst.Kind)) = true → (!decide ((a, ()).fst.Kind < (outF ()).fst.Kind)) = true) ∧
                                    Ok ((!decide ((a, ()).fst.Kind < (outF ()).fst.Kind)) = true → (!decide ((a, ()).fst.Kind < (outF ()).fst.Kind)) = true) ∧
                                      Ok ((!decide ((a, ()).fst.Kind < (outF ()).fst.Kind)) = true → (!decide ((a, ()).fst.Kind < (outF ()).fst.Kind)) = true) ∧
                                        Ok ((!decide ((a, ()).fst.Kind < (outF ()).fst.Kind)) = true → (!decide ((a, ()).fst.Kind < (outF ()).fst.Kind)) = true) ∧
                                          Ok ((!decide ((a, ()).fst.Kind < (outF ()).fst.Kind)) = true → (!decide ((a, ()).fst.Kind < (outF ()).fst.Kind)) = true) ∧
                                            Ok (decide ((a, ()).fst.Kind < (outF ()).fst.Kind) = false → (!decide ((a, ()).fst.Kind < (outF ()).fst.Kind)) = true) ∧
                                              cnd (decide ((a, ()).fst.Kind < (outF ()).fst.Kind) || decide ((a, ()).fst.Kind > (outL ()).fst.Kind))
                                                (Ok (({ Dir := (0 : Int), Origin := (0 : Int), Kind := (0 : Int), Nr := (0 : Int) }, false, ()) = outA (a, ())))
                                                (Ok
                                                    ((0 : Int) ≤ IntKind.i64.wrap (IntKind.i64.wrap ((0 : Int) + (1 : Int)) + (1 : Int)) ∧
                                                      IntKind.i64.wrap (IntKind.i64.wrap ((0 : Int) + (1 : Int)) + (1 : Int)) < ↑(4 : Nat)) ∧
                                                  Ok ((!decide ((a, ()).fst.Origin < (outF ()).fst.Origin)) = true → (!decide ((a, ()).fst.Origin < (outF ()).fst.Origin)) = true) ∧
                                                    Ok ((!decide ((a, ()).fst.Origin < (outF ()).fst.Origin)) = true → (!decide ((a, ()).fst.Origin < (outF ()).fst.Origin)) = true) ∧
                                                      Ok ((!decide ((a, ()).fst.Origin < (outF ()).fst.Origin)) = true → (!decide ((a, ()).fst.Origin < (outF ()).fst.Origin)) = true) ∧
                                                        Ok ((!decide ((a, ()).fst.Origin < (outF ()).fst.Origin)) = true → (!decide ((a, ()).fst.Origin < (outF ()).fst.Origin)) = true) ∧
                                                          Ok ((!decide ((a, ()).fst.Origin < (outF ()).fst.Origin)) = true → (!decide ((a, ()).fst.Origin < (outF ()).fst.Origin)) = true) ∧
                                                            Ok ((!decide ((a, ()).fst.Origin < (outF ()).fst.Origin)) = true → (!decide ((a, ()).fst.Origin < (outF ()).fst.Origin)) = true) ∧
                                                              Ok ((!decide ((a, ()).fst.Origin < (outF ()).fst.Origin)) = true → (!decide ((a, ()).fst.Origin < (outF ()).fst.Origin)) = true) ∧
                                                                Ok ((!decide ((a, ()).fst.Origin < (outF ()).fst.Origin)) = true → (!decide ((a, ()).fst.Origin < (outF ()).fst.Origin)) = true) ∧
                                                                  Ok (decide ((a, ()).fst.Origin < (outF ()).fst.Origin) = false → (!decide ((a, ()).fst.Origin < (outF ()).fst.Origin)) = true) ∧
                                                                    cnd (decide ((a, ()).fst.Origin < (outF ()).fst.Origin) || decide ((a, ()).fst.Origin > (outL ()).fst.Origin))
                                                                      (Ok (({ Dir := (0 : Int), Origin := (0 : Int), Kind := (0 : Int), Nr := (0 : Int) }, false, ()) = outA (a, ())))
                                                                      (Ok
                                                                          ((0 : Int) ≤ IntKind.i64.wrap (IntKind.i64.wrap (IntKind.i64.wrap ((0 : Int) + (1 : Int)) + (1 : Int)) + (1 : Int)) ∧
                                                                            IntKind.i64.wrap (IntKind.i64.wrap (IntKind.i64.wrap ((0 : Int) + (1 : Int)) + (1 : Int)) + (1 : Int)) < ↑(4 : Nat)) ∧
                                                                        Ok ((!decide ((a, ()).fst.Dir < (outF ()).fst.Dir)) = true → (!decide ((a, ()).fst.Dir < (outF ()).fst.Dir)) = true) ∧
                                                                          Ok ((!decide ((a, ()).fst.Dir < (outF ()).fst.Dir)) = true → (!decide ((a, ()).fst.Dir < (outF ()).fst.Dir)) = true) ∧
                                                                            Ok ((!decide ((a, ()).fst.Dir < (outF ()).fst.Dir)) = true → (!decide ((a, ()).fst.Dir < (outF ()).fst.Dir)) = true) ∧
                                                                              Ok ((!decide ((a, ()).fst.Dir < (outF ()).fst.Dir)) = true → (!decide ((a, ()).fst.Dir < (outF ()).fst.Dir)) = true) ∧
                                                                                Ok ((!decide ((a, ()).fst.Dir < (outF ()).fst.Dir)) = true → (!decide ((a, ()).fst.Dir < (outF ()).fst.Dir)) = true) ∧
                                                                                  Ok ((!decide ((a, ()).fst.Dir < (outF ()).fst.Dir)) = true → (!decide ((a, ()).fst.Dir < (outF ()).fst.Dir)) = true) ∧
                                                                                    Ok
                                                                                        ((!decide ((a, ()).fst.Dir < (outF ()).fst.Dir)) = true →
                                                                                          (!decide ((a, ()).fst.Dir < (outF ()).fst.Dir)) = true) ∧
                                                                                      Ok
                                                                                          ((!decide ((a, ()).fst.Dir < (outF ()).fst.Dir)) = true →
                                                                                            (!decide ((a, ()).fst.Dir < (outF ()).fst.Dir)) = true) ∧
                                                                                        Ok
                                                                                            (decide ((a, ()).fst.Dir < (outF ()).fst.Dir) = false →
                                                                                              (!decide ((a, ()).fst.Dir < (outF ()).fst.Dir)) = true) ∧
                                                                                          cnd (decide ((a, ()).fst.Dir < (outF ()).fst.Dir) || decide ((a, ()).fst.Dir > (outL ()).fst.Dir))
                                                                                            (Ok
                                                                                              (({ Dir := (0 : Int), Origin := (0 : Int), Kind := (0 : Int), Nr := (0 : Int) }, false, ()) =
                                                                                                outA (a, ())))
                                                                                            (Ok ((0 : Int) ≤ (0 : Int) ∧ (0 : Int) < ↑(4 : Nat)) ∧
                                                                                              cnd (decide ((a, ()).fst.Nr < (outL ()).fst.Nr))
                                                                                                (Ok
                                                                                                  (({ Dir := (a, ()).fst.Dir, Origin := (a, ()).fst.Origin, Kind := (a, ()).fst.Kind,
                                                                                                        Nr := IntKind.i64.wrap ((a, ()).fst.Nr + (1 : Int)) },
                                                                                                      true, ()) =
                                                                                                    outA (a, ())))
                                                                                                (Ok
                                                                                                    ((0 : Int) ≤ IntKind.i64.wrap ((0 : Int) + (1 : Int)) ∧
                                                                                                      IntKind.i64.wrap ((0 : Int) + (1 : Int)) < ↑(4 : Nat)) ∧
                                                                                                  cnd (decide ((a, ()).fst.Kind < (outL ()).fst.Kind))
                                                                                                    (Ok
                                                                                                      (({ Dir := (a, ()).fst.Dir, Origin := (a, ()).fst.Origin,
                                                                                                            Kind := IntKind.i64.wrap ((a, ()).fst.Kind + (1 : Int)), Nr := (outF ()).fst.Nr },
                                                                                                          true, ()) =
                                                                                                        outA (a, ())))
                                                                                                    (Ok
                                                                                                        ((0 : Int) ≤ IntKind.i64.wrap (IntKind.i64.wrap ((0 : Int) + (1 : Int)) + (1 : Int)) ∧
                                                                                                          IntKind.i64.wrap (IntKind.i64.wrap ((0 : Int) + (1 : Int)) + (1 : Int)) < ↑(4 : Nat)) ∧
                                                                                                      cnd (decide ((a, ()).fst.Origin < (outL ()).fst.Origin))
                                                                                                        (Ok
                                                                                                          (({ Dir := (a, ()).fst.Dir, Origin := IntKind.i64.wrap ((a, ()).fst.Origin + (1 : Int)),
                                                                                                                Kind := (outF ()).fst.Kind, Nr := (outF ()).fst.Nr },
                                                                                                              true, ()) =
                                                                                                            outA (a, ())))
                                                                                                        (Ok
                                                                                                            ((0 : Int) ≤
                                                                                                                IntKind.i64.wrap
                                                                                                                  (IntKind.i64.wrap (IntKind.i64.wrap ((0 : Int) + (1 : Int)) + (1 : Int)) +
                                                                                                                    (1 : Int)) ∧
                                                                                                              IntKind.i64.wrap
                                                                                                                  (IntKind.i64.wrap (IntKind.i64.wrap ((0 : Int) + (1 : Int)) + (1 : Int)) +
                                                                                                                    (1 : Int)) <
                                                                                                                ↑(4 : Nat)) ∧
                                                                                                          cnd (decide ((a, ()).fst.Dir < (outL ()).fst.Dir))
                                                                                                            (Ok
                                                                                                              (({ Dir := IntKind.i64.wrap ((a, ()).fst.Dir + (1 : Int)), Origin := (outF ()).fst.Origin,
                                                                                                                    Kind := (outF ()).fst.Kind, Nr := (outF ()).fst.Nr },
                                                                                                                  true, ()) =
                                                                                                                outA (a, ())))
                                                                                                            (Ok
                                                                                                              (({ Dir := (0 : Int), Origin := (0 : Int), Kind := (0 : Int), Nr := (0 : Int) }, false,
                                                                                                                  ()) =
                                                                                                                outA (a, ()))))))))))) := by kernel_rfl

