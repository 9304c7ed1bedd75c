/- A part of the walk of the tie laws. -/
import Derived.Test.YtlpbalinhikboaaA8
namespace Go.Proofs.Ytlpbalinhikboaa
open Go Go.X Go.Proofs
set_option maxRecDepth 100000

theorem nf8  : exec E4 L0 20 (bodyOf Try.f8) (startT 20 (avs [] ())) [] (retK E4.P [.tmp 0] [B] (out8 ())) = (
Ok True ∧
  Ok
      ((outA ({ Dir := (1 : Int), Origin := (1 : Int), Kind := (1 : Int), Nr := (65535 : Int) }, ())).snd.fst = true →
        (outA ({ Dir := (1 : Int), Origin := (1 : Int), Kind := (1 : Int), Nr := (65535 : Int) }, ())).snd.fst = true) ∧
    Ok
        ((outA ({ Dir := (1 : Int), Origin := (1 : Int), Kind := (1 : Int), Nr := (65535 : Int) }, ())).snd.fst = true →
          (outA ({ Dir := (1 : Int), Origin := (1 : Int), Kind := (1 : Int), Nr := (65535 : Int) }, ())).snd.fst = true) ∧
      Ok
          ((outA ({ Dir := (1 : Int), Origin := (1 : Int), Kind := (1 : Int), Nr := (65535 : Int) }, ())).snd.fst = true →
            (outA ({ Dir := (1 : Int), Origin := (1 : Int), Kind := (1 : Int), Nr := (65535 : Int) }, ())).snd.fst = true) ∧
        Ok
            (((outA ({ Dir := (1 : Int), Origin := (1 : Int), Kind := (1 : Int), Nr := (65535 : Int) }, ())).snd.fst &&
                  ((outA ({ Dir := (1 : Int), Origin := (1 : Int), Kind := (1 : Int), Nr := (65535 : Int) }, ())).fst.Dir == (1 : Int) &&
                    ((outA ({ Dir := (1 : Int), Origin := (1 : Int), Kind := (1 : Int), Nr := (65535 : Int) }, ())).fst.Origin == (1 : Int) &&
                      ((outA ({ Dir := (1 : Int), Origin := (1 : Int), Kind := (1 : Int), Nr := (65535 : Int) }, ())).fst.Kind == (2 : Int) &&
                        (outA ({ Dir := (1 : Int), Origin := (1 : Int), Kind := (1 : Int), Nr := (65535 : Int) }, ())).fst.Nr == (0 : Int))))) =
                true →
              ((outA ({ Dir := (1 : Int), Origin := (1 : Int), Kind := (1 : Int), Nr := (65535 : Int) }, ())).snd.fst &&
                  ((outA ({ Dir := (1 : Int), Origin := (1 : Int), Kind := (1 : Int), Nr := (65535 : Int) }, ())).fst.Dir == (1 : Int) &&
                    ((outA ({ Dir := (1 : Int), Origin := (1 : Int), Kind := (1 : Int), Nr := (65535 : Int) }, ())).fst.Origin == (1 : Int) &&
                      ((outA ({ Dir := (1 : Int), Origin := (1 : Int), Kind := (1 : Int), Nr := (65535 : Int) }, ())).fst.Kind == (2 : Int) &&
                        (outA ({ Dir := (1 : Int), Origin := (1 : Int), Kind := (1 : Int), Nr := (65535 : Int) }, ())).fst.Nr == (0 : Int))))) =
                true) ∧
          Ok
              (((outA ({ Dir := (1 : Int), Origin := (1 : Int), Kind := (1 : Int), Nr := (65535 : Int) }, ())).snd.fst &&
                    ((outA ({ Dir := (1 : Int), Origin := (1 : Int), Kind := (1 : Int), Nr := (65535 : Int) }, ())).fst.Dir == (1 : Int) &&
                      ((outA ({ Dir := (1 : Int), Origin := (1 : Int), Kind := (1 : Int), Nr := (65535 : Int) }, ())).fst.Origin == (1 : Int) &&
                        ((outA ({ Dir := (1 : Int), Origin := (1 : Int), Kind := (1 : Int), Nr := (65535 : Int) }, ())).fst.Kind == (2 : Int) &&
                          (outA ({ Dir := (1 : Int), Origin := (1 : Int), Kind := (1 : Int), Nr := (65535 : Int) }, ())).fst.Nr == (0 : Int))))) =
                  true →
                ((outA ({ Dir := (1 : Int), Origin := (1 : Int), Kind := (1 : Int), Nr := (65535 : Int) }, ())).snd.fst &&
                    ((outA ({ Dir := (1 : Int), Origin := (1 : Int), Kind := (1 : Int), Nr := (65535 : Int) }, ())).fst.Dir == (1 : Int) &&
                      ((outA ({ Dir := (1 : Int), Origin := (1 : Int), Kind := (1 : Int), Nr := (65535 : Int) }, ())).fst.Origin == (1 : Int) &&
                        ((outA ({ Dir := (1 : Int), Origin := (1 : Int), Kind := (1 : Int), Nr := (65535 : Int) }, ())).fst.Kind == (2 : Int) &&
                          (outA ({ Dir := (1 : Int), Origin := (1 : Int), Kind := (1 : Int), Nr := (65535 : Int) }, ())).fst.Nr == (0 : Int))))) =
                  true) ∧
            Ok
                (((outA ({ Dir := (1 : Int), Origin := (1 : Int), Kind := (1 : Int), Nr := (65535 : Int) }, ())).snd.fst &&
                      ((outA ({ Dir := (1 : Int), Origin := (1 : Int), Kind := (1 : Int), Nr := (65535 : Int) }, ())).fst.Dir == (1 : Int) &&
                        ((outA ({ Dir := (1 : Int), Origin := (1 : Int), Kind := (1 : Int), Nr := (65535 : Int) }, ())).fst.Origin == (1 : Int) &&
                          ((outA ({ Dir := (1 : Int), Origin := (1 : Int), Kind := (1 : Int), Nr := (65535 : Int) }, ())).fst.Kind == (2 : Int) &&
                            (outA ({ Dir := (1 : Int), Origin := (1 : Int), Kind := (1 : Int), Nr := (65535 : Int) }, ())).fst.Nr == (0 : Int))))) =
                    true →
                  True) ∧
              Ok
                  (((outA ({ Dir := (1 : Int), Origin := (1 : Int), Kind := (1 : Int), Nr := (65535 : Int) }, ())).snd.fst &&
                        ((outA ({ Dir := (1 : Int), Origin := (1 : Int), Kind := (1 : Int), Nr := (65535 : Int) }, ())).fst.Dir == (1 : Int) &&
                          ((outA ({ Dir := (1 : Int), Origin := (1 : Int), Kind := (1 : Int), Nr := (65535 : Int) }, ())).fst.Origin == (1 : Int) &&
                            ((outA ({ Dir := (1 : Int), Origin := (1 : Int), Kind := (1 : Int), Nr := (65535 : Int) }, ())).fst.Kind == (2 : Int) &&
                              (outA ({ Dir := (1 : Int), Origin := (1 : Int), Kind := (1 : Int), Nr := (65535 : Int) }, ())).fst.Nr == (0 : Int))))) =
                      true →
                    ((outA ({ Dir := (1 : Int), Origin := (1 : Int), Kind := (1 : Int), Nr := (65535 : Int) }, ())).snd.fst &&
                        ((outA ({ Dir := (1 : Int), Origin := (1 : Int), Kind := (1 : Int), Nr := (65535 : Int) }, ())).fst.Dir == (1 : Int) &&
                          ((outA ({ Dir := (1 : Int), Origin := (1 : Int), Kind := (1 : Int), Nr := (65535 : Int) }, ())).fst.Origin == (1 : Int) &&
                            ((outA ({ Dir := (1 : Int), Origin := (1 : Int), Kind := (1 : Int), Nr := (65535 : Int) }, ())).fst.Kind == (2 : Int) &&
                              (outA ({ Dir := (1 : Int), Origin := (1 : Int), Kind := (1 : Int), Nr := (65535 : Int) }, ())).fst.Nr == (0 : Int))))) =
                      true) ∧
                Ok
                    (((outA ({ Dir := (1 : Int), Origin := (1 : Int), Kind := (1 : Int), Nr := (65535 : Int) }, ())).snd.fst &&
                          ((outA ({ Dir := (1 : Int), Origin := (1 : Int), Kind := (1 : Int), Nr := (65535 : Int) }, ())).fst.Dir == (1 : Int) &&
                            ((outA ({ Dir := (1 : Int), Origin := (1 : Int), Kind := (1 : Int), Nr := (65535 : Int) }, ())).fst.Origin == (1 : Int) &&
                              ((outA ({ Dir := (1 : Int), Origin := (1 : Int), Kind := (1 : Int), Nr := (65535 : Int) }, ())).fst.Kind == (2 : Int) &&
                                (outA ({ Dir := (1 : Int), Origin := (1 : Int), Kind := (1 : Int), Nr := (65535 : Int) }, ())).fst.Nr == (0 : Int))))) =
                        true →
                      ((outA ({ Dir := (1 : Int), Origin := (1 : Int), Kind := (1 : Int), Nr := (65535 : Int) }, ())).snd.fst &&
                          ((outA ({ Dir := (1 : Int), Origin := (1 : Int), Kind := (1 : Int), Nr := (65535 : Int) }, ())).fst.Dir == (1 : Int) &&
                            ((outA ({ Dir := (1 : Int), Origin := (1 : Int), Kind := (1 : Int), Nr := (65535 : Int) }, ())).fst.Origin == (1 : Int) &&
                              ((outA ({ Dir := (1 : Int), Origin := (1 : Int), Kind := (1 : Int), Nr := (65535 : Int) }, ())).fst.Kind == (2 : Int) &&
                                (outA ({ Dir := (1 : Int), Origin := (1 : Int), Kind := (1 : Int), Nr := (65535 : Int) }, ())).fst.Nr == (0 : Int))))) =
                        true) ∧
                  Ok
                    (((outA ({ Dir := (1 : Int), Origin := (1 : Int), Kind := (1 : Int), Nr := (65535 : Int) }, ())).snd.fst &&
                            ((outA ({ Dir := (1 : Int), Origin := (1 : Int), Kind := (1 : Int), Nr := (65535 : Int) }, ())).fst.Dir == (1 : Int) &&
                              ((outA ({ Dir := (1 : Int), Origin := (1 : Int), Kind := (1 : Int), Nr := (65535 : Int) }, ())).fst.Origin == (1 : Int) &&
                                ((outA ({ Dir := (1 : Int), Origin := (1 : Int), Kind := (1 : Int), Nr := (65535 : Int) }, ())).fst.Kind == (2 : Int) &&
                                  (outA ({ Dir := (1 : Int), Origin := (1 : Int), Kind := (1 : Int), Nr := (65535 : Int) }, ())).fst.Nr == (0 : Int)))) &&
                          (outN
                                ({ Id := { Dir := (0 : Int), Origin := (0 : Int), Kind := (0 : Int), Nr := (0 : Int) }, Seq := (2 : Int), Life := (0 : Int) },
                                  { Id := { Dir := (0 : Int), Origin := (0 : Int), Kind := (0 : Int), Nr := (0 : Int) }, Seq := (1 : Int), Life := (0 : Int) }, ())).fst ==
                            (1 : Int),
                        ()) =
                      out8 ())) := by kernel_rfl

