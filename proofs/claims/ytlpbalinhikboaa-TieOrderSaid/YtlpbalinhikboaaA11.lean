/- A part of the walk of the tie laws. -/
import Derived.Test.YtlpbalinhikboaaA10
namespace Go.Proofs.Ytlpbalinhikboaa
open Go Go.X Go.Proofs
set_option maxRecDepth 100000

theorem nf3 (a b : Head) : exec E5 L0 20 (bodyOf Try.f3) (startT 37 (avs [Hd, Hd] (a, b, ()))) [] (retK E5.P [.tmp 4] [B] (out3 (a, b, ()))) = (
Ok True ∧
  Ok True ∧
    Ok ((out8 ()).fst = true → (out8 ()).fst = true) ∧
      Ok ((out8 ()).fst = true → (out8 ()).fst = true) ∧
        Ok ((out8 ()).fst = true → True) ∧
          Ok ((out8 ()).fst = true → (out8 ()).fst = true) ∧
            Ok ((out8 ()).fst = true → (out8 ()).fst = true) ∧
              Ok ((out8 ()).fst = true → (out8 ()).fst = true) ∧
                Ok ((out8 ()).fst = true → (out8 ()).fst = true) ∧
                  Ok
                      (((out8 ()).fst &&
                            (outN
                                  ({ Id := { Dir := (a, b, ()).fst.Id.Dir, Origin := (a, b, ()).fst.Id.Origin, Kind := (a, b, ()).fst.Id.Kind, Nr := (a, b, ()).fst.Id.Nr }, Seq := (a, b, ()).fst.Seq,
                                      Life := (a, b, ()).fst.Life },
                                    { Id := { Dir := (a, b, ()).snd.fst.Id.Dir, Origin := (a, b, ()).snd.fst.Id.Origin, Kind := (a, b, ()).snd.fst.Id.Kind, Nr := (a, b, ()).snd.fst.Id.Nr },
                                      Seq := (a, b, ()).snd.fst.Seq, Life := (a, b, ()).snd.fst.Life },
                                    ())).fst ==
                              IntKind.i64.wrap
                                ((0 : Int) -
                                  (outN
                                      ({ Id := { Dir := (a, b, ()).snd.fst.Id.Dir, Origin := (a, b, ()).snd.fst.Id.Origin, Kind := (a, b, ()).snd.fst.Id.Kind, Nr := (a, b, ()).snd.fst.Id.Nr },
                                          Seq := (a, b, ()).snd.fst.Seq, Life := (a, b, ()).snd.fst.Life },
                                        { Id := { Dir := (a, b, ()).fst.Id.Dir, Origin := (a, b, ()).fst.Id.Origin, Kind := (a, b, ()).fst.Id.Kind, Nr := (a, b, ()).fst.Id.Nr },
                                          Seq := (a, b, ()).fst.Seq, Life := (a, b, ()).fst.Life },
                                        ())).fst)) =
                          true →
                        ((out8 ()).fst &&
                            (outN
                                  ({ Id := { Dir := (a, b, ()).fst.Id.Dir, Origin := (a, b, ()).fst.Id.Origin, Kind := (a, b, ()).fst.Id.Kind, Nr := (a, b, ()).fst.Id.Nr }, Seq := (a, b, ()).fst.Seq,
                                      Life := (a, b, ()).fst.Life },
                                    { Id := { Dir := (a, b, ()).snd.fst.Id.Dir, Origin := (a, b, ()).snd.fst.Id.Origin, Kind := (a, b, ()).snd.fst.Id.Kind, Nr := (a, b, ()).snd.fst.Id.Nr },
                                      Seq := (a, b, ()).snd.fst.Seq, Life := (a, b, ()).snd.fst.Life },
                                    ())).fst ==
                              IntKind.i64.wrap
                                ((0 : Int) -
                                  (outN
                                      ({ Id := { Dir := (a, b, ()).snd.fst.Id.Dir, Origin := (a, b, ()).snd.fst.Id.Origin, Kind := (a, b, ()).snd.fst.Id.Kind, Nr := (a, b, ()).snd.fst.Id.Nr },
                                          Seq := (a, b, ()).snd.fst.Seq, Life := (a, b, ()).snd.fst.Life },
                                        { Id := { Dir := (a, b, ()).fst.Id.Dir, Origin := (a, b, ()).fst.Id.Origin, Kind := (a, b, ()).fst.Id.Kind, Nr := (a, b, ()).fst.Id.Nr },
                                          Seq := (a, b, ()).fst.Seq, Life := (a, b, ()).fst.Life },
                                        ())).fst)) =
                          true) ∧
                    Ok
                        (((out8 ()).fst &&
                              (outN
                                    ({ Id := { Dir := (a, b, ()).fst.Id.Dir, Origin := (a, b, ()).fst.Id.Origin, Kind := (a, b, ()).fst.Id.Kind, Nr := (a, b, ()).fst.Id.Nr },
                                        Seq := (a, b, ()).fst.Seq, Life := (a, b, ()).fst.Life },
                                      { Id := { Dir := (a, b, ()).snd.fst.Id.Dir, Origin := (a, b, ()).snd.fst.Id.Origin, Kind := (a, b, ()).snd.fst.Id.Kind, Nr := (a, b, ()).snd.fst.Id.Nr },
                                        Seq := (a, b, ()).snd.fst.Seq, Life := (a, b, ()).snd.fst.Life },
                                      ())).fst ==
                                IntKind.i64.wrap
                                  ((0 : Int) -
                                    (outN
                                        ({ Id := { Dir := (a, b, ()).snd.fst.Id.Dir, Origin := (a, b, ()).snd.fst.Id.Origin, Kind := (a, b, ()).snd.fst.Id.Kind, Nr := (a, b, ()).snd.fst.Id.Nr },
                                            Seq := (a, b, ()).snd.fst.Seq, Life := (a, b, ()).snd.fst.Life },
                                          { Id := { Dir := (a, b, ()).fst.Id.Dir, Origin := (a, b, ()).fst.Id.Origin, Kind := (a, b, ()).fst.Id.Kind, Nr := (a, b, ()).fst.Id.Nr },
                                            Seq := (a, b, ()).fst.Seq, Life := (a, b, ()).fst.Life },
                                          ())).fst)) =
                            true →
                          ((out8 ()).fst &&
                              (outN
                                    ({ Id := { Dir := (a, b, ()).fst.Id.Dir, Origin := (a, b, ()).fst.Id.Origin, Kind := (a, b, ()).fst.Id.Kind, Nr := (a, b, ()).fst.Id.Nr },
                                        Seq := (a, b, ()).fst.Seq, Life := (a, b, ()).fst.Life },
                                      { Id := { Dir := (a, b, ()).snd.fst.Id.Dir, Origin := (a, b, ()).snd.fst.Id.Origin, Kind := (a, b, ()).snd.fst.Id.Kind, Nr := (a, b, ()).snd.fst.Id.Nr },
                                        Seq := (a, b, ()).snd.fst.Seq, Life := (a, b, ()).snd.fst.Life },
                                      ())).fst ==
                                IntKind.i64.wrap
                                  ((0 : Int) -
                                    (outN
                                        ({ Id := { Dir := (a, b, ()).snd.fst.Id.Dir, Origin := (a, b, ()).snd.fst.Id.Origin, Kind := (a, b, ()).snd.fst.Id.Kind, Nr := (a, b, ()).snd.fst.Id.Nr },
                                            Seq := (a, b, ()).snd.fst.Seq, Life := (a, b, ()).snd.fst.Life },
                                          { Id := { Dir := (a, b, ()).fst.Id.Dir, Origin := (a, b, ()).fst.Id.Origin, Kind := (a, b, ()).fst.Id.Kind, Nr := (a, b, ()).fst.Id.Nr },
                                            Seq := (a, b, ()).fst.Seq, Life := (a, b, ()).fst.Life },
                                          ())).fst)) =
                            true) ∧
                      Ok
                          (((out8 ()).fst &&
                                (outN
                                      ({ Id := { Dir := (a, b, ()).fst.Id.Dir, Origin := (a, b, ()).fst.Id.Origin, Kind := (a, b, ()).fst.Id.Kind, Nr := (a, b, ()).fst.Id.Nr },
                                          Seq := (a, b, ()).fst.Seq, Life := (a, b, ()).fst.Life },
                                        { Id := { Dir := (a, b, ()).snd.fst.Id.Dir, Origin := (a, b, ()).snd.fst.Id.Origin, Kind := (a, b, ()).snd.fst.Id.Kind, Nr := (a, b, ()).snd.fst.Id.Nr },
                                          Seq := (a, b, ()).snd.fst.Seq, Life := (a, b, ()).snd.fst.Life },
                                        ())).fst ==
                                  IntKind.i64.wrap
                                    ((0 : Int) -
                                      (outN
                                          ({ Id := { Dir := (a, b, ()).snd.fst.Id.Dir, Origin := (a, b, ()).snd.fst.Id.Origin, Kind := (a, b, ()).snd.fst.Id.Kind, Nr := (a, b, ()).snd.fst.Id.Nr },
                                              Seq := (a, b, ()).snd.fst.Seq, Life := (a, b, ()).snd.fst.Life },
                                            { Id := { Dir := (a, b, ()).fst.Id.Dir, Origin := (a, b, ()).fst.Id.Origin, Kind := (a, b, ()).fst.Id.Kind, Nr := (a, b, ()).fst.Id.Nr },
                                              Seq := (a, b, ()).fst.Seq, Life := (a, b, ()).fst.Life },
                                            ())).fst)) =
                              true →
                            ((out8 ()).fst &&
                                (outN
                                      ({ Id := { Dir := (a, b, ()).fst.Id.Dir, Origin := (a, b, ()).fst.Id.Origin, Kind := (a, b, ()).fst.Id.Kind, Nr := (a, b, ()).fst.Id.Nr },
                                          Seq := (a, b, ()).fst.Seq, Life := (a, b, ()).fst.Life },
                                        { Id := { Dir := (a, b, ()).snd.fst.Id.Dir, Origin := (a, b, ()).snd.fst.Id.Origin, Kind := (a, b, ()).snd.fst.Id.Kind, Nr := (a, b, ()).snd.fst.Id.Nr },
                                          Seq := (a, b, ()).snd.fst.Seq, Life := (a, b, ()).snd.fst.Life },
                                        ())).fst ==
                                  IntKind.i64.wrap
                                    ((0 : Int) -
                                      (outN
                                          ({ Id := { Dir := (a, b, ()).snd.fst.Id.Dir, Origin := (a, b, ()).snd.fst.Id.Origin, Kind := (a, b, ()).snd.fst.Id.Kind, Nr := (a, b, ()).snd.fst.Id.Nr },
                                              Seq := (a, b, ()).snd.fst.Seq, Life := (a, b, ()).snd.fst.Life },
                                            { Id := { Dir := (a, b, ()).fst.Id.Dir, Origin := (a, b, ()).fst.Id.Origin, Kind := (a, b, ()).fst.Id.Kind, Nr := (a, b, ()).fst.Id.Nr },
                                              Seq := (a, b, ()).fst.Seq, Life := (a, b, ()).fst.Life },
                                            ())).fst)) =
                              true) ∧
                        Ok
                            (((out8 ()).fst &&
                                  (outN
                                        ({ Id := { Dir := (a, b, ()).fst.Id.Dir, Origin := (a, b, ()).fst.Id.Origin, Kind := (a, b, ()).fst.Id.Kind, Nr := (a, b, ()).fst.Id.Nr },
                                            Seq := (a, b, ()).fst.Seq, Life := (a, b, ()).fst.Life },
                                          { Id := { Dir := (a, b, ()).snd.fst.Id.Dir, Origin := (a, b, ()).snd.fst.Id.Origin, Kind := (a, b, ()).snd.fst.Id.Kind, Nr := (a, b, ()).snd.fst.Id.Nr },
                                            Seq := (a, b, ()).snd.fst.Seq, Life := (a, b, ()).snd.fst.Life },
                                          ())).fst ==
                                    IntKind.i64.wrap
                                      ((0 : Int) -
                                        (outN
                                            ({ Id := { Dir := (a, b, ()).snd.fst.Id.Dir, Origin := (a, b, ()).snd.fst.Id.Origin, Kind := (a, b, ()).snd.fst.Id.Kind, Nr := (a, b, ()).snd.fst.Id.Nr },
                                                Seq := (a, b, ()).snd.fst.Seq, Life := (a, b, ()).snd.fst.Life },
                                              { Id := { Dir := (a, b, ()).fst.Id.Dir, Origin := (a, b, ()).fst.Id.Origin, Kind := (a, b, ()).fst.Id.Kind, Nr := (a, b, ()).fst.Id.Nr },
                                                Seq := (a, b, ()).fst.Seq, Life := (a, b, ()).fst.Life },
                                              ())).fst)) =
                                true →
                              ((out8 ()).fst &&
                                  (outN
                                        ({ Id := { Dir := (a, b, ()).fst.Id.Dir, Origin := (a, b, ()).fst.Id.Origin, Kind := (a, b, ()).fst.Id.Kind, Nr := (a, b, ()).fst.Id.Nr },
                                            Seq := (a, b, ()).fst.Seq, Life := (a, b, ()).fst.Life },
                                          { Id := { Dir := (a, b, ()).snd.fst.Id.Dir, Origin := (a, b, ()).snd.fst.Id.Origin, Kind := (a, b, ()).snd.fst.Id.Kind, Nr := (a, b, ()).snd.fst.Id.Nr },
                                            Seq := (a, b, ()).snd.fst.Seq, Life := (a, b, ()).snd.fst.Life },
                                          ())).fst ==
                                    IntKind.i64.wrap
                                      ((0 : Int) -
                                        (outN
                                            ({ Id := { Dir := (a, b, ()).snd.fst.Id.Dir, Origin := (a, b, ()).snd.fst.Id.Origin, Kind := (a, b, ()).snd.fst.Id.Kind, Nr := (a, b, ()).snd.fst.Id.Nr },
                                                Seq := (a, b, ()).snd.fst.Seq, Life := (a, b, ()).snd.fst.Life },
                                              { Id := { Dir := (a, b, ()).fst.Id.Dir, Origin := (a, b, ()).fst.Id.Origin, Kind := (a, b, ()).fst.Id.Kind, Nr := (a, b, ()).fst.Id.Nr },
                                                Seq := (a, b, ()).fst.Seq, Life := (a, b, ()).fst.Life },
                                              ())).fst)) =
                                true) ∧
                          Ok
                              (((out8 ()).fst &&
                                    (outN
                                          ({ Id := { Dir := (a, b, ()).fst.Id.Dir, Origin := (a, b, ()).fst.Id.Origin, Kind := (a, b, ()).fst.Id.Kind, Nr := (a, b, ()).fst.Id.Nr },
                                              Seq := (a, b, ()).fst.Seq, Life := (a, b, ()).fst.Life },
                                            { Id := { Dir := (a, b, ()).snd.fst.Id.Dir, Origin := (a, b, ()).snd.fst.Id.Origin, Kind := (a, b, ()).snd.fst.Id.Kind, Nr := (a, b, ()).snd.fst.Id.Nr },
                                              Seq := (a, b, ()).snd.fst.Seq, Life := (a, b, ()).snd.fst.Life },
                                            ())).fst ==
                                      IntKind.i64.wrap
                                        ((0 : Int) -
                                          (outN
                                              ({ Id := { Dir := (a, b, ()).snd.fst.Id.Dir, Origin := (a, b, ()).snd.fst.Id.Origin, Kind := (a, b, ()).snd.fst.Id.Kind, Nr := (a, b, ()).snd.fst.Id.Nr },
                                                  Seq := (a, b, ()).snd.fst.Seq, Life := (a, b, ()).snd.fst.Life },
                                                { Id := { Dir := (a, b, ()).fst.Id.Dir, Origin := (a, b, ()).fst.Id.Origin, Kind := (a, b, ()).fst.Id.Kind, Nr := (a, b, ()).fst.Id.Nr },
                                                  Seq := (a, b, ()).fst.Seq, Life := (a, b, ()).fst.Life },
                                                ())).fst)) =
                                  true →
                                ((out8 ()).fst &&
                                    (outN
                                          ({ Id := { Dir := (a, b, ()).fst.Id.Dir, Origin := (a, b, ()).fst.Id.Origin, Kind := (a, b, ()).fst.Id.Kind, Nr := (a, b, ()).fst.Id.Nr },
                                              Seq := (a, b, ()).fst.Seq, Life := (a, b, ()).fst.Life },
                                            { Id := { Dir := (a, b, ()).snd.fst.Id.Dir, Origin := (a, b, ()).snd.fst.Id.Origin, Kind := (a, b, ()).snd.fst.Id.Kind, Nr := (a, b, ()).snd.fst.Id.Nr },
                                              Seq := (a, b, ()).snd.fst.Seq, Life := (a, b, ()).snd.fst.Life },
                                            ())).fst ==
                                      IntKind.i64.wrap
                                        ((0 : Int) -
                                          (outN
                                              ({ Id := { Dir := (a, b, ()).snd.fst.Id.Dir, Origin := (a, b, ()).snd.fst.Id.Origin, Kind := (a, b, ()).snd.fst.Id.Kind, Nr := (a, b, ()).snd.fst.Id.Nr },
                                                  Seq := (a, b, ()).snd.fst.Seq, Life := (a, b, ()).snd.fst.Life },
                                                { Id := { Dir := (a, b, ()).fst.Id.Dir, Origin := (a, b, ()).fst.Id.Origin, Kind := (a, b, ()).fst.Id.Kind, Nr := (a, b, ()).fst.Id.Nr },
                                                  Seq := (a, b, ()).fst.Seq, Life := (a, b, ()).fst.Life },
                                                ())).fst)) =
                                  true) ∧
                            Ok
                                (((out8 ()).fst &&
                                        (outN
                                              ({ Id := { Dir := (a, b, ()).fst.Id.Dir, Origin := (a, b, ()).fst.Id.Origin, Kind := (a, b, ()).fst.Id.Kind, Nr := (a, b, ()).fst.Id.Nr },
                                                  Seq := (a, b, ()).fst.Seq, Life := (a, b, ()).fst.Life },
                                                {
                                                  Id :=
                                                    { Dir := (a, b, ()).snd.fst.Id.Dir, Origin := (a, b, ()).snd.fst.Id.Origin, Kind := (a, b, ()).snd.fst.Id.Kind, Nr := (a, b, ()).snd.fst.Id.Nr },
                                                  Seq := (a, b, ()).snd.fst.Seq, Life := (a, b, ()).snd.fst.Life },
                                                ())).fst ==
                                          IntKind.i64.wrap
                                            ((0 : Int) -
                                              (outN
                                                  ({
                                                      Id :=
                                                        { Dir := (a, b, ()).snd.fst.Id.Dir, Origin := (a, b, ()).snd.fst.Id.Origin, Kind := (a, b, ()).snd.fst.Id.Kind,
                                                          Nr := (a, b, ()).snd.fst.Id.Nr },
                                                      Seq := (a, b, ()).snd.fst.Seq, Life := (a, b, ()).snd.fst.Life },
                                                    { Id := { Dir := (a, b, ()).fst.Id.Dir, Origin := (a, b, ()).fst.Id.Origin, Kind := (a, b, ()).fst.Id.Kind, Nr := (a, b, ()).fst.Id.Nr },
                                                      Seq := (a, b, ()).fst.Seq, Life := (a, b, ()).fst.Life },
                                                    ())).fst) &&
                                      !decide ((a, b, ()).fst.Seq ≤ (a, b, ()).snd.fst.Seq)) =
                                    true →
                                  ((out8 ()).fst &&
                                        (outN
                                              ({ Id := { Dir := (a, b, ()).fst.Id.Dir, Origin := (a, b, ()).fst.Id.Origin, Kind := (a, b, ()).fst.Id.Kind, Nr := (a, b, ()).fst.Id.Nr },
                                                  Seq := (a, b, ()).fst.Seq, Life := (a, b, ()).fst.Life },
                                                {
                                                  Id :=
                                                    { Dir := (a, b, ()).snd.fst.Id.Dir, Origin := (a, b, ()).snd.fst.Id.Origin, Kind := (a, b, ()).snd.fst.Id.Kind, Nr := (a, b, ()).snd.fst.Id.Nr },
                                                  Seq := (a, b, ()).snd.fst.Seq, Life := (a, b, ()).snd.fst.Life },
                                                ())).fst ==
                                          IntKind.i64.wrap
                                            ((0 : Int) -
                                              (outN
                                                  ({
                                                      Id :=
                                                        { Dir := (a, b, ()).snd.fst.Id.Dir, Origin := (a, b, ()).snd.fst.Id.Origin, Kind := (a, b, ()).snd.fst.Id.Kind,
                                                          Nr := (a, b, ()).snd.fst.Id.Nr },
                                                      Seq := (a, b, ()).snd.fst.Seq, Life := (a, b, ()).snd.fst.Life },
                                                    { Id := { Dir := (a, b, ()).fst.Id.Dir, Origin := (a, b, ()).fst.Id.Origin, Kind := (a, b, ()).fst.Id.Kind, Nr := (a, b, ()).fst.Id.Nr },
                                                      Seq := (a, b, ()).fst.Seq, Life := (a, b, ()).fst.Life },
                                                    ())).fst) &&
                                      !decide ((a, b, ()).fst.Seq ≤ (a, b, ()).snd.fst.Seq)) =
                                    true) ∧
                              Ok
                                  (((out8 ()).fst &&
                                        (outN
                                              ({ Id := { Dir := (a, b, ()).fst.Id.Dir, Origin := (a, b, ()).fst.Id.Origin, Kind := (a, b, ()).fst.Id.Kind, Nr := (a, b, ()).fst.Id.Nr },
                                                  Seq := (a, b, ()).fst.Seq, Life := (a, b, ()).fst.Life },
                                                {
                                                  Id :=
                                                    { Dir := (a, b, ()).snd.fst.Id.Dir, Origin := (a, b, ()).snd.fst.Id.Origin, Kind := (a, b, ()).snd.fst.Id.Kind, Nr := (a, b, ()).snd.fst.Id.Nr },
                                                  Seq := (a, b, ()).snd.fst.Seq, Life := (a, b, ()).snd.fst.Life },
                                                ())).fst ==
                                          IntKind.i64.wrap
                                            ((0 : Int) -
                                              (outN
                                                  ({
                                                      Id :=
                                                        { Dir := (a, b, ()).snd.fst.Id.Dir, Origin := (a, b, ()).snd.fst.Id.Origin, Kind := (a, b, ()).snd.fst.Id.Kind,
                                                          Nr := (a, b, ()).snd.fst.Id.Nr },
                                                      Seq := (a, b, ()).snd.fst.Seq, Life := (a, b, ()).snd.fst.Life },
                                                    { Id := { Dir := (a, b, ()).fst.Id.Dir, Origin := (a, b, ()).fst.Id.Origin, Kind := (a, b, ()).fst.Id.Kind, Nr := (a, b, ()).fst.Id.Nr },
                                                      Seq := (a, b, ()).fst.Seq, Life := (a, b, ()).fst.Life },
                                                    ())).fst)) =
                                      true →
                                    ((out8 ()).fst &&
                                        (outN
                                              ({ Id := { Dir := (a, b, ()).fst.Id.Dir, Origin := (a, b, ()).fst.Id.Origin, Kind := (a, b, ()).fst.Id.Kind, Nr := (a, b, ()).fst.Id.Nr },
                                                  Seq := (a, b, ()).fst.Seq, Life := (a, b, ()).fst.Life },
                                                {
                                                  Id :=
                                                    { Dir := (a, b, ()).snd.fst.Id.Dir, Origin := (a, b, ()).snd.fst.Id.Origin, Kind := (a, b, ()).snd.fst.Id.Kind, Nr := (a, b, ()).snd.fst.Id.Nr },
                                                  Seq := (a, b, ()).snd.fst.Seq, Life := (a, b, ()).snd.fst.Life },
                                                ())).fst ==
                                          IntKind.i64.wrap
                                            ((0 : Int) -
                                              (outN
                                                  ({
                                                      Id :=
                                                        { Dir := (a, b, ()).snd.fst.Id.Dir, Origin := (a, b, ()).snd.fst.Id.Origin, Kind := (a, b, ()).snd.fst.Id.Kind,
                                                          Nr := (a, b, ()).snd.fst.Id.Nr },
                                                      Seq := (a, b, ()).snd.fst.Seq, Life := (a, b, ()).snd.fst.Life },
                                                    { Id := { Dir := (a, b, ()).fst.Id.Dir, Origin := (a, b, ()).fst.Id.Origin, Kind := (a, b, ()).fst.Id.Kind, Nr := (a, b, ()).fst.Id.Nr },
                                                      Seq := (a, b, ()).fst.Seq, Life := (a, b, ()).fst.Life },
                                                    ())).fst)) =
                                      true) ∧
                                Ok
                                    (((out8 ()).fst &&
                                          (outN
                                                ({ Id := { Dir := (a, b, ()).fst.Id.Dir, Origin := (a, b, ()).fst.Id.Origin, Kind := (a, b, ()).fst.Id.Kind, Nr := (a, b, ()).fst.Id.Nr },
                                                    Seq := (a, b, ()).fst.Seq, Life := (a, b, ()).fst.Life },
                                                  {
                                                    Id :=
                                                      { Dir := (a, b, ()).snd.fst.Id.Dir, Origin := (a, b, ()).snd.fst.Id.Origin, Kind := (a, b, ()).snd.fst.Id.Kind, Nr := (a, b, ()).snd.fst.Id.Nr },
                                                    Seq := (a, b, ()).snd.fst.Seq, Life := (a, b, ()).snd.fst.Life },
                                                  ())).fst ==
                                            IntKind.i64.wrap
                                              ((0 : Int) -
                                                (outN
                                                    ({
                                                        Id :=
                                                          { Dir := (a, b, ()).snd.fst.Id.Dir, Origin := (a, b, ()).snd.fst.Id.Origin, Kind := (a, b, ()).snd.fst.Id.Kind,
                                                            Nr := (a, b, ()).snd.fst.Id.Nr },
                                                        Seq := (a, b, ()).snd.fst.Seq, Life := (a, b, ()).snd.fst.Life },
                                                      { Id := { Dir := (a, b, ()).fst.Id.Dir, Origin := (a, b, ()).fst.Id.Origin, Kind := (a, b, ()).fst.Id.Kind, Nr := (a, b, ()).fst.Id.Nr },
                                                        Seq := (a, b, ()).fst.Seq, Life := (a, b, ()).fst.Life },
                                                      ())).fst)) =
                                        true →
                                      decide ((a, b, ()).fst.Seq ≤ (a, b, ()).snd.fst.Seq) = false →
                                        ((out8 ()).fst &&
                                              (outN
                                                    ({ Id := { Dir := (a, b, ()).fst.Id.Dir, Origin := (a, b, ()).fst.Id.Origin, Kind := (a, b, ()).fst.Id.Kind, Nr := (a, b, ()).fst.Id.Nr },
                                                        Seq := (a, b, ()).fst.Seq, Life := (a, b, ()).fst.Life },
                                                      {
                                                        Id :=
                                                          { Dir := (a, b, ()).snd.fst.Id.Dir, Origin := (a, b, ()).snd.fst.Id.Origin, Kind := (a, b, ()).snd.fst.Id.Kind,
                                                            Nr := (a, b, ()).snd.fst.Id.Nr },
                                                        Seq := (a, b, ()).snd.fst.Seq, Life := (a, b, ()).snd.fst.Life },
                                                      ())).fst ==
                                                IntKind.i64.wrap
                                                  ((0 : Int) -
                                                    (outN
                                                        ({
                                                            Id :=
                                                              { Dir := (a, b, ()).snd.fst.Id.Dir, Origin := (a, b, ()).snd.fst.Id.Origin, Kind := (a, b, ()).snd.fst.Id.Kind,
                                                                Nr := (a, b, ()).snd.fst.Id.Nr },
                                                            Seq := (a, b, ()).snd.fst.Seq, Life := (a, b, ()).snd.fst.Life },
                                                          { Id := { Dir := (a, b, ()).fst.Id.Dir, Origin := (a, b, ()).fst.Id.Origin, Kind := (a, b, ()).fst.Id.Kind, Nr := (a, b, ()).fst.Id.Nr },
                                                            Seq := (a, b, ()).fst.Seq, Life := (a, b, ()).fst.Life },
                                                          ())).fst) &&
                                            !decide ((a, b, ()).fst.Seq ≤ (a, b, ()).snd.fst.Seq)) =
                                          true) ∧
                                  Ok
                                      (((out8 ()).fst &&
                                            (outN
                                                  ({ Id := { Dir := (a, b, ()).fst.Id.Dir, Origin := (a, b, ()).fst.Id.Origin, Kind := (a, b, ()).fst.Id.Kind, Nr := (a, b, ()).fst.Id.Nr },
                                                      Seq := (a, b, ()).fst.Seq, Life := (a, b, ()).fst.Life },
                                                    {
                                                      Id :=
                                                        { Dir := (a, b, ()).snd.fst.Id.Dir, Origin := (a, b, ()).snd.fst.Id.Origin, Kind := (a, b, ()).snd.fst.Id.Kind,
                                                          Nr := (a, b, ()).snd.fst.Id.Nr },
                                                      Seq := (a, b, ()).snd.fst.Seq, Life := (a, b, ()).snd.fst.Life },
                                                    ())).fst ==
                                              IntKind.i64.wrap
                                                ((0 : Int) -
                                                  (outN
                                                      ({
                                                          Id :=
                                                            { Dir := (a, b, ()).snd.fst.Id.Dir, Origin := (a, b, ()).snd.fst.Id.Origin, Kind := (a, b, ()).snd.fst.Id.Kind,
                                                              Nr := (a, b, ()).snd.fst.Id.Nr },
                                                          Seq := (a, b, ()).snd.fst.Seq, Life := (a, b, ()).snd.fst.Life },
                                                        { Id := { Dir := (a, b, ()).fst.Id.Dir, Origin := (a, b, ()).fst.Id.Origin, Kind := (a, b, ()).fst.Id.Kind, Nr := (a, b, ()).fst.Id.Nr },
                                                          Seq := (a, b, ()).fst.Seq, Life := (a, b, ()).fst.Life },
                                                        ())).fst)) =
                                          true →
                                        ((out8 ()).fst &&
                                            (outN
                                                  ({ Id := { Dir := (a, b, ()).fst.Id.Dir, Origin := (a, b, ()).fst.Id.Origin, Kind := (a, b, ()).fst.Id.Kind, Nr := (a, b, ()).fst.Id.Nr },
                                                      Seq := (a, b, ()).fst.Seq, Life := (a, b, ()).fst.Life },
                                                    {
                                                      Id :=
                                                        { Dir := (a, b, ()).snd.fst.Id.Dir, Origin := (a, b, ()).snd.fst.Id.Origin, Kind := (a, b, ()).snd.fst.Id.Kind,
                                                          Nr := (a, b, ()).snd.fst.Id.Nr },
                                                      Seq := (a, b, ()).snd.fst.Seq, Life := (a, b, ()).snd.fst.Life },
                                                    ())).fst ==
                                              IntKind.i64.wrap
                                                ((0 : Int) -
                                                  (outN
                                                      ({
                                                          Id :=
                                                            { Dir := (a, b, ()).snd.fst.Id.Dir, Origin := (a, b, ()).snd.fst.Id.Origin, Kind := (a, b, ()).snd.fst.Id.Kind,
                                                              Nr := (a, b, ()).snd.fst.Id.Nr },
                                                          Seq := (a, b, ()).snd.fst.Seq, Life := (a, b, ()).snd.fst.Life },
                                                        { Id := { Dir := (a, b, ()).fst.Id.Dir, Origin := (a, b, ()).fst.Id.Origin, Kind := (a, b, ()).fst.Id.Kind, Nr := (a, b, ()).fst.Id.Nr },
                                                          Seq := (a, b, ()).fst.Seq, Life := (a, b, ()).fst.Life },
                                                        ())).fst)) =
                                          true) ∧
                                    Ok
                                        (((out8 ()).fst &&
                                                (outN
                                                      ({ Id := { Dir := (a, b, ()).fst.Id.Dir, Origin := (a, b, ()).fst.Id.Origin, Kind := (a, b, ()).fst.Id.Kind, Nr := (a, b, ()).fst.Id.Nr },
                                                          Seq := (a, b, ()).fst.Seq, Life := (a, b, ()).fst.Life },
                                                        {
                                                          Id :=
                                                            { Dir := (a, b, ()).snd.fst.Id.Dir, Origin := (a, b, ()).snd.fst.Id.Origin, Kind := (a, b, ()).snd.fst.Id.Kind,
                                                              Nr := (a, b, ()).snd.fst.Id.Nr },
                                                          Seq := (a, b, ()).snd.fst.Seq, Life := (a, b, ()).snd.fst.Life },
                                                        ())).fst ==
                                                  IntKind.i64.wrap
                                                    ((0 : Int) -
                                                      (outN
                                                          ({
                                                              Id :=
                                                                { Dir := (a, b, ()).snd.fst.Id.Dir, Origin := (a, b, ()).snd.fst.Id.Origin, Kind := (a, b, ()).snd.fst.Id.Kind,
                                                                  Nr := (a, b, ()).snd.fst.Id.Nr },
                                                              Seq := (a, b, ()).snd.fst.Seq, Life := (a, b, ()).snd.fst.Life },
                                                            { Id := { Dir := (a, b, ()).fst.Id.Dir, Origin := (a, b, ()).fst.Id.Origin, Kind := (a, b, ()).fst.Id.Kind, Nr := (a, b, ()).fst.Id.Nr },
                                                              Seq := (a, b, ()).fst.Seq, Life := (a, b, ()).fst.Life },
                                                            ())).fst) &&
                                              (decide ((a, b, ()).fst.Seq ≤ (a, b, ()).snd.fst.Seq) ||
                                                (outN
                                                      ({ Id := { Dir := (a, b, ()).fst.Id.Dir, Origin := (a, b, ()).fst.Id.Origin, Kind := (a, b, ()).fst.Id.Kind, Nr := (a, b, ()).fst.Id.Nr },
                                                          Seq := (a, b, ()).fst.Seq, Life := (a, b, ()).fst.Life },
                                                        {
                                                          Id :=
                                                            { Dir := (a, b, ()).snd.fst.Id.Dir, Origin := (a, b, ()).snd.fst.Id.Origin, Kind := (a, b, ()).snd.fst.Id.Kind,
                                                              Nr := (a, b, ()).snd.fst.Id.Nr },
                                                          Seq := (a, b, ()).snd.fst.Seq, Life := (a, b, ()).snd.fst.Life },
                                                        ())).fst ==
                                                  (1 : Int))) =
                                            true →
                                          ((out8 ()).fst &&
                                                (outN
                                                      ({ Id := { Dir := (a, b, ()).fst.Id.Dir, Origin := (a, b, ()).fst.Id.Origin, Kind := (a, b, ()).fst.Id.Kind, Nr := (a, b, ()).fst.Id.Nr },
                                                          Seq := (a, b, ()).fst.Seq, Life := (a, b, ()).fst.Life },
                                                        {
                                                          Id :=
                                                            { Dir := (a, b, ()).snd.fst.Id.Dir, Origin := (a, b, ()).snd.fst.Id.Origin, Kind := (a, b, ()).snd.fst.Id.Kind,
                                                              Nr := (a, b, ()).snd.fst.Id.Nr },
                                                          Seq := (a, b, ()).snd.fst.Seq, Life := (a, b, ()).snd.fst.Life },
                                                        ())).fst ==
                                                  IntKind.i64.wrap
                                                    ((0 : Int) -
                                                      (outN
                                                          ({
                                                              Id :=
                                                                { Dir := (a, b, ()).snd.fst.Id.Dir, Origin := (a, b, ()).snd.fst.Id.Origin, Kind := (a, b, ()).snd.fst.Id.Kind,
                                                                  Nr := (a, b, ()).snd.fst.Id.Nr },
                                                              Seq := (a, b, ()).snd.fst.Seq, Life := (a, b, ()).snd.fst.Life },
                                                            { Id := { Dir := (a, b, ()).fst.Id.Dir, Origin := (a, b, ()).fst.Id.Origin, Kind := (a, b, ()).fst.Id.Kind, Nr := (a, b, ()).fst.Id.Nr },
                                                              Seq := (a, b, ()).fst.Seq, Life := (a, b, ()).fst.Life },
                                                            ())).fst) &&
                                              (decide ((a, b, ()).fst.Seq ≤ (a, b, ()).snd.fst.Seq) ||
                                                (outN
                                                      ({ Id := { Dir := (a, b, ()).fst.Id.Dir, Origin := (a, b, ()).fst.Id.Origin, Kind := (a, b, ()).fst.Id.Kind, Nr := (a, b, ()).fst.Id.Nr },
                                                          Seq := (a, b, ()).fst.Seq, Life := (a, b, ()).fst.Life },
                                                        {
                                                          Id :=
                                                            { Dir := (a, b, ()).snd.fst.Id.Dir, Origin := (a, b, ()).snd.fst.Id.Origin, Kind := (a, b, ()).snd.fst.Id.Kind,
                                                              Nr := (a, b, ()).snd.fst.Id.Nr },
                                                          Seq := (a, b, ()).snd.fst.Seq, Life := (a, b, ()).snd.fst.Life },
                                                        ())).fst ==
                                                  (1 : Int))) =
                                            true) ∧
                                      Ok
                                          (((out8 ()).fst &&
                                                  (outN
                                                        ({ Id := { Dir := (a, b, ()).fst.Id.Dir, Origin := (a, b, ()).fst.Id.Origin, Kind := (a, b, ()).fst.Id.Kind, Nr := (a, b, ()).fst.Id.Nr },
                                                            Seq := (a, b, ()).fst.Seq, Life := (a, b, ()).fst.Life },
                                                          {
                                                            Id :=
                                                              { Dir := (a, b, ()).snd.fst.Id.Dir, Origin := (a, b, ()).snd.fst.Id.Origin, Kind := (a, b, ()).snd.fst.Id.Kind,
                                                                Nr := (a, b, ()).snd.fst.Id.Nr },
                                                            Seq := (a, b, ()).snd.fst.Seq, Life := (a, b, ()).snd.fst.Life },
                                                          ())).fst ==
                                                    IntKind.i64.wrap
                                                      ((0 : Int) -
                                                        (outN
                                                            ({
                                                                Id :=
                                                                  { Dir := (a, b, ()).snd.fst.Id.Dir, Origin := (a, b, ()).snd.fst.Id.Origin, Kind := (a, b, ()).snd.fst.Id.Kind,
                                                                    Nr := (a, b, ()).snd.fst.Id.Nr },
                                                                Seq := (a, b, ()).snd.fst.Seq, Life := (a, b, ()).snd.fst.Life },
                                                              { Id := { Dir := (a, b, ()).fst.Id.Dir, Origin := (a, b, ()).fst.Id.Origin, Kind := (a, b, ()).fst.Id.Kind, Nr := (a, b, ()).fst.Id.Nr },
                                                                Seq := (a, b, ()).fst.Seq, Life := (a, b, ()).fst.Life },
                                                              ())).fst) &&
                                                (decide ((a, b, ()).fst.Seq ≤ (a, b, ()).snd.fst.Seq) ||
                                                  (outN
                                                        ({ Id := { Dir := (a, b, ()).fst.Id.Dir, Origin := (a, b, ()).fst.Id.Origin, Kind := (a, b, ()).fst.Id.Kind, Nr := (a, b, ()).fst.Id.Nr },
                                                            Seq := (a, b, ()).fst.Seq, Life := (a, b, ()).fst.Life },
                                                          {
                                                            Id :=
                                                              { Dir := (a, b, ()).snd.fst.Id.Dir, Origin := (a, b, ()).snd.fst.Id.Origin, Kind := (a, b, ()).snd.fst.Id.Kind,
                                                                Nr := (a, b, ()).snd.fst.Id.Nr },
                                                            Seq := (a, b, ()).snd.fst.Seq, Life := (a, b, ()).snd.fst.Life },
                                                          ())).fst ==
                                                    (1 : Int))) =
                                              true →
                                            ((out8 ()).fst &&
                                                  (outN
                                                        ({ Id := { Dir := (a, b, ()).fst.Id.Dir, Origin := (a, b, ()).fst.Id.Origin, Kind := (a, b, ()).fst.Id.Kind, Nr := (a, b, ()).fst.Id.Nr },
                                                            Seq := (a, b, ()).fst.Seq, Life := (a, b, ()).fst.Life },
                                                          {
                                                            Id :=
                                                              { Dir := (a, b, ()).snd.fst.Id.Dir, Origin := (a, b, ()).snd.fst.Id.Origin, Kind := (a, b, ()).snd.fst.Id.Kind,
                                                                Nr := (a, b, ()).snd.fst.Id.Nr },
                                                            Seq := (a, b, ()).snd.fst.Seq, Life := (a, b, ()).snd.fst.Life },
                                                          ())).fst ==
                                                    IntKind.i64.wrap
                                                      ((0 : Int) -
                                                        (outN
                                                            ({
                                                                Id :=
                                                                  { Dir := (a, b, ()).snd.fst.Id.Dir, Origin := (a, b, ()).snd.fst.Id.Origin, Kind := (a, b, ()).snd.fst.Id.Kind,
                                                                    Nr := (a, b, ()).snd.fst.Id.Nr },
                                                                Seq := (a, b, ()).snd.fst.Seq, Life := (a, b, ()).snd.fst.Life },
                                                              { Id := { Dir := (a, b, ()).fst.Id.Dir, Origin := (a, b, ()).fst.Id.Origin, Kind := (a, b, ()).fst.Id.Kind, Nr := (a, b, ()).fst.Id.Nr },
                                                                Seq := (a, b, ()).fst.Seq, Life := (a, b, ()).fst.Life },
                                                              ())).fst) &&
                                                (decide ((a, b, ()).fst.Seq ≤ (a, b, ()).snd.fst.Seq) ||
                                                  (outN
                                                        ({ Id := { Dir := (a, b, ()).fst.Id.Dir, Origin := (a, b, ()).fst.Id.Origin, Kind := (a, b, ()).fst.Id.Kind, Nr := (a, b, ()).fst.Id.Nr },
                                                            Seq := (a, b, ()).fst.Seq, Life := (a, b, ()).fst.Life },
                                                          {
                                                            Id :=
                                                              { Dir := (a, b, ()).snd.fst.Id.Dir, Origin := (a, b, ()).snd.fst.Id.Origin, Kind := (a, b, ()).snd.fst.Id.Kind,
                                                                Nr := (a, b, ()).snd.fst.Id.Nr },
                                                            Seq := (a, b, ()).snd.fst.Seq, Life := (a, b, ()).snd.fst.Life },
                                                          ())).fst ==
                                                    (1 : Int))) =
                                              true) ∧
                                        Ok
                                            (((out8 ()).fst &&
                                                    (outN
                                                          ({ Id := { Dir := (a, b, ()).fst.Id.Dir, Origin := (a, b, ()).fst.Id.Origin, Kind := (a, b, ()).fst.Id.Kind, Nr := (a, b, ()).fst.Id.Nr },
                                                              Seq := (a, b, ()).fst.Seq, Life := (a, b, ()).fst.Life },
                                                            {
                                                              Id :=
                                                                { Dir := (a, b, ()).snd.fst.Id.Dir, Origin := (a, b, ()).snd.fst.Id.Origin, Kind := (a, b, ()).snd.fst.Id.Kind,
                                                                  Nr := (a, b, ()).snd.fst.Id.Nr },
                                                              Seq := (a, b, ()).snd.fst.Seq, Life := (a, b, ()).snd.fst.Life },
                                                            ())).fst ==
                                                      IntKind.i64.wrap
                                                        ((0 : Int) -
                                                          (outN
                                                              ({
                                                                  Id :=
                                                                    { Dir := (a, b, ()).snd.fst.Id.Dir, Origin := (a, b, ()).snd.fst.Id.Origin, Kind := (a, b, ()).snd.fst.Id.Kind,
                                                                      Nr := (a, b, ()).snd.fst.Id.Nr },
                                                                  Seq := (a, b, ()).snd.fst.Seq, Life := (a, b, ()).snd.fst.Life },
                                                                {
                                                                  Id :=
                                                                    { Dir := (a, b, ()).fst.Id.Dir, Origin := (a, b, ()).fst.Id.Origin, Kind := (a, b, ()).fst.Id.Kind, Nr := (a, b, ()).fst.Id.Nr },
                                                                  Seq := (a, b, ()).fst.Seq, Life := (a, b, ()).fst.Life },
                                                                ())).fst) &&
                                                  (decide ((a, b, ()).fst.Seq ≤ (a, b, ()).snd.fst.Seq) ||
                                                    (outN
                                                          ({ Id := { Dir := (a, b, ()).fst.Id.Dir, Origin := (a, b, ()).fst.Id.Origin, Kind := (a, b, ()).fst.Id.Kind, Nr := (a, b, ()).fst.Id.Nr },
                                                              Seq := (a, b, ()).fst.Seq, Life := (a, b, ()).fst.Life },
                                                            {
                                                              Id :=
                                                                { Dir := (a, b, ()).snd.fst.Id.Dir, Origin := (a, b, ()).snd.fst.Id.Origin, Kind := (a, b, ()).snd.fst.Id.Kind,
                                                                  Nr := (a, b, ()).snd.fst.Id.Nr },
                                                              Seq := (a, b, ()).snd.fst.Seq, Life := (a, b, ()).snd.fst.Life },
                                                            ())).fst ==
                                                      (1 : Int))) =
                                                true →
                                              True) ∧
                                          Ok
                                              (((out8 ()).fst &&
                                                      (outN
                                                            ({ Id := { Dir := (a, b, ()).fst.Id.Dir, Origin := (a, b, ()).fst.Id.Origin, Kind := (a, b, ()).fst.Id.Kind, Nr := (a, b, ()).fst.Id.Nr },
                                                                Seq := (a, b, ()).fst.Seq, Life := (a, b, ()).fst.Life },
                                                              {
                                                                Id :=
                                                                  { Dir := (a, b, ()).snd.fst.Id.Dir, Origin := (a, b, ()).snd.fst.Id.Origin, Kind := (a, b, ()).snd.fst.Id.Kind,
                                                                    Nr := (a, b, ()).snd.fst.Id.Nr },
                                                                Seq := (a, b, ()).snd.fst.Seq, Life := (a, b, ()).snd.fst.Life },
                                                              ())).fst ==
                                                        IntKind.i64.wrap
                                                          ((0 : Int) -
                                                            (outN
                                                                ({
                                                                    Id :=
                                                                      { Dir := (a, b, ()).snd.fst.Id.Dir, Origin := (a, b, ()).snd.fst.Id.Origin, Kind := (a, b, ()).snd.fst.Id.Kind,
                                                                        Nr := (a, b, ()).snd.fst.Id.Nr },
                                                                    Seq := (a, b, ()).snd.fst.Seq, Life := (a, b, ()).snd.fst.Life },
                                                                  {
                                                                    Id :=
                                                                      { Dir := (a, b, ()).fst.Id.Dir, Origin := (a, b, ()).fst.Id.Origin, Kind := (a, b, ()).fst.Id.Kind, Nr := (a, b, ()).fst.Id.Nr },
                                                                    Seq := (a, b, ()).fst.Seq, Life := (a, b, ()).fst.Life },
                                                                  ())).fst) &&
                                                    (decide ((a, b, ()).fst.Seq ≤ (a, b, ()).snd.fst.Seq) ||
                                                      (outN
                                                            ({ Id := { Dir := (a, b, ()).fst.Id.Dir, Origin := (a, b, ()).fst.Id.Origin, Kind := (a, b, ()).fst.Id.Kind, Nr := (a, b, ()).fst.Id.Nr },
                                                                Seq := (a, b, ()).fst.Seq, Life := (a, b, ()).fst.Life },
                                                              {
                                                                Id :=
                                                                  { Dir := (a, b, ()).snd.fst.Id.Dir, Origin := (a, b, ()).snd.fst.Id.Origin, Kind := (a, b, ()).snd.fst.Id.Kind,
                                                                    Nr := (a, b, ()).snd.fst.Id.Nr },
                                                                Seq := (a, b, ()).snd.fst.Seq, Life := (a, b, ()).snd.fst.Life },
                                                              ())).fst ==
                                                        (1 : Int))) =
                                                  true →
                                                ((out8 ()).fst &&
                                                      (outN
                                                            ({ Id := { Dir := (a, b, ()).fst.Id.Dir, Origin := (a, b, ()).fst.Id.Origin, Kind := (a, b, ()).fst.Id.Kind, Nr := (a, b, ()).fst.Id.Nr },
                                                                Seq := (a, b, ()).fst.Seq, Life := (a, b, ()).fst.Life },
                                                              {
                                                                Id :=
                                                                  { Dir := (a, b, ()).snd.fst.Id.Dir, Origin := (a, b, ()).snd.fst.Id.Origin, Kind := (a, b, ()).snd.fst.Id.Kind,
                                                                    Nr := (a, b, ()).snd.fst.Id.Nr },
                                                                Seq := (a, b, ()).snd.fst.Seq, Life := (a, b, ()).snd.fst.Life },
                                                              ())).fst ==
                                                        IntKind.i64.wrap
                                                          ((0 : Int) -
                                                            (outN
                                                                ({
                                                                    Id :=
                                                                      { Dir := (a, b, ()).snd.fst.Id.Dir, Origin := (a, b, ()).snd.fst.Id.Origin, Kind := (a, b, ()).snd.fst.Id.Kind,
                                                                        Nr := (a, b, ()).snd.fst.Id.Nr },
                                                                    Seq := (a, b, ()).snd.fst.Seq, Life := (a, b, ()).snd.fst.Life },
                                                                  {
                                                                    Id :=
                                                                      { Dir := (a, b, ()).fst.Id.Dir, Origin := (a, b, ()).fst.Id.Origin, Kind := (a, b, ()).fst.Id.Kind, Nr := (a, b, ()).fst.Id.Nr },
                                                                    Seq := (a, b, ()).fst.Seq, Life := (a, b, ()).fst.Life },
                                                                  ())).fst) &&
                                                    (decide ((a, b, ()).fst.Seq ≤ (a, b, ()).snd.fst.Seq) ||
                                                      (outN
                                                            ({ Id := { Dir := (a, b, ()).fst.Id.Dir, Origin := (a, b, ()).fst.Id.Origin, Kind := (a, b, ()).fst.Id.Kind, Nr := (a, b, ()).fst.Id.Nr },
                                                                Seq := (a, b, ()).fst.Seq, Life := (a, b, ()).fst.Life },
                                                              {
                                                                Id :=
                                                                  { Dir := (a, b, ()).snd.fst.Id.Dir, Origin := (a, b, ()).snd.fst.Id.Origin, Kind := (a, b, ()).snd.fst.Id.Kind,
                                                                    Nr := (a, b, ()).snd.fst.Id.Nr },
                                                                Seq := (a, b, ()).snd.fst.Seq, Life := (a, b, ()).snd.fst.Life },
                                                              ())).fst ==
                                                        (1 : Int))) =
                                                  true) ∧
                                            Ok
                                                (((out8 ()).fst &&
                                                        (outN
                                                              ({ Id := { Dir := (a, b, ()).fst.Id.Dir, Origin := (a, b, ()).fst.Id.Origin, Kind := (a, b, ()).fst.Id.Kind, Nr := (a, b, ()).fst.Id.Nr },
                                                                  Seq := (a, b, ()).fst.Seq, Life := (a, b, ()).fst.Life },
                                                                {
                                                                  Id :=
                                                                    { Dir := (a, b, ()).snd.fst.Id.Dir, Origin := (a, b, ()).snd.fst.Id.Origin, Kind := (a, b, ()).snd.fst.Id.Kind,
                                                                      Nr := (a, b, ()).snd.fst.Id.Nr },
                                                                  Seq := (a, b, ()).snd.fst.Seq, Life := (a, b, ()).snd.fst.Life },
                                                                ())).fst ==
                                                          IntKind.i64.wrap
                                                            ((0 : Int) -
                                                              (outN
                                                                  ({
                                                                      Id :=
                                                                        { Dir := (a, b, ()).snd.fst.Id.Dir, Origin := (a, b, ()).snd.fst.Id.Origin, Kind := (a, b, ()).snd.fst.Id.Kind,
                                                                          Nr := (a, b, ()).snd.fst.Id.Nr },
                                                                      Seq := (a, b, ()).snd.fst.Seq, Life := (a, b, ()).snd.fst.Life },
                                                                    {
                                                                      Id :=
                                                                        { Dir := (a, b, ()).fst.Id.Dir, Origin := (a, b, ()).fst.Id.Origin, Kind := (a, b, ()).fst.Id.Kind,
                                                                          Nr := (a, b, ()).fst.Id.Nr },
                                                                      Seq := (a, b, ()).fst.Seq, Life := (a, b, ()).fst.Life },
                                                                    ())).fst) &&
                                                      (decide ((a, b, ()).fst.Seq ≤ (a, b, ()).snd.fst.Seq) ||
                                                        (outN
                                                              ({ Id := { Dir := (a, b, ()).fst.Id.Dir, Origin := (a, b, ()).fst.Id.Origin, Kind := (a, b, ()).fst.Id.Kind, Nr := (a, b, ()).fst.Id.Nr },
                                                                  Seq := (a, b, ()).fst.Seq, Life := (a, b, ()).fst.Life },
                                                                {
                                                                  Id :=
                                                                    { Dir := (a, b, ()).snd.fst.Id.Dir, Origin := (a, b, ()).snd.fst.Id.Origin, Kind := (a, b, ()).snd.fst.Id.Kind,
                                                                      Nr := (a, b, ()).snd.fst.Id.Nr },
                                                                  Seq := (a, b, ()).snd.fst.Seq, Life := (a, b, ()).snd.fst.Life },
                                                                ())).fst ==
                                                          (1 : Int))) =
                                                    true →
                                                  ((out8 ()).fst &&
                                                        (outN
                                                              ({ Id := { Dir := (a, b, ()).fst.Id.Dir, Origin := (a, b, ()).fst.Id.Origin, Kind := (a, b, ()).fst.Id.Kind, Nr := (a, b, ()).fst.Id.Nr },
                                                                  Seq := (a, b, ()).fst.Seq, Life := (a, b, ()).fst.Life },
                                                                {
                                                                  Id :=
                                                                    { Dir := (a, b, ()).snd.fst.Id.Dir, Origin := (a, b, ()).snd.fst.Id.Origin, Kind := (a, b, ()).snd.fst.Id.Kind,
                                                                      Nr := (a, b, ()).snd.fst.Id.Nr },
                                                                  Seq := (a, b, ()).snd.fst.Seq, Life := (a, b, ()).snd.fst.Life },
                                                                ())).fst ==
                                                          IntKind.i64.wrap
                                                            ((0 : Int) -
                                                              (outN
                                                                  ({
                                                                      Id :=
                                                                        { Dir := (a, b, ()).snd.fst.Id.Dir, Origin := (a, b, ()).snd.fst.Id.Origin, Kind := (a, b, ()).snd.fst.Id.Kind,
                                                                          Nr := (a, b, ()).snd.fst.Id.Nr },
                                                                      Seq := (a, b, ()).snd.fst.Seq, Life := (a, b, ()).snd.fst.Life },
                                                                    {
                                                                      Id :=
                                                                        { Dir := (a, b, ()).fst.Id.Dir, Origin := (a, b, ()).fst.Id.Origin, Kind := (a, b, ()).fst.Id.Kind,
                                                                          Nr := (a, b, ()).fst.Id.Nr },
                                                                      Seq := (a, b, ()).fst.Seq, Life := (a, b, ()).fst.Life },
                                                                    ())).fst) &&
                                                      (decide ((a, b, ()).fst.Seq ≤ (a, b, ()).snd.fst.Seq) ||
                                                        (outN
                                                              ({ Id := { Dir := (a, b, ()).fst.Id.Dir, Origin := (a, b, ()).fst.Id.Origin, Kind := (a, b, ()).fst.Id.Kind, Nr := (a, b, ()).fst.Id.Nr },
                                                                  Seq := (a, b, ()).fst.Seq, Life := (a, b, ()).fst.Life },
                                                                {
                                                                  Id :=
                                                                    { Dir := (a, b, ()).snd.fst.Id.Dir, Origin := (a, b, ()).snd.fst.Id.Origin, Kind := (a, b, ()).snd.fst.Id.Kind,
                                                                      Nr := (a, b, ()).snd.fst.Id.Nr },
                                                                  Seq := (a, b, ()).snd.fst.Seq, Life := (a, b, ()).snd.fst.Life },
                                                                ())).fst ==
                                                          (1 : Int))) =
                                                    true) ∧
                                              Ok
                                                (((out8 ()).fst &&
                                                          (outN
                                                                ({
                                                                    Id :=
                                                                      { Dir := (a, b, ()).fst.Id.Dir, Origin := (a, b, ()).fst.Id.Origin, Kind := (a, b, ()).fst.Id.Kind, Nr := (a, b, ()).fst.Id.Nr },
                                                                    Seq := (a, b, ()).fst.Seq, Life := (a, b, ()).fst.Life },
                                                                  {
                                                                    Id :=
                                                                      { Dir := (a, b, ()).snd.fst.Id.Dir, Origin := (a, b, ()).snd.fst.Id.Origin, Kind := (a, b, ()).snd.fst.Id.Kind,
                                                                        Nr := (a, b, ()).snd.fst.Id.Nr },
                                                                    Seq := (a, b, ()).snd.fst.Seq, Life := (a, b, ()).snd.fst.Life },
                                                                  ())).fst ==
                                                            IntKind.i64.wrap
                                                              ((0 : Int) -
                                                                (outN
                                                                    ({
                                                                        Id :=
                                                                          { Dir := (a, b, ()).snd.fst.Id.Dir, Origin := (a, b, ()).snd.fst.Id.Origin, Kind := (a, b, ()).snd.fst.Id.Kind,
                                                                            Nr := (a, b, ()).snd.fst.Id.Nr },
                                                                        Seq := (a, b, ()).snd.fst.Seq, Life := (a, b, ()).snd.fst.Life },
                                                                      {
                                                                        Id :=
                                                                          { Dir := (a, b, ()).fst.Id.Dir, Origin := (a, b, ()).fst.Id.Origin, Kind := (a, b, ()).fst.Id.Kind,
                                                                            Nr := (a, b, ()).fst.Id.Nr },
                                                                        Seq := (a, b, ()).fst.Seq, Life := (a, b, ()).fst.Life },
                                                                      ())).fst) &&
                                                        (decide ((a, b, ()).fst.Seq ≤ (a, b, ()).snd.fst.Seq) ||
                                                          (outN
                                                                ({
                                                                    Id :=
                                                                      { Dir := (a, b, ()).fst.Id.Dir, Origin := (a, b, ()).fst.Id.Origin, Kind := (a, b, ()).fst.Id.Kind, Nr := (a, b, ()).fst.Id.Nr },
                                                                    Seq := (a, b, ()).fst.Seq, Life := (a, b, ()).fst.Life },
                                                                  {
                                                                    Id :=
                                                                      { Dir := (a, b, ()).snd.fst.Id.Dir, Origin := (a, b, ()).snd.fst.Id.Origin, Kind := (a, b, ()).snd.fst.Id.Kind,
                                                                        Nr := (a, b, ()).snd.fst.Id.Nr },
                                                                    Seq := (a, b, ()).snd.fst.Seq, Life := (a, b, ()).snd.fst.Life },
                                                                  ())).fst ==
                                                            (1 : Int)) &&
                                                      (outN
                                                            ({ Id := { Dir := (a, b, ()).fst.Id.Dir, Origin := (a, b, ()).fst.Id.Origin, Kind := (a, b, ()).fst.Id.Kind, Nr := (a, b, ()).fst.Id.Nr },
                                                                Seq := (a, b, ()).fst.Seq, Life := (a, b, ()).fst.Life },
                                                              { Id := { Dir := (a, b, ()).fst.Id.Dir, Origin := (a, b, ()).fst.Id.Origin, Kind := (a, b, ()).fst.Id.Kind, Nr := (a, b, ()).fst.Id.Nr },
                                                                Seq := (a, b, ()).fst.Seq, Life := (a, b, ()).fst.Life },
                                                              ())).fst ==
                                                        (0 : Int),
                                                    ()) =
                                                  out3 (a, b, ()))) := by kernel_rfl

theorem nf5 (a b c : TieId) : exec E5 L0 20 (bodyOf Try.f5) (startT 47 (avs [T, T, T] (a, b, c, ()))) [] (retK E5.P [.tmp 6] [B] (out5 (a, b, c, ()))) = (
Ok True ∧
  Ok True ∧
    Ok True ∧
      Ok ((!!(out8 ()).fst) = true → (!!(out8 ()).fst) = true) ∧
        Ok ((!!(out8 ()).fst) = true → (!!(out8 ()).fst) = true) ∧
          Ok ((!!(out8 ()).fst) = true → True) ∧
            Ok ((!!(out8 ()).fst) = true → (!!(out8 ()).fst) = true) ∧
              Ok ((!!(out8 ()).fst) = true → (!!(out8 ()).fst) = true) ∧
                Ok ((!!(out8 ()).fst) = true → (!!(out8 ()).fst) = true) ∧
                  Ok ((!(out8 ()).fst) = false → (!!(out8 ()).fst) = true) ∧
                    Ok
                        ((!(!(out8 ()).fst ||
                                (outC
                                      ({ Dir := (a, b, c, ()).fst.Dir, Origin := (a, b, c, ()).fst.Origin, Kind := (a, b, c, ()).fst.Kind, Nr := (a, b, c, ()).fst.Nr },
                                        { Dir := (a, b, c, ()).snd.fst.Dir, Origin := (a, b, c, ()).snd.fst.Origin, Kind := (a, b, c, ()).snd.fst.Kind, Nr := (a, b, c, ()).snd.fst.Nr }, ())).fst !=
                                  IntKind.i64.wrap
                                    ((0 : Int) -
                                      (outC
                                          ({ Dir := (a, b, c, ()).snd.fst.Dir, Origin := (a, b, c, ()).snd.fst.Origin, Kind := (a, b, c, ()).snd.fst.Kind, Nr := (a, b, c, ()).snd.fst.Nr },
                                            { Dir := (a, b, c, ()).fst.Dir, Origin := (a, b, c, ()).fst.Origin, Kind := (a, b, c, ()).fst.Kind, Nr := (a, b, c, ()).fst.Nr }, ())).fst))) =
                            true →
                          (!(!(out8 ()).fst ||
                                (outC
                                      ({ Dir := (a, b, c, ()).fst.Dir, Origin := (a, b, c, ()).fst.Origin, Kind := (a, b, c, ()).fst.Kind, Nr := (a, b, c, ()).fst.Nr },
                                        { Dir := (a, b, c, ()).snd.fst.Dir, Origin := (a, b, c, ()).snd.fst.Origin, Kind := (a, b, c, ()).snd.fst.Kind, Nr := (a, b, c, ()).snd.fst.Nr }, ())).fst !=
                                  IntKind.i64.wrap
                                    ((0 : Int) -
                                      (outC
                                          ({ Dir := (a, b, c, ()).snd.fst.Dir, Origin := (a, b, c, ()).snd.fst.Origin, Kind := (a, b, c, ()).snd.fst.Kind, Nr := (a, b, c, ()).snd.fst.Nr },
                                            { Dir := (a, b, c, ()).fst.Dir, Origin := (a, b, c, ()).fst.Origin, Kind := (a, b, c, ()).fst.Kind, Nr := (a, b, c, ()).fst.Nr }, ())).fst))) =
                            true) ∧
                      Ok
                          ((!(!(out8 ()).fst ||
                                  (outC
                                        ({ Dir := (a, b, c, ()).fst.Dir, Origin := (a, b, c, ()).fst.Origin, Kind := (a, b, c, ()).fst.Kind, Nr := (a, b, c, ()).fst.Nr },
                                          { Dir := (a, b, c, ()).snd.fst.Dir, Origin := (a, b, c, ()).snd.fst.Origin, Kind := (a, b, c, ()).snd.fst.Kind, Nr := (a, b, c, ()).snd.fst.Nr }, ())).fst !=
                                    IntKind.i64.wrap
                                      ((0 : Int) -
                                        (outC
                                            ({ Dir := (a, b, c, ()).snd.fst.Dir, Origin := (a, b, c, ()).snd.fst.Origin, Kind := (a, b, c, ()).snd.fst.Kind, Nr := (a, b, c, ()).snd.fst.Nr },
                                              { Dir := (a, b, c, ()).fst.Dir, Origin := (a, b, c, ()).fst.Origin, Kind := (a, b, c, ()).fst.Kind, Nr := (a, b, c, ()).fst.Nr }, ())).fst))) =
                              true →
                            (!(!(out8 ()).fst ||
                                  (outC
                                        ({ Dir := (a, b, c, ()).fst.Dir, Origin := (a, b, c, ()).fst.Origin, Kind := (a, b, c, ()).fst.Kind, Nr := (a, b, c, ()).fst.Nr },
                                          { Dir := (a, b, c, ()).snd.fst.Dir, Origin := (a, b, c, ()).snd.fst.Origin, Kind := (a, b, c, ()).snd.fst.Kind, Nr := (a, b, c, ()).snd.fst.Nr }, ())).fst !=
                                    IntKind.i64.wrap
                                      ((0 : Int) -
                                        (outC
                                            ({ Dir := (a, b, c, ()).snd.fst.Dir, Origin := (a, b, c, ()).snd.fst.Origin, Kind := (a, b, c, ()).snd.fst.Kind, Nr := (a, b, c, ()).snd.fst.Nr },
                                              { Dir := (a, b, c, ()).fst.Dir, Origin := (a, b, c, ()).fst.Origin, Kind := (a, b, c, ()).fst.Kind, Nr := (a, b, c, ()).fst.Nr }, ())).fst))) =
                              true) ∧
                        Ok
                            ((!(!(out8 ()).fst ||
                                    (outC
                                          ({ Dir := (a, b, c, ()).fst.Dir, Origin := (a, b, c, ()).fst.Origin, Kind := (a, b, c, ()).fst.Kind, Nr := (a, b, c, ()).fst.Nr },
                                            { Dir := (a, b, c, ()).snd.fst.Dir, Origin := (a, b, c, ()).snd.fst.Origin, Kind := (a, b, c, ()).snd.fst.Kind, Nr := (a, b, c, ()).snd.fst.Nr },
                                            ())).fst !=
                                      IntKind.i64.wrap
                                        ((0 : Int) -
                                          (outC
                                              ({ Dir := (a, b, c, ()).snd.fst.Dir, Origin := (a, b, c, ()).snd.fst.Origin, Kind := (a, b, c, ()).snd.fst.Kind, Nr := (a, b, c, ()).snd.fst.Nr },
                                                { Dir := (a, b, c, ()).fst.Dir, Origin := (a, b, c, ()).fst.Origin, Kind := (a, b, c, ()).fst.Kind, Nr := (a, b, c, ()).fst.Nr }, ())).fst))) =
                                true →
                              (!(!(out8 ()).fst ||
                                    (outC
                                          ({ Dir := (a, b, c, ()).fst.Dir, Origin := (a, b, c, ()).fst.Origin, Kind := (a, b, c, ()).fst.Kind, Nr := (a, b, c, ()).fst.Nr },
                                            { Dir := (a, b, c, ()).snd.fst.Dir, Origin := (a, b, c, ()).snd.fst.Origin, Kind := (a, b, c, ()).snd.fst.Kind, Nr := (a, b, c, ()).snd.fst.Nr },
                                            ())).fst !=
                                      IntKind.i64.wrap
                                        ((0 : Int) -
                                          (outC
                                              ({ Dir := (a, b, c, ()).snd.fst.Dir, Origin := (a, b, c, ()).snd.fst.Origin, Kind := (a, b, c, ()).snd.fst.Kind, Nr := (a, b, c, ()).snd.fst.Nr },
                                                { Dir := (a, b, c, ()).fst.Dir, Origin := (a, b, c, ()).fst.Origin, Kind := (a, b, c, ()).fst.Kind, Nr := (a, b, c, ()).fst.Nr }, ())).fst))) =
                                true) ∧
                          Ok
                              ((!(!(out8 ()).fst ||
                                      (outC
                                            ({ Dir := (a, b, c, ()).fst.Dir, Origin := (a, b, c, ()).fst.Origin, Kind := (a, b, c, ()).fst.Kind, Nr := (a, b, c, ()).fst.Nr },
                                              { Dir := (a, b, c, ()).snd.fst.Dir, Origin := (a, b, c, ()).snd.fst.Origin, Kind := (a, b, c, ()).snd.fst.Kind, Nr := (a, b, c, ()).snd.fst.Nr },
                                              ())).fst !=
                                        IntKind.i64.wrap
                                          ((0 : Int) -
                                            (outC
                                                ({ Dir := (a, b, c, ()).snd.fst.Dir, Origin := (a, b, c, ()).snd.fst.Origin, Kind := (a, b, c, ()).snd.fst.Kind, Nr := (a, b, c, ()).snd.fst.Nr },
                                                  { Dir := (a, b, c, ()).fst.Dir, Origin := (a, b, c, ()).fst.Origin, Kind := (a, b, c, ()).fst.Kind, Nr := (a, b, c, ()).fst.Nr }, ())).fst))) =
                                  true →
                                (!(!(out8 ()).fst ||
                                      (outC
                                            ({ Dir := (a, b, c, ()).fst.Dir, Origin := (a, b, c, ()).fst.Origin, Kind := (a, b, c, ()).fst.Kind, Nr := (a, b, c, ()).fst.Nr },
                                              { Dir := (a, b, c, ()).snd.fst.Dir, Origin := (a, b, c, ()).snd.fst.Origin, Kind := (a, b, c, ()).snd.fst.Kind, Nr := (a, b, c, ()).snd.fst.Nr },
                                              ())).fst !=
                                        IntKind.i64.wrap
                                          ((0 : Int) -
                                            (outC
                                                ({ Dir := (a, b, c, ()).snd.fst.Dir, Origin := (a, b, c, ()).snd.fst.Origin, Kind := (a, b, c, ()).snd.fst.Kind, Nr := (a, b, c, ()).snd.fst.Nr },
                                                  { Dir := (a, b, c, ()).fst.Dir, Origin := (a, b, c, ()).fst.Origin, Kind := (a, b, c, ()).fst.Kind, Nr := (a, b, c, ()).fst.Nr }, ())).fst))) =
                                  true) ∧
                            Ok
                                ((!(!(out8 ()).fst ||
                                        (outC
                                              ({ Dir := (a, b, c, ()).fst.Dir, Origin := (a, b, c, ()).fst.Origin, Kind := (a, b, c, ()).fst.Kind, Nr := (a, b, c, ()).fst.Nr },
                                                { Dir := (a, b, c, ()).snd.fst.Dir, Origin := (a, b, c, ()).snd.fst.Origin, Kind := (a, b, c, ()).snd.fst.Kind, Nr := (a, b, c, ()).snd.fst.Nr },
                                                ())).fst !=
                                          IntKind.i64.wrap
                                            ((0 : Int) -
                                              (outC
                                                  ({ Dir := (a, b, c, ()).snd.fst.Dir, Origin := (a, b, c, ()).snd.fst.Origin, Kind := (a, b, c, ()).snd.fst.Kind, Nr := (a, b, c, ()).snd.fst.Nr },
                                                    { Dir := (a, b, c, ()).fst.Dir, Origin := (a, b, c, ()).fst.Origin, Kind := (a, b, c, ()).fst.Kind, Nr := (a, b, c, ()).fst.Nr }, ())).fst))) =
                                    true →
                                  (!(!(out8 ()).fst ||
                                        (outC
                                              ({ Dir := (a, b, c, ()).fst.Dir, Origin := (a, b, c, ()).fst.Origin, Kind := (a, b, c, ()).fst.Kind, Nr := (a, b, c, ()).fst.Nr },
                                                { Dir := (a, b, c, ()).snd.fst.Dir, Origin := (a, b, c, ()).snd.fst.Origin, Kind := (a, b, c, ()).snd.fst.Kind, Nr := (a, b, c, ()).snd.fst.Nr },
                                                ())).fst !=
                                          IntKind.i64.wrap
                                            ((0 : Int) -
                                              (outC
                                                  ({ Dir := (a, b, c, ()).snd.fst.Dir, Origin := (a, b, c, ()).snd.fst.Origin, Kind := (a, b, c, ()).snd.fst.Kind, Nr := (a, b, c, ()).snd.fst.Nr },
                                                    { Dir := (a, b, c, ()).fst.Dir, Origin := (a, b, c, ()).fst.Origin, Kind := (a, b, c, ()).fst.Kind, Nr := (a, b, c, ()).fst.Nr }, ())).fst))) =
                                    true) ∧
                              Ok
                                  ((!(out8 ()).fst ||
                                        (outC
                                              ({ Dir := (a, b, c, ()).fst.Dir, Origin := (a, b, c, ()).fst.Origin, Kind := (a, b, c, ()).fst.Kind, Nr := (a, b, c, ()).fst.Nr },
                                                { Dir := (a, b, c, ()).snd.fst.Dir, Origin := (a, b, c, ()).snd.fst.Origin, Kind := (a, b, c, ()).snd.fst.Kind, Nr := (a, b, c, ()).snd.fst.Nr },
                                                ())).fst !=
                                          IntKind.i64.wrap
                                            ((0 : Int) -
                                              (outC
                                                  ({ Dir := (a, b, c, ()).snd.fst.Dir, Origin := (a, b, c, ()).snd.fst.Origin, Kind := (a, b, c, ()).snd.fst.Kind, Nr := (a, b, c, ()).snd.fst.Nr },
                                                    { Dir := (a, b, c, ()).fst.Dir, Origin := (a, b, c, ()).fst.Origin, Kind := (a, b, c, ()).fst.Kind, Nr := (a, b, c, ()).fst.Nr }, ())).fst)) =
                                      false →
                                    (!(!(out8 ()).fst ||
                                          (outC
                                                ({ Dir := (a, b, c, ()).fst.Dir, Origin := (a, b, c, ()).fst.Origin, Kind := (a, b, c, ()).fst.Kind, Nr := (a, b, c, ()).fst.Nr },
                                                  { Dir := (a, b, c, ()).snd.fst.Dir, Origin := (a, b, c, ()).snd.fst.Origin, Kind := (a, b, c, ()).snd.fst.Kind, Nr := (a, b, c, ()).snd.fst.Nr },
                                                  ())).fst !=
                                            IntKind.i64.wrap
                                              ((0 : Int) -
                                                (outC
                                                    ({ Dir := (a, b, c, ()).snd.fst.Dir, Origin := (a, b, c, ()).snd.fst.Origin, Kind := (a, b, c, ()).snd.fst.Kind, Nr := (a, b, c, ()).snd.fst.Nr },
                                                      { Dir := (a, b, c, ()).fst.Dir, Origin := (a, b, c, ()).fst.Origin, Kind := (a, b, c, ()).fst.Kind, Nr := (a, b, c, ()).fst.Nr }, ())).fst))) =
                                      true) ∧
                                cnd
                                  (!(out8 ()).fst ||
                                      (outC
                                            ({ Dir := (a, b, c, ()).fst.Dir, Origin := (a, b, c, ()).fst.Origin, Kind := (a, b, c, ()).fst.Kind, Nr := (a, b, c, ()).fst.Nr },
                                              { Dir := (a, b, c, ()).snd.fst.Dir, Origin := (a, b, c, ()).snd.fst.Origin, Kind := (a, b, c, ()).snd.fst.Kind, Nr := (a, b, c, ()).snd.fst.Nr },
                                              ())).fst !=
                                        IntKind.i64.wrap
                                          ((0 : Int) -
                                            (outC
                                                ({ Dir := (a, b, c, ()).snd.fst.Dir, Origin := (a, b, c, ()).snd.fst.Origin, Kind := (a, b, c, ()).snd.fst.Kind, Nr := (a, b, c, ()).snd.fst.Nr },
                                                  { Dir := (a, b, c, ()).fst.Dir, Origin := (a, b, c, ()).fst.Origin, Kind := (a, b, c, ()).fst.Kind, Nr := (a, b, c, ()).fst.Nr }, ())).fst) ||
                                    !((outC
                                              ({ Dir := (a, b, c, ()).fst.Dir, Origin := (a, b, c, ()).fst.Origin, Kind := (a, b, c, ()).fst.Kind, Nr := (a, b, c, ()).fst.Nr },
                                                { Dir := (a, b, c, ()).snd.fst.Dir, Origin := (a, b, c, ()).snd.fst.Origin, Kind := (a, b, c, ()).snd.fst.Kind, Nr := (a, b, c, ()).snd.fst.Nr },
                                                ())).fst ==
                                          (0 : Int)) ==
                                        ((a, b, c, ()).fst.Dir == (a, b, c, ()).snd.fst.Dir &&
                                          ((a, b, c, ()).fst.Origin == (a, b, c, ()).snd.fst.Origin &&
                                            ((a, b, c, ()).fst.Kind == (a, b, c, ()).snd.fst.Kind && (a, b, c, ()).fst.Nr == (a, b, c, ()).snd.fst.Nr))))
                                  (Ok ((false, ()) = out5 (a, b, c, ())))
                                  (Ok
                                      ((!decide
                                              ((outC
                                                    ({ Dir := (a, b, c, ()).fst.Dir, Origin := (a, b, c, ()).fst.Origin, Kind := (a, b, c, ()).fst.Kind, Nr := (a, b, c, ()).fst.Nr },
                                                      { Dir := (a, b, c, ()).snd.fst.Dir, Origin := (a, b, c, ()).snd.fst.Origin, Kind := (a, b, c, ()).snd.fst.Kind, Nr := (a, b, c, ()).snd.fst.Nr },
                                                      ())).fst >
                                                (0 : Int))) =
                                          true →
                                        (!decide
                                              ((outC
                                                    ({ Dir := (a, b, c, ()).fst.Dir, Origin := (a, b, c, ()).fst.Origin, Kind := (a, b, c, ()).fst.Kind, Nr := (a, b, c, ()).fst.Nr },
                                                      { Dir := (a, b, c, ()).snd.fst.Dir, Origin := (a, b, c, ()).snd.fst.Origin, Kind := (a, b, c, ()).snd.fst.Kind, Nr := (a, b, c, ()).snd.fst.Nr },
                                                      ())).fst >
                                                (0 : Int))) =
                                          true) ∧
                                    Ok
                                        (decide
                                              ((outC
                                                    ({ Dir := (a, b, c, ()).fst.Dir, Origin := (a, b, c, ()).fst.Origin, Kind := (a, b, c, ()).fst.Kind, Nr := (a, b, c, ()).fst.Nr },
                                                      { Dir := (a, b, c, ()).snd.fst.Dir, Origin := (a, b, c, ()).snd.fst.Origin, Kind := (a, b, c, ()).snd.fst.Kind, Nr := (a, b, c, ()).snd.fst.Nr },
                                                      ())).fst >
                                                (0 : Int)) =
                                            false →
                                          (!decide
                                                ((outC
                                                      ({ Dir := (a, b, c, ()).fst.Dir, Origin := (a, b, c, ()).fst.Origin, Kind := (a, b, c, ()).fst.Kind, Nr := (a, b, c, ()).fst.Nr },
                                                        { Dir := (a, b, c, ()).snd.fst.Dir, Origin := (a, b, c, ()).snd.fst.Origin, Kind := (a, b, c, ()).snd.fst.Kind,
                                                          Nr := (a, b, c, ()).snd.fst.Nr },
                                                        ())).fst >
                                                  (0 : Int))) =
                                            true) ∧
                                      Ok
                                          ((!(decide
                                                    ((outC
                                                          ({ Dir := (a, b, c, ()).fst.Dir, Origin := (a, b, c, ()).fst.Origin, Kind := (a, b, c, ()).fst.Kind, Nr := (a, b, c, ()).fst.Nr },
                                                            { Dir := (a, b, c, ()).snd.fst.Dir, Origin := (a, b, c, ()).snd.fst.Origin, Kind := (a, b, c, ()).snd.fst.Kind,
                                                              Nr := (a, b, c, ()).snd.fst.Nr },
                                                            ())).fst >
                                                      (0 : Int)) ||
                                                  decide
                                                    ((outC
                                                          ({ Dir := (a, b, c, ()).snd.fst.Dir, Origin := (a, b, c, ()).snd.fst.Origin, Kind := (a, b, c, ()).snd.fst.Kind,
                                                              Nr := (a, b, c, ()).snd.fst.Nr },
                                                            { Dir := (a, b, c, ()).snd.snd.fst.Dir, Origin := (a, b, c, ()).snd.snd.fst.Origin, Kind := (a, b, c, ()).snd.snd.fst.Kind,
                                                              Nr := (a, b, c, ()).snd.snd.fst.Nr },
                                                            ())).fst >
                                                      (0 : Int)))) =
                                              true →
                                            (!(decide
                                                    ((outC
                                                          ({ Dir := (a, b, c, ()).fst.Dir, Origin := (a, b, c, ()).fst.Origin, Kind := (a, b, c, ()).fst.Kind, Nr := (a, b, c, ()).fst.Nr },
                                                            { Dir := (a, b, c, ()).snd.fst.Dir, Origin := (a, b, c, ()).snd.fst.Origin, Kind := (a, b, c, ()).snd.fst.Kind,
                                                              Nr := (a, b, c, ()).snd.fst.Nr },
                                                            ())).fst >
                                                      (0 : Int)) ||
                                                  decide
                                                    ((outC
                                                          ({ Dir := (a, b, c, ()).snd.fst.Dir, Origin := (a, b, c, ()).snd.fst.Origin, Kind := (a, b, c, ()).snd.fst.Kind,
                                                              Nr := (a, b, c, ()).snd.fst.Nr },
                                                            { Dir := (a, b, c, ()).snd.snd.fst.Dir, Origin := (a, b, c, ()).snd.snd.fst.Origin, Kind := (a, b, c, ()).snd.snd.fst.Kind,
                                                              Nr := (a, b, c, ()).snd.snd.fst.Nr },
                                                            ())).fst >
                                                      (0 : Int)))) =
                                              true) ∧
                                        Ok
                                            ((!(decide
                                                      ((outC
                                                            ({ Dir := (a, b, c, ()).fst.Dir, Origin := (a, b, c, ()).fst.Origin, Kind := (a, b, c, ()).fst.Kind, Nr := (a, b, c, ()).fst.Nr },
                                                              { Dir := (a, b, c, ()).snd.fst.Dir, Origin := (a, b, c, ()).snd.fst.Origin, Kind := (a, b, c, ()).snd.fst.Kind,
                                                                Nr := (a, b, c, ()).snd.fst.Nr },
                                                              ())).fst >
                                                        (0 : Int)) ||
                                                    decide
                                                      ((outC
                                                            ({ Dir := (a, b, c, ()).snd.fst.Dir, Origin := (a, b, c, ()).snd.fst.Origin, Kind := (a, b, c, ()).snd.fst.Kind,
                                                                Nr := (a, b, c, ()).snd.fst.Nr },
                                                              { Dir := (a, b, c, ()).snd.snd.fst.Dir, Origin := (a, b, c, ()).snd.snd.fst.Origin, Kind := (a, b, c, ()).snd.snd.fst.Kind,
                                                                Nr := (a, b, c, ()).snd.snd.fst.Nr },
                                                              ())).fst >
                                                        (0 : Int)))) =
                                                true →
                                              (!(decide
                                                      ((outC
                                                            ({ Dir := (a, b, c, ()).fst.Dir, Origin := (a, b, c, ()).fst.Origin, Kind := (a, b, c, ()).fst.Kind, Nr := (a, b, c, ()).fst.Nr },
                                                              { Dir := (a, b, c, ()).snd.fst.Dir, Origin := (a, b, c, ()).snd.fst.Origin, Kind := (a, b, c, ()).snd.fst.Kind,
                                                                Nr := (a, b, c, ()).snd.fst.Nr },
                                                              ())).fst >
                                                        (0 : Int)) ||
                                                    decide
                                                      ((outC
                                                            ({ Dir := (a, b, c, ()).snd.fst.Dir, Origin := (a, b, c, ()).snd.fst.Origin, Kind := (a, b, c, ()).snd.fst.Kind,
                                                                Nr := (a, b, c, ()).snd.fst.Nr },
                                                              { Dir := (a, b, c, ()).snd.snd.fst.Dir, Origin := (a, b, c, ()).snd.snd.fst.Origin, Kind := (a, b, c, ()).snd.snd.fst.Kind,
                                                                Nr := (a, b, c, ()).snd.snd.fst.Nr },
                                                              ())).fst >
                                                        (0 : Int)))) =
                                                true) ∧
                                          Ok
                                              ((!(decide
                                                        ((outC
                                                              ({ Dir := (a, b, c, ()).fst.Dir, Origin := (a, b, c, ()).fst.Origin, Kind := (a, b, c, ()).fst.Kind, Nr := (a, b, c, ()).fst.Nr },
                                                                { Dir := (a, b, c, ()).snd.fst.Dir, Origin := (a, b, c, ()).snd.fst.Origin, Kind := (a, b, c, ()).snd.fst.Kind,
                                                                  Nr := (a, b, c, ()).snd.fst.Nr },
                                                                ())).fst >
                                                          (0 : Int)) ||
                                                      decide
                                                        ((outC
                                                              ({ Dir := (a, b, c, ()).snd.fst.Dir, Origin := (a, b, c, ()).snd.fst.Origin, Kind := (a, b, c, ()).snd.fst.Kind,
                                                                  Nr := (a, b, c, ()).snd.fst.Nr },
                                                                { Dir := (a, b, c, ()).snd.snd.fst.Dir, Origin := (a, b, c, ()).snd.snd.fst.Origin, Kind := (a, b, c, ()).snd.snd.fst.Kind,
                                                                  Nr := (a, b, c, ()).snd.snd.fst.Nr },
                                                                ())).fst >
                                                          (0 : Int)))) =
                                                  true →
                                                True) ∧
                                            Ok
                                                ((!(decide
                                                          ((outC
                                                                ({ Dir := (a, b, c, ()).fst.Dir, Origin := (a, b, c, ()).fst.Origin, Kind := (a, b, c, ()).fst.Kind, Nr := (a, b, c, ()).fst.Nr },
                                                                  { Dir := (a, b, c, ()).snd.fst.Dir, Origin := (a, b, c, ()).snd.fst.Origin, Kind := (a, b, c, ()).snd.fst.Kind,
                                                                    Nr := (a, b, c, ()).snd.fst.Nr },
                                                                  ())).fst >
                                                            (0 : Int)) ||
                                                        decide
                                                          ((outC
                                                                ({ Dir := (a, b, c, ()).snd.fst.Dir, Origin := (a, b, c, ()).snd.fst.Origin, Kind := (a, b, c, ()).snd.fst.Kind,
                                                                    Nr := (a, b, c, ()).snd.fst.Nr },
                                                                  { Dir := (a, b, c, ()).snd.snd.fst.Dir, Origin := (a, b, c, ()).snd.snd.fst.Origin, Kind := (a, b, c, ()).snd.snd.fst.Kind,
                                                                    Nr := (a, b, c, ()).snd.snd.fst.Nr },
                                                                  ())).fst >
                                                            (0 : Int)))) =
                                                    true →
                                                  (!(decide
                                                          ((outC
                                                                ({ Dir := (a, b, c, ()).fst.Dir, Origin := (a, b, c, ()).fst.Origin, Kind := (a, b, c, ()).fst.Kind, Nr := (a, b, c, ()).fst.Nr },
                                                                  { Dir := (a, b, c, ()).snd.fst.Dir, Origin := (a, b, c, ()).snd.fst.Origin, Kind := (a, b, c, ()).snd.fst.Kind,
                                                                    Nr := (a, b, c, ()).snd.fst.Nr },
                                                                  ())).fst >
                                                            (0 : Int)) ||
                                                        decide
                                                          ((outC
                                                                ({ Dir := (a, b, c, ()).snd.fst.Dir, Origin := (a, b, c, ()).snd.fst.Origin, Kind := (a, b, c, ()).snd.fst.Kind,
                                                                    Nr := (a, b, c, ()).snd.fst.Nr },
                                                                  { Dir := (a, b, c, ()).snd.snd.fst.Dir, Origin := (a, b, c, ()).snd.snd.fst.Origin, Kind := (a, b, c, ()).snd.snd.fst.Kind,
                                                                    Nr := (a, b, c, ()).snd.snd.fst.Nr },
                                                                  ())).fst >
                                                            (0 : Int)))) =
                                                    true) ∧
                                              Ok
                                                  ((decide
                                                          ((outC
                                                                ({ Dir := (a, b, c, ()).fst.Dir, Origin := (a, b, c, ()).fst.Origin, Kind := (a, b, c, ()).fst.Kind, Nr := (a, b, c, ()).fst.Nr },
                                                                  { Dir := (a, b, c, ()).snd.fst.Dir, Origin := (a, b, c, ()).snd.fst.Origin, Kind := (a, b, c, ()).snd.fst.Kind,
                                                                    Nr := (a, b, c, ()).snd.fst.Nr },
                                                                  ())).fst >
                                                            (0 : Int)) ||
                                                        decide
                                                          ((outC
                                                                ({ Dir := (a, b, c, ()).snd.fst.Dir, Origin := (a, b, c, ()).snd.fst.Origin, Kind := (a, b, c, ()).snd.fst.Kind,
                                                                    Nr := (a, b, c, ()).snd.fst.Nr },
                                                                  { Dir := (a, b, c, ()).snd.snd.fst.Dir, Origin := (a, b, c, ()).snd.snd.fst.Origin, Kind := (a, b, c, ()).snd.snd.fst.Kind,
                                                                    Nr := (a, b, c, ()).snd.snd.fst.Nr },
                                                                  ())).fst >
                                                            (0 : Int))) =
                                                      false →
                                                    (!(decide
                                                            ((outC
                                                                  ({ Dir := (a, b, c, ()).fst.Dir, Origin := (a, b, c, ()).fst.Origin, Kind := (a, b, c, ()).fst.Kind, Nr := (a, b, c, ()).fst.Nr },
                                                                    { Dir := (a, b, c, ()).snd.fst.Dir, Origin := (a, b, c, ()).snd.fst.Origin, Kind := (a, b, c, ()).snd.fst.Kind,
                                                                      Nr := (a, b, c, ()).snd.fst.Nr },
                                                                    ())).fst >
                                                              (0 : Int)) ||
                                                          decide
                                                            ((outC
                                                                  ({ Dir := (a, b, c, ()).snd.fst.Dir, Origin := (a, b, c, ()).snd.fst.Origin, Kind := (a, b, c, ()).snd.fst.Kind,
                                                                      Nr := (a, b, c, ()).snd.fst.Nr },
                                                                    { Dir := (a, b, c, ()).snd.snd.fst.Dir, Origin := (a, b, c, ()).snd.snd.fst.Origin, Kind := (a, b, c, ()).snd.snd.fst.Kind,
                                                                      Nr := (a, b, c, ()).snd.snd.fst.Nr },
                                                                    ())).fst >
                                                              (0 : Int)))) =
                                                      true) ∧
                                                Ok
                                                  ((decide
                                                            ((outC
                                                                  ({ Dir := (a, b, c, ()).fst.Dir, Origin := (a, b, c, ()).fst.Origin, Kind := (a, b, c, ()).fst.Kind, Nr := (a, b, c, ()).fst.Nr },
                                                                    { Dir := (a, b, c, ()).snd.fst.Dir, Origin := (a, b, c, ()).snd.fst.Origin, Kind := (a, b, c, ()).snd.fst.Kind,
                                                                      Nr := (a, b, c, ()).snd.fst.Nr },
                                                                    ())).fst >
                                                              (0 : Int)) ||
                                                          decide
                                                            ((outC
                                                                  ({ Dir := (a, b, c, ()).snd.fst.Dir, Origin := (a, b, c, ()).snd.fst.Origin, Kind := (a, b, c, ()).snd.fst.Kind,
                                                                      Nr := (a, b, c, ()).snd.fst.Nr },
                                                                    { Dir := (a, b, c, ()).snd.snd.fst.Dir, Origin := (a, b, c, ()).snd.snd.fst.Origin, Kind := (a, b, c, ()).snd.snd.fst.Kind,
                                                                      Nr := (a, b, c, ()).snd.snd.fst.Nr },
                                                                    ())).fst >
                                                              (0 : Int)) ||
                                                        decide
                                                          ((outC
                                                                ({ Dir := (a, b, c, ()).fst.Dir, Origin := (a, b, c, ()).fst.Origin, Kind := (a, b, c, ()).fst.Kind, Nr := (a, b, c, ()).fst.Nr },
                                                                  { Dir := (a, b, c, ()).snd.snd.fst.Dir, Origin := (a, b, c, ()).snd.snd.fst.Origin, Kind := (a, b, c, ()).snd.snd.fst.Kind,
                                                                    Nr := (a, b, c, ()).snd.snd.fst.Nr },
                                                                  ())).fst ≤
                                                            (0 : Int)),
                                                      ()) =
                                                    out5 (a, b, c, ())))) := by kernel_rfl

theorem nf6 (a b : TieId) : exec E5 L0 20 (bodyOf Try.f6) (startT 66 (avs [T, T] (a, b, ()))) [] (retK E5.P [.tmp 4] [B] (out6 (a, b, ()))) = (
Ok True ∧
  Ok True ∧
    Ok ((!!(out8 ()).fst) = true → (!!(out8 ()).fst) = true) ∧
      Ok ((!(out8 ()).fst) = false → (!!(out8 ()).fst) = true) ∧
        cnd (!(out8 ()).fst || !(outA ({ Dir := (a, b, ()).fst.Dir, Origin := (a, b, ()).fst.Origin, Kind := (a, b, ()).fst.Kind, Nr := (a, b, ()).fst.Nr }, ())).snd.fst)
          (Ok ((out8 ()).fst = true → (out8 ()).fst = true) ∧
            Ok ((out8 ()).fst = true → (out8 ()).fst = true) ∧
              Ok ((out8 ()).fst = true → (out8 ()).fst = true) ∧
                Ok
                    (((out8 ()).fst &&
                          ((outA ({ Dir := (a, b, ()).fst.Dir, Origin := (a, b, ()).fst.Origin, Kind := (a, b, ()).fst.Kind, Nr := (a, b, ()).fst.Nr }, ())).fst.Dir == (0 : Int) &&
                            ((outA ({ Dir := (a, b, ()).fst.Dir, Origin := (a, b, ()).fst.Origin, Kind := (a, b, ()).fst.Kind, Nr := (a, b, ()).fst.Nr }, ())).fst.Origin == (0 : Int) &&
                              ((outA ({ Dir := (a, b, ()).fst.Dir, Origin := (a, b, ()).fst.Origin, Kind := (a, b, ()).fst.Kind, Nr := (a, b, ()).fst.Nr }, ())).fst.Kind == (0 : Int) &&
                                (outA ({ Dir := (a, b, ()).fst.Dir, Origin := (a, b, ()).fst.Origin, Kind := (a, b, ()).fst.Kind, Nr := (a, b, ()).fst.Nr }, ())).fst.Nr == (0 : Int))))) =
                        true →
                      True) ∧
                  Ok
                      (((out8 ()).fst &&
                            ((outA ({ Dir := (a, b, ()).fst.Dir, Origin := (a, b, ()).fst.Origin, Kind := (a, b, ()).fst.Kind, Nr := (a, b, ()).fst.Nr }, ())).fst.Dir == (0 : Int) &&
                              ((outA ({ Dir := (a, b, ()).fst.Dir, Origin := (a, b, ()).fst.Origin, Kind := (a, b, ()).fst.Kind, Nr := (a, b, ()).fst.Nr }, ())).fst.Origin == (0 : Int) &&
                                ((outA ({ Dir := (a, b, ()).fst.Dir, Origin := (a, b, ()).fst.Origin, Kind := (a, b, ()).fst.Kind, Nr := (a, b, ()).fst.Nr }, ())).fst.Kind == (0 : Int) &&
                                  (outA ({ Dir := (a, b, ()).fst.Dir, Origin := (a, b, ()).fst.Origin, Kind := (a, b, ()).fst.Kind, Nr := (a, b, ()).fst.Nr }, ())).fst.Nr == (0 : Int))))) =
                          true →
                        ((out8 ()).fst &&
                            ((outA ({ Dir := (a, b, ()).fst.Dir, Origin := (a, b, ()).fst.Origin, Kind := (a, b, ()).fst.Kind, Nr := (a, b, ()).fst.Nr }, ())).fst.Dir == (0 : Int) &&
                              ((outA ({ Dir := (a, b, ()).fst.Dir, Origin := (a, b, ()).fst.Origin, Kind := (a, b, ()).fst.Kind, Nr := (a, b, ()).fst.Nr }, ())).fst.Origin == (0 : Int) &&
                                ((outA ({ Dir := (a, b, ()).fst.Dir, Origin := (a, b, ()).fst.Origin, Kind := (a, b, ()).fst.Kind, Nr := (a, b, ()).fst.Nr }, ())).fst.Kind == (0 : Int) &&
                                  (outA ({ Dir := (a, b, ()).fst.Dir, Origin := (a, b, ()).fst.Origin, Kind := (a, b, ()).fst.Kind, Nr := (a, b, ()).fst.Nr }, ())).fst.Nr == (0 : Int))))) =
                          true) ∧
                    Ok
                        (((out8 ()).fst &&
                              ((outA ({ Dir := (a, b, ()).fst.Dir, Origin := (a, b, ()).fst.Origin, Kind := (a, b, ()).fst.Kind, Nr := (a, b, ()).fst.Nr }, ())).fst.Dir == (0 : Int) &&
                                ((outA ({ Dir := (a, b, ()).fst.Dir, Origin := (a, b, ()).fst.Origin, Kind := (a, b, ()).fst.Kind, Nr := (a, b, ()).fst.Nr }, ())).fst.Origin == (0 : Int) &&
                                  ((outA ({ Dir := (a, b, ()).fst.Dir, Origin := (a, b, ()).fst.Origin, Kind := (a, b, ()).fst.Kind, Nr := (a, b, ()).fst.Nr }, ())).fst.Kind == (0 : Int) &&
                                    (outA ({ Dir := (a, b, ()).fst.Dir, Origin := (a, b, ()).fst.Origin, Kind := (a, b, ()).fst.Kind, Nr := (a, b, ()).fst.Nr }, ())).fst.Nr == (0 : Int))))) =
                            true →
                          ((out8 ()).fst &&
                              ((outA ({ Dir := (a, b, ()).fst.Dir, Origin := (a, b, ()).fst.Origin, Kind := (a, b, ()).fst.Kind, Nr := (a, b, ()).fst.Nr }, ())).fst.Dir == (0 : Int) &&
                                ((outA ({ Dir := (a, b, ()).fst.Dir, Origin := (a, b, ()).fst.Origin, Kind := (a, b, ()).fst.Kind, Nr := (a, b, ()).fst.Nr }, ())).fst.Origin == (0 : Int) &&
                                  ((outA ({ Dir := (a, b, ()).fst.Dir, Origin := (a, b, ()).fst.Origin, Kind := (a, b, ()).fst.Kind, Nr := (a, b, ()).fst.Nr }, ())).fst.Kind == (0 : Int) &&
                                    (outA ({ Dir := (a, b, ()).fst.Dir, Origin := (a, b, ()).fst.Origin, Kind := (a, b, ()).fst.Kind, Nr := (a, b, ()).fst.Nr }, ())).fst.Nr == (0 : Int))))) =
                            true) ∧
                      Ok
                          (((out8 ()).fst &&
                                ((outA ({ Dir := (a, b, ()).fst.Dir, Origin := (a, b, ()).fst.Origin, Kind := (a, b, ()).fst.Kind, Nr := (a, b, ()).fst.Nr }, ())).fst.Dir == (0 : Int) &&
                                  ((outA ({ Dir := (a, b, ()).fst.Dir, Origin := (a, b, ()).fst.Origin, Kind := (a, b, ()).fst.Kind, Nr := (a, b, ()).fst.Nr }, ())).fst.Origin == (0 : Int) &&
                                    ((outA ({ Dir := (a, b, ()).fst.Dir, Origin := (a, b, ()).fst.Origin, Kind := (a, b, ()).fst.Kind, Nr := (a, b, ()).fst.Nr }, ())).fst.Kind == (0 : Int) &&
                                      (outA ({ Dir := (a, b, ()).fst.Dir, Origin := (a, b, ()).fst.Origin, Kind := (a, b, ()).fst.Kind, Nr := (a, b, ()).fst.Nr }, ())).fst.Nr == (0 : Int))))) =
                              true →
                            ((out8 ()).fst &&
                                ((outA ({ Dir := (a, b, ()).fst.Dir, Origin := (a, b, ()).fst.Origin, Kind := (a, b, ()).fst.Kind, Nr := (a, b, ()).fst.Nr }, ())).fst.Dir == (0 : Int) &&
                                  ((outA ({ Dir := (a, b, ()).fst.Dir, Origin := (a, b, ()).fst.Origin, Kind := (a, b, ()).fst.Kind, Nr := (a, b, ()).fst.Nr }, ())).fst.Origin == (0 : Int) &&
                                    ((outA ({ Dir := (a, b, ()).fst.Dir, Origin := (a, b, ()).fst.Origin, Kind := (a, b, ()).fst.Kind, Nr := (a, b, ()).fst.Nr }, ())).fst.Kind == (0 : Int) &&
                                      (outA ({ Dir := (a, b, ()).fst.Dir, Origin := (a, b, ()).fst.Origin, Kind := (a, b, ()).fst.Kind, Nr := (a, b, ()).fst.Nr }, ())).fst.Nr == (0 : Int))))) =
                              true) ∧
                        Ok
                            (((out8 ()).fst &&
                                    ((outA ({ Dir := (a, b, ()).fst.Dir, Origin := (a, b, ()).fst.Origin, Kind := (a, b, ()).fst.Kind, Nr := (a, b, ()).fst.Nr }, ())).fst.Dir == (0 : Int) &&
                                      ((outA ({ Dir := (a, b, ()).fst.Dir, Origin := (a, b, ()).fst.Origin, Kind := (a, b, ()).fst.Kind, Nr := (a, b, ()).fst.Nr }, ())).fst.Origin == (0 : Int) &&
                                        ((outA ({ Dir := (a, b, ()).fst.Dir, Origin := (a, b, ()).fst.Origin, Kind := (a, b, ()).fst.Kind, Nr := (a, b, ()).fst.Nr }, ())).fst.Kind == (0 : Int) &&
                                          (outA ({ Dir := (a, b, ()).fst.Dir, Origin := (a, b, ()).fst.Origin, Kind := (a, b, ()).fst.Kind, Nr := (a, b, ()).fst.Nr }, ())).fst.Nr == (0 : Int)))) &&
                                  !((a, b, ()).fst.Dir == (outL ()).fst.Dir &&
                                      ((a, b, ()).fst.Origin == (outL ()).fst.Origin && ((a, b, ()).fst.Kind == (outL ()).fst.Kind && (a, b, ()).fst.Nr == (outL ()).fst.Nr)))) =
                                true →
                              ((out8 ()).fst &&
                                    ((outA ({ Dir := (a, b, ()).fst.Dir, Origin := (a, b, ()).fst.Origin, Kind := (a, b, ()).fst.Kind, Nr := (a, b, ()).fst.Nr }, ())).fst.Dir == (0 : Int) &&
                                      ((outA ({ Dir := (a, b, ()).fst.Dir, Origin := (a, b, ()).fst.Origin, Kind := (a, b, ()).fst.Kind, Nr := (a, b, ()).fst.Nr }, ())).fst.Origin == (0 : Int) &&
                                        ((outA ({ Dir := (a, b, ()).fst.Dir, Origin := (a, b, ()).fst.Origin, Kind := (a, b, ()).fst.Kind, Nr := (a, b, ()).fst.Nr }, ())).fst.Kind == (0 : Int) &&
                                          (outA ({ Dir := (a, b, ()).fst.Dir, Origin := (a, b, ()).fst.Origin, Kind := (a, b, ()).fst.Kind, Nr := (a, b, ()).fst.Nr }, ())).fst.Nr == (0 : Int)))) &&
                                  !((a, b, ()).fst.Dir == (outL ()).fst.Dir &&
                                      ((a, b, ()).fst.Origin == (outL ()).fst.Origin && ((a, b, ()).fst.Kind == (outL ()).fst.Kind && (a, b, ()).fst.Nr == (outL ()).fst.Nr)))) =
                                true) ∧
                          Ok
                              (((out8 ()).fst &&
                                      ((outA ({ Dir := (a, b, ()).fst.Dir, Origin := (a, b, ()).fst.Origin, Kind := (a, b, ()).fst.Kind, Nr := (a, b, ()).fst.Nr }, ())).fst.Dir == (0 : Int) &&
                                        ((outA ({ Dir := (a, b, ()).fst.Dir, Origin := (a, b, ()).fst.Origin, Kind := (a, b, ()).fst.Kind, Nr := (a, b, ()).fst.Nr }, ())).fst.Origin == (0 : Int) &&
                                          ((outA ({ Dir := (a, b, ()).fst.Dir, Origin := (a, b, ()).fst.Origin, Kind := (a, b, ()).fst.Kind, Nr := (a, b, ()).fst.Nr }, ())).fst.Kind == (0 : Int) &&
                                            (outA ({ Dir := (a, b, ()).fst.Dir, Origin := (a, b, ()).fst.Origin, Kind := (a, b, ()).fst.Kind, Nr := (a, b, ()).fst.Nr }, ())).fst.Nr == (0 : Int)))) &&
                                    !((a, b, ()).fst.Dir == (outL ()).fst.Dir &&
                                        ((a, b, ()).fst.Origin == (outL ()).fst.Origin && ((a, b, ()).fst.Kind == (outL ()).fst.Kind && (a, b, ()).fst.Nr == (outL ()).fst.Nr)))) =
                                  true →
                                True) ∧
                            Ok
                                (((out8 ()).fst &&
                                        ((outA ({ Dir := (a, b, ()).fst.Dir, Origin := (a, b, ()).fst.Origin, Kind := (a, b, ()).fst.Kind, Nr := (a, b, ()).fst.Nr }, ())).fst.Dir == (0 : Int) &&
                                          ((outA ({ Dir := (a, b, ()).fst.Dir, Origin := (a, b, ()).fst.Origin, Kind := (a, b, ()).fst.Kind, Nr := (a, b, ()).fst.Nr }, ())).fst.Origin == (0 : Int) &&
                                            ((outA ({ Dir := (a, b, ()).fst.Dir, Origin := (a, b, ()).fst.Origin, Kind := (a, b, ()).fst.Kind, Nr := (a, b, ()).fst.Nr }, ())).fst.Kind == (0 : Int) &&
                                              (outA ({ Dir := (a, b, ()).fst.Dir, Origin := (a, b, ()).fst.Origin, Kind := (a, b, ()).fst.Kind, Nr := (a, b, ()).fst.Nr }, ())).fst.Nr ==
                                                (0 : Int)))) &&
                                      !((a, b, ()).fst.Dir == (outL ()).fst.Dir &&
                                          ((a, b, ()).fst.Origin == (outL ()).fst.Origin && ((a, b, ()).fst.Kind == (outL ()).fst.Kind && (a, b, ()).fst.Nr == (outL ()).fst.Nr)))) =
                                    true →
                                  ((out8 ()).fst &&
                                        ((outA ({ Dir := (a, b, ()).fst.Dir, Origin := (a, b, ()).fst.Origin, Kind := (a, b, ()).fst.Kind, Nr := (a, b, ()).fst.Nr }, ())).fst.Dir == (0 : Int) &&
                                          ((outA ({ Dir := (a, b, ()).fst.Dir, Origin := (a, b, ()).fst.Origin, Kind := (a, b, ()).fst.Kind, Nr := (a, b, ()).fst.Nr }, ())).fst.Origin == (0 : Int) &&
                                            ((outA ({ Dir := (a, b, ()).fst.Dir, Origin := (a, b, ()).fst.Origin, Kind := (a, b, ()).fst.Kind, Nr := (a, b, ()).fst.Nr }, ())).fst.Kind == (0 : Int) &&
                                              (outA ({ Dir := (a, b, ()).fst.Dir, Origin := (a, b, ()).fst.Origin, Kind := (a, b, ()).fst.Kind, Nr := (a, b, ()).fst.Nr }, ())).fst.Nr ==
                                                (0 : Int)))) &&
                                      !((a, b, ()).fst.Dir == (outL ()).fst.Dir &&
                                          ((a, b, ()).fst.Origin == (outL ()).fst.Origin && ((a, b, ()).fst.Kind == (outL ()).fst.Kind && (a, b, ()).fst.Nr == (outL ()).fst.Nr)))) =
                                    true) ∧
                              Ok
                                  (((out8 ()).fst &&
                                        ((outA ({ Dir := (a, b, ()).fst.Dir, Origin := (a, b, ()).fst.Origin, Kind := (a, b, ()).fst.Kind, Nr := (a, b, ()).fst.Nr }, ())).fst.Dir == (0 : Int) &&
                                          ((outA ({ Dir := (a, b, ()).fst.Dir, Origin := (a, b, ()).fst.Origin, Kind := (a, b, ()).fst.Kind, Nr := (a, b, ()).fst.Nr }, ())).fst.Origin == (0 : Int) &&
                                            ((outA ({ Dir := (a, b, ()).fst.Dir, Origin := (a, b, ()).fst.Origin, Kind := (a, b, ()).fst.Kind, Nr := (a, b, ()).fst.Nr }, ())).fst.Kind == (0 : Int) &&
                                              (outA ({ Dir := (a, b, ()).fst.Dir, Origin := (a, b, ()).fst.Origin, Kind := (a, b, ()).fst.Kind, Nr := (a, b, ()).fst.Nr }, ())).fst.Nr ==
                                                (0 : Int))))) =
                                      true →
                                    ((out8 ()).fst &&
                                        ((outA ({ Dir := (a, b, ()).fst.Dir, Origin := (a, b, ()).fst.Origin, Kind := (a, b, ()).fst.Kind, Nr := (a, b, ()).fst.Nr }, ())).fst.Dir == (0 : Int) &&
                                          ((outA ({ Dir := (a, b, ()).fst.Dir, Origin := (a, b, ()).fst.Origin, Kind := (a, b, ()).fst.Kind, Nr := (a, b, ()).fst.Nr }, ())).fst.Origin == (0 : Int) &&
                                            ((outA ({ Dir := (a, b, ()).fst.Dir, Origin := (a, b, ()).fst.Origin, Kind := (a, b, ()).fst.Kind, Nr := (a, b, ()).fst.Nr }, ())).fst.Kind == (0 : Int) &&
                                              (outA ({ Dir := (a, b, ()).fst.Dir, Origin := (a, b, ()).fst.Origin, Kind := (a, b, ()).fst.Kind, Nr := (a, b, ()).fst.Nr }, ())).fst.Nr ==
                                                (0 : Int))))) =
                                      true) ∧
                                Ok
                                    (((out8 ()).fst &&
                                          ((outA ({ Dir := (a, b, ()).fst.Dir, Origin := (a, b, ()).fst.Origin, Kind := (a, b, ()).fst.Kind, Nr := (a, b, ()).fst.Nr }, ())).fst.Dir == (0 : Int) &&
                                            ((outA ({ Dir := (a, b, ()).fst.Dir, Origin := (a, b, ()).fst.Origin, Kind := (a, b, ()).fst.Kind, Nr := (a, b, ()).fst.Nr }, ())).fst.Origin ==
                                                (0 : Int) &&
                                              ((outA ({ Dir := (a, b, ()).fst.Dir, Origin := (a, b, ()).fst.Origin, Kind := (a, b, ()).fst.Kind, Nr := (a, b, ()).fst.Nr }, ())).fst.Kind ==
                                                  (0 : Int) &&
                                                (outA ({ Dir := (a, b, ()).fst.Dir, Origin := (a, b, ()).fst.Origin, Kind := (a, b, ()).fst.Kind, Nr := (a, b, ()).fst.Nr }, ())).fst.Nr ==
                                                  (0 : Int))))) =
                                        true →
                                      ((a, b, ()).fst.Dir == (outL ()).fst.Dir &&
                                            ((a, b, ()).fst.Origin == (outL ()).fst.Origin && ((a, b, ()).fst.Kind == (outL ()).fst.Kind && (a, b, ()).fst.Nr == (outL ()).fst.Nr))) =
                                          false →
                                        ((out8 ()).fst &&
                                              ((outA ({ Dir := (a, b, ()).fst.Dir, Origin := (a, b, ()).fst.Origin, Kind := (a, b, ()).fst.Kind, Nr := (a, b, ()).fst.Nr }, ())).fst.Dir == (0 : Int) &&
                                                ((outA ({ Dir := (a, b, ()).fst.Dir, Origin := (a, b, ()).fst.Origin, Kind := (a, b, ()).fst.Kind, Nr := (a, b, ()).fst.Nr }, ())).fst.Origin ==
                                                    (0 : Int) &&
                                                  ((outA ({ Dir := (a, b, ()).fst.Dir, Origin := (a, b, ()).fst.Origin, Kind := (a, b, ()).fst.Kind, Nr := (a, b, ()).fst.Nr }, ())).fst.Kind ==
                                                      (0 : Int) &&
                                                    (outA ({ Dir := (a, b, ()).fst.Dir, Origin := (a, b, ()).fst.Origin, Kind := (a, b, ()).fst.Kind, Nr := (a, b, ()).fst.Nr }, ())).fst.Nr ==
                                                      (0 : Int)))) &&
                                            !((a, b, ()).fst.Dir == (outL ()).fst.Dir &&
                                                ((a, b, ()).fst.Origin == (outL ()).fst.Origin && ((a, b, ()).fst.Kind == (outL ()).fst.Kind && (a, b, ()).fst.Nr == (outL ()).fst.Nr)))) =
                                          true) ∧
                                  Ok
                                      (((out8 ()).fst &&
                                            ((outA ({ Dir := (a, b, ()).fst.Dir, Origin := (a, b, ()).fst.Origin, Kind := (a, b, ()).fst.Kind, Nr := (a, b, ()).fst.Nr }, ())).fst.Dir == (0 : Int) &&
                                              ((outA ({ Dir := (a, b, ()).fst.Dir, Origin := (a, b, ()).fst.Origin, Kind := (a, b, ()).fst.Kind, Nr := (a, b, ()).fst.Nr }, ())).fst.Origin ==
                                                  (0 : Int) &&
                                                ((outA ({ Dir := (a, b, ()).fst.Dir, Origin := (a, b, ()).fst.Origin, Kind := (a, b, ()).fst.Kind, Nr := (a, b, ()).fst.Nr }, ())).fst.Kind ==
                                                    (0 : Int) &&
                                                  (outA ({ Dir := (a, b, ()).fst.Dir, Origin := (a, b, ()).fst.Origin, Kind := (a, b, ()).fst.Kind, Nr := (a, b, ()).fst.Nr }, ())).fst.Nr ==
                                                    (0 : Int))))) =
                                          true →
                                        ((out8 ()).fst &&
                                            ((outA ({ Dir := (a, b, ()).fst.Dir, Origin := (a, b, ()).fst.Origin, Kind := (a, b, ()).fst.Kind, Nr := (a, b, ()).fst.Nr }, ())).fst.Dir == (0 : Int) &&
                                              ((outA ({ Dir := (a, b, ()).fst.Dir, Origin := (a, b, ()).fst.Origin, Kind := (a, b, ()).fst.Kind, Nr := (a, b, ()).fst.Nr }, ())).fst.Origin ==
                                                  (0 : Int) &&
                                                ((outA ({ Dir := (a, b, ()).fst.Dir, Origin := (a, b, ()).fst.Origin, Kind := (a, b, ()).fst.Kind, Nr := (a, b, ()).fst.Nr }, ())).fst.Kind ==
                                                    (0 : Int) &&
                                                  (outA ({ Dir := (a, b, ()).fst.Dir, Origin := (a, b, ()).fst.Origin, Kind := (a, b, ()).fst.Kind, Nr := (a, b, ()).fst.Nr }, ())).fst.Nr ==
                                                    (0 : Int))))) =
                                          true) ∧
                                    Ok
                                      (((out8 ()).fst &&
                                              ((outA ({ Dir := (a, b, ()).fst.Dir, Origin := (a, b, ()).fst.Origin, Kind := (a, b, ()).fst.Kind, Nr := (a, b, ()).fst.Nr }, ())).fst.Dir == (0 : Int) &&
                                                ((outA ({ Dir := (a, b, ()).fst.Dir, Origin := (a, b, ()).fst.Origin, Kind := (a, b, ()).fst.Kind, Nr := (a, b, ()).fst.Nr }, ())).fst.Origin ==
                                                    (0 : Int) &&
                                                  ((outA ({ Dir := (a, b, ()).fst.Dir, Origin := (a, b, ()).fst.Origin, Kind := (a, b, ()).fst.Kind, Nr := (a, b, ()).fst.Nr }, ())).fst.Kind ==
                                                      (0 : Int) &&
                                                    (outA ({ Dir := (a, b, ()).fst.Dir, Origin := (a, b, ()).fst.Origin, Kind := (a, b, ()).fst.Kind, Nr := (a, b, ()).fst.Nr }, ())).fst.Nr ==
                                                      (0 : Int)))) &&
                                            ((a, b, ()).fst.Dir == (outL ()).fst.Dir &&
                                                ((a, b, ()).fst.Origin == (outL ()).fst.Origin && ((a, b, ()).fst.Kind == (outL ()).fst.Kind && (a, b, ()).fst.Nr == (outL ()).fst.Nr)) ||
                                              !(out19 ({ Dir := (a, b, ()).fst.Dir, Origin := (a, b, ()).fst.Origin, Kind := (a, b, ()).fst.Kind, Nr := (a, b, ()).fst.Nr }, ())).fst),
                                          ()) =
                                        out6 (a, b, ())))
          (Ok True ∧
            Ok
                (decide
                      ((outC
                            ({ Dir := (a, b, ()).fst.Dir, Origin := (a, b, ()).fst.Origin, Kind := (a, b, ()).fst.Kind, Nr := (a, b, ()).fst.Nr },
                              { Dir := (a, b, ()).snd.fst.Dir, Origin := (a, b, ()).snd.fst.Origin, Kind := (a, b, ()).snd.fst.Kind, Nr := (a, b, ()).snd.fst.Nr }, ())).fst <
                        (0 : Int)) =
                    true →
                  decide
                      ((outC
                            ({ Dir := (a, b, ()).fst.Dir, Origin := (a, b, ()).fst.Origin, Kind := (a, b, ()).fst.Kind, Nr := (a, b, ()).fst.Nr },
                              { Dir := (a, b, ()).snd.fst.Dir, Origin := (a, b, ()).snd.fst.Origin, Kind := (a, b, ()).snd.fst.Kind, Nr := (a, b, ()).snd.fst.Nr }, ())).fst <
                        (0 : Int)) =
                    true) ∧
              Ok
                  (decide
                        ((outC
                              ({ Dir := (a, b, ()).fst.Dir, Origin := (a, b, ()).fst.Origin, Kind := (a, b, ()).fst.Kind, Nr := (a, b, ()).fst.Nr },
                                { Dir := (a, b, ()).snd.fst.Dir, Origin := (a, b, ()).snd.fst.Origin, Kind := (a, b, ()).snd.fst.Kind, Nr := (a, b, ()).snd.fst.Nr }, ())).fst <
                          (0 : Int)) =
                      true →
                    decide
                        ((outC
                              ({ Dir := (a, b, ()).fst.Dir, Origin := (a, b, ()).fst.Origin, Kind := (a, b, ()).fst.Kind, Nr := (a, b, ()).fst.Nr },
                                { Dir := (a, b, ()).snd.fst.Dir, Origin := (a, b, ()).snd.fst.Origin, Kind := (a, b, ()).snd.fst.Kind, Nr := (a, b, ()).snd.fst.Nr }, ())).fst <
                          (0 : Int)) =
                      true) ∧
                Ok
                    (decide
                          ((outC
                                ({ Dir := (a, b, ()).fst.Dir, Origin := (a, b, ()).fst.Origin, Kind := (a, b, ()).fst.Kind, Nr := (a, b, ()).fst.Nr },
                                  { Dir := (a, b, ()).snd.fst.Dir, Origin := (a, b, ()).snd.fst.Origin, Kind := (a, b, ()).snd.fst.Kind, Nr := (a, b, ()).snd.fst.Nr }, ())).fst <
                            (0 : Int)) =
                        true →
                      True) ∧
                  Ok
                      (decide
                            ((outC
                                  ({ Dir := (a, b, ()).fst.Dir, Origin := (a, b, ()).fst.Origin, Kind := (a, b, ()).fst.Kind, Nr := (a, b, ()).fst.Nr },
                                    { Dir := (a, b, ()).snd.fst.Dir, Origin := (a, b, ()).snd.fst.Origin, Kind := (a, b, ()).snd.fst.Kind, Nr := (a, b, ()).snd.fst.Nr }, ())).fst <
                              (0 : Int)) =
                          true →
                        decide
                            ((outC
                                  ({ Dir := (a, b, ()).fst.Dir, Origin := (a, b, ()).fst.Origin, Kind := (a, b, ()).fst.Kind, Nr := (a, b, ()).fst.Nr },
                                    { Dir := (a, b, ()).snd.fst.Dir, Origin := (a, b, ()).snd.fst.Origin, Kind := (a, b, ()).snd.fst.Kind, Nr := (a, b, ()).snd.fst.Nr }, ())).fst <
                              (0 : Int)) =
                          true) ∧
                    Ok
                        (decide
                              ((outC
                                    ({ Dir := (a, b, ()).fst.Dir, Origin := (a, b, ()).fst.Origin, Kind := (a, b, ()).fst.Kind, Nr := (a, b, ()).fst.Nr },
                                      { Dir := (a, b, ()).snd.fst.Dir, Origin := (a, b, ()).snd.fst.Origin, Kind := (a, b, ()).snd.fst.Kind, Nr := (a, b, ()).snd.fst.Nr }, ())).fst <
                                (0 : Int)) =
                            true →
                          decide
                              ((outC
                                    ({ Dir := (a, b, ()).fst.Dir, Origin := (a, b, ()).fst.Origin, Kind := (a, b, ()).fst.Kind, Nr := (a, b, ()).fst.Nr },
                                      { Dir := (a, b, ()).snd.fst.Dir, Origin := (a, b, ()).snd.fst.Origin, Kind := (a, b, ()).snd.fst.Kind, Nr := (a, b, ()).snd.fst.Nr }, ())).fst <
                                (0 : Int)) =
                            true) ∧
                      Ok True ∧
                        Ok
                            (decide
                                  ((outC
                                        ({ Dir := (a, b, ()).fst.Dir, Origin := (a, b, ()).fst.Origin, Kind := (a, b, ()).fst.Kind, Nr := (a, b, ()).fst.Nr },
                                          { Dir := (outA ({ Dir := (a, b, ()).fst.Dir, Origin := (a, b, ()).fst.Origin, Kind := (a, b, ()).fst.Kind, Nr := (a, b, ()).fst.Nr }, ())).fst.Dir,
                                            Origin := (outA ({ Dir := (a, b, ()).fst.Dir, Origin := (a, b, ()).fst.Origin, Kind := (a, b, ()).fst.Kind, Nr := (a, b, ()).fst.Nr }, ())).fst.Origin,
                                            Kind := (outA ({ Dir := (a, b, ()).fst.Dir, Origin := (a, b, ()).fst.Origin, Kind := (a, b, ()).fst.Kind, Nr := (a, b, ()).fst.Nr }, ())).fst.Kind,
                                            Nr := (outA ({ Dir := (a, b, ()).fst.Dir, Origin := (a, b, ()).fst.Origin, Kind := (a, b, ()).fst.Kind, Nr := (a, b, ()).fst.Nr }, ())).fst.Nr },
                                          ())).fst <
                                    (0 : Int)) =
                                true →
                              decide
                                  ((outC
                                        ({ Dir := (a, b, ()).fst.Dir, Origin := (a, b, ()).fst.Origin, Kind := (a, b, ()).fst.Kind, Nr := (a, b, ()).fst.Nr },
                                          { Dir := (outA ({ Dir := (a, b, ()).fst.Dir, Origin := (a, b, ()).fst.Origin, Kind := (a, b, ()).fst.Kind, Nr := (a, b, ()).fst.Nr }, ())).fst.Dir,
                                            Origin := (outA ({ Dir := (a, b, ()).fst.Dir, Origin := (a, b, ()).fst.Origin, Kind := (a, b, ()).fst.Kind, Nr := (a, b, ()).fst.Nr }, ())).fst.Origin,
                                            Kind := (outA ({ Dir := (a, b, ()).fst.Dir, Origin := (a, b, ()).fst.Origin, Kind := (a, b, ()).fst.Kind, Nr := (a, b, ()).fst.Nr }, ())).fst.Kind,
                                            Nr := (outA ({ Dir := (a, b, ()).fst.Dir, Origin := (a, b, ()).fst.Origin, Kind := (a, b, ()).fst.Kind, Nr := (a, b, ()).fst.Nr }, ())).fst.Nr },
                                          ())).fst <
                                    (0 : Int)) =
                                true) ∧
                          Ok
                              (decide
                                    ((outC
                                          ({ Dir := (a, b, ()).fst.Dir, Origin := (a, b, ()).fst.Origin, Kind := (a, b, ()).fst.Kind, Nr := (a, b, ()).fst.Nr },
                                            { Dir := (outA ({ Dir := (a, b, ()).fst.Dir, Origin := (a, b, ()).fst.Origin, Kind := (a, b, ()).fst.Kind, Nr := (a, b, ()).fst.Nr }, ())).fst.Dir,
                                              Origin := (outA ({ Dir := (a, b, ()).fst.Dir, Origin := (a, b, ()).fst.Origin, Kind := (a, b, ()).fst.Kind, Nr := (a, b, ()).fst.Nr }, ())).fst.Origin,
                                              Kind := (outA ({ Dir := (a, b, ()).fst.Dir, Origin := (a, b, ()).fst.Origin, Kind := (a, b, ()).fst.Kind, Nr := (a, b, ()).fst.Nr }, ())).fst.Kind,
                                              Nr := (outA ({ Dir := (a, b, ()).fst.Dir, Origin := (a, b, ()).fst.Origin, Kind := (a, b, ()).fst.Kind, Nr := (a, b, ()).fst.Nr }, ())).fst.Nr },
                                            ())).fst <
                                      (0 : Int)) =
                                  true →
                                decide
                                    ((outC
                                          ({ Dir := (a, b, ()).fst.Dir, Origin := (a, b, ()).fst.Origin, Kind := (a, b, ()).fst.Kind, Nr := (a, b, ()).fst.Nr },
                                            { Dir := (outA ({ Dir := (a, b, ()).fst.Dir, Origin := (a, b, ()).fst.Origin, Kind := (a, b, ()).fst.Kind, Nr := (a, b, ()).fst.Nr }, ())).fst.Dir,
                                              Origin := (outA ({ Dir := (a, b, ()).fst.Dir, Origin := (a, b, ()).fst.Origin, Kind := (a, b, ()).fst.Kind, Nr := (a, b, ()).fst.Nr }, ())).fst.Origin,
                                              Kind := (outA ({ Dir := (a, b, ()).fst.Dir, Origin := (a, b, ()).fst.Origin, Kind := (a, b, ()).fst.Kind, Nr := (a, b, ()).fst.Nr }, ())).fst.Kind,
                                              Nr := (outA ({ Dir := (a, b, ()).fst.Dir, Origin := (a, b, ()).fst.Origin, Kind := (a, b, ()).fst.Kind, Nr := (a, b, ()).fst.Nr }, ())).fst.Nr },
                                            ())).fst <
                                      (0 : Int)) =
                                  true) ∧
                            Ok
                                ((decide
                                        ((outC
                                              ({ Dir := (a, b, ()).fst.Dir, Origin := (a, b, ()).fst.Origin, Kind := (a, b, ()).fst.Kind, Nr := (a, b, ()).fst.Nr },
                                                { Dir := (outA ({ Dir := (a, b, ()).fst.Dir, Origin := (a, b, ()).fst.Origin, Kind := (a, b, ()).fst.Kind, Nr := (a, b, ()).fst.Nr }, ())).fst.Dir,
                                                  Origin :=
                                                    (outA ({ Dir := (a, b, ()).fst.Dir, Origin := (a, b, ()).fst.Origin, Kind := (a, b, ()).fst.Kind, Nr := (a, b, ()).fst.Nr }, ())).fst.Origin,
                                                  Kind := (outA ({ Dir := (a, b, ()).fst.Dir, Origin := (a, b, ()).fst.Origin, Kind := (a, b, ()).fst.Kind, Nr := (a, b, ()).fst.Nr }, ())).fst.Kind,
                                                  Nr := (outA ({ Dir := (a, b, ()).fst.Dir, Origin := (a, b, ()).fst.Origin, Kind := (a, b, ()).fst.Kind, Nr := (a, b, ()).fst.Nr }, ())).fst.Nr },
                                                ())).fst <
                                          (0 : Int)) &&
                                      !!(decide
                                              ((outC
                                                    ({ Dir := (a, b, ()).fst.Dir, Origin := (a, b, ()).fst.Origin, Kind := (a, b, ()).fst.Kind, Nr := (a, b, ()).fst.Nr },
                                                      { Dir := (a, b, ()).snd.fst.Dir, Origin := (a, b, ()).snd.fst.Origin, Kind := (a, b, ()).snd.fst.Kind, Nr := (a, b, ()).snd.fst.Nr }, ())).fst <
                                                (0 : Int)) &&
                                            decide
                                              ((outC
                                                    ({ Dir := (a, b, ()).snd.fst.Dir, Origin := (a, b, ()).snd.fst.Origin, Kind := (a, b, ()).snd.fst.Kind, Nr := (a, b, ()).snd.fst.Nr },
                                                      {
                                                        Dir :=
                                                          (outA ({ Dir := (a, b, ()).fst.Dir, Origin := (a, b, ()).fst.Origin, Kind := (a, b, ()).fst.Kind, Nr := (a, b, ()).fst.Nr }, ())).fst.Dir,
                                                        Origin :=
                                                          (outA ({ Dir := (a, b, ()).fst.Dir, Origin := (a, b, ()).fst.Origin, Kind := (a, b, ()).fst.Kind, Nr := (a, b, ()).fst.Nr }, ())).fst.Origin,
                                                        Kind :=
                                                          (outA ({ Dir := (a, b, ()).fst.Dir, Origin := (a, b, ()).fst.Origin, Kind := (a, b, ()).fst.Kind, Nr := (a, b, ()).fst.Nr }, ())).fst.Kind,
                                                        Nr :=
                                                          (outA ({ Dir := (a, b, ()).fst.Dir, Origin := (a, b, ()).fst.Origin, Kind := (a, b, ()).fst.Kind, Nr := (a, b, ()).fst.Nr }, ())).fst.Nr },
                                                      ())).fst <
                                                (0 : Int)))) =
                                    true →
                                  (decide
                                        ((outC
                                              ({ Dir := (a, b, ()).fst.Dir, Origin := (a, b, ()).fst.Origin, Kind := (a, b, ()).fst.Kind, Nr := (a, b, ()).fst.Nr },
                                                { Dir := (outA ({ Dir := (a, b, ()).fst.Dir, Origin := (a, b, ()).fst.Origin, Kind := (a, b, ()).fst.Kind, Nr := (a, b, ()).fst.Nr }, ())).fst.Dir,
                                                  Origin :=
                                                    (outA ({ Dir := (a, b, ()).fst.Dir, Origin := (a, b, ()).fst.Origin, Kind := (a, b, ()).fst.Kind, Nr := (a, b, ()).fst.Nr }, ())).fst.Origin,
                                                  Kind := (outA ({ Dir := (a, b, ()).fst.Dir, Origin := (a, b, ()).fst.Origin, Kind := (a, b, ()).fst.Kind, Nr := (a, b, ()).fst.Nr }, ())).fst.Kind,
                                                  Nr := (outA ({ Dir := (a, b, ()).fst.Dir, Origin := (a, b, ()).fst.Origin, Kind := (a, b, ()).fst.Kind, Nr := (a, b, ()).fst.Nr }, ())).fst.Nr },
                                                ())).fst <
                                          (0 : Int)) &&
                                      !!(decide
                                              ((outC
                                                    ({ Dir := (a, b, ()).fst.Dir, Origin := (a, b, ()).fst.Origin, Kind := (a, b, ()).fst.Kind, Nr := (a, b, ()).fst.Nr },
                                                      { Dir := (a, b, ()).snd.fst.Dir, Origin := (a, b, ()).snd.fst.Origin, Kind := (a, b, ()).snd.fst.Kind, Nr := (a, b, ()).snd.fst.Nr }, ())).fst <
                                                (0 : Int)) &&
                                            decide
                                              ((outC
                                                    ({ Dir := (a, b, ()).snd.fst.Dir, Origin := (a, b, ()).snd.fst.Origin, Kind := (a, b, ()).snd.fst.Kind, Nr := (a, b, ()).snd.fst.Nr },
                                                      {
                                                        Dir :=
                                                          (outA ({ Dir := (a, b, ()).fst.Dir, Origin := (a, b, ()).fst.Origin, Kind := (a, b, ()).fst.Kind, Nr := (a, b, ()).fst.Nr }, ())).fst.Dir,
                                                        Origin :=
                                                          (outA ({ Dir := (a, b, ()).fst.Dir, Origin := (a, b, ()).fst.Origin, Kind := (a, b, ()).fst.Kind, Nr := (a, b, ()).fst.Nr }, ())).fst.Origin,
                                                        Kind :=
                                                          (outA ({ Dir := (a, b, ()).fst.Dir, Origin := (a, b, ()).fst.Origin, Kind := (a, b, ()).fst.Kind, Nr := (a, b, ()).fst.Nr }, ())).fst.Kind,
                                                        Nr :=
                                                          (outA ({ Dir := (a, b, ()).fst.Dir, Origin := (a, b, ()).fst.Origin, Kind := (a, b, ()).fst.Kind, Nr := (a, b, ()).fst.Nr }, ())).fst.Nr },
                                                      ())).fst <
                                                (0 : Int)))) =
                                    true) ∧
                              Ok
                                  ((decide
                                          ((outC
                                                ({ Dir := (a, b, ()).fst.Dir, Origin := (a, b, ()).fst.Origin, Kind := (a, b, ()).fst.Kind, Nr := (a, b, ()).fst.Nr },
                                                  { Dir := (outA ({ Dir := (a, b, ()).fst.Dir, Origin := (a, b, ()).fst.Origin, Kind := (a, b, ()).fst.Kind, Nr := (a, b, ()).fst.Nr }, ())).fst.Dir,
                                                    Origin :=
                                                      (outA ({ Dir := (a, b, ()).fst.Dir, Origin := (a, b, ()).fst.Origin, Kind := (a, b, ()).fst.Kind, Nr := (a, b, ()).fst.Nr }, ())).fst.Origin,
                                                    Kind := (outA ({ Dir := (a, b, ()).fst.Dir, Origin := (a, b, ()).fst.Origin, Kind := (a, b, ()).fst.Kind, Nr := (a, b, ()).fst.Nr }, ())).fst.Kind,
                                                    Nr := (outA ({ Dir := (a, b, ()).fst.Dir, Origin := (a, b, ()).fst.Origin, Kind := (a, b, ()).fst.Kind, Nr := (a, b, ()).fst.Nr }, ())).fst.Nr },
                                                  ())).fst <
                                            (0 : Int)) &&
                                        !!(decide
                                                ((outC
                                                      ({ Dir := (a, b, ()).fst.Dir, Origin := (a, b, ()).fst.Origin, Kind := (a, b, ()).fst.Kind, Nr := (a, b, ()).fst.Nr },
                                                        { Dir := (a, b, ()).snd.fst.Dir, Origin := (a, b, ()).snd.fst.Origin, Kind := (a, b, ()).snd.fst.Kind, Nr := (a, b, ()).snd.fst.Nr }, ())).fst <
                                                  (0 : Int)) &&
                                              decide
                                                ((outC
                                                      ({ Dir := (a, b, ()).snd.fst.Dir, Origin := (a, b, ()).snd.fst.Origin, Kind := (a, b, ()).snd.fst.Kind, Nr := (a, b, ()).snd.fst.Nr },
                                                        {
                                                          Dir :=
                                                            (outA ({ Dir := (a, b, ()).fst.Dir, Origin := (a, b, ()).fst.Origin, Kind := (a, b, ()).fst.Kind, Nr := (a, b, ()).fst.Nr }, ())).fst.Dir,
                                                          Origin :=
                                                            (outA
                                                                  ({ Dir := (a, b, ()).fst.Dir, Origin := (a, b, ()).fst.Origin, Kind := (a, b, ()).fst.Kind, Nr := (a, b, ()).fst.Nr },
                                                                    ())).fst.Origin,
                                                          Kind :=
                                                            (outA ({ Dir := (a, b, ()).fst.Dir, Origin := (a, b, ()).fst.Origin, Kind := (a, b, ()).fst.Kind, Nr := (a, b, ()).fst.Nr }, ())).fst.Kind,
                                                          Nr :=
                                                            (outA ({ Dir := (a, b, ()).fst.Dir, Origin := (a, b, ()).fst.Origin, Kind := (a, b, ()).fst.Kind, Nr := (a, b, ()).fst.Nr }, ())).fst.Nr },
                                                        ())).fst <
                                                  (0 : Int)))) =
                                      true →
                                    True) ∧
                                Ok
                                    ((decide
                                            ((outC
                                                  ({ Dir := (a, b, ()).fst.Dir, Origin := (a, b, ()).fst.Origin, Kind := (a, b, ()).fst.Kind, Nr := (a, b, ()).fst.Nr },
                                                    { Dir := (outA ({ Dir := (a, b, ()).fst.Dir, Origin := (a, b, ()).fst.Origin, Kind := (a, b, ()).fst.Kind, Nr := (a, b, ()).fst.Nr }, ())).fst.Dir,
                                                      Origin :=
                                                        (outA ({ Dir := (a, b, ()).fst.Dir, Origin := (a, b, ()).fst.Origin, Kind := (a, b, ()).fst.Kind, Nr := (a, b, ()).fst.Nr }, ())).fst.Origin,
                                                      Kind :=
                                                        (outA ({ Dir := (a, b, ()).fst.Dir, Origin := (a, b, ()).fst.Origin, Kind := (a, b, ()).fst.Kind, Nr := (a, b, ()).fst.Nr }, ())).fst.Kind,
                                                      Nr := (outA ({ Dir := (a, b, ()).fst.Dir, Origin := (a, b, ()).fst.Origin, Kind := (a, b, ()).fst.Kind, Nr := (a, b, ()).fst.Nr }, ())).fst.Nr },
                                                    ())).fst <
                                              (0 : Int)) &&
                                          !!(decide
                                                  ((outC
                                                        ({ Dir := (a, b, ()).fst.Dir, Origin := (a, b, ()).fst.Origin, Kind := (a, b, ()).fst.Kind, Nr := (a, b, ()).fst.Nr },
                                                          { Dir := (a, b, ()).snd.fst.Dir, Origin := (a, b, ()).snd.fst.Origin, Kind := (a, b, ()).snd.fst.Kind, Nr := (a, b, ()).snd.fst.Nr },
                                                          ())).fst <
                                                    (0 : Int)) &&
                                                decide
                                                  ((outC
                                                        ({ Dir := (a, b, ()).snd.fst.Dir, Origin := (a, b, ()).snd.fst.Origin, Kind := (a, b, ()).snd.fst.Kind, Nr := (a, b, ()).snd.fst.Nr },
                                                          {
                                                            Dir :=
                                                              (outA ({ Dir := (a, b, ()).fst.Dir, Origin := (a, b, ()).fst.Origin, Kind := (a, b, ()).fst.Kind, Nr := (a, b, ()).fst.Nr }, ())).fst.Dir,
                                                            Origin :=
                                                              (outA
                                                                    ({ Dir := (a, b, ()).fst.Dir, Origin := (a, b, ()).fst.Origin, Kind := (a, b, ()).fst.Kind, Nr := (a, b, ()).fst.Nr },
                                                                      ())).fst.Origin,
                                                            Kind :=
                                                              (outA
                                                                    ({ Dir := (a, b, ()).fst.Dir, Origin := (a, b, ()).fst.Origin, Kind := (a, b, ()).fst.Kind, Nr := (a, b, ()).fst.Nr },
                                                                      ())).fst.Kind,
                                                            Nr :=
                                                              (outA
                                                                    ({ Dir := (a, b, ()).fst.Dir, Origin := (a, b, ()).fst.Origin, Kind := (a, b, ()).fst.Kind, Nr := (a, b, ()).fst.Nr },
                                                                      ())).fst.Nr },
                                                          ())).fst <
                                                    (0 : Int)))) =
                                        true →
                                      (decide
                                            ((outC
                                                  ({ Dir := (a, b, ()).fst.Dir, Origin := (a, b, ()).fst.Origin, Kind := (a, b, ()).fst.Kind, Nr := (a, b, ()).fst.Nr },
                                                    { Dir := (outA ({ Dir := (a, b, ()).fst.Dir, Origin := (a, b, ()).fst.Origin, Kind := (a, b, ()).fst.Kind, Nr := (a, b, ()).fst.Nr }, ())).fst.Dir,
                                                      Origin :=
                                                        (outA ({ Dir := (a, b, ()).fst.Dir, Origin := (a, b, ()).fst.Origin, Kind := (a, b, ()).fst.Kind, Nr := (a, b, ()).fst.Nr }, ())).fst.Origin,
                                                      Kind :=
                                                        (outA ({ Dir := (a, b, ()).fst.Dir, Origin := (a, b, ()).fst.Origin, Kind := (a, b, ()).fst.Kind, Nr := (a, b, ()).fst.Nr }, ())).fst.Kind,
                                                      Nr := (outA ({ Dir := (a, b, ()).fst.Dir, Origin := (a, b, ()).fst.Origin, Kind := (a, b, ()).fst.Kind, Nr := (a, b, ()).fst.Nr }, ())).fst.Nr },
                                                    ())).fst <
                                              (0 : Int)) &&
                                          !!(decide
                                                  ((outC
                                                        ({ Dir := (a, b, ()).fst.Dir, Origin := (a, b, ()).fst.Origin, Kind := (a, b, ()).fst.Kind, Nr := (a, b, ()).fst.Nr },
                                                          { Dir := (a, b, ()).snd.fst.Dir, Origin := (a, b, ()).snd.fst.Origin, Kind := (a, b, ()).snd.fst.Kind, Nr := (a, b, ()).snd.fst.Nr },
                                                          ())).fst <
                                                    (0 : Int)) &&
                                                decide
                                                  ((outC
                                                        ({ Dir := (a, b, ()).snd.fst.Dir, Origin := (a, b, ()).snd.fst.Origin, Kind := (a, b, ()).snd.fst.Kind, Nr := (a, b, ()).snd.fst.Nr },
                                                          {
                                                            Dir :=
                                                              (outA ({ Dir := (a, b, ()).fst.Dir, Origin := (a, b, ()).fst.Origin, Kind := (a, b, ()).fst.Kind, Nr := (a, b, ()).fst.Nr }, ())).fst.Dir,
                                                            Origin :=
                                                              (outA
                                                                    ({ Dir := (a, b, ()).fst.Dir, Origin := (a, b, ()).fst.Origin, Kind := (a, b, ()).fst.Kind, Nr := (a, b, ()).fst.Nr },
                                                                      ())).fst.Origin,
                                                            Kind :=
                                                              (outA
                                                                    ({ Dir := (a, b, ()).fst.Dir, Origin := (a, b, ()).fst.Origin, Kind := (a, b, ()).fst.Kind, Nr := (a, b, ()).fst.Nr },
                                                                      ())).fst.Kind,
                                                            Nr :=
                                                              (outA
                                                                    ({ Dir := (a, b, ()).fst.Dir, Origin := (a, b, ()).fst.Origin, Kind := (a, b, ()).fst.Kind, Nr := (a, b, ()).fst.Nr },
                                                                      ())).fst.Nr },
                                                          ())).fst <
                                                    (0 : Int)))) =
                                        true) ∧
                                  Ok
                                      (decide
                                            ((outC
                                                  ({ Dir := (a, b, ()).fst.Dir, Origin := (a, b, ()).fst.Origin, Kind := (a, b, ()).fst.Kind, Nr := (a, b, ()).fst.Nr },
                                                    { Dir := (outA ({ Dir := (a, b, ()).fst.Dir, Origin := (a, b, ()).fst.Origin, Kind := (a, b, ()).fst.Kind, Nr := (a, b, ()).fst.Nr }, ())).fst.Dir,
                                                      Origin :=
                                                        (outA ({ Dir := (a, b, ()).fst.Dir, Origin := (a, b, ()).fst.Origin, Kind := (a, b, ()).fst.Kind, Nr := (a, b, ()).fst.Nr }, ())).fst.Origin,
                                                      Kind :=
                                                        (outA ({ Dir := (a, b, ()).fst.Dir, Origin := (a, b, ()).fst.Origin, Kind := (a, b, ()).fst.Kind, Nr := (a, b, ()).fst.Nr }, ())).fst.Kind,
                                                      Nr := (outA ({ Dir := (a, b, ()).fst.Dir, Origin := (a, b, ()).fst.Origin, Kind := (a, b, ()).fst.Kind, Nr := (a, b, ()).fst.Nr }, ())).fst.Nr },
                                                    ())).fst <
                                              (0 : Int)) =
                                          true →
                                        decide
                                            ((outC
                                                  ({ Dir := (a, b, ()).fst.Dir, Origin := (a, b, ()).fst.Origin, Kind := (a, b, ()).fst.Kind, Nr := (a, b, ()).fst.Nr },
                                                    { Dir := (outA ({ Dir := (a, b, ()).fst.Dir, Origin := (a, b, ()).fst.Origin, Kind := (a, b, ()).fst.Kind, Nr := (a, b, ()).fst.Nr }, ())).fst.Dir,
                                                      Origin :=
                                                        (outA ({ Dir := (a, b, ()).fst.Dir, Origin := (a, b, ()).fst.Origin, Kind := (a, b, ()).fst.Kind, Nr := (a, b, ()).fst.Nr }, ())).fst.Origin,
                                                      Kind :=
                                                        (outA ({ Dir := (a, b, ()).fst.Dir, Origin := (a, b, ()).fst.Origin, Kind := (a, b, ()).fst.Kind, Nr := (a, b, ()).fst.Nr }, ())).fst.Kind,
                                                      Nr := (outA ({ Dir := (a, b, ()).fst.Dir, Origin := (a, b, ()).fst.Origin, Kind := (a, b, ()).fst.Kind, Nr := (a, b, ()).fst.Nr }, ())).fst.Nr },
                                                    ())).fst <
                                              (0 : Int)) =
                                          true) ∧
                                    Ok
                                        (decide
                                              ((outC
                                                    ({ Dir := (a, b, ()).fst.Dir, Origin := (a, b, ()).fst.Origin, Kind := (a, b, ()).fst.Kind, Nr := (a, b, ()).fst.Nr },
                                                      {
                                                        Dir :=
                                                          (outA ({ Dir := (a, b, ()).fst.Dir, Origin := (a, b, ()).fst.Origin, Kind := (a, b, ()).fst.Kind, Nr := (a, b, ()).fst.Nr }, ())).fst.Dir,
                                                        Origin :=
                                                          (outA ({ Dir := (a, b, ()).fst.Dir, Origin := (a, b, ()).fst.Origin, Kind := (a, b, ()).fst.Kind, Nr := (a, b, ()).fst.Nr }, ())).fst.Origin,
                                                        Kind :=
                                                          (outA ({ Dir := (a, b, ()).fst.Dir, Origin := (a, b, ()).fst.Origin, Kind := (a, b, ()).fst.Kind, Nr := (a, b, ()).fst.Nr }, ())).fst.Kind,
                                                        Nr :=
                                                          (outA ({ Dir := (a, b, ()).fst.Dir, Origin := (a, b, ()).fst.Origin, Kind := (a, b, ()).fst.Kind, Nr := (a, b, ()).fst.Nr }, ())).fst.Nr },
                                                      ())).fst <
                                                (0 : Int)) =
                                            true →
                                          (!(decide
                                                    ((outC
                                                          ({ Dir := (a, b, ()).fst.Dir, Origin := (a, b, ()).fst.Origin, Kind := (a, b, ()).fst.Kind, Nr := (a, b, ()).fst.Nr },
                                                            { Dir := (a, b, ()).snd.fst.Dir, Origin := (a, b, ()).snd.fst.Origin, Kind := (a, b, ()).snd.fst.Kind, Nr := (a, b, ()).snd.fst.Nr },
                                                            ())).fst <
                                                      (0 : Int)) &&
                                                  decide
                                                    ((outC
                                                          ({ Dir := (a, b, ()).snd.fst.Dir, Origin := (a, b, ()).snd.fst.Origin, Kind := (a, b, ()).snd.fst.Kind, Nr := (a, b, ()).snd.fst.Nr },
                                                            {
                                                              Dir :=
                                                                (outA
                                                                      ({ Dir := (a, b, ()).fst.Dir, Origin := (a, b, ()).fst.Origin, Kind := (a, b, ()).fst.Kind, Nr := (a, b, ()).fst.Nr },
                                                                        ())).fst.Dir,
                                                              Origin :=
                                                                (outA
                                                                      ({ Dir := (a, b, ()).fst.Dir, Origin := (a, b, ()).fst.Origin, Kind := (a, b, ()).fst.Kind, Nr := (a, b, ()).fst.Nr },
                                                                        ())).fst.Origin,
                                                              Kind :=
                                                                (outA
                                                                      ({ Dir := (a, b, ()).fst.Dir, Origin := (a, b, ()).fst.Origin, Kind := (a, b, ()).fst.Kind, Nr := (a, b, ()).fst.Nr },
                                                                        ())).fst.Kind,
                                                              Nr :=
                                                                (outA
                                                                      ({ Dir := (a, b, ()).fst.Dir, Origin := (a, b, ()).fst.Origin, Kind := (a, b, ()).fst.Kind, Nr := (a, b, ()).fst.Nr },
                                                                        ())).fst.Nr },
                                                            ())).fst <
                                                      (0 : Int)))) =
                                              false →
                                            (decide
                                                  ((outC
                                                        ({ Dir := (a, b, ()).fst.Dir, Origin := (a, b, ()).fst.Origin, Kind := (a, b, ()).fst.Kind, Nr := (a, b, ()).fst.Nr },
                                                          {
                                                            Dir :=
                                                              (outA ({ Dir := (a, b, ()).fst.Dir, Origin := (a, b, ()).fst.Origin, Kind := (a, b, ()).fst.Kind, Nr := (a, b, ()).fst.Nr }, ())).fst.Dir,
                                                            Origin :=
                                                              (outA
                                                                    ({ Dir := (a, b, ()).fst.Dir, Origin := (a, b, ()).fst.Origin, Kind := (a, b, ()).fst.Kind, Nr := (a, b, ()).fst.Nr },
                                                                      ())).fst.Origin,
                                                            Kind :=
                                                              (outA
                                                                    ({ Dir := (a, b, ()).fst.Dir, Origin := (a, b, ()).fst.Origin, Kind := (a, b, ()).fst.Kind, Nr := (a, b, ()).fst.Nr },
                                                                      ())).fst.Kind,
                                                            Nr :=
                                                              (outA
                                                                    ({ Dir := (a, b, ()).fst.Dir, Origin := (a, b, ()).fst.Origin, Kind := (a, b, ()).fst.Kind, Nr := (a, b, ()).fst.Nr },
                                                                      ())).fst.Nr },
                                                          ())).fst <
                                                    (0 : Int)) &&
                                                !!(decide
                                                        ((outC
                                                              ({ Dir := (a, b, ()).fst.Dir, Origin := (a, b, ()).fst.Origin, Kind := (a, b, ()).fst.Kind, Nr := (a, b, ()).fst.Nr },
                                                                { Dir := (a, b, ()).snd.fst.Dir, Origin := (a, b, ()).snd.fst.Origin, Kind := (a, b, ()).snd.fst.Kind, Nr := (a, b, ()).snd.fst.Nr },
                                                                ())).fst <
                                                          (0 : Int)) &&
                                                      decide
                                                        ((outC
                                                              ({ Dir := (a, b, ()).snd.fst.Dir, Origin := (a, b, ()).snd.fst.Origin, Kind := (a, b, ()).snd.fst.Kind, Nr := (a, b, ()).snd.fst.Nr },
                                                                {
                                                                  Dir :=
                                                                    (outA
                                                                          ({ Dir := (a, b, ()).fst.Dir, Origin := (a, b, ()).fst.Origin, Kind := (a, b, ()).fst.Kind, Nr := (a, b, ()).fst.Nr },
                                                                            ())).fst.Dir,
                                                                  Origin :=
                                                                    (outA
                                                                          ({ Dir := (a, b, ()).fst.Dir, Origin := (a, b, ()).fst.Origin, Kind := (a, b, ()).fst.Kind, Nr := (a, b, ()).fst.Nr },
                                                                            ())).fst.Origin,
                                                                  Kind :=
                                                                    (outA
                                                                          ({ Dir := (a, b, ()).fst.Dir, Origin := (a, b, ()).fst.Origin, Kind := (a, b, ()).fst.Kind, Nr := (a, b, ()).fst.Nr },
                                                                            ())).fst.Kind,
                                                                  Nr :=
                                                                    (outA
                                                                          ({ Dir := (a, b, ()).fst.Dir, Origin := (a, b, ()).fst.Origin, Kind := (a, b, ()).fst.Kind, Nr := (a, b, ()).fst.Nr },
                                                                            ())).fst.Nr },
                                                                ())).fst <
                                                          (0 : Int)))) =
                                              true) ∧
                                      Ok
                                          (decide
                                                ((outC
                                                      ({ Dir := (a, b, ()).fst.Dir, Origin := (a, b, ()).fst.Origin, Kind := (a, b, ()).fst.Kind, Nr := (a, b, ()).fst.Nr },
                                                        {
                                                          Dir :=
                                                            (outA ({ Dir := (a, b, ()).fst.Dir, Origin := (a, b, ()).fst.Origin, Kind := (a, b, ()).fst.Kind, Nr := (a, b, ()).fst.Nr }, ())).fst.Dir,
                                                          Origin :=
                                                            (outA
                                                                  ({ Dir := (a, b, ()).fst.Dir, Origin := (a, b, ()).fst.Origin, Kind := (a, b, ()).fst.Kind, Nr := (a, b, ()).fst.Nr },
                                                                    ())).fst.Origin,
                                                          Kind :=
                                                            (outA ({ Dir := (a, b, ()).fst.Dir, Origin := (a, b, ()).fst.Origin, Kind := (a, b, ()).fst.Kind, Nr := (a, b, ()).fst.Nr }, ())).fst.Kind,
                                                          Nr :=
                                                            (outA ({ Dir := (a, b, ()).fst.Dir, Origin := (a, b, ()).fst.Origin, Kind := (a, b, ()).fst.Kind, Nr := (a, b, ()).fst.Nr }, ())).fst.Nr },
                                                        ())).fst <
                                                  (0 : Int)) =
                                              true →
                                            decide
                                                ((outC
                                                      ({ Dir := (a, b, ()).fst.Dir, Origin := (a, b, ()).fst.Origin, Kind := (a, b, ()).fst.Kind, Nr := (a, b, ()).fst.Nr },
                                                        {
                                                          Dir :=
                                                            (outA ({ Dir := (a, b, ()).fst.Dir, Origin := (a, b, ()).fst.Origin, Kind := (a, b, ()).fst.Kind, Nr := (a, b, ()).fst.Nr }, ())).fst.Dir,
                                                          Origin :=
                                                            (outA
                                                                  ({ Dir := (a, b, ()).fst.Dir, Origin := (a, b, ()).fst.Origin, Kind := (a, b, ()).fst.Kind, Nr := (a, b, ()).fst.Nr },
                                                                    ())).fst.Origin,
                                                          Kind :=
                                                            (outA ({ Dir := (a, b, ()).fst.Dir, Origin := (a, b, ()).fst.Origin, Kind := (a, b, ()).fst.Kind, Nr := (a, b, ()).fst.Nr }, ())).fst.Kind,
                                                          Nr :=
                                                            (outA ({ Dir := (a, b, ()).fst.Dir, Origin := (a, b, ()).fst.Origin, Kind := (a, b, ()).fst.Kind, Nr := (a, b, ()).fst.Nr }, ())).fst.Nr },
                                                        ())).fst <
                                                  (0 : Int)) =
                                              true) ∧
                                        Ok
                                            ((decide
                                                    ((outC
                                                          ({ Dir := (a, b, ()).fst.Dir, Origin := (a, b, ()).fst.Origin, Kind := (a, b, ()).fst.Kind, Nr := (a, b, ()).fst.Nr },
                                                            {
                                                              Dir :=
                                                                (outA
                                                                      ({ Dir := (a, b, ()).fst.Dir, Origin := (a, b, ()).fst.Origin, Kind := (a, b, ()).fst.Kind, Nr := (a, b, ()).fst.Nr },
                                                                        ())).fst.Dir,
                                                              Origin :=
                                                                (outA
                                                                      ({ Dir := (a, b, ()).fst.Dir, Origin := (a, b, ()).fst.Origin, Kind := (a, b, ()).fst.Kind, Nr := (a, b, ()).fst.Nr },
                                                                        ())).fst.Origin,
                                                              Kind :=
                                                                (outA
                                                                      ({ Dir := (a, b, ()).fst.Dir, Origin := (a, b, ()).fst.Origin, Kind := (a, b, ()).fst.Kind, Nr := (a, b, ()).fst.Nr },
                                                                        ())).fst.Kind,
                                                              Nr :=
                                                                (outA
                                                                      ({ Dir := (a, b, ()).fst.Dir, Origin := (a, b, ()).fst.Origin, Kind := (a, b, ()).fst.Kind, Nr := (a, b, ()).fst.Nr },
                                                                        ())).fst.Nr },
                                                            ())).fst <
                                                      (0 : Int)) &&
                                                  (!(decide
                                                          ((outC
                                                                ({ Dir := (a, b, ()).fst.Dir, Origin := (a, b, ()).fst.Origin, Kind := (a, b, ()).fst.Kind, Nr := (a, b, ()).fst.Nr },
                                                                  { Dir := (a, b, ()).snd.fst.Dir, Origin := (a, b, ()).snd.fst.Origin, Kind := (a, b, ()).snd.fst.Kind, Nr := (a, b, ()).snd.fst.Nr },
                                                                  ())).fst <
                                                            (0 : Int)) &&
                                                        decide
                                                          ((outC
                                                                ({ Dir := (a, b, ()).snd.fst.Dir, Origin := (a, b, ()).snd.fst.Origin, Kind := (a, b, ()).snd.fst.Kind, Nr := (a, b, ()).snd.fst.Nr },
                                                                  {
                                                                    Dir :=
                                                                      (outA
                                                                            ({ Dir := (a, b, ()).fst.Dir, Origin := (a, b, ()).fst.Origin, Kind := (a, b, ()).fst.Kind, Nr := (a, b, ()).fst.Nr },
                                                                              ())).fst.Dir,
                                                                    Origin :=
                                                                      (outA
                                                                            ({ Dir := (a, b, ()).fst.Dir, Origin := (a, b, ()).fst.Origin, Kind := (a, b, ()).fst.Kind, Nr := (a, b, ()).fst.Nr },
                                                                              ())).fst.Origin,
                                                                    Kind :=
                                                                      (outA
                                                                            ({ Dir := (a, b, ()).fst.Dir, Origin := (a, b, ()).fst.Origin, Kind := (a, b, ()).fst.Kind, Nr := (a, b, ()).fst.Nr },
                                                                              ())).fst.Kind,
                                                                    Nr :=
                                                                      (outA
                                                                            ({ Dir := (a, b, ()).fst.Dir, Origin := (a, b, ()).fst.Origin, Kind := (a, b, ()).fst.Kind, Nr := (a, b, ()).fst.Nr },
                                                                              ())).fst.Nr },
                                                                  ())).fst <
                                                            (0 : Int))) ||
                                                    !(out19
                                                          ({ Dir := (a, b, ()).snd.fst.Dir, Origin := (a, b, ()).snd.fst.Origin, Kind := (a, b, ()).snd.fst.Kind, Nr := (a, b, ()).snd.fst.Nr },
                                                            ())).fst)) =
                                                true →
                                              True) ∧
                                          Ok
                                              ((decide
                                                      ((outC
                                                            ({ Dir := (a, b, ()).fst.Dir, Origin := (a, b, ()).fst.Origin, Kind := (a, b, ()).fst.Kind, Nr := (a, b, ()).fst.Nr },
                                                              {
                                                                Dir :=
                                                                  (outA
                                                                        ({ Dir := (a, b, ()).fst.Dir, Origin := (a, b, ()).fst.Origin, Kind := (a, b, ()).fst.Kind, Nr := (a, b, ()).fst.Nr },
                                                                          ())).fst.Dir,
                                                                Origin :=
                                                                  (outA
                                                                        ({ Dir := (a, b, ()).fst.Dir, Origin := (a, b, ()).fst.Origin, Kind := (a, b, ()).fst.Kind, Nr := (a, b, ()).fst.Nr },
                                                                          ())).fst.Origin,
                                                                Kind :=
                                                                  (outA
                                                                        ({ Dir := (a, b, ()).fst.Dir, Origin := (a, b, ()).fst.Origin, Kind := (a, b, ()).fst.Kind, Nr := (a, b, ()).fst.Nr },
                                                                          ())).fst.Kind,
                                                                Nr :=
                                                                  (outA
                                                                        ({ Dir := (a, b, ()).fst.Dir, Origin := (a, b, ()).fst.Origin, Kind := (a, b, ()).fst.Kind, Nr := (a, b, ()).fst.Nr },
                                                                          ())).fst.Nr },
                                                              ())).fst <
                                                        (0 : Int)) &&
                                                    (!(decide
                                                            ((outC
                                                                  ({ Dir := (a, b, ()).fst.Dir, Origin := (a, b, ()).fst.Origin, Kind := (a, b, ()).fst.Kind, Nr := (a, b, ()).fst.Nr },
                                                                    { Dir := (a, b, ()).snd.fst.Dir, Origin := (a, b, ()).snd.fst.Origin, Kind := (a, b, ()).snd.fst.Kind,
                                                                      Nr := (a, b, ()).snd.fst.Nr },
                                                                    ())).fst <
                                                              (0 : Int)) &&
                                                          decide
                                                            ((outC
                                                                  ({ Dir := (a, b, ()).snd.fst.Dir, Origin := (a, b, ()).snd.fst.Origin, Kind := (a, b, ()).snd.fst.Kind, Nr := (a, b, ()).snd.fst.Nr },
                                                                    {
                                                                      Dir :=
                                                                        (outA
                                                                              ({ Dir := (a, b, ()).fst.Dir, Origin := (a, b, ()).fst.Origin, Kind := (a, b, ()).fst.Kind, Nr := (a, b, ()).fst.Nr },
                                                                                ())).fst.Dir,
                                                                      Origin :=
                                                                        (outA
                                                                              ({ Dir := (a, b, ()).fst.Dir, Origin := (a, b, ()).fst.Origin, Kind := (a, b, ()).fst.Kind, Nr := (a, b, ()).fst.Nr },
                                                                                ())).fst.Origin,
                                                                      Kind :=
                                                                        (outA
                                                                              ({ Dir := (a, b, ()).fst.Dir, Origin := (a, b, ()).fst.Origin, Kind := (a, b, ()).fst.Kind, Nr := (a, b, ()).fst.Nr },
                                                                                ())).fst.Kind,
                                                                      Nr :=
                                                                        (outA
                                                                              ({ Dir := (a, b, ()).fst.Dir, Origin := (a, b, ()).fst.Origin, Kind := (a, b, ()).fst.Kind, Nr := (a, b, ()).fst.Nr },
                                                                                ())).fst.Nr },
                                                                    ())).fst <
                                                              (0 : Int))) ||
                                                      !(out19
                                                            ({ Dir := (a, b, ()).snd.fst.Dir, Origin := (a, b, ()).snd.fst.Origin, Kind := (a, b, ()).snd.fst.Kind, Nr := (a, b, ()).snd.fst.Nr },
                                                              ())).fst)) =
                                                  true →
                                                (decide
                                                      ((outC
                                                            ({ Dir := (a, b, ()).fst.Dir, Origin := (a, b, ()).fst.Origin, Kind := (a, b, ()).fst.Kind, Nr := (a, b, ()).fst.Nr },
                                                              {
                                                                Dir :=
                                                                  (outA
                                                                        ({ Dir := (a, b, ()).fst.Dir, Origin := (a, b, ()).fst.Origin, Kind := (a, b, ()).fst.Kind, Nr := (a, b, ()).fst.Nr },
                                                                          ())).fst.Dir,
                                                                Origin :=
                                                                  (outA
                                                                        ({ Dir := (a, b, ()).fst.Dir, Origin := (a, b, ()).fst.Origin, Kind := (a, b, ()).fst.Kind, Nr := (a, b, ()).fst.Nr },
                                                                          ())).fst.Origin,
                                                                Kind :=
                                                                  (outA
                                                                        ({ Dir := (a, b, ()).fst.Dir, Origin := (a, b, ()).fst.Origin, Kind := (a, b, ()).fst.Kind, Nr := (a, b, ()).fst.Nr },
                                                                          ())).fst.Kind,
                                                                Nr :=
                                                                  (outA
                                                                        ({ Dir := (a, b, ()).fst.Dir, Origin := (a, b, ()).fst.Origin, Kind := (a, b, ()).fst.Kind, Nr := (a, b, ()).fst.Nr },
                                                                          ())).fst.Nr },
                                                              ())).fst <
                                                        (0 : Int)) &&
                                                    (!(decide
                                                            ((outC
                                                                  ({ Dir := (a, b, ()).fst.Dir, Origin := (a, b, ()).fst.Origin, Kind := (a, b, ()).fst.Kind, Nr := (a, b, ()).fst.Nr },
                                                                    { Dir := (a, b, ()).snd.fst.Dir, Origin := (a, b, ()).snd.fst.Origin, Kind := (a, b, ()).snd.fst.Kind,
                                                                      Nr := (a, b, ()).snd.fst.Nr },
                                                                    ())).fst <
                                                              (0 : Int)) &&
                                                          decide
                                                            ((outC
                                                                  ({ Dir := (a, b, ()).snd.fst.Dir, Origin := (a, b, ()).snd.fst.Origin, Kind := (a, b, ()).snd.fst.Kind, Nr := (a, b, ()).snd.fst.Nr },
                                                                    {
                                                                      Dir :=
                                                                        (outA
                                                                              ({ Dir := (a, b, ()).fst.Dir, Origin := (a, b, ()).fst.Origin, Kind := (a, b, ()).fst.Kind, Nr := (a, b, ()).fst.Nr },
                                                                                ())).fst.Dir,
                                                                      Origin :=
                                                                        (outA
                                                                              ({ Dir := (a, b, ()).fst.Dir, Origin := (a, b, ()).fst.Origin, Kind := (a, b, ()).fst.Kind, Nr := (a, b, ()).fst.Nr },
                                                                                ())).fst.Origin,
                                                                      Kind :=
                                                                        (outA
                                                                              ({ Dir := (a, b, ()).fst.Dir, Origin := (a, b, ()).fst.Origin, Kind := (a, b, ()).fst.Kind, Nr := (a, b, ()).fst.Nr },
                                                                                ())).fst.Kind,
                                                                      Nr :=
                                                                        (outA
                                                                              ({ Dir := (a, b, ()).fst.Dir, Origin := (a, b, ()).fst.Origin, Kind := (a, b, ()).fst.Kind, Nr := (a, b, ()).fst.Nr },
                                                                                ())).fst.Nr },
                                                                    ())).fst <
                                                              (0 : Int))) ||
                                                      !(out19
                                                            ({ Dir := (a, b, ()).snd.fst.Dir, Origin := (a, b, ()).snd.fst.Origin, Kind := (a, b, ()).snd.fst.Kind, Nr := (a, b, ()).snd.fst.Nr },
                                                              ())).fst)) =
                                                  true) ∧
                                            Ok
                                                ((decide
                                                        ((outC
                                                              ({ Dir := (a, b, ()).fst.Dir, Origin := (a, b, ()).fst.Origin, Kind := (a, b, ()).fst.Kind, Nr := (a, b, ()).fst.Nr },
                                                                {
                                                                  Dir :=
                                                                    (outA
                                                                          ({ Dir := (a, b, ()).fst.Dir, Origin := (a, b, ()).fst.Origin, Kind := (a, b, ()).fst.Kind, Nr := (a, b, ()).fst.Nr },
                                                                            ())).fst.Dir,
                                                                  Origin :=
                                                                    (outA
                                                                          ({ Dir := (a, b, ()).fst.Dir, Origin := (a, b, ()).fst.Origin, Kind := (a, b, ()).fst.Kind, Nr := (a, b, ()).fst.Nr },
                                                                            ())).fst.Origin,
                                                                  Kind :=
                                                                    (outA
                                                                          ({ Dir := (a, b, ()).fst.Dir, Origin := (a, b, ()).fst.Origin, Kind := (a, b, ()).fst.Kind, Nr := (a, b, ()).fst.Nr },
                                                                            ())).fst.Kind,
                                                                  Nr :=
                                                                    (outA
                                                                          ({ Dir := (a, b, ()).fst.Dir, Origin := (a, b, ()).fst.Origin, Kind := (a, b, ()).fst.Kind, Nr := (a, b, ()).fst.Nr },
                                                                            ())).fst.Nr },
                                                                ())).fst <
                                                          (0 : Int)) &&
                                                      (!(decide
                                                              ((outC
                                                                    ({ Dir := (a, b, ()).fst.Dir, Origin := (a, b, ()).fst.Origin, Kind := (a, b, ()).fst.Kind, Nr := (a, b, ()).fst.Nr },
                                                                      { Dir := (a, b, ()).snd.fst.Dir, Origin := (a, b, ()).snd.fst.Origin, Kind := (a, b, ()).snd.fst.Kind,
                                                                        Nr := (a, b, ()).snd.fst.Nr },
                                                                      ())).fst <
                                                                (0 : Int)) &&
                                                            decide
                                                              ((outC
                                                                    ({ Dir := (a, b, ()).snd.fst.Dir, Origin := (a, b, ()).snd.fst.Origin, Kind := (a, b, ()).snd.fst.Kind,
                                                                        Nr := (a, b, ()).snd.fst.Nr },
                                                                      {
                                                                        Dir :=
                                                                          (outA
                                                                                ({ Dir := (a, b, ()).fst.Dir, Origin := (a, b, ()).fst.Origin, Kind := (a, b, ()).fst.Kind, Nr := (a, b, ()).fst.Nr },
                                                                                  ())).fst.Dir,
                                                                        Origin :=
                                                                          (outA
                                                                                ({ Dir := (a, b, ()).fst.Dir, Origin := (a, b, ()).fst.Origin, Kind := (a, b, ()).fst.Kind, Nr := (a, b, ()).fst.Nr },
                                                                                  ())).fst.Origin,
                                                                        Kind :=
                                                                          (outA
                                                                                ({ Dir := (a, b, ()).fst.Dir, Origin := (a, b, ()).fst.Origin, Kind := (a, b, ()).fst.Kind, Nr := (a, b, ()).fst.Nr },
                                                                                  ())).fst.Kind,
                                                                        Nr :=
                                                                          (outA
                                                                                ({ Dir := (a, b, ()).fst.Dir, Origin := (a, b, ()).fst.Origin, Kind := (a, b, ()).fst.Kind, Nr := (a, b, ()).fst.Nr },
                                                                                  ())).fst.Nr },
                                                                      ())).fst <
                                                                (0 : Int))) ||
                                                        !(out19
                                                              ({ Dir := (a, b, ()).snd.fst.Dir, Origin := (a, b, ()).snd.fst.Origin, Kind := (a, b, ()).snd.fst.Kind, Nr := (a, b, ()).snd.fst.Nr },
                                                                ())).fst)) =
                                                    true →
                                                  (decide
                                                        ((outC
                                                              ({ Dir := (a, b, ()).fst.Dir, Origin := (a, b, ()).fst.Origin, Kind := (a, b, ()).fst.Kind, Nr := (a, b, ()).fst.Nr },
                                                                {
                                                                  Dir :=
                                                                    (outA
                                                                          ({ Dir := (a, b, ()).fst.Dir, Origin := (a, b, ()).fst.Origin, Kind := (a, b, ()).fst.Kind, Nr := (a, b, ()).fst.Nr },
                                                                            ())).fst.Dir,
                                                                  Origin :=
                                                                    (outA
                                                                          ({ Dir := (a, b, ()).fst.Dir, Origin := (a, b, ()).fst.Origin, Kind := (a, b, ()).fst.Kind, Nr := (a, b, ()).fst.Nr },
                                                                            ())).fst.Origin,
                                                                  Kind :=
                                                                    (outA
                                                                          ({ Dir := (a, b, ()).fst.Dir, Origin := (a, b, ()).fst.Origin, Kind := (a, b, ()).fst.Kind, Nr := (a, b, ()).fst.Nr },
                                                                            ())).fst.Kind,
                                                                  Nr :=
                                                                    (outA
                                                                          ({ Dir := (a, b, ()).fst.Dir, Origin := (a, b, ()).fst.Origin, Kind := (a, b, ()).fst.Kind, Nr := (a, b, ()).fst.Nr },
                                                                            ())).fst.Nr },
                                                                ())).fst <
                                                          (0 : Int)) &&
                                                      (!(decide
                                                              ((outC
                                                                    ({ Dir := (a, b, ()).fst.Dir, Origin := (a, b, ()).fst.Origin, Kind := (a, b, ()).fst.Kind, Nr := (a, b, ()).fst.Nr },
                                                                      { Dir := (a, b, ()).snd.fst.Dir, Origin := (a, b, ()).snd.fst.Origin, Kind := (a, b, ()).snd.fst.Kind,
                                                                        Nr := (a, b, ()).snd.fst.Nr },
                                                                      ())).fst <
                                                                (0 : Int)) &&
                                                            decide
                                                              ((outC
                                                                    ({ Dir := (a, b, ()).snd.fst.Dir, Origin := (a, b, ()).snd.fst.Origin, Kind := (a, b, ()).snd.fst.Kind,
                                                                        Nr := (a, b, ()).snd.fst.Nr },
                                                                      {
                                                                        Dir :=
                                                                          (outA
                                                                                ({ Dir := (a, b, ()).fst.Dir, Origin := (a, b, ()).fst.Origin, Kind := (a, b, ()).fst.Kind, Nr := (a, b, ()).fst.Nr },
                                                                                  ())).fst.Dir,
                                                                        Origin :=
                                                                          (outA
                                                                                ({ Dir := (a, b, ()).fst.Dir, Origin := (a, b, ()).fst.Origin, Kind := (a, b, ()).fst.Kind, Nr := (a, b, ()).fst.Nr },
                                                                                  ())).fst.Origin,
                                                                        Kind :=
                                                                          (outA
                                                                                ({ Dir := (a, b, ()).fst.Dir, Origin := (a, b, ()).fst.Origin, Kind := (a, b, ()).fst.Kind, Nr := (a, b, ()).fst.Nr },
                                                                                  ())).fst.Kind,
                                                                        Nr :=
                                                                          (outA
                                                                                ({ Dir := (a, b, ()).fst.Dir, Origin := (a, b, ()).fst.Origin, Kind := (a, b, ()).fst.Kind, Nr := (a, b, ()).fst.Nr },
                                                                                  ())).fst.Nr },
                                                                      ())).fst <
                                                                (0 : Int))) ||
                                                        !(out19
                                                              ({ Dir := (a, b, ()).snd.fst.Dir, Origin := (a, b, ()).snd.fst.Origin, Kind := (a, b, ()).snd.fst.Kind, Nr := (a, b, ()).snd.fst.Nr },
                                                                ())).fst)) =
                                                    true) ∧
                                              Ok
                                                  ((decide
                                                          ((outC
                                                                ({ Dir := (a, b, ()).fst.Dir, Origin := (a, b, ()).fst.Origin, Kind := (a, b, ()).fst.Kind, Nr := (a, b, ()).fst.Nr },
                                                                  {
                                                                    Dir :=
                                                                      (outA
                                                                            ({ Dir := (a, b, ()).fst.Dir, Origin := (a, b, ()).fst.Origin, Kind := (a, b, ()).fst.Kind, Nr := (a, b, ()).fst.Nr },
                                                                              ())).fst.Dir,
                                                                    Origin :=
                                                                      (outA
                                                                            ({ Dir := (a, b, ()).fst.Dir, Origin := (a, b, ()).fst.Origin, Kind := (a, b, ()).fst.Kind, Nr := (a, b, ()).fst.Nr },
                                                                              ())).fst.Origin,
                                                                    Kind :=
                                                                      (outA
                                                                            ({ Dir := (a, b, ()).fst.Dir, Origin := (a, b, ()).fst.Origin, Kind := (a, b, ()).fst.Kind, Nr := (a, b, ()).fst.Nr },
                                                                              ())).fst.Kind,
                                                                    Nr :=
                                                                      (outA
                                                                            ({ Dir := (a, b, ()).fst.Dir, Origin := (a, b, ()).fst.Origin, Kind := (a, b, ()).fst.Kind, Nr := (a, b, ()).fst.Nr },
                                                                              ())).fst.Nr },
                                                                  ())).fst <
                                                            (0 : Int)) &&
                                                        (!(decide
                                                                ((outC
                                                                      ({ Dir := (a, b, ()).fst.Dir, Origin := (a, b, ()).fst.Origin, Kind := (a, b, ()).fst.Kind, Nr := (a, b, ()).fst.Nr },
                                                                        { Dir := (a, b, ()).snd.fst.Dir, Origin := (a, b, ()).snd.fst.Origin, Kind := (a, b, ()).snd.fst.Kind,
                                                                          Nr := (a, b, ()).snd.fst.Nr },
                                                                        ())).fst <
                                                                  (0 : Int)) &&
                                                              decide
                                                                ((outC
                                                                      ({ Dir := (a, b, ()).snd.fst.Dir, Origin := (a, b, ()).snd.fst.Origin, Kind := (a, b, ()).snd.fst.Kind,
                                                                          Nr := (a, b, ()).snd.fst.Nr },
                                                                        {
                                                                          Dir :=
                                                                            (outA
                                                                                  ({ Dir := (a, b, ()).fst.Dir, Origin := (a, b, ()).fst.Origin, Kind := (a, b, ()).fst.Kind, Nr := (a, b, ()).fst.Nr },
                                                                                    ())).fst.Dir,
                                                                          Origin :=
                                                                            (outA
                                                                                  ({ Dir := (a, b, ()).fst.Dir, Origin := (a, b, ()).fst.Origin, Kind := (a, b, ()).fst.Kind, Nr := (a, b, ()).fst.Nr },
                                                                                    ())).fst.Origin,
                                                                          Kind :=
                                                                            (outA
                                                                                  ({ Dir := (a, b, ()).fst.Dir, Origin := (a, b, ()).fst.Origin, Kind := (a, b, ()).fst.Kind, Nr := (a, b, ()).fst.Nr },
                                                                                    ())).fst.Kind,
                                                                          Nr :=
                                                                            (outA
                                                                                  ({ Dir := (a, b, ()).fst.Dir, Origin := (a, b, ()).fst.Origin, Kind := (a, b, ()).fst.Kind, Nr := (a, b, ()).fst.Nr },
                                                                                    ())).fst.Nr },
                                                                        ())).fst <
                                                                  (0 : Int))) ||
                                                          !(out19
                                                                ({ Dir := (a, b, ()).snd.fst.Dir, Origin := (a, b, ()).snd.fst.Origin, Kind := (a, b, ()).snd.fst.Kind, Nr := (a, b, ()).snd.fst.Nr },
                                                                  ())).fst)) =
                                                      true →
                                                    True) ∧
                                                Ok
                                                    ((decide
                                                            ((outC
                                                                  ({ Dir := (a, b, ()).fst.Dir, Origin := (a, b, ()).fst.Origin, Kind := (a, b, ()).fst.Kind, Nr := (a, b, ()).fst.Nr },
                                                                    {
                                                                      Dir :=
                                                                        (outA
                                                                              ({ Dir := (a, b, ()).fst.Dir, Origin := (a, b, ()).fst.Origin, Kind := (a, b, ()).fst.Kind, Nr := (a, b, ()).fst.Nr },
                                                                                ())).fst.Dir,
                                                                      Origin :=
                                                                        (outA
                                                                              ({ Dir := (a, b, ()).fst.Dir, Origin := (a, b, ()).fst.Origin, Kind := (a, b, ()).fst.Kind, Nr := (a, b, ()).fst.Nr },
                                                                                ())).fst.Origin,
                                                                      Kind :=
                                                                        (outA
                                                                              ({ Dir := (a, b, ()).fst.Dir, Origin := (a, b, ()).fst.Origin, Kind := (a, b, ()).fst.Kind, Nr := (a, b, ()).fst.Nr },
                                                                                ())).fst.Kind,
                                                                      Nr :=
                                                                        (outA
                                                                              ({ Dir := (a, b, ()).fst.Dir, Origin := (a, b, ()).fst.Origin, Kind := (a, b, ()).fst.Kind, Nr := (a, b, ()).fst.Nr },
                                                                                ())).fst.Nr },
                                                                    ())).fst <
                                                              (0 : Int)) &&
                                                          (!(decide
                                                                  ((outC
                                                                        ({ Dir := (a, b, ()).fst.Dir, Origin := (a, b, ()).fst.Origin, Kind := (a, b, ()).fst.Kind, Nr := (a, b, ()).fst.Nr },
                                                                          { Dir := (a, b, ()).snd.fst.Dir, Origin := (a, b, ()).snd.fst.Origin, Kind := (a, b, ()).snd.fst.Kind,
                                                                            Nr := (a, b, ()).snd.fst.Nr },
                                                                          ())).fst <
                                                                    (0 : Int)) &&
                                                                decide
                                                                  ((outC
                                                                        ({ Dir := (a, b, ()).snd.fst.Dir, Origin := (a, b, ()).snd.fst.Origin, Kind := (a, b, ()).snd.fst.Kind,
                                                                            Nr := (a, b, ()).snd.fst.Nr },
                                                                          {
                                                                            Dir :=
                                                                              (outA
                                                                                    ({ Dir := (a, b, ()).fst.Dir, Origin := (a, b, ()).fst.Origin, Kind := (a, b, ()).fst.Kind,
                                                                                        Nr := (a, b, ()).fst.Nr },
                                                                                      ())).fst.Dir,
                                                                            Origin :=
                                                                              (outA
                                                                                    ({ Dir := (a, b, ()).fst.Dir, Origin := (a, b, ()).fst.Origin, Kind := (a, b, ()).fst.Kind,
                                                                                        Nr := (a, b, ()).fst.Nr },
                                                                                      ())).fst.Origin,
                                                                            Kind :=
                                                                              (outA
                                                                                    ({ Dir := (a, b, ()).fst.Dir, Origin := (a, b, ()).fst.Origin, Kind := (a, b, ()).fst.Kind,
                                                                                        Nr := (a, b, ()).fst.Nr },
                                                                                      ())).fst.Kind,
                                                                            Nr :=
                                                                              (outA
                                                                                    ({ Dir := (a, b, ()).fst.Dir, Origin := (a, b, ()).fst.Origin, Kind := (a, b, ()).fst.Kind,
                                                                                        Nr := (a, b, ()).fst.Nr },
                                                                                      ())).fst.Nr },
                                                                          ())).fst <
                                                                    (0 : Int))) ||
                                                            !(out19
                                                                  ({ Dir := (a, b, ()).snd.fst.Dir, Origin := (a, b, ()).snd.fst.Origin, Kind := (a, b, ()).snd.fst.Kind, Nr := (a, b, ()).snd.fst.Nr },
                                                                    ())).fst)) =
                                                        true →
                                                      (decide
                                                            ((outC
                                                                  ({ Dir := (a, b, ()).fst.Dir, Origin := (a, b, ()).fst.Origin, Kind := (a, b, ()).fst.Kind, Nr := (a, b, ()).fst.Nr },
                                                                    {
                                                                      Dir :=
                                                                        (outA
                                                                              ({ Dir := (a, b, ()).fst.Dir, Origin := (a, b, ()).fst.Origin, Kind := (a, b, ()).fst.Kind, Nr := (a, b, ()).fst.Nr },
                                                                                ())).fst.Dir,
                                                                      Origin :=
                                                                        (outA
                                                                              ({ Dir := (a, b, ()).fst.Dir, Origin := (a, b, ()).fst.Origin, Kind := (a, b, ()).fst.Kind, Nr := (a, b, ()).fst.Nr },
                                                                                ())).fst.Origin,
                                                                      Kind :=
                                                                        (outA
                                                                              ({ Dir := (a, b, ()).fst.Dir, Origin := (a, b, ()).fst.Origin, Kind := (a, b, ()).fst.Kind, Nr := (a, b, ()).fst.Nr },
                                                                                ())).fst.Kind,
                                                                      Nr :=
                                                                        (outA
                                                                              ({ Dir := (a, b, ()).fst.Dir, Origin := (a, b, ()).fst.Origin, Kind := (a, b, ()).fst.Kind, Nr := (a, b, ()).fst.Nr },
                                                                                ())).fst.Nr },
                                                                    ())).fst <
                                                              (0 : Int)) &&
                                                          (!(decide
                                                                  ((outC
                                                                        ({ Dir := (a, b, ()).fst.Dir, Origin := (a, b, ()).fst.Origin, Kind := (a, b, ()).fst.Kind, Nr := (a, b, ()).fst.Nr },
                                                                          { Dir := (a, b, ()).snd.fst.Dir, Origin := (a, b, ()).snd.fst.Origin, Kind := (a, b, ()).snd.fst.Kind,
                                                                            Nr := (a, b, ()).snd.fst.Nr },
                                                                          ())).fst <
                                                                    (0 : Int)) &&
                                                                decide
                                                                  ((outC
                                                                        ({ Dir := (a, b, ()).snd.fst.Dir, Origin := (a, b, ()).snd.fst.Origin, Kind := (a, b, ()).snd.fst.Kind,
                                                                            Nr := (a, b, ()).snd.fst.Nr },
                                                                          {
                                                                            Dir :=
                                                                              (outA
                                                                                    ({ Dir := (a, b, ()).fst.Dir, Origin := (a, b, ()).fst.Origin, Kind := (a, b, ()).fst.Kind,
                                                                                        Nr := (a, b, ()).fst.Nr },
                                                                                      ())).fst.Dir,
                                                                            Origin :=
                                                                              (outA
                                                                                    ({ Dir := (a, b, ()).fst.Dir, Origin := (a, b, ()).fst.Origin, Kind := (a, b, ()).fst.Kind,
                                                                                        Nr := (a, b, ()).fst.Nr },
                                                                                      ())).fst.Origin,
                                                                            Kind :=
                                                                              (outA
                                                                                    ({ Dir := (a, b, ()).fst.Dir, Origin := (a, b, ()).fst.Origin, Kind := (a, b, ()).fst.Kind,
                                                                                        Nr := (a, b, ()).fst.Nr },
                                                                                      ())).fst.Kind,
                                                                            Nr :=
                                                                              (outA
                                                                                    ({ Dir := (a, b, ()).fst.Dir, Origin := (a, b, ()).fst.Origin, Kind := (a, b, ()).fst.Kind,
                                                                                        Nr := (a, b, ()).fst.Nr },
                                                                                      ())).fst.Nr },
                                                                          ())).fst <
                                                                    (0 : Int))) ||
                                                            !(out19
                                                                  ({ Dir := (a, b, ()).snd.fst.Dir, Origin := (a, b, ()).snd.fst.Origin, Kind := (a, b, ()).snd.fst.Kind, Nr := (a, b, ()).snd.fst.Nr },
                                                                    ())).fst)) =
                                                        true) ∧
                                                  Ok
                                                      ((decide
                                                              ((outC
                                                                    ({ Dir := (a, b, ()).fst.Dir, Origin := (a, b, ()).fst.Origin, Kind := (a, b, ()).fst.Kind, Nr := (a, b, ()).fst.Nr },
                                                                      {
                                                                        Dir :=
                                                                          (outA
                                                                                ({ Dir := (a, b, ()).fst.Dir, Origin := (a, b, ()).fst.Origin, Kind := (a, b, ()).fst.Kind, Nr := (a, b, ()).fst.Nr },
                                                                                  ())).fst.Dir,
                                                                        Origin :=
                                                                          (outA
                                                                                ({ Dir := (a, b, ()).fst.Dir, Origin := (a, b, ()).fst.Origin, Kind := (a, b, ()).fst.Kind, Nr := (a, b, ()).fst.Nr },
                                                                                  ())).fst.Origin,
                                                                        Kind :=
                                                                          (outA
                                                                                ({ Dir := (a, b, ()).fst.Dir, Origin := (a, b, ()).fst.Origin, Kind := (a, b, ()).fst.Kind, Nr := (a, b, ()).fst.Nr },
                                                                                  ())).fst.Kind,
                                                                        Nr :=
                                                                          (outA
                                                                                ({ Dir := (a, b, ()).fst.Dir, Origin := (a, b, ()).fst.Origin, Kind := (a, b, ()).fst.Kind, Nr := (a, b, ()).fst.Nr },
                                                                                  ())).fst.Nr },
                                                                      ())).fst <
                                                                (0 : Int)) &&
                                                            (!(decide
                                                                    ((outC
                                                                          ({ Dir := (a, b, ()).fst.Dir, Origin := (a, b, ()).fst.Origin, Kind := (a, b, ()).fst.Kind, Nr := (a, b, ()).fst.Nr },
                                                                            { Dir := (a, b, ()).snd.fst.Dir, Origin := (a, b, ()).snd.fst.Origin, Kind := (a, b, ()).snd.fst.Kind,
                                                                              Nr := (a, b, ()).snd.fst.Nr },
                                                                            ())).fst <
                                                                      (0 : Int)) &&
                                                                  decide
                                                                    ((outC
                                                                          ({ Dir := (a, b, ()).snd.fst.Dir, Origin := (a, b, ()).snd.fst.Origin, Kind := (a, b, ()).snd.fst.Kind,
                                                                              Nr := (a, b, ()).snd.fst.Nr },
                                                                            {
                                                                              Dir :=
                                                                                (outA
                                                                                      ({ Dir := (a, b, ()).fst.Dir, Origin := (a, b, ()).fst.Origin, Kind := (a, b, ()).fst.Kind,
                                                                                          Nr := (a, b, ()).fst.Nr },
                                                                                        ())).fst.Dir,
                                                                              Origin :=
                                                                                (outA
                                                                                      ({ Dir := (a, b, ()).fst.Dir, Origin := (a, b, ()).fst.Origin, Kind := (a, b, ()).fst.Kind,
                                                                                          Nr := (a, b, ()).fst.Nr },
                                                                                        ())).fst.Origin,
                                                                              Kind :=
                                                                                (outA
                                                                                      ({ Dir := (a, b, ()).fst.Dir, Origin := (a, b, ()).fst.Origin, Kind := (a, b, ()).fst.Kind,
                                                                                          Nr := (a, b, ()).fst.Nr },
                                                                                        ())).fst.Kind,
                                                                              Nr :=
                                                                                (outA
                                                                                      ({ Dir := (a, b, ()).fst.Dir, Origin := (a, b, ()).fst.Origin, Kind := (a, b, ()).fst.Kind,
                                                                                          Nr := (a, b, ()).fst.Nr },
                                                                                        ())).fst.Nr },
                                                                            ())).fst <
                                                                      (0 : Int))) ||
                                                              !(out19
                                                                    ({ Dir := (a, b, ()).snd.fst.Dir, Origin := (a, b, ()).snd.fst.Origin, Kind := (a, b, ()).snd.fst.Kind,
                                                                        Nr := (a, b, ()).snd.fst.Nr },
                                                                      ())).fst)) =
                                                          true →
                                                        (decide
                                                              ((outC
                                                                    ({ Dir := (a, b, ()).fst.Dir, Origin := (a, b, ()).fst.Origin, Kind := (a, b, ()).fst.Kind, Nr := (a, b, ()).fst.Nr },
                                                                      {
                                                                        Dir :=
                                                                          (outA
                                                                                ({ Dir := (a, b, ()).fst.Dir, Origin := (a, b, ()).fst.Origin, Kind := (a, b, ()).fst.Kind, Nr := (a, b, ()).fst.Nr },
                                                                                  ())).fst.Dir,
                                                                        Origin :=
                                                                          (outA
                                                                                ({ Dir := (a, b, ()).fst.Dir, Origin := (a, b, ()).fst.Origin, Kind := (a, b, ()).fst.Kind, Nr := (a, b, ()).fst.Nr },
                                                                                  ())).fst.Origin,
                                                                        Kind :=
                                                                          (outA
                                                                                ({ Dir := (a, b, ()).fst.Dir, Origin := (a, b, ()).fst.Origin, Kind := (a, b, ()).fst.Kind, Nr := (a, b, ()).fst.Nr },
                                                                                  ())).fst.Kind,
                                                                        Nr :=
                                                                          (outA
                                                                                ({ Dir := (a, b, ()).fst.Dir, Origin := (a, b, ()).fst.Origin, Kind := (a, b, ()).fst.Kind, Nr := (a, b, ()).fst.Nr },
                                                                                  ())).fst.Nr },
                                                                      ())).fst <
                                                                (0 : Int)) &&
                                                            (!(decide
                                                                    ((outC
                                                                          ({ Dir := (a, b, ()).fst.Dir, Origin := (a, b, ()).fst.Origin, Kind := (a, b, ()).fst.Kind, Nr := (a, b, ()).fst.Nr },
                                                                            { Dir := (a, b, ()).snd.fst.Dir, Origin := (a, b, ()).snd.fst.Origin, Kind := (a, b, ()).snd.fst.Kind,
                                                                              Nr := (a, b, ()).snd.fst.Nr },
                                                                            ())).fst <
                                                                      (0 : Int)) &&
                                                                  decide
                                                                    ((outC
                                                                          ({ Dir := (a, b, ()).snd.fst.Dir, Origin := (a, b, ()).snd.fst.Origin, Kind := (a, b, ()).snd.fst.Kind,
                                                                              Nr := (a, b, ()).snd.fst.Nr },
                                                                            {
                                                                              Dir :=
                                                                                (outA
                                                                                      ({ Dir := (a, b, ()).fst.Dir, Origin := (a, b, ()).fst.Origin, Kind := (a, b, ()).fst.Kind,
                                                                                          Nr := (a, b, ()).fst.Nr },
                                                                                        ())).fst.Dir,
                                                                              Origin :=
                                                                                (outA
                                                                                      ({ Dir := (a, b, ()).fst.Dir, Origin := (a, b, ()).fst.Origin, Kind := (a, b, ()).fst.Kind,
                                                                                          Nr := (a, b, ()).fst.Nr },
                                                                                        ())).fst.Origin,
                                                                              Kind :=
                                                                                (outA
                                                                                      ({ Dir := (a, b, ()).fst.Dir, Origin := (a, b, ()).fst.Origin, Kind := (a, b, ()).fst.Kind,
                                                                                          Nr := (a, b, ()).fst.Nr },
                                                                                        ())).fst.Kind,
                                                                              Nr :=
                                                                                (outA
                                                                                      ({ Dir := (a, b, ()).fst.Dir, Origin := (a, b, ()).fst.Origin, Kind := (a, b, ()).fst.Kind,
                                                                                          Nr := (a, b, ()).fst.Nr },
                                                                                        ())).fst.Nr },
                                                                            ())).fst <
                                                                      (0 : Int))) ||
                                                              !(out19
                                                                    ({ Dir := (a, b, ()).snd.fst.Dir, Origin := (a, b, ()).snd.fst.Origin, Kind := (a, b, ()).snd.fst.Kind,
                                                                        Nr := (a, b, ()).snd.fst.Nr },
                                                                      ())).fst)) =
                                                          true) ∧
                                                    Ok
                                                      ((decide
                                                                ((outC
                                                                      ({ Dir := (a, b, ()).fst.Dir, Origin := (a, b, ()).fst.Origin, Kind := (a, b, ()).fst.Kind, Nr := (a, b, ()).fst.Nr },
                                                                        {
                                                                          Dir :=
                                                                            (outA
                                                                                  ({ Dir := (a, b, ()).fst.Dir, Origin := (a, b, ()).fst.Origin, Kind := (a, b, ()).fst.Kind, Nr := (a, b, ()).fst.Nr },
                                                                                    ())).fst.Dir,
                                                                          Origin :=
                                                                            (outA
                                                                                  ({ Dir := (a, b, ()).fst.Dir, Origin := (a, b, ()).fst.Origin, Kind := (a, b, ()).fst.Kind, Nr := (a, b, ()).fst.Nr },
                                                                                    ())).fst.Origin,
                                                                          Kind :=
                                                                            (outA
                                                                                  ({ Dir := (a, b, ()).fst.Dir, Origin := (a, b, ()).fst.Origin, Kind := (a, b, ()).fst.Kind, Nr := (a, b, ()).fst.Nr },
                                                                                    ())).fst.Kind,
                                                                          Nr :=
                                                                            (outA
                                                                                  ({ Dir := (a, b, ()).fst.Dir, Origin := (a, b, ()).fst.Origin, Kind := (a, b, ()).fst.Kind, Nr := (a, b, ()).fst.Nr },
                                                                                    ())).fst.Nr },
                                                                        ())).fst <
                                                                  (0 : Int)) &&
                                                              (!(decide
                                                                      ((outC
                                                                            ({ Dir := (a, b, ()).fst.Dir, Origin := (a, b, ()).fst.Origin, Kind := (a, b, ()).fst.Kind, Nr := (a, b, ()).fst.Nr },
                                                                              { Dir := (a, b, ()).snd.fst.Dir, Origin := (a, b, ()).snd.fst.Origin, Kind := (a, b, ()).snd.fst.Kind,
                                                                                Nr := (a, b, ()).snd.fst.Nr },
                                                                              ())).fst <
                                                                        (0 : Int)) &&
                                                                    decide
                                                                      ((outC
                                                                            ({ Dir := (a, b, ()).snd.fst.Dir, Origin := (a, b, ()).snd.fst.Origin, Kind := (a, b, ()).snd.fst.Kind,
                                                                                Nr := (a, b, ()).snd.fst.Nr },
                                                                              {
                                                                                Dir :=
                                                                                  (outA
                                                                                        ({ Dir := (a, b, ()).fst.Dir, Origin := (a, b, ()).fst.Origin, Kind := (a, b, ()).fst.Kind,
                                                                                            Nr := (a, b, ()).fst.Nr },
                                                                                          ())).fst.Dir,
                                                                                Origin :=
                                                                                  (outA
                                                                                        ({ Dir := (a, b, ()).fst.Dir, Origin := (a, b, ()).fst.Origin, Kind := (a, b, ()).fst.Kind,
                                                                                            Nr := (a, b, ()).fst.Nr },
                                                                                          ())).fst.Origin,
                                                                                Kind :=
                                                                                  (outA
                                                                                        ({ Dir := (a, b, ()).fst.Dir, Origin := (a, b, ()).fst.Origin, Kind := (a, b, ()).fst.Kind,
                                                                                            Nr := (a, b, ()).fst.Nr },
                                                                                          ())).fst.Kind,
                                                                                Nr :=
                                                                                  (outA
                                                                                        ({ Dir := (a, b, ()).fst.Dir, Origin := (a, b, ()).fst.Origin, Kind := (a, b, ()).fst.Kind,
                                                                                            Nr := (a, b, ()).fst.Nr },
                                                                                          ())).fst.Nr },
                                                                              ())).fst <
                                                                        (0 : Int))) ||
                                                                !(out19
                                                                      ({ Dir := (a, b, ()).snd.fst.Dir, Origin := (a, b, ()).snd.fst.Origin, Kind := (a, b, ()).snd.fst.Kind,
                                                                          Nr := (a, b, ()).snd.fst.Nr },
                                                                        ())).fst) &&
                                                            decide
                                                              ((outC
                                                                    ({
                                                                        Dir :=
                                                                          (outA
                                                                                ({ Dir := (a, b, ()).fst.Dir, Origin := (a, b, ()).fst.Origin, Kind := (a, b, ()).fst.Kind, Nr := (a, b, ()).fst.Nr },
                                                                                  ())).fst.Dir,
                                                                        Origin :=
                                                                          (outA
                                                                                ({ Dir := (a, b, ()).fst.Dir, Origin := (a, b, ()).fst.Origin, Kind := (a, b, ()).fst.Kind, Nr := (a, b, ()).fst.Nr },
                                                                                  ())).fst.Origin,
                                                                        Kind :=
                                                                          (outA
                                                                                ({ Dir := (a, b, ()).fst.Dir, Origin := (a, b, ()).fst.Origin, Kind := (a, b, ()).fst.Kind, Nr := (a, b, ()).fst.Nr },
                                                                                  ())).fst.Kind,
                                                                        Nr :=
                                                                          (outA
                                                                                ({ Dir := (a, b, ()).fst.Dir, Origin := (a, b, ()).fst.Origin, Kind := (a, b, ()).fst.Kind, Nr := (a, b, ()).fst.Nr },
                                                                                  ())).fst.Nr },
                                                                      { Dir := (outL ()).fst.Dir, Origin := (outL ()).fst.Origin, Kind := (outL ()).fst.Kind, Nr := (outL ()).fst.Nr }, ())).fst ≤
                                                                (0 : Int)),
                                                          ()) =
                                                        out6 (a, b, ())))) := by kernel_rfl

theorem nf7 (a : TieId) : exec E5 L0 20 (bodyOf Try.f7) (startT 51 (avs [T] (a, ()))) [] (retK E5.P [.tmp 2] [B] (out7 (a, ()))) = (
Ok True ∧
  Ok True ∧
    Ok True ∧
      Ok True ∧
        Ok True ∧
          Ok ((!(out8 ()).fst) = false → (!!(out8 ()).fst) = true) ∧
            Ok ((out19 ({ Dir := (a, ()).fst.Dir, Origin := (a, ()).fst.Origin, Kind := (a, ()).fst.Kind, Nr := (a, ()).fst.Nr }, ())).fst = true → True) ∧
              Ok
                  ((out19 ({ Dir := (a, ()).fst.Dir, Origin := (a, ()).fst.Origin, Kind := (a, ()).fst.Kind, Nr := (a, ()).fst.Nr }, ())).fst = true →
                    (out19 ({ Dir := (a, ()).fst.Dir, Origin := (a, ()).fst.Origin, Kind := (a, ()).fst.Kind, Nr := (a, ()).fst.Nr }, ())).fst = true) ∧
                Ok
                    ((out19 ({ Dir := (a, ()).fst.Dir, Origin := (a, ()).fst.Origin, Kind := (a, ()).fst.Kind, Nr := (a, ()).fst.Nr }, ())).fst = true →
                      (out19 ({ Dir := (a, ()).fst.Dir, Origin := (a, ()).fst.Origin, Kind := (a, ()).fst.Kind, Nr := (a, ()).fst.Nr }, ())).fst = true) ∧
                  Ok
                      ((out19 ({ Dir := (a, ()).fst.Dir, Origin := (a, ()).fst.Origin, Kind := (a, ()).fst.Kind, Nr := (a, ()).fst.Nr }, ())).fst = true →
                        (out19 ({ Dir := (a, ()).fst.Dir, Origin := (a, ()).fst.Origin, Kind := (a, ()).fst.Kind, Nr := (a, ()).fst.Nr }, ())).fst = true) ∧
                    Ok
                        (((outA ({ Dir := (a, ()).fst.Dir, Origin := (a, ()).fst.Origin, Kind := (a, ()).fst.Kind, Nr := (a, ()).fst.Nr }, ())).snd.fst ==
                              ((out19 ({ Dir := (a, ()).fst.Dir, Origin := (a, ()).fst.Origin, Kind := (a, ()).fst.Kind, Nr := (a, ()).fst.Nr }, ())).fst &&
                                !((a, ()).fst.Dir == (outL ()).fst.Dir &&
                                    ((a, ()).fst.Origin == (outL ()).fst.Origin && ((a, ()).fst.Kind == (outL ()).fst.Kind && (a, ()).fst.Nr == (outL ()).fst.Nr))))) =
                            true →
                          ((outA ({ Dir := (a, ()).fst.Dir, Origin := (a, ()).fst.Origin, Kind := (a, ()).fst.Kind, Nr := (a, ()).fst.Nr }, ())).snd.fst ==
                              ((out19 ({ Dir := (a, ()).fst.Dir, Origin := (a, ()).fst.Origin, Kind := (a, ()).fst.Kind, Nr := (a, ()).fst.Nr }, ())).fst &&
                                !((a, ()).fst.Dir == (outL ()).fst.Dir &&
                                    ((a, ()).fst.Origin == (outL ()).fst.Origin && ((a, ()).fst.Kind == (outL ()).fst.Kind && (a, ()).fst.Nr == (outL ()).fst.Nr))))) =
                            true) ∧
                      Ok
                          (((outA ({ Dir := (a, ()).fst.Dir, Origin := (a, ()).fst.Origin, Kind := (a, ()).fst.Kind, Nr := (a, ()).fst.Nr }, ())).snd.fst ==
                                ((out19 ({ Dir := (a, ()).fst.Dir, Origin := (a, ()).fst.Origin, Kind := (a, ()).fst.Kind, Nr := (a, ()).fst.Nr }, ())).fst &&
                                  !((a, ()).fst.Dir == (outL ()).fst.Dir &&
                                      ((a, ()).fst.Origin == (outL ()).fst.Origin && ((a, ()).fst.Kind == (outL ()).fst.Kind && (a, ()).fst.Nr == (outL ()).fst.Nr))))) =
                              true →
                            ((outA ({ Dir := (a, ()).fst.Dir, Origin := (a, ()).fst.Origin, Kind := (a, ()).fst.Kind, Nr := (a, ()).fst.Nr }, ())).snd.fst ==
                                ((out19 ({ Dir := (a, ()).fst.Dir, Origin := (a, ()).fst.Origin, Kind := (a, ()).fst.Kind, Nr := (a, ()).fst.Nr }, ())).fst &&
                                  !((a, ()).fst.Dir == (outL ()).fst.Dir &&
                                      ((a, ()).fst.Origin == (outL ()).fst.Origin && ((a, ()).fst.Kind == (outL ()).fst.Kind && (a, ()).fst.Nr == (outL ()).fst.Nr))))) =
                              true) ∧
                        Ok
                            (((outA ({ Dir := (a, ()).fst.Dir, Origin := (a, ()).fst.Origin, Kind := (a, ()).fst.Kind, Nr := (a, ()).fst.Nr }, ())).snd.fst ==
                                    ((out19 ({ Dir := (a, ()).fst.Dir, Origin := (a, ()).fst.Origin, Kind := (a, ()).fst.Kind, Nr := (a, ()).fst.Nr }, ())).fst &&
                                      !((a, ()).fst.Dir == (outL ()).fst.Dir &&
                                          ((a, ()).fst.Origin == (outL ()).fst.Origin && ((a, ()).fst.Kind == (outL ()).fst.Kind && (a, ()).fst.Nr == (outL ()).fst.Nr)))) &&
                                  !!(out19 ({ Dir := (a, ()).fst.Dir, Origin := (a, ()).fst.Origin, Kind := (a, ()).fst.Kind, Nr := (a, ()).fst.Nr }, ())).fst) =
                                true →
                              True) ∧
                          Ok
                              (((outA ({ Dir := (a, ()).fst.Dir, Origin := (a, ()).fst.Origin, Kind := (a, ()).fst.Kind, Nr := (a, ()).fst.Nr }, ())).snd.fst ==
                                      ((out19 ({ Dir := (a, ()).fst.Dir, Origin := (a, ()).fst.Origin, Kind := (a, ()).fst.Kind, Nr := (a, ()).fst.Nr }, ())).fst &&
                                        !((a, ()).fst.Dir == (outL ()).fst.Dir &&
                                            ((a, ()).fst.Origin == (outL ()).fst.Origin && ((a, ()).fst.Kind == (outL ()).fst.Kind && (a, ()).fst.Nr == (outL ()).fst.Nr)))) &&
                                    !!(out19 ({ Dir := (a, ()).fst.Dir, Origin := (a, ()).fst.Origin, Kind := (a, ()).fst.Kind, Nr := (a, ()).fst.Nr }, ())).fst) =
                                  true →
                                ((outA ({ Dir := (a, ()).fst.Dir, Origin := (a, ()).fst.Origin, Kind := (a, ()).fst.Kind, Nr := (a, ()).fst.Nr }, ())).snd.fst ==
                                      ((out19 ({ Dir := (a, ()).fst.Dir, Origin := (a, ()).fst.Origin, Kind := (a, ()).fst.Kind, Nr := (a, ()).fst.Nr }, ())).fst &&
                                        !((a, ()).fst.Dir == (outL ()).fst.Dir &&
                                            ((a, ()).fst.Origin == (outL ()).fst.Origin && ((a, ()).fst.Kind == (outL ()).fst.Kind && (a, ()).fst.Nr == (outL ()).fst.Nr)))) &&
                                    !!(out19 ({ Dir := (a, ()).fst.Dir, Origin := (a, ()).fst.Origin, Kind := (a, ()).fst.Kind, Nr := (a, ()).fst.Nr }, ())).fst) =
                                  true) ∧
                            Ok
                                (((outA ({ Dir := (a, ()).fst.Dir, Origin := (a, ()).fst.Origin, Kind := (a, ()).fst.Kind, Nr := (a, ()).fst.Nr }, ())).snd.fst ==
                                        ((out19 ({ Dir := (a, ()).fst.Dir, Origin := (a, ()).fst.Origin, Kind := (a, ()).fst.Kind, Nr := (a, ()).fst.Nr }, ())).fst &&
                                          !((a, ()).fst.Dir == (outL ()).fst.Dir &&
                                              ((a, ()).fst.Origin == (outL ()).fst.Origin && ((a, ()).fst.Kind == (outL ()).fst.Kind && (a, ()).fst.Nr == (outL ()).fst.Nr)))) &&
                                      !!(out19 ({ Dir := (a, ()).fst.Dir, Origin := (a, ()).fst.Origin, Kind := (a, ()).fst.Kind, Nr := (a, ()).fst.Nr }, ())).fst) =
                                    true →
                                  ((outA ({ Dir := (a, ()).fst.Dir, Origin := (a, ()).fst.Origin, Kind := (a, ()).fst.Kind, Nr := (a, ()).fst.Nr }, ())).snd.fst ==
                                        ((out19 ({ Dir := (a, ()).fst.Dir, Origin := (a, ()).fst.Origin, Kind := (a, ()).fst.Kind, Nr := (a, ()).fst.Nr }, ())).fst &&
                                          !((a, ()).fst.Dir == (outL ()).fst.Dir &&
                                              ((a, ()).fst.Origin == (outL ()).fst.Origin && ((a, ()).fst.Kind == (outL ()).fst.Kind && (a, ()).fst.Nr == (outL ()).fst.Nr)))) &&
                                      !!(out19 ({ Dir := (a, ()).fst.Dir, Origin := (a, ()).fst.Origin, Kind := (a, ()).fst.Kind, Nr := (a, ()).fst.Nr }, ())).fst) =
                                    true) ∧
                              Ok
                                  (((outA ({ Dir := (a, ()).fst.Dir, Origin := (a, ()).fst.Origin, Kind := (a, ()).fst.Kind, Nr := (a, ()).fst.Nr }, ())).snd.fst ==
                                          ((out19 ({ Dir := (a, ()).fst.Dir, Origin := (a, ()).fst.Origin, Kind := (a, ()).fst.Kind, Nr := (a, ()).fst.Nr }, ())).fst &&
                                            !((a, ()).fst.Dir == (outL ()).fst.Dir &&
                                                ((a, ()).fst.Origin == (outL ()).fst.Origin && ((a, ()).fst.Kind == (outL ()).fst.Kind && (a, ()).fst.Nr == (outL ()).fst.Nr)))) &&
                                        !!(out19 ({ Dir := (a, ()).fst.Dir, Origin := (a, ()).fst.Origin, Kind := (a, ()).fst.Kind, Nr := (a, ()).fst.Nr }, ())).fst) =
                                      true →
                                    True) ∧
                                Ok
                                    (((outA ({ Dir := (a, ()).fst.Dir, Origin := (a, ()).fst.Origin, Kind := (a, ()).fst.Kind, Nr := (a, ()).fst.Nr }, ())).snd.fst ==
                                            ((out19 ({ Dir := (a, ()).fst.Dir, Origin := (a, ()).fst.Origin, Kind := (a, ()).fst.Kind, Nr := (a, ()).fst.Nr }, ())).fst &&
                                              !((a, ()).fst.Dir == (outL ()).fst.Dir &&
                                                  ((a, ()).fst.Origin == (outL ()).fst.Origin && ((a, ()).fst.Kind == (outL ()).fst.Kind && (a, ()).fst.Nr == (outL ()).fst.Nr)))) &&
                                          !!(out19 ({ Dir := (a, ()).fst.Dir, Origin := (a, ()).fst.Origin, Kind := (a, ()).fst.Kind, Nr := (a, ()).fst.Nr }, ())).fst) =
                                        true →
                                      ((outA ({ Dir := (a, ()).fst.Dir, Origin := (a, ()).fst.Origin, Kind := (a, ()).fst.Kind, Nr := (a, ()).fst.Nr }, ())).snd.fst ==
                                            ((out19 ({ Dir := (a, ()).fst.Dir, Origin := (a, ()).fst.Origin, Kind := (a, ()).fst.Kind, Nr := (a, ()).fst.Nr }, ())).fst &&
                                              !((a, ()).fst.Dir == (outL ()).fst.Dir &&
                                                  ((a, ()).fst.Origin == (outL ()).fst.Origin && ((a, ()).fst.Kind == (outL ()).fst.Kind && (a, ()).fst.Nr == (outL ()).fst.Nr)))) &&
                                          !!(out19 ({ Dir := (a, ()).fst.Dir, Origin := (a, ()).fst.Origin, Kind := (a, ()).fst.Kind, Nr := (a, ()).fst.Nr }, ())).fst) =
                                        true) ∧
                                  Ok
                                      (((outA ({ Dir := (a, ()).fst.Dir, Origin := (a, ()).fst.Origin, Kind := (a, ()).fst.Kind, Nr := (a, ()).fst.Nr }, ())).snd.fst ==
                                              ((out19 ({ Dir := (a, ()).fst.Dir, Origin := (a, ()).fst.Origin, Kind := (a, ()).fst.Kind, Nr := (a, ()).fst.Nr }, ())).fst &&
                                                !((a, ()).fst.Dir == (outL ()).fst.Dir &&
                                                    ((a, ()).fst.Origin == (outL ()).fst.Origin && ((a, ()).fst.Kind == (outL ()).fst.Kind && (a, ()).fst.Nr == (outL ()).fst.Nr)))) &&
                                            !!(out19 ({ Dir := (a, ()).fst.Dir, Origin := (a, ()).fst.Origin, Kind := (a, ()).fst.Kind, Nr := (a, ()).fst.Nr }, ())).fst) =
                                          true →
                                        ((outA ({ Dir := (a, ()).fst.Dir, Origin := (a, ()).fst.Origin, Kind := (a, ()).fst.Kind, Nr := (a, ()).fst.Nr }, ())).snd.fst ==
                                              ((out19 ({ Dir := (a, ()).fst.Dir, Origin := (a, ()).fst.Origin, Kind := (a, ()).fst.Kind, Nr := (a, ()).fst.Nr }, ())).fst &&
                                                !((a, ()).fst.Dir == (outL ()).fst.Dir &&
                                                    ((a, ()).fst.Origin == (outL ()).fst.Origin && ((a, ()).fst.Kind == (outL ()).fst.Kind && (a, ()).fst.Nr == (outL ()).fst.Nr)))) &&
                                            !!(out19 ({ Dir := (a, ()).fst.Dir, Origin := (a, ()).fst.Origin, Kind := (a, ()).fst.Kind, Nr := (a, ()).fst.Nr }, ())).fst) =
                                          true) ∧
                                    Ok
                                        (((outA ({ Dir := (a, ()).fst.Dir, Origin := (a, ()).fst.Origin, Kind := (a, ()).fst.Kind, Nr := (a, ()).fst.Nr }, ())).snd.fst ==
                                                  ((out19 ({ Dir := (a, ()).fst.Dir, Origin := (a, ()).fst.Origin, Kind := (a, ()).fst.Kind, Nr := (a, ()).fst.Nr }, ())).fst &&
                                                    !((a, ()).fst.Dir == (outL ()).fst.Dir &&
                                                        ((a, ()).fst.Origin == (outL ()).fst.Origin && ((a, ()).fst.Kind == (outL ()).fst.Kind && (a, ()).fst.Nr == (outL ()).fst.Nr)))) &&
                                                !!(out19 ({ Dir := (a, ()).fst.Dir, Origin := (a, ()).fst.Origin, Kind := (a, ()).fst.Kind, Nr := (a, ()).fst.Nr }, ())).fst &&
                                              decide
                                                ((outC
                                                      ({ Dir := (outF ()).fst.Dir, Origin := (outF ()).fst.Origin, Kind := (outF ()).fst.Kind, Nr := (outF ()).fst.Nr },
                                                        { Dir := (a, ()).fst.Dir, Origin := (a, ()).fst.Origin, Kind := (a, ()).fst.Kind, Nr := (a, ()).fst.Nr }, ())).fst ≤
                                                  (0 : Int))) =
                                            true →
                                          True) ∧
                                      Ok
                                          (((outA ({ Dir := (a, ()).fst.Dir, Origin := (a, ()).fst.Origin, Kind := (a, ()).fst.Kind, Nr := (a, ()).fst.Nr }, ())).snd.fst ==
                                                    ((out19 ({ Dir := (a, ()).fst.Dir, Origin := (a, ()).fst.Origin, Kind := (a, ()).fst.Kind, Nr := (a, ()).fst.Nr }, ())).fst &&
                                                      !((a, ()).fst.Dir == (outL ()).fst.Dir &&
                                                          ((a, ()).fst.Origin == (outL ()).fst.Origin && ((a, ()).fst.Kind == (outL ()).fst.Kind && (a, ()).fst.Nr == (outL ()).fst.Nr)))) &&
                                                  !!(out19 ({ Dir := (a, ()).fst.Dir, Origin := (a, ()).fst.Origin, Kind := (a, ()).fst.Kind, Nr := (a, ()).fst.Nr }, ())).fst &&
                                                decide
                                                  ((outC
                                                        ({ Dir := (outF ()).fst.Dir, Origin := (outF ()).fst.Origin, Kind := (outF ()).fst.Kind, Nr := (outF ()).fst.Nr },
                                                          { Dir := (a, ()).fst.Dir, Origin := (a, ()).fst.Origin, Kind := (a, ()).fst.Kind, Nr := (a, ()).fst.Nr }, ())).fst ≤
                                                    (0 : Int))) =
                                              true →
                                            ((outA ({ Dir := (a, ()).fst.Dir, Origin := (a, ()).fst.Origin, Kind := (a, ()).fst.Kind, Nr := (a, ()).fst.Nr }, ())).snd.fst ==
                                                    ((out19 ({ Dir := (a, ()).fst.Dir, Origin := (a, ()).fst.Origin, Kind := (a, ()).fst.Kind, Nr := (a, ()).fst.Nr }, ())).fst &&
                                                      !((a, ()).fst.Dir == (outL ()).fst.Dir &&
                                                          ((a, ()).fst.Origin == (outL ()).fst.Origin && ((a, ()).fst.Kind == (outL ()).fst.Kind && (a, ()).fst.Nr == (outL ()).fst.Nr)))) &&
                                                  !!(out19 ({ Dir := (a, ()).fst.Dir, Origin := (a, ()).fst.Origin, Kind := (a, ()).fst.Kind, Nr := (a, ()).fst.Nr }, ())).fst &&
                                                decide
                                                  ((outC
                                                        ({ Dir := (outF ()).fst.Dir, Origin := (outF ()).fst.Origin, Kind := (outF ()).fst.Kind, Nr := (outF ()).fst.Nr },
                                                          { Dir := (a, ()).fst.Dir, Origin := (a, ()).fst.Origin, Kind := (a, ()).fst.Kind, Nr := (a, ()).fst.Nr }, ())).fst ≤
                                                    (0 : Int))) =
                                              true) ∧
                                        Ok
                                            (((outA ({ Dir := (a, ()).fst.Dir, Origin := (a, ()).fst.Origin, Kind := (a, ()).fst.Kind, Nr := (a, ()).fst.Nr }, ())).snd.fst ==
                                                      ((out19 ({ Dir := (a, ()).fst.Dir, Origin := (a, ()).fst.Origin, Kind := (a, ()).fst.Kind, Nr := (a, ()).fst.Nr }, ())).fst &&
                                                        !((a, ()).fst.Dir == (outL ()).fst.Dir &&
                                                            ((a, ()).fst.Origin == (outL ()).fst.Origin && ((a, ()).fst.Kind == (outL ()).fst.Kind && (a, ()).fst.Nr == (outL ()).fst.Nr)))) &&
                                                    !!(out19 ({ Dir := (a, ()).fst.Dir, Origin := (a, ()).fst.Origin, Kind := (a, ()).fst.Kind, Nr := (a, ()).fst.Nr }, ())).fst &&
                                                  decide
                                                    ((outC
                                                          ({ Dir := (outF ()).fst.Dir, Origin := (outF ()).fst.Origin, Kind := (outF ()).fst.Kind, Nr := (outF ()).fst.Nr },
                                                            { Dir := (a, ()).fst.Dir, Origin := (a, ()).fst.Origin, Kind := (a, ()).fst.Kind, Nr := (a, ()).fst.Nr }, ())).fst ≤
                                                      (0 : Int))) =
                                                true →
                                              ((outA ({ Dir := (a, ()).fst.Dir, Origin := (a, ()).fst.Origin, Kind := (a, ()).fst.Kind, Nr := (a, ()).fst.Nr }, ())).snd.fst ==
                                                      ((out19 ({ Dir := (a, ()).fst.Dir, Origin := (a, ()).fst.Origin, Kind := (a, ()).fst.Kind, Nr := (a, ()).fst.Nr }, ())).fst &&
                                                        !((a, ()).fst.Dir == (outL ()).fst.Dir &&
                                                            ((a, ()).fst.Origin == (outL ()).fst.Origin && ((a, ()).fst.Kind == (outL ()).fst.Kind && (a, ()).fst.Nr == (outL ()).fst.Nr)))) &&
                                                    !!(out19 ({ Dir := (a, ()).fst.Dir, Origin := (a, ()).fst.Origin, Kind := (a, ()).fst.Kind, Nr := (a, ()).fst.Nr }, ())).fst &&
                                                  decide
                                                    ((outC
                                                          ({ Dir := (outF ()).fst.Dir, Origin := (outF ()).fst.Origin, Kind := (outF ()).fst.Kind, Nr := (outF ()).fst.Nr },
                                                            { Dir := (a, ()).fst.Dir, Origin := (a, ()).fst.Origin, Kind := (a, ()).fst.Kind, Nr := (a, ()).fst.Nr }, ())).fst ≤
                                                      (0 : Int))) =
                                                true) ∧
                                          Ok
                                              (((outA ({ Dir := (a, ()).fst.Dir, Origin := (a, ()).fst.Origin, Kind := (a, ()).fst.Kind, Nr := (a, ()).fst.Nr }, ())).snd.fst ==
                                                        ((out19 ({ Dir := (a, ()).fst.Dir, Origin := (a, ()).fst.Origin, Kind := (a, ()).fst.Kind, Nr := (a, ()).fst.Nr }, ())).fst &&
                                                          !((a, ()).fst.Dir == (outL ()).fst.Dir &&
                                                              ((a, ()).fst.Origin == (outL ()).fst.Origin && ((a, ()).fst.Kind == (outL ()).fst.Kind && (a, ()).fst.Nr == (outL ()).fst.Nr)))) &&
                                                      !!(out19 ({ Dir := (a, ()).fst.Dir, Origin := (a, ()).fst.Origin, Kind := (a, ()).fst.Kind, Nr := (a, ()).fst.Nr }, ())).fst &&
                                                    decide
                                                      ((outC
                                                            ({ Dir := (outF ()).fst.Dir, Origin := (outF ()).fst.Origin, Kind := (outF ()).fst.Kind, Nr := (outF ()).fst.Nr },
                                                              { Dir := (a, ()).fst.Dir, Origin := (a, ()).fst.Origin, Kind := (a, ()).fst.Kind, Nr := (a, ()).fst.Nr }, ())).fst ≤
                                                        (0 : Int))) =
                                                  true →
                                                True) ∧
                                            Ok
                                                (((outA ({ Dir := (a, ()).fst.Dir, Origin := (a, ()).fst.Origin, Kind := (a, ()).fst.Kind, Nr := (a, ()).fst.Nr }, ())).snd.fst ==
                                                          ((out19 ({ Dir := (a, ()).fst.Dir, Origin := (a, ()).fst.Origin, Kind := (a, ()).fst.Kind, Nr := (a, ()).fst.Nr }, ())).fst &&
                                                            !((a, ()).fst.Dir == (outL ()).fst.Dir &&
                                                                ((a, ()).fst.Origin == (outL ()).fst.Origin && ((a, ()).fst.Kind == (outL ()).fst.Kind && (a, ()).fst.Nr == (outL ()).fst.Nr)))) &&
                                                        !!(out19 ({ Dir := (a, ()).fst.Dir, Origin := (a, ()).fst.Origin, Kind := (a, ()).fst.Kind, Nr := (a, ()).fst.Nr }, ())).fst &&
                                                      decide
                                                        ((outC
                                                              ({ Dir := (outF ()).fst.Dir, Origin := (outF ()).fst.Origin, Kind := (outF ()).fst.Kind, Nr := (outF ()).fst.Nr },
                                                                { Dir := (a, ()).fst.Dir, Origin := (a, ()).fst.Origin, Kind := (a, ()).fst.Kind, Nr := (a, ()).fst.Nr }, ())).fst ≤
                                                          (0 : Int))) =
                                                    true →
                                                  ((outA ({ Dir := (a, ()).fst.Dir, Origin := (a, ()).fst.Origin, Kind := (a, ()).fst.Kind, Nr := (a, ()).fst.Nr }, ())).snd.fst ==
                                                          ((out19 ({ Dir := (a, ()).fst.Dir, Origin := (a, ()).fst.Origin, Kind := (a, ()).fst.Kind, Nr := (a, ()).fst.Nr }, ())).fst &&
                                                            !((a, ()).fst.Dir == (outL ()).fst.Dir &&
                                                                ((a, ()).fst.Origin == (outL ()).fst.Origin && ((a, ()).fst.Kind == (outL ()).fst.Kind && (a, ()).fst.Nr == (outL ()).fst.Nr)))) &&
                                                        !!(out19 ({ Dir := (a, ()).fst.Dir, Origin := (a, ()).fst.Origin, Kind := (a, ()).fst.Kind, Nr := (a, ()).fst.Nr }, ())).fst &&
                                                      decide
                                                        ((outC
                                                              ({ Dir := (outF ()).fst.Dir, Origin := (outF ()).fst.Origin, Kind := (outF ()).fst.Kind, Nr := (outF ()).fst.Nr },
                                                                { Dir := (a, ()).fst.Dir, Origin := (a, ()).fst.Origin, Kind := (a, ()).fst.Kind, Nr := (a, ()).fst.Nr }, ())).fst ≤
                                                          (0 : Int))) =
                                                    true) ∧
                                              Ok
                                                  (((outA ({ Dir := (a, ()).fst.Dir, Origin := (a, ()).fst.Origin, Kind := (a, ()).fst.Kind, Nr := (a, ()).fst.Nr }, ())).snd.fst ==
                                                          ((out19 ({ Dir := (a, ()).fst.Dir, Origin := (a, ()).fst.Origin, Kind := (a, ()).fst.Kind, Nr := (a, ()).fst.Nr }, ())).fst &&
                                                            !((a, ()).fst.Dir == (outL ()).fst.Dir &&
                                                                ((a, ()).fst.Origin == (outL ()).fst.Origin && ((a, ()).fst.Kind == (outL ()).fst.Kind && (a, ()).fst.Nr == (outL ()).fst.Nr)))) &&
                                                        !!(out19 ({ Dir := (a, ()).fst.Dir, Origin := (a, ()).fst.Origin, Kind := (a, ()).fst.Kind, Nr := (a, ()).fst.Nr }, ())).fst) =
                                                      true →
                                                    ((outA ({ Dir := (a, ()).fst.Dir, Origin := (a, ()).fst.Origin, Kind := (a, ()).fst.Kind, Nr := (a, ()).fst.Nr }, ())).snd.fst ==
                                                          ((out19 ({ Dir := (a, ()).fst.Dir, Origin := (a, ()).fst.Origin, Kind := (a, ()).fst.Kind, Nr := (a, ()).fst.Nr }, ())).fst &&
                                                            !((a, ()).fst.Dir == (outL ()).fst.Dir &&
                                                                ((a, ()).fst.Origin == (outL ()).fst.Origin && ((a, ()).fst.Kind == (outL ()).fst.Kind && (a, ()).fst.Nr == (outL ()).fst.Nr)))) &&
                                                        !!(out19 ({ Dir := (a, ()).fst.Dir, Origin := (a, ()).fst.Origin, Kind := (a, ()).fst.Kind, Nr := (a, ()).fst.Nr }, ())).fst) =
                                                      true) ∧
                                                Ok
                                                    (((outA ({ Dir := (a, ()).fst.Dir, Origin := (a, ()).fst.Origin, Kind := (a, ()).fst.Kind, Nr := (a, ()).fst.Nr }, ())).snd.fst ==
                                                            ((out19 ({ Dir := (a, ()).fst.Dir, Origin := (a, ()).fst.Origin, Kind := (a, ()).fst.Kind, Nr := (a, ()).fst.Nr }, ())).fst &&
                                                              !((a, ()).fst.Dir == (outL ()).fst.Dir &&
                                                                  ((a, ()).fst.Origin == (outL ()).fst.Origin && ((a, ()).fst.Kind == (outL ()).fst.Kind && (a, ()).fst.Nr == (outL ()).fst.Nr)))) &&
                                                          !!(out19 ({ Dir := (a, ()).fst.Dir, Origin := (a, ()).fst.Origin, Kind := (a, ()).fst.Kind, Nr := (a, ()).fst.Nr }, ())).fst) =
                                                        true →
                                                      decide
                                                            ((outC
                                                                  ({ Dir := (outF ()).fst.Dir, Origin := (outF ()).fst.Origin, Kind := (outF ()).fst.Kind, Nr := (outF ()).fst.Nr },
                                                                    { Dir := (a, ()).fst.Dir, Origin := (a, ()).fst.Origin, Kind := (a, ()).fst.Kind, Nr := (a, ()).fst.Nr }, ())).fst ≤
                                                              (0 : Int)) =
                                                          true →
                                                        ((outA ({ Dir := (a, ()).fst.Dir, Origin := (a, ()).fst.Origin, Kind := (a, ()).fst.Kind, Nr := (a, ()).fst.Nr }, ())).snd.fst ==
                                                                ((out19 ({ Dir := (a, ()).fst.Dir, Origin := (a, ()).fst.Origin, Kind := (a, ()).fst.Kind, Nr := (a, ()).fst.Nr }, ())).fst &&
                                                                  !((a, ()).fst.Dir == (outL ()).fst.Dir &&
                                                                      ((a, ()).fst.Origin == (outL ()).fst.Origin &&
                                                                        ((a, ()).fst.Kind == (outL ()).fst.Kind && (a, ()).fst.Nr == (outL ()).fst.Nr)))) &&
                                                              !!(out19 ({ Dir := (a, ()).fst.Dir, Origin := (a, ()).fst.Origin, Kind := (a, ()).fst.Kind, Nr := (a, ()).fst.Nr }, ())).fst &&
                                                            decide
                                                              ((outC
                                                                    ({ Dir := (outF ()).fst.Dir, Origin := (outF ()).fst.Origin, Kind := (outF ()).fst.Kind, Nr := (outF ()).fst.Nr },
                                                                      { Dir := (a, ()).fst.Dir, Origin := (a, ()).fst.Origin, Kind := (a, ()).fst.Kind, Nr := (a, ()).fst.Nr }, ())).fst ≤
                                                                (0 : Int))) =
                                                          true) ∧
                                                  Ok
                                                      (((outA ({ Dir := (a, ()).fst.Dir, Origin := (a, ()).fst.Origin, Kind := (a, ()).fst.Kind, Nr := (a, ()).fst.Nr }, ())).snd.fst ==
                                                            ((out19 ({ Dir := (a, ()).fst.Dir, Origin := (a, ()).fst.Origin, Kind := (a, ()).fst.Kind, Nr := (a, ()).fst.Nr }, ())).fst &&
                                                              !((a, ()).fst.Dir == (outL ()).fst.Dir &&
                                                                  ((a, ()).fst.Origin == (outL ()).fst.Origin && ((a, ()).fst.Kind == (outL ()).fst.Kind && (a, ()).fst.Nr == (outL ()).fst.Nr))))) =
                                                          true →
                                                        ((outA ({ Dir := (a, ()).fst.Dir, Origin := (a, ()).fst.Origin, Kind := (a, ()).fst.Kind, Nr := (a, ()).fst.Nr }, ())).snd.fst ==
                                                            ((out19 ({ Dir := (a, ()).fst.Dir, Origin := (a, ()).fst.Origin, Kind := (a, ()).fst.Kind, Nr := (a, ()).fst.Nr }, ())).fst &&
                                                              !((a, ()).fst.Dir == (outL ()).fst.Dir &&
                                                                  ((a, ()).fst.Origin == (outL ()).fst.Origin && ((a, ()).fst.Kind == (outL ()).fst.Kind && (a, ()).fst.Nr == (outL ()).fst.Nr))))) =
                                                          true) ∧
                                                    Ok
                                                        (((outA ({ Dir := (a, ()).fst.Dir, Origin := (a, ()).fst.Origin, Kind := (a, ()).fst.Kind, Nr := (a, ()).fst.Nr }, ())).snd.fst ==
                                                              ((out19 ({ Dir := (a, ()).fst.Dir, Origin := (a, ()).fst.Origin, Kind := (a, ()).fst.Kind, Nr := (a, ()).fst.Nr }, ())).fst &&
                                                                !((a, ()).fst.Dir == (outL ()).fst.Dir &&
                                                                    ((a, ()).fst.Origin == (outL ()).fst.Origin && ((a, ()).fst.Kind == (outL ()).fst.Kind && (a, ()).fst.Nr == (outL ()).fst.Nr))))) =
                                                            true →
                                                          (!(out19 ({ Dir := (a, ()).fst.Dir, Origin := (a, ()).fst.Origin, Kind := (a, ()).fst.Kind, Nr := (a, ()).fst.Nr }, ())).fst) = false →
                                                            ((outA ({ Dir := (a, ()).fst.Dir, Origin := (a, ()).fst.Origin, Kind := (a, ()).fst.Kind, Nr := (a, ()).fst.Nr }, ())).snd.fst ==
                                                                  ((out19 ({ Dir := (a, ()).fst.Dir, Origin := (a, ()).fst.Origin, Kind := (a, ()).fst.Kind, Nr := (a, ()).fst.Nr }, ())).fst &&
                                                                    !((a, ()).fst.Dir == (outL ()).fst.Dir &&
                                                                        ((a, ()).fst.Origin == (outL ()).fst.Origin &&
                                                                          ((a, ()).fst.Kind == (outL ()).fst.Kind && (a, ()).fst.Nr == (outL ()).fst.Nr)))) &&
                                                                !!(out19 ({ Dir := (a, ()).fst.Dir, Origin := (a, ()).fst.Origin, Kind := (a, ()).fst.Kind, Nr := (a, ()).fst.Nr }, ())).fst) =
                                                              true) ∧
                                                      Ok
                                                          (((outA ({ Dir := (a, ()).fst.Dir, Origin := (a, ()).fst.Origin, Kind := (a, ()).fst.Kind, Nr := (a, ()).fst.Nr }, ())).snd.fst ==
                                                                ((out19 ({ Dir := (a, ()).fst.Dir, Origin := (a, ()).fst.Origin, Kind := (a, ()).fst.Kind, Nr := (a, ()).fst.Nr }, ())).fst &&
                                                                  !((a, ()).fst.Dir == (outL ()).fst.Dir &&
                                                                      ((a, ()).fst.Origin == (outL ()).fst.Origin &&
                                                                        ((a, ()).fst.Kind == (outL ()).fst.Kind && (a, ()).fst.Nr == (outL ()).fst.Nr))))) =
                                                              true →
                                                            ((outA ({ Dir := (a, ()).fst.Dir, Origin := (a, ()).fst.Origin, Kind := (a, ()).fst.Kind, Nr := (a, ()).fst.Nr }, ())).snd.fst ==
                                                                ((out19 ({ Dir := (a, ()).fst.Dir, Origin := (a, ()).fst.Origin, Kind := (a, ()).fst.Kind, Nr := (a, ()).fst.Nr }, ())).fst &&
                                                                  !((a, ()).fst.Dir == (outL ()).fst.Dir &&
                                                                      ((a, ()).fst.Origin == (outL ()).fst.Origin &&
                                                                        ((a, ()).fst.Kind == (outL ()).fst.Kind && (a, ()).fst.Nr == (outL ()).fst.Nr))))) =
                                                              true) ∧
                                                        Ok
                                                          (((outA ({ Dir := (a, ()).fst.Dir, Origin := (a, ()).fst.Origin, Kind := (a, ()).fst.Kind, Nr := (a, ()).fst.Nr }, ())).snd.fst ==
                                                                  ((out19 ({ Dir := (a, ()).fst.Dir, Origin := (a, ()).fst.Origin, Kind := (a, ()).fst.Kind, Nr := (a, ()).fst.Nr }, ())).fst &&
                                                                    !((a, ()).fst.Dir == (outL ()).fst.Dir &&
                                                                        ((a, ()).fst.Origin == (outL ()).fst.Origin &&
                                                                          ((a, ()).fst.Kind == (outL ()).fst.Kind && (a, ()).fst.Nr == (outL ()).fst.Nr)))) &&
                                                                (!(out19 ({ Dir := (a, ()).fst.Dir, Origin := (a, ()).fst.Origin, Kind := (a, ()).fst.Kind, Nr := (a, ()).fst.Nr }, ())).fst ||
                                                                  decide
                                                                      ((outC
                                                                            ({ Dir := (outF ()).fst.Dir, Origin := (outF ()).fst.Origin, Kind := (outF ()).fst.Kind, Nr := (outF ()).fst.Nr },
                                                                              { Dir := (a, ()).fst.Dir, Origin := (a, ()).fst.Origin, Kind := (a, ()).fst.Kind, Nr := (a, ()).fst.Nr }, ())).fst ≤
                                                                        (0 : Int)) &&
                                                                    decide
                                                                      ((outC
                                                                            ({ Dir := (a, ()).fst.Dir, Origin := (a, ()).fst.Origin, Kind := (a, ()).fst.Kind, Nr := (a, ()).fst.Nr },
                                                                              { Dir := (outL ()).fst.Dir, Origin := (outL ()).fst.Origin, Kind := (outL ()).fst.Kind, Nr := (outL ()).fst.Nr },
                                                                              ())).fst ≤
                                                                        (0 : Int))),
                                                              ()) =
                                                            out7 (a, ()))) := by kernel_rfl

