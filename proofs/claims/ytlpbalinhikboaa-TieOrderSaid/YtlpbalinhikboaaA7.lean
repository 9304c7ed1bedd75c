/- A part of the walk of the tie laws. -/
import Derived.Test.YtlpbalinhikboaaA6
namespace Go.Proofs.Ytlpbalinhikboaa
open Go Go.X Go.Proofs
set_option maxRecDepth 100000

theorem nf12 (a b : TieId) : exec E3 L0 20 (bodyOf Try.f12) (startT 23 (avs [T, T] (a, b, ()))) [] (retK E3.P [.tmp 4] [I] (outC (a, b, ()))) = (
Ok (rpre ([(a, b, ()).fst.Dir, (a, b, ()).snd.fst.Dir, (a, b, ()).fst.Origin, (a, b, ()).snd.fst.Origin, (a, b, ()).fst.Kind, (a, b, ()).snd.fst.Kind, (a, b, ()).fst.Nr, (a, b, ()).snd.fst.Nr], ())) ∧
  Ok
    (((out21
            ([(a, b, ()).fst.Dir, (a, b, ()).snd.fst.Dir, (a, b, ()).fst.Origin, (a, b, ()).snd.fst.Origin, (a, b, ()).fst.Kind, (a, b, ()).snd.fst.Kind, (a, b, ()).fst.Nr, (a, b, ()).snd.fst.Nr],
              ())).fst,
        ()) =
      outC (a, b, ()))) := by kernel_rfl

theorem nf9 (a b : Head) : exec E3 L0 20 (bodyOf Try.f9) (startT 32 (avs [Hd, Hd] (a, b, ()))) [] (retK E3.P [.tmp 4] [I] (outN (a, b, ()))) = (
Ok True ∧
  cnd
    (decide
      (IntKind.u64.wrap
          (IntKind.u64.wrap
              (if true = true then if (a, b, ()).snd.fst.Life > (a, b, ()).fst.Life then (a, b, ()).snd.fst.Life else (a, b, ()).fst.Life
              else if (a, b, ()).snd.fst.Life < (a, b, ()).fst.Life then (a, b, ()).snd.fst.Life else (a, b, ()).fst.Life) -
            IntKind.u64.wrap
              (if false = true then if (a, b, ()).snd.fst.Life > (a, b, ()).fst.Life then (a, b, ()).snd.fst.Life else (a, b, ()).fst.Life
              else if (a, b, ()).snd.fst.Life < (a, b, ()).fst.Life then (a, b, ()).snd.fst.Life else (a, b, ()).fst.Life)) ≤
        (300 : Int)))
    (Ok (rpre ([(a, b, ()).fst.Seq, (a, b, ()).snd.fst.Seq, (0 : Int), (0 : Int)], ())) ∧
      Ok (((out21 ([(a, b, ()).fst.Seq, (a, b, ()).snd.fst.Seq, (0 : Int), (0 : Int)], ())).fst, ()) = outN (a, b, ())))
    (Ok (rpre ([(a, b, ()).fst.Seq, (a, b, ()).snd.fst.Seq, (out20 ((a, b, ()).fst.Life, (a, b, ()).snd.fst.Life, ())).fst, (0 : Int)], ())) ∧
      Ok (((out21 ([(a, b, ()).fst.Seq, (a, b, ()).snd.fst.Seq, (out20 ((a, b, ()).fst.Life, (a, b, ()).snd.fst.Life, ())).fst, (0 : Int)], ())).fst, ()) = outN (a, b, ())))) := by kernel_rfl

