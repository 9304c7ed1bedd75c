/- A part of the walk of the tie laws. -/
import Derived.Test.YtlpbalinhikboaaA9
namespace Go.Proofs.Ytlpbalinhikboaa
open Go Go.X Go.Proofs

theorem k8 : afterI ⟨1, 1, 1, 65535⟩ = (⟨1, 1, 2, 0⟩, true) := by decide
theorem p8 : PureOk Try.prog 8 [] (fun _ => True) [B] out8 := by
  refine pure_of_exec (E := E4) ok4 (L := L0) (fuel := 20) (n := 20) Try.func8 (code := bodyOf Try.f8) (by kernel_rfl) (by kernel_rfl) (rvs := [.tmp 0]) (by kernel_rfl) rfl ?_
  rintro ⟨⟩ -
  rw [show exec E4 L0 20 (bodyOf Try.f8) (startT 20 (avs [] PUnit.unit)) [] (retK E4.P [.tmp 0] [B] (out8 PUnit.unit)) = _ from nf8]
  simp only [Ok_iff, imp_self, true_and]
  have hn : newI ⟨⟨0, 0, 0, 0⟩, 2, 0⟩ ⟨⟨0, 0, 0, 0⟩, 1, 0⟩ = 1 := by decide
  simp [outA, outN, k8, hn, out8]

noncomputable def E5 : Env := mkEnv Try.prog tcS [.pure p23 Try.call23, .pure p19 Try.call19, .pure p15 Try.call15, .pure p16 Try.call16, .pure p17 Try.call17, .pure p18 Try.call18,
  .pure p13 Try.call13, .pure p14 Try.call14, .pure p11 Try.call11, .pure p10 Try.call10, .pure p12 Try.call12, .pure p9 Try.call9, .pure p8 Try.call8]
theorem ok5 : EnvOk E5 := mkEnv_ok mixed tcS _
def out3 (_ : Dat [Hd, Hd]) : Dat [B] := (true, ())
def out5 (_ : Dat [T, T, T]) : Dat [B] := (true, ())
def out6 (_ : Dat [T, T]) : Dat [B] := (true, ())
def out7 (_ : Dat [T]) : Dat [B] := (true, ())
end Go.Proofs.Ytlpbalinhikboaa
