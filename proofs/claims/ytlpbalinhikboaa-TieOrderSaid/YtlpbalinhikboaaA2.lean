/- A part of the walk of the tie laws. -/
import Derived.Test.YtlpbalinhikboaaA1
namespace Go.Proofs.Ytlpbalinhikboaa
open Go Go.X Go.Proofs

theorem Ok_iff {p : Prop} : Ok p ↔ p := ⟨fun h => h.out, fun h => ⟨h⟩⟩
theorem ok0 : EnvOk E0 := mkEnv_ok mixed tcS []

theorem p24 : PureOk Try.prog 24 [I] (fun _ => True) [B] out24 :=
  pure_of_exec ok0 (L := L0) (fuel := 20) Try.func24 (code := bodyOf Try.f24) (by kernel_rfl) (by kernel_rfl) (rvs := [.tmp 2]) (by kernel_rfl) rfl (by
    rintro ⟨a, ⟨⟩⟩ -
    refine (nf24 a).mpr ?_
    simp [Ok_iff, out24])

theorem p22 : PureOk Try.prog 22 [I, I] (fun _ => True) [I] out20 :=
  pure_of_exec ok0 (L := L0) (fuel := 20) Try.func22 (code := bodyOf Try.f22) (by kernel_rfl) (by kernel_rfl) (rvs := [.tmp 4]) (by kernel_rfl) rfl (by
    rintro ⟨a, b, ⟨⟩⟩ -
    refine (nf22 a b).mpr ?_
    simp only [cnd_iff, Ok_iff, out20, cmpI, decide_eq_true_eq, decide_eq_false_iff_not]
    refine ⟨fun h => by simp [h], fun h => ⟨fun h' => by simp [h, h'], fun h' => by simp [h, h']⟩⟩)

theorem p23 : PureOk Try.prog 23 [I, I] (fun _ => True) [B] out23 :=
  pure_of_exec ok0 (L := L0) (fuel := 20) Try.func23 (code := bodyOf Try.f23) (by kernel_rfl) (by kernel_rfl) (rvs := [.tmp 4]) (by kernel_rfl) rfl (by
    rintro ⟨a, b, ⟨⟩⟩ -
    refine (nf23 a b).mpr ?_
    simp [Ok_iff, out23, farI])

theorem p19 : PureOk Try.prog 19 [T] (fun _ => True) [B] out19 :=
  pure_of_exec ok0 (L := L0) (fuel := 20) Try.func19 (code := bodyOf Try.f19) (by kernel_rfl) (by kernel_rfl) (rvs := [.tmp 2]) (by kernel_rfl) rfl (by
    rintro ⟨x, ⟨⟩⟩ -
    refine (nf19 x).mpr ?_
    simp only [Ok_iff, out19, rightI, imp_self, true_and])

theorem p15 : PureOk Try.prog 15 [] (fun _ => True) [T] outF :=
  pure_of_exec ok0 (L := L0) (fuel := 20) Try.func15 (code := bodyOf Try.f15) (by kernel_rfl) (by kernel_rfl) (rvs := [.cell 0 23]) (by kernel_rfl) rfl (by
    rintro ⟨⟩ -
    refine nf15.mpr ?_
    simp [Ok_iff, outF, firstI])
theorem p16 : PureOk Try.prog 16 [] (fun _ => True) [T] outF :=
  pure_of_exec ok0 (L := L0) (fuel := 20) Try.func16 (code := bodyOf Try.f16) (by kernel_rfl) (by kernel_rfl) (rvs := [.cell 0 23]) (by kernel_rfl) rfl (by
    rintro ⟨⟩ -
    refine nf16.mpr ?_
    simp [Ok_iff, outF, firstI])
theorem p17 : PureOk Try.prog 17 [] (fun _ => True) [T] outL :=
  pure_of_exec ok0 (L := L0) (fuel := 20) Try.func17 (code := bodyOf Try.f17) (by kernel_rfl) (by kernel_rfl) (rvs := [.cell 0 23]) (by kernel_rfl) rfl (by
    rintro ⟨⟩ -
    refine nf17.mpr ?_
    simp [Ok_iff, outL, lastI])
theorem p18 : PureOk Try.prog 18 [] (fun _ => True) [T] outL :=
  pure_of_exec ok0 (L := L0) (fuel := 20) Try.func18 (code := bodyOf Try.f18) (by kernel_rfl) (by kernel_rfl) (rvs := [.cell 0 23]) (by kernel_rfl) rfl (by
    rintro ⟨⟩ -
    refine nf18.mpr ?_
    simp [Ok_iff, outL, lastI])

noncomputable def E1 : Env := mkEnv Try.prog tcS [.pure p24 Try.call24, .pure p22 Try.call22, .pure p23 Try.call23, .pure p19 Try.call19, .pure p15 Try.call15, .pure p16 Try.call16, .pure p17 Try.call17, .pure p18 Try.call18]
theorem ok1 : EnvOk E1 := mkEnv_ok mixed tcS _

/-- The reference's Compare. -/
def cmpId (a b : TieId) : Int := if a.Dir ≠ b.Dir then cmpI a.Dir b.Dir else if a.Origin ≠ b.Origin then cmpI a.Origin b.Origin else if a.Kind ≠ b.Kind then cmpI a.Kind b.Kind else cmpI a.Nr b.Nr
def outC (d : Dat [T, T]) : Dat [I] := (cmpId d.1 d.2.1, ())
def newI (a b : Head) : Int := if a.Seq ≠ b.Seq then cmpI a.Seq b.Seq else if farI a.Life b.Life then 1 else if farI b.Life a.Life then -1 else 0
def outN (d : Dat [Hd, Hd]) : Dat [I] := (newI d.1 d.2.1, ())
def zeroI : TieId := ⟨0, 0, 0, 0⟩
def afterI (x : TieId) : TieId × Bool :=
  if rightI x then
    if x.Nr < 65535 then ({ x with Nr := x.Nr + 1 }, true)
    else if x.Kind < 4 then ({ x with Nr := 0, Kind := x.Kind + 1 }, true)
    else if x.Origin < 1000 then ({ x with Nr := 0, Kind := 1, Origin := x.Origin + 1 }, true)
    else if x.Dir < 2 then ({ Nr := 0, Kind := 1, Origin := 1, Dir := x.Dir + 1 }, true)
    else (zeroI, false)
  else (zeroI, false)
def outA (d : Dat [T]) : Dat [T, B] := ((afterI d.1).1, (afterI d.1).2, ())
end Go.Proofs.Ytlpbalinhikboaa
