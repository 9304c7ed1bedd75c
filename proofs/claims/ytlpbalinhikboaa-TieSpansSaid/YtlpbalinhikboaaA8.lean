/- A part of the walk of the tie laws. -/
import Derived.Test.YtlpbalinhikboaaA7
namespace Go.Proofs.Ytlpbalinhikboaa
open Go Go.X Go.Proofs
set_option maxRecDepth 100000

theorem h2_12 (a b : TieId) : (((out21 ([(a, b, ()).fst.Dir, (a, b, ()).snd.fst.Dir, (a, b, ()).fst.Origin, (a, b, ()).snd.fst.Origin, (a, b, ()).fst.Kind, (a, b, ()).snd.fst.Kind, (a, b, ()).fst.Nr, (a, b, ()).snd.fst.Nr], ())).fst, ()) : Dat [I]) = outC (a, b, ()) := by
  simp only [out21]; rw [rise_cmp]; rfl
theorem h1_12 (a b : TieId) : rpre ([(a, b, ()).fst.Dir, (a, b, ()).snd.fst.Dir, (a, b, ()).fst.Origin, (a, b, ()).snd.fst.Origin, (a, b, ()).fst.Kind, (a, b, ()).snd.fst.Kind, (a, b, ()).fst.Nr, (a, b, ()).snd.fst.Nr], ()) := Or.inr rfl
theorem k12 (a b : TieId) : (Ok (rpre ([(a, b, ()).fst.Dir, (a, b, ()).snd.fst.Dir, (a, b, ()).fst.Origin, (a, b, ()).snd.fst.Origin, (a, b, ()).fst.Kind, (a, b, ()).snd.fst.Kind, (a, b, ()).fst.Nr, (a, b, ()).snd.fst.Nr], ())) ∧
  Ok
    (((out21
            ([(a, b, ()).fst.Dir, (a, b, ()).snd.fst.Dir, (a, b, ()).fst.Origin, (a, b, ()).snd.fst.Origin, (a, b, ()).fst.Kind, (a, b, ()).snd.fst.Kind, (a, b, ()).fst.Nr, (a, b, ()).snd.fst.Nr],
              ())).fst,
        ()) =
      outC (a, b, ()))) := And.intro (Ok.mk (h1_12 a b)) (Ok.mk (h2_12 a b))
theorem p12 : PureOk Try.prog 12 [T, T] (fun _ => True) [I] outC := by
  refine pure_of_exec (E := E3) ok3 (L := L0) (fuel := 20) (n := 23) Try.func12 (code := bodyOf Try.f12) (by kernel_rfl) (by kernel_rfl) (rvs := [.tmp 4]) (by kernel_rfl) rfl ?_
  rintro ⟨a, b, ⟨⟩⟩ -
  rw [show exec E3 L0 20 (bodyOf Try.f12) (startT 23 (avs [T, T] (a, b, PUnit.unit))) [] (retK E3.P [.tmp 4] [I] (outC (a, b, PUnit.unit))) = _ from nf12 a b]
  exact k12 a b

theorem cmpI_zero (x y : Int) : cmpI x y = 0 ↔ x = y := by unfold cmpI; split <;> (try split) <;> omega
theorem cmpI_cmpI (x y : Int) : cmpI (cmpI x y) 0 = cmpI x y := by
  unfold cmpI
  by_cases h : x < y
  · simp [h]
  · by_cases h' : y < x
    · simp [h, h']
    · simp [h, h']

theorem p9 : PureOk Try.prog 9 [Hd, Hd] (fun _ => True) [I] outN := by
    refine pure_of_exec (E := E3) ok3 (L := L0) (fuel := 20) (n := 32) Try.func9 (code := bodyOf Try.f9) (by kernel_rfl) (by kernel_rfl) (rvs := [.tmp 4]) (by kernel_rfl) rfl ?_
    rintro ⟨a, b, ⟨⟩⟩ -
    refine cast (nf9 a b).symm ?_
    refine And.intro (Ok.mk trivial) ?_
    rw [cnd_iff]
    simp only [Ok_iff, decide_eq_true_eq, decide_eq_false_iff_not, Bool.false_eq_true, if_true, if_false]
    have hm : ∀ n, rise [a.Seq, b.Seq, n, 0] = if a.Seq ≠ b.Seq then cmpI a.Seq b.Seq else cmpI n 0 := by
      intro n
      rw [rise_cons, rise_cons, show rise [] = 0 from rfl]
      simp only [ne_eq, cmpI_zero]
      by_cases h : a.Seq = b.Seq
      · by_cases h' : n = 0
        · simp only [h, h', not_true, if_false]; exact ((cmpI_zero _ _).2 rfl).symm
        · simp only [h, h', not_true, not_false_iff, if_false, if_true]
      · simp only [h, not_false_iff, if_true]
    simp only [out21, out20, outN, newI, hm, cmpI_cmpI]
    refine ⟨fun h => ⟨.inl rfl, ?_⟩, fun h => ⟨.inl rfl, ?_⟩⟩
    · by_cases hs : a.Seq = b.Seq
      · simp only [hs, ne_eq, not_true, if_false]
        have f1 : farI a.Life b.Life = false := by
          unfold farI
          rw [Bool.and_eq_false_iff]
          by_cases hab : a.Life > b.Life
          · have hba : ¬ b.Life > a.Life := by omega
            have hba' : b.Life < a.Life := hab
            simp only [hba, hba', if_true, if_false] at h
            exact .inr (by simpa using h)
          · exact .inl (by simpa using hab)
        have f2 : farI b.Life a.Life = false := by
          unfold farI
          rw [Bool.and_eq_false_iff]
          by_cases hab : b.Life > a.Life
          · have hba : ¬ b.Life < a.Life := by omega
            simp only [hba, hab, if_true, if_false] at h
            exact .inr (by simpa using h)
          · exact .inl (by simpa using hab)
        simp [f1, f2, cmpI]
      · simp only [hs, ne_eq, not_false_iff, if_true]
    · by_cases hs : a.Seq = b.Seq
      · simp only [hs, ne_eq, not_true, if_false]
        by_cases hab : a.Life > b.Life
        · have hba : ¬ b.Life > a.Life := by omega
          have hba' : b.Life < a.Life := hab
          simp only [hba, hba', if_true, if_false] at h
          have f1 : farI a.Life b.Life = true := by
            unfold farI; rw [Bool.and_eq_true]; exact ⟨by simpa using hab, by simpa using h⟩
          simp only [f1, if_true]
          simp [cmpI, hab, show ¬ a.Life < b.Life from by omega]
        · by_cases hba : b.Life > a.Life
          · have hba' : ¬ b.Life < a.Life := by omega
            simp only [hba, hba', if_true, if_false] at h
            have f1 : farI a.Life b.Life = false := by
              unfold farI; rw [Bool.and_eq_false_iff]; exact .inl (by simpa using hab)
            have f2 : farI b.Life a.Life = true := by
              unfold farI; rw [Bool.and_eq_true]; exact ⟨by simpa using hba, by simpa using h⟩
            simp only [f1, f2, if_true, Bool.false_eq_true, if_false]
            simp [cmpI, show a.Life < b.Life from hba]
          · exfalso
            have e : a.Life = b.Life := by omega
            apply h
            simp [e, IntKind.wrap, IntKind.signed]
      · simp only [hs, ne_eq, not_false_iff, if_true]

noncomputable def E4 : Env := mkEnv Try.prog tcS [.pure p23 Try.call23, .pure p19 Try.call19, .pure p15 Try.call15, .pure p16 Try.call16, .pure p17 Try.call17, .pure p18 Try.call18,
  .pure p13 Try.call13, .pure p14 Try.call14, .pure p11 Try.call11, .pure p10 Try.call10, .pure p12 Try.call12, .pure p9 Try.call9]
theorem ok4 : EnvOk E4 := mkEnv_ok mixed tcS _
def out8 (_ : Dat []) : Dat [B] := (true, ())
end Go.Proofs.Ytlpbalinhikboaa
