/- selvagelaw11.TieNewer: whatever the two heads, the law gives true, and the input reads as it did. No conditions. -/
import Derived.Test.YtlpbalinhikboaaA13
import Derived.Test.YtlpbalinhikboaaX26
import Derived.Test.YtlpbalinhikboaaRows
namespace Go.Proofs.Ytlpbalinhikboaa
open Go Go.X Go.Proofs Go.ChangeShapes Go.WideShapes Go.ChangeAt Go.RowKit

theorem Try.own : ownKnob Try.prog.godebug = none := by kernel_rfl
theorem Try.laidOut : laidOutB Try.prog = true := by kernel_rfl

section
variable {H : Type} {enc : TypeId × Value → H} {W : World} {sp : Nat → Bool} {held : Bool}
theorem lv25 : leaves Try.prog 8 25 = some [.int .i64, .int .i64, .int .i64, .int .i64, .int .i64, .int .i64] := by kernel_rfl
theorem lv23 : leaves Try.prog 8 23 = some [.int .i64, .int .i64, .int .i64, .int .i64] := by kernel_rfl

theorem agg_of {t : TypeId} {fs : Array Field} (ht : Try.prog.underlying t = some (.struct fs)) {v : Value} (hv : Value.okWide Try.prog W .any 0 t v) : ∃ cs : Array Value, v = .agg cs := by
  obtain ⟨cs, h, _⟩ := okWide_struct ht hv
  exact ⟨cs, h⟩

theorem head_of (l : List Value) (hk : leavesOk enc Try.prog W 0 sp held [.int .i64, .int .i64, .int .i64, .int .i64, .int .i64, .int .i64] l) (cs : Array Value) (hl : cs.toList = l) :
    ∃ x : Head, ∀ κ Im w, AV.rel κ Im w (AT.av Hd x) (.agg cs) := by
  rcases l with _ | ⟨va, l⟩
  · exact hk.elim
  obtain ⟨⟨a, ea, _⟩, hk⟩ := hk
  rcases l with _ | ⟨vb, l⟩
  · exact hk.elim
  obtain ⟨⟨b, eb, _⟩, hk⟩ := hk
  rcases l with _ | ⟨vc, l⟩
  · exact hk.elim
  obtain ⟨⟨c, ec, _⟩, hk⟩ := hk
  rcases l with _ | ⟨vd, l⟩
  · exact hk.elim
  obtain ⟨⟨d, ed, _⟩, hk⟩ := hk
  rcases l with _ | ⟨ve, l⟩
  · exact hk.elim
  obtain ⟨⟨e, ee, _⟩, hk⟩ := hk
  rcases l with _ | ⟨vf, l⟩
  · exact hk.elim
  obtain ⟨⟨f, ef, _⟩, hk⟩ := hk
  rcases l with _ | ⟨_, _⟩
  · refine ⟨⟨⟨a, b, c, d⟩, e, f⟩, fun κ Im w => ?_⟩
    show AV.rel κ Im w (.agg [i64 a, i64 b, i64 c, i64 d, i64 e, i64 f]) _
    simp only [AV.rel]
    exact ⟨cs, rfl, by rw [hl, ea, eb, ec, ed, ee, ef]; simp [AV.rels, AV.rel]⟩
  · exact hk.elim

theorem head_in {v : Value} {d : DataW H} {p : List MemPlace} (hv : ∃ cs : Array Value, v = .agg cs) (h : DataW.Trod enc Try.prog W 0 sp held 25 v d p) : ∃ x : Head, ∀ κ Im w, AV.rel κ Im w (AT.av Hd x) v := by
  obtain ⟨cs, rfl⟩ := hv
  obtain ⟨fuel, h⟩ := h
  have h' : DataW.trod enc Try.prog W 0 sp held fuel 25 cs.toList = some (d, p) := h
  clear h
  have hk := leaves_ok 8 25 _ fuel _ _ lv25 h'
  clear h'
  generalize hl : cs.toList = l at hk
  exact head_of l hk cs hl
end

theorem below_of {w w' : World} (h : Turn none w w') : Below w.heap.size w w' := ⟨h.os, h.tape, h.output, h.size, fun b hb => h.block b hb (by simp)⟩

set_option maxRecDepth 100000 in
theorem newer_lifted (os : Os) (started : os.Started) (H : Type) (enc : TypeId × Value → H) :
    ReturnsInHanded {} Try.checked os 3 .any (Rows.tieNewerSpec.pre6 enc Try.prog Try.f3 Rows.tieNewerRow.domain false) (Rows.tieNewerSpec.post enc Try.prog Try.f3 false true false false) := by
  refine returnsInHanded_of_change (C := Try.checked) Try.own started (by kernel_rfl) Try.func3
    (ChangeSpec.witness6 (enc := enc) (C := Try.checked) false ⟨#[], #[.agg #[.int .i64 0, .int .i64 0, .int .i64 0, .int .i64 0, .int .i64 0, .int .i64 0], .agg #[.int .i64 0, .int .i64 0, .int .i64 0, .int .i64 0, .int .i64 0, .int .i64 0]], []⟩ 8 (by kernel_rfl) (by kernel_rfl) (by kernel_rfl) (by kernel_rfl)) ?_
  intro W base args ds gs before hval0 hW hcnd _
  have hval : ∀ (j : Nat) t v, Try.f3.params[j]? = some t → args[j]? = some v → Value.okWide Try.prog W .any base t v := hval0
  have hW' := hW
  obtain ⟨p, q, hA0, hV, rfl, hfz, hnd⟩ := hW
  have hA : DataW.TrodAll enc Try.prog W 0 (fun _ => true) true Try.f3.params.toList args.toList ds p := hA0
  rw [Try.params3] at hA hval
  obtain ⟨v0, v1, d0, d1, p0, p1, rfl, rfl, rfl, h0, h1⟩ := trodAll_two hA
  obtain ⟨rfl, rfl⟩ := trodVars_none hV
  obtain ⟨c0, e0, _⟩ := okWide_struct Try.underlying25 (hval 0 25 v0 rfl rfl)
  obtain ⟨c1, e1, _⟩ := okWide_struct Try.underlying25 (hval 1 25 v1 rfl rfl)
  obtain ⟨x, hx⟩ := head_in ⟨c0, e0⟩ h0
  obtain ⟨y, hy⟩ := head_in ⟨c1, e1⟩ h1
  refine (p3 (fun b => b < W.heap.size) W #[v0, v1] (x, y, ()) (fun _ h => h) (by simp only [avs, AV.rels]; exact ⟨v0, [v1], rfl, hx _ _ _, v1, [], rfl, hy _ _ _, rfl⟩) trivial).mono ?_
  rintro e W' ⟨v, Im', rfl, ht, _, _, hr⟩
  have hvt : v = .bool true := by simpa [resAV, out3, AT.av, TC.av, TC.isAgg, TC.enc, AV.rel] using hr
  subst hvt
  exact ⟨_, rfl, law_post Try.laidOut hW' rfl (below_of ht) (by rw [Try.params3]; intro t ht; simp at ht; subst ht; exact ⟨by kernel_rfl, of_decide_eq_true (by kernel_rfl)⟩) (t := 4) (by kernel_rfl) Try.underlying4 rfl⟩

theorem tieNewer : Rows.TieNewerSaid :=
  OpenClaim.holds_of_wide 3 Try.f3 rfl rfl rfl rfl rfl rfl rfl ⟨rfl, rfl, rfl, rfl, rfl⟩ rfl rfl rfl rfl rfl (by kernel_rfl) Try.func3 (by kernel_rfl)
    (of_decide_eq_true (by kernel_rfl)) (by unfold Func.isWrapper; first | (rw [if_pos (by decide +kernel)]; kernel_rfl) | (rw [if_neg (by decide +kernel)]; exact ⟨rfl, rfl⟩))
    (fun os started H enc _ => newer_lifted os started H enc)
#print axioms tieNewer
end Go.Proofs.Ytlpbalinhikboaa
