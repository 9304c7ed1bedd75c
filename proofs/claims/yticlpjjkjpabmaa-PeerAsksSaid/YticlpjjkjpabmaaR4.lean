/- Parts of the walks: R4 -/
import Derived.Test.YticlpjjkjpabmaaX37
import Derived.Test.YticlpjjkjpabmaaRows

namespace Go.Proofs.Yticlpjjkjpabmaa
open Go Go.X Go.Proofs Go.ChangeShapes Go.WideShapes Go.ChangeAt Go.RowKit

set_option maxRecDepth 100000

theorem Try.own : ownKnob Try.prog.godebug = none := by kernel_rfl
theorem Try.laidOut : laidOutB Try.prog = true := by kernel_rfl

section
variable {H : Type} {enc : TypeId × Value → H} {W : World} {sp : Nat → Bool} {held : Bool}
theorem lv38 : leaves Try.prog 8 38 = some [.int .i64, .int .i64, .int .i64, .int .i64, .int .i64, .int .i64] := by kernel_rfl
theorem lv29 : leaves Try.prog 8 29 = some [.int .i64, .int .i64, .int .i64, .int .i64] := by kernel_rfl

theorem agg_of {t : TypeId} {fs : Array Field} (ht : Try.prog.underlying t = some (.struct fs)) {v : Value} (hv : Value.okWide Try.prog W .any 0 t v) : ∃ cs : Array Value, v = .agg cs := by
  obtain ⟨cs, h, _⟩ := okWide_struct ht hv
  exact ⟨cs, h⟩

theorem head_of (l : List Value) (hk : leavesOk enc Try.prog W 0 sp held [.int .i64, .int .i64, .int .i64, .int .i64, .int .i64, .int .i64] l) (cs : Array Value) (hl : cs.toList = l) :
    ∃ x : Head, ∀ κ Im w, AV.rel κ Im w (AT.av Hd x) (.agg cs) := by
  rcases l with _ | ⟨va, l⟩
  · exact hk.elim
  obtain ⟨⟨a, ea, _⟩, hk⟩ := hk
  rcases l with _ | ⟨vb, l⟩
  · exact hk.elim
  obtain ⟨⟨b, eb, _⟩, hk⟩ := hk
  rcases l with _ | ⟨vc, l⟩
  · exact hk.elim
  obtain ⟨⟨c, ec, _⟩, hk⟩ := hk
  rcases l with _ | ⟨vd, l⟩
  · exact hk.elim
  obtain ⟨⟨d, ed, _⟩, hk⟩ := hk
  rcases l with _ | ⟨ve, l⟩
  · exact hk.elim
  obtain ⟨⟨e, ee, _⟩, hk⟩ := hk
  rcases l with _ | ⟨vf, l⟩
  · exact hk.elim
  obtain ⟨⟨f, ef, _⟩, hk⟩ := hk
  rcases l with _ | ⟨_, _⟩
  · refine ⟨⟨⟨a, b, c, d⟩, e, f⟩, fun κ Im w => ?_⟩
    show AV.rel κ Im w (.agg [i64 a, i64 b, i64 c, i64 d, i64 e, i64 f]) _
    simp only [AV.rel]
    exact ⟨cs, rfl, by rw [hl, ea, eb, ec, ed, ee, ef]; simp [AV.rels, AV.rel]⟩
  · exact hk.elim

theorem head_in {v : Value} {d : DataW H} {p : List MemPlace} (hv : ∃ cs : Array Value, v = .agg cs) (h : DataW.Trod enc Try.prog W 0 sp held 38 v d p) : ∃ x : Head, ∀ κ Im w, AV.rel κ Im w (AT.av Hd x) v := by
  obtain ⟨cs, rfl⟩ := hv
  obtain ⟨fuel, h⟩ := h
  have h' : DataW.trod enc Try.prog W 0 sp held fuel 38 cs.toList = some (d, p) := h
  clear h
  have hk := leaves_ok 8 38 _ fuel _ _ lv38 h'
  clear h'
  generalize hl : cs.toList = l at hk
  exact head_of l hk cs hl
end

theorem below_of {w w' : World} (h : Turn none w w') : Below w.heap.size w w' := ⟨h.os, h.tape, h.output.1, h.size, fun b hb => h.block b hb (by simp)⟩


section
variable {H : Type} {enc : TypeId × Value → H} {W : World} {sp : Nat → Bool} {held : Bool}
theorem lv30 : leaves Try.prog 8 30 = some [.sl 38] := by kernel_rfl
theorem heads_in {v : Value} {d : DataW H} {p : List MemPlace} (hv : v.cells.toList = [v]) (h : DataW.Trod enc Try.prog W 0 sp held 30 v d p) : ∃ xs : List Head, ∀ κ, AV.rel κ (fun b => b < W.heap.size) W (AT.av (.sl .head) xs) v := by
  obtain ⟨fuel, h⟩ := h
  have h' : DataW.trod enc Try.prog W 0 sp held fuel 30 v.cells.toList = some (d, p) := h
  have hk := leaves_ok 8 30 _ fuel _ _ lv30 h'
  rw [hv] at hk
  exact sl_rel (c := .head) (by decide) (by kernel_rfl) hk.1 fun cs fuel y hy => by
    have hk := leaves_ok 8 38 _ fuel _ _ lv38 hy
    obtain ⟨x, hx⟩ := head_of cs hk cs.toArray (by simp)
    refine ⟨x, fun κ Im w => ?_⟩
    have := hx κ Im w
    simp only [AT.av, TC.av, TC.isAgg, if_true, AV.rel] at this
    obtain ⟨ys, e, hr⟩ := this
    cases e
    simpa using hr
end

def zHd : Value := .agg #[.int .i64 0, .int .i64 0, .int .i64 0, .int .i64 0, .int .i64 0, .int .i64 0]
set_option maxRecDepth 100000 in
theorem asks_lifted (os : Os) (started : os.Started) (H : Type) (enc : TypeId × Value → H) :
    ReturnsInHanded {} Try.checked os 4 .any (Rows.peerAsksSpec.pre6 enc Try.prog Try.f4 Rows.peerAsksRow.domain false) (Rows.peerAsksSpec.post enc Try.prog Try.f4 false true false false) := by
  refine returnsInHanded_of_change (C := Try.checked) Try.own started (by kernel_rfl) Try.func4
    (ChangeSpec.witness6 (enc := enc) (C := Try.checked) false ⟨#[], #[.slice none 0 0, zHd], []⟩ 8 (by kernel_rfl) (by kernel_rfl) (by kernel_rfl) (by kernel_rfl)) ?_
  intro W base args ds gs before hval0 hW hcnd _
  have hval : ∀ (j : Nat) t v, Try.f4.params[j]? = some t → args[j]? = some v → Value.okWide Try.prog W .any base t v := hval0
  have hW' := hW
  obtain ⟨p, q, hA0, hV, rfl, hfz, hnd⟩ := hW
  have hA : DataW.TrodAll enc Try.prog W 0 (fun _ => true) true Try.f4.params.toList args.toList ds p := hA0
  rw [Try.params4] at hA hval
  obtain ⟨v0, v1, d0, d1, p0, p1, rfl, rfl, rfl, h0, h1⟩ := trodAll_two hA
  obtain ⟨rfl, rfl⟩ := trodVars_none hV
  have hc0 : v0.cells.toList = [v0] := by
    obtain ⟨a, len, cap, e⟩ := okWide_slice Try.underlying30 (hval 0 30 v0 rfl rfl)
    rw [e]; rfl
  obtain ⟨c1, e1, _⟩ := okWide_struct Try.underlying38 (hval 1 38 v1 rfl rfl)
  obtain ⟨xs, hx⟩ := heads_in hc0 h0
  obtain ⟨y, hy⟩ := head_in ⟨c1, e1⟩ h1
  refine (p4 (fun b => b < W.heap.size) W #[v0, v1] (xs, y, ()) (fun _ h => h) (by simp only [avs, AV.rels]; exact ⟨v0, [v1], rfl, hx _, v1, [], rfl, hy _ _ _, rfl⟩) trivial).mono ?_
  rintro e W' ⟨v, Im', rfl, ht, _, _, hr⟩
  have hvt : v = .bool true := by simpa [resAV, AT.av, TC.av, TC.isAgg, TC.enc, AV.rel] using hr
  subst hvt
  exact ⟨_, rfl, law_post Try.laidOut hW' rfl (below_of ht) (by rw [Try.params4]; intro t ht; simp at ht; rcases ht with rfl | rfl <;> exact ⟨by kernel_rfl, of_decide_eq_true (by kernel_rfl)⟩) (t := 4) (by kernel_rfl) Try.underlying4 rfl⟩

theorem peerAsks : Rows.PeerAsksSaid :=
  OpenClaim.holds_of_wide 4 Try.f4 rfl rfl rfl rfl rfl rfl rfl ⟨rfl, rfl, rfl, rfl, rfl⟩ rfl rfl rfl rfl rfl (by kernel_rfl) Try.func4 (by kernel_rfl)
    (of_decide_eq_true (by kernel_rfl)) (by unfold Func.isWrapper; first | (rw [if_pos (by decide +kernel)]; kernel_rfl) | (rw [if_neg (by decide +kernel)]; exact ⟨rfl, rfl⟩))
    (fun os started H enc _ => asks_lifted os started H enc)
#print axioms peerAsks
end Go.Proofs.Yticlpjjkjpabmaa

