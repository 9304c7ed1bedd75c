/- selvagelaw11.TieOrder: whatever the three ids, the law gives true, and the input reads as it did. No conditions. -/
import Derived.Test.YtlpbalinhikboaaA15
namespace Go.Proofs.Ytlpbalinhikboaa
open Go Go.X Go.Proofs Go.ChangeShapes Go.WideShapes Go.ChangeAt Go.RowKit

set_option maxRecDepth 100000 in
theorem order_lifted (os : Os) (started : os.Started) (H : Type) (enc : TypeId × Value → H) :
    ReturnsInHanded {} Try.checked os 5 .any (Rows.tieOrderSpec.pre6 enc Try.prog Try.f5 Rows.tieOrderRow.domain false) (Rows.tieOrderSpec.post enc Try.prog Try.f5 false true false false) := by
  refine returnsInHanded_of_change (C := Try.checked) Try.own started (by kernel_rfl) Try.func5
    (ChangeSpec.witness6 (enc := enc) (C := Try.checked) false ⟨#[], #[z23, z23, z23], []⟩ 8 (by kernel_rfl) (by kernel_rfl) (by kernel_rfl) (by kernel_rfl)) ?_
  intro W base args ds gs before hval0 hW hcnd _
  have hval : ∀ (j : Nat) t v, Try.f5.params[j]? = some t → args[j]? = some v → Value.okWide Try.prog W .any base t v := hval0
  have hW' := hW
  obtain ⟨p, q, hA0, hV, rfl, hfz, hnd⟩ := hW
  have hA : DataW.TrodAll enc Try.prog W 0 (fun _ => true) true Try.f5.params.toList args.toList ds p := hA0
  rw [Try.params5] at hA hval
  obtain ⟨v0, v1, v2, d0, d1, d2, p0, p1, p2, rfl, rfl, rfl, h0, h1, h2⟩ := trodAll_three hA
  obtain ⟨rfl, rfl⟩ := trodVars_none hV
  obtain ⟨c0, e0, _⟩ := okWide_struct Try.underlying23 (hval 0 23 v0 rfl rfl)
  obtain ⟨c1, e1, _⟩ := okWide_struct Try.underlying23 (hval 1 23 v1 rfl rfl)
  obtain ⟨c2, e2, _⟩ := okWide_struct Try.underlying23 (hval 2 23 v2 rfl rfl)
  obtain ⟨x, hx0⟩ := id_in ⟨c0, e0⟩ h0
  obtain ⟨y, hx1⟩ := id_in ⟨c1, e1⟩ h1
  obtain ⟨z, hx2⟩ := id_in ⟨c2, e2⟩ h2
  refine (p5 (fun b => b < W.heap.size) W #[v0, v1, v2] (x, y, z, ()) (fun _ h => h) (by simp only [avs, AV.rels]; exact ⟨v0, [v1, v2], rfl, hx0 _ _ _, v1, [v2], rfl, hx1 _ _ _, v2, [], rfl, hx2 _ _ _, rfl⟩) trivial).mono ?_
  rintro e W' ⟨v, Im', rfl, ht, _, _, hr⟩
  have hvt : v = .bool true := by simpa [resAV, out5, AT.av, TC.av, TC.isAgg, TC.enc, AV.rel] using hr
  subst hvt
  exact ⟨_, rfl, law_post Try.laidOut hW' rfl (below_of ht) (by rw [Try.params5]; intro t ht; simp at ht; subst ht; exact ⟨by kernel_rfl, of_decide_eq_true (by kernel_rfl)⟩) (t := 4) (by kernel_rfl) Try.underlying4 rfl⟩

theorem tieOrder : Rows.TieOrderSaid :=
  OpenClaim.holds_of_wide 5 Try.f5 rfl rfl rfl rfl rfl rfl rfl ⟨rfl, rfl, rfl, rfl, rfl⟩ rfl rfl rfl rfl rfl (by kernel_rfl) Try.func5 (by kernel_rfl)
    (of_decide_eq_true (by kernel_rfl)) (by unfold Func.isWrapper; first | (rw [if_pos (by decide +kernel)]; kernel_rfl) | (rw [if_neg (by decide +kernel)]; exact ⟨rfl, rfl⟩))
    (fun os started H enc _ => order_lifted os started H enc)
#print axioms tieOrder
end Go.Proofs.Ytlpbalinhikboaa
