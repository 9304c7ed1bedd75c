/- Builds, and what is given up to stay as it is. -/
import Derived.Test.YtlpbalinhikboaaX11
namespace Go.X
open Go
section
variable {P : Program} {c : Ctx} {κ : Kap} {Im : Nat → Prop} {w : World} {H : List AObj} {K : AV → List (Nat × AObj) → Prop} {k : Value → World → Prop}

theorem foldl_set (off : Nat) : ∀ (L : List Value) (s : Nat) (a : Array Value), off + s + L.length ≤ a.size →
    ((L.zipIdx s).foldl (fun cs p => cs.setIfInBounds (off + p.2) p.1) a).toList = a.toList.take (off + s) ++ L ++ a.toList.drop (off + s + L.length)
  | [], s, a, h => by simp
  | v :: rest, s, a, h => by
    simp only [List.zipIdx_cons, List.foldl_cons]
    rw [foldl_set off rest (s + 1) (a.setIfInBounds (off + s) v) (by simp at h ⊢; omega)]
    simp only [Array.toList_setIfInBounds]
    have := list_seg_step a.toList (off + s) v rest (by simp at h ⊢; omega)
    simpa [Nat.add_assoc] using this

/-- Parts, abstract and real. -/
def partsRel (κ : Kap) (Im : Nat → Prop) (w : World) : List (Nat × AV) → List (Nat × Value) → Prop
  | [], [] => True
  | (i, x) :: r, (j, y) :: s => i = j ∧ AV.rel κ Im w x y ∧ partsRel κ Im w r s
  | _, _ => False

theorem fill_sound (place : Nat → Option (Nat × Nat)) : ∀ (ps : List (Nat × AV)) (vs : List (Nat × Value)) (cs l : List AV) (arr : Array Value), partsRel κ Im w ps vs → AV.rels κ Im w cs arr.toList →
    fillAV place cs ps = some l → ∃ arr', Instr.fill place arr vs = some arr' ∧ AV.rels κ Im w l arr'.toList
  | [], [], cs, l, arr, _, hr, h => by simp [fillAV] at h; subst h; exact ⟨arr, rfl, hr⟩
  | [], _ :: _, _, _, _, hp, _, _ => by simp [partsRel] at hp
  | _ :: _, [], _, _, _, hp, _, _ => by simp [partsRel] at hp
  | (i, x) :: r, (j, y) :: s, cs, l, arr, hp, hr, h => by
    simp only [partsRel] at hp
    obtain ⟨rfl, hx, hp⟩ := hp
    simp only [fillAV] at h
    split at h
    · rename_i off size lx hplace hlx
      split at h
      · rename_i hfit
        have hc := cellsAV_sound hlx hx
        have hlen := rels_length _ _ hc
        have hlarr := rels_length _ _ hr
        rw [Array.length_toList] at hlen hlarr
        simp only [Instr.fill, hplace]
        rw [if_neg (by simp only [ne_eq, Bool.or_eq_true, decide_eq_true_eq, not_or, Decidable.not_not]; omega)]
        have hf := foldl_set off y.cells.toList 0 arr (by rw [Array.length_toList]; omega)
        have e1 : y.cells.zipIdx.foldl (fun cs (x : Value × Nat) => match x with | (c, j) => cs.setIfInBounds (off + j) c) arr = (y.cells.toList.zipIdx 0).foldl (fun cs p => cs.setIfInBounds (off + p.2) p.1) arr := by
          rw [← Array.foldl_toList, Array.toList_zipIdx]
        rw [e1]
        refine fill_sound place r s _ l _ hp ?_ h
        rw [hf]
        simpa using rels_splice (off := off) hr hc
      · cases h
    · cases h

theorem build_sound {t : TypeId} {ps : List (Nat × AV)} {vs : Array (Nat × Value)} (hst : St c κ Im w H) (hp : partsRel κ Im w ps vs.toList) (hs : (effBuild P t ps).sat K) (hk : Cont c κ Im w H K k) :
    Gives P (do pure (.value (← Instr.build t vs))) w k := by
  unfold effBuild at hs
  split at hs
  case h_2 => exact hs.elim
  rename_i l hl
  have key : ∃ arr, P.built t vs.toList = some arr ∧ AV.rels κ Im w l arr.toList := by
    unfold Program.built
    split at hl
    · rename_i it e n h1 h2
      simp only [h1, h2]
      split at hl
      · rename_i z ie h3 h4
        simp only [h3, h4]
        exact fill_sound _ _ _ _ _ _ hp (rels_map_v _) hl
      · cases hl
    · rename_i it fields h1 h2
      simp only [h1, h2]
      split at hl
      · rename_i z places h3 h4
        simp only [h3, h4]
        exact fill_sound _ _ _ _ _ _ hp (rels_map_v _) hl
      · cases hl
    · cases hl
  obtain ⟨arr, h1, h2⟩ := key
  refine gives_value (y := .agg arr) (w' := w) ?_ (hk.same hst hs (by simp only [AV.rel]; exact ⟨arr, rfl, h2⟩))
  simp only [Sem.run_bind, run_build w t vs arr h1, Result.andThen_ok, Sem.run_pure]

theorem updH_append (H : List AObj) (u v : List (Nat × AObj)) : updH H (u ++ v) = updH (updH H u) v := by
  induction u generalizing H with
  | nil => rfl
  | cons p u ih => obtain ⟨i, o⟩ := p; exact ih _

theorem updH_length (H : List AObj) (u : List (Nat × AObj)) : (updH H u).length = H.length := by
  induction u generalizing H with
  | nil => rfl
  | cons p u ih => obtain ⟨i, o⟩ := p; simp [updH, ih]

theorem updH_dead_ne (H : List AObj) (ids : List Nat) (i : Nat) (h : i ∉ ids) : (updH H (deadAll ids))[i]? = H[i]? := by
  induction ids generalizing H with
  | nil => rfl
  | cons j ids ih =>
    simp only [List.mem_cons, not_or] at h
    show (updH (H.set j .dead) (deadAll ids))[i]? = _
    rw [ih _ h.2, List.getElem?_set_ne (fun e => h.1 e.symm)]

/-- What a row held, as what stays. -/
def Sealed (κ : Kap) (Im : Nat → Prop) (w : World) (H : List AObj) (i : Nat) : Prop :=
  ∀ E cc xs, H[i]? = some (.row E cc xs) → ∃ a cap, κ i = some (.slice a xs.length cap) ∧ xs.length ≤ cap ∧
    (xs ≠ [] → ∃ g, a = some ⟨g, 0, none⟩ ∧ Im g ∧ ∃ arr T fz, w.heap[g]? = some (.cells arr T fz) ∧ ∀ j (h : j < xs.length), AV.rels κ Im w (cc.enc xs[j]) ((arr.toList.drop (j * cc.k)).take cc.k))

theorem Sealed.mono {κ' Im' w' i} (h : Sealed κ Im w H i) (hle : Le κ κ' Im Im' w w') : Sealed κ' Im' w' H i := by
  intro E cc xs hi
  obtain ⟨a, cap, h1, h0, h2⟩ := h E cc xs hi
  refine ⟨a, cap, hle.k _ _ h1, h0, fun hx => ?_⟩
  obtain ⟨g, e1, e2, arr, T, fz, e3, e4⟩ := h2 hx
  exact ⟨g, e1, hle.im _ e2, arr, T, fz, (hle.heap _ e2).trans e3, fun j hj => AV.rels_mono hle _ _ (e4 j hj)⟩

theorem seal_one (hst : St c κ Im w H) (i : Nat) : ∃ Im', St c κ Im' w (H.set i .dead) ∧ Le κ κ Im Im' w w ∧ Sealed κ Im' w H i := by
  cases hi : H[i]? with
  | none =>
    refine ⟨Im, ?_, Le.refl _ _ _, fun E cc xs h => by rw [hi] at h; cases h⟩
    rw [List.set_eq_of_length_le (by rw [List.getElem?_eq_none_iff] at hi; exact hi)]
    exact hst
  | some o =>
    by_cases hrow : ∃ E cc xs, o = .row E cc xs ∧ xs ≠ []
    · obtain ⟨E, cc, xs, rfl, hx⟩ := hrow
      obtain ⟨D, a, cap, h1, h2⟩ := hst.obj hi
      rcases h2 with ⟨_, _, h3, _⟩ | ⟨g, arr, rfl, h4, h5, h6, h7, h8, h9⟩
      · exact absurd h3 hx
      obtain ⟨Im', s1, s2, s3⟩ := hst.seal hi (g := g) (fun D hD => by
        obtain ⟨a2, cap2, e1, e2⟩ := hD
        rw [h1] at e1; cases e1
        rcases e2 with ⟨e2, _⟩ | ⟨g2, arr2, e3, e4, e5, e6, e7, e8, e9⟩
        · cases e2
        · cases e3; exact e9)
      refine ⟨Im', s1, s2, fun E' cc' xs' h => ?_⟩
      rw [hi] at h
      cases h
      exact ⟨_, cap, h1, h6, fun _ => ⟨g, rfl, s3, arr, E, (0, 0), h4, fun j hj => AV.rels_mono s2 _ _ (h8 j hj)⟩⟩
    · refine ⟨Im, hst.drop hi, Le.refl _ _ _, fun E cc xs h => ?_⟩
      rw [hi] at h
      cases h
      obtain ⟨D, a, cap, h1, h2⟩ := hst.obj hi
      have hle : xs.length ≤ cap := by
        rcases h2 with ⟨_, _, h3, _⟩ | ⟨g, arr, _, _, _, h6, _⟩
        · subst h3; exact Nat.zero_le _
        · exact h6
      exact ⟨a, cap, h1, hle, fun hx => absurd ⟨E, cc, xs, rfl, hx⟩ hrow⟩

theorem seal_all : ∀ (ids : List Nat) {Im : Nat → Prop} {H : List AObj}, St c κ Im w H → ∃ Im', St c κ Im' w (updH H (deadAll ids)) ∧ Le κ κ Im Im' w w ∧ ∀ i ∈ ids, Sealed κ Im' w H i
  | [], Im, H, hst => ⟨Im, hst, Le.refl _ _ _, fun i hi => by cases hi⟩
  | j :: ids, Im, H, hst => by
    obtain ⟨Im1, s1, s2, s3⟩ := seal_one hst j
    obtain ⟨Im2, t1, t2, t3⟩ := seal_all ids s1
    refine ⟨Im2, t1, s2.trans t2, fun i hi => ?_⟩
    by_cases hij : i = j
    · subst hij; exact s3.mono t2
    · rcases List.mem_cons.1 hi with h | h
      · exact absurd h hij
      · intro E cc xs hx
        refine t3 i h E cc xs ?_
        rw [List.getElem?_set_ne (fun e => hij e.symm)]
        exact hx

theorem sealAV_rel {a : AV} {y : Value} (hr : AV.rel κ Im w a y) (hs : ∀ i ∈ sealIds a, Sealed κ Im w H i) : AV.rel κ Im w (sealAV (H.getD · .dead) a) y := by
  cases a with
  | hd i =>
    simp only [sealAV]
    split
    · rename_i E cc xs ho
      obtain ⟨a, cap, h1, h0, h2⟩ := hs i (by simp [sealIds]) E cc xs (getD_dead (by simp) ho)
      simp only [AV.rel] at hr ⊢
      rw [h1] at hr
      obtain ⟨hr, _⟩ := hr
      cases hr
      refine ⟨a, cap, rfl, h0, fun hx => ?_⟩
      obtain ⟨g, e1, e2, arr, T, fz, e3, e4⟩ := h2 hx
      exact ⟨g, 0, e1, e2, arr, T, fz, e3, fun j hj => by simpa using e4 j hj⟩
    · exact hr
  | vw i kk lo n =>
    simp only [sealAV]
    split
    · rename_i E cc xs ho
      split
      · rename_i hkk
        subst hkk
        obtain ⟨a, cap, h1, h0, h2⟩ := hs i (by simp [sealIds]) E cc xs (getD_dead (by simp) ho)
        simp only [AV.rel] at hr ⊢
        obtain ⟨a', len, cap', a2, cap2, e1, e2, rfl, e4, e3⟩ := hr
        rw [h1] at e1
        cases e1
        have hlen : ((xs.drop lo).take n).length = n := by rw [List.length_take, List.length_drop]; omega
        refine ⟨a2, cap2, by rw [hlen], by omega, fun hx => ?_⟩
        have hn : n ≠ 0 := fun h => hx (List.eq_nil_of_length_eq_zero (by rw [hlen]; exact h))
        obtain ⟨g, f1, f2, arr, T, fz, f3, f4⟩ := h2 (fun h => by subst h; simp at e2; exact hn e2.2)
        refine ⟨g, lo * cc.k, by rw [e3 hn, f1]; simp [add_off], f2, arr, T, fz, f3, fun j hj => ?_⟩
        rw [hlen] at hj
        have := f4 (lo + j) (by omega)
        simp only [List.getElem_take, List.getElem_drop]
        rw [show lo * cc.k + j * cc.k = (lo + j) * cc.k from by rw [Nat.add_mul]]
        exact this
      · exact hr
    · exact hr
  | _ => exact hr

theorem sealAVs_rel {l : List AV} {ys : List Value} (hr : AV.rels κ Im w l ys) (hs : ∀ i ∈ l.flatMap sealIds, Sealed κ Im w H i) : AV.rels κ Im w (l.map (sealAV (H.getD · .dead))) ys := by
  induction l generalizing ys with
  | nil => exact hr
  | cons a l ih =>
    simp only [AV.rels, List.map_cons] at hr ⊢
    obtain ⟨y, r, h1, h2, h3⟩ := hr
    exact ⟨y, r, h1, sealAV_rel h2 (fun i hi => hs i (by simp [hi])), ih h3 (fun i hi => hs i (by rw [List.flatMap_cons]; exact List.mem_append_right _ hi))⟩

theorem decRows_sound (cc : TC) : ∀ (n : Nat) (l : List AV) (ds : List cc.den) (ys : List Value), decRows cc n l = some ds → AV.rels κ Im w l ys →
    ds.length = n ∧ ∀ i (h : i < ds.length), AV.rels κ Im w (cc.enc ds[i]) ((ys.drop (i * cc.k)).take cc.k)
  | 0, [], ds, ys, h, _ => by simp [decRows] at h; subst h; exact ⟨rfl, fun i h => by simp at h⟩
  | 0, _ :: _, ds, ys, h, _ => by simp [decRows] at h
  | n + 1, l, ds, ys, h, hr => by
    simp only [decRows] at h
    split at h
    · rename_i d ds' h1 h2
      cases h
      obtain ⟨e1, e2⟩ := decRows_sound cc n _ _ _ h2 (rels_drop hr cc.k)
      refine ⟨by simp [e1], fun i hi => ?_⟩
      cases i with
      | zero => simpa using TC.dec_law h1 _ _ _ _ (rels_take hr cc.k)
      | succ i =>
        have := e2 i (by simpa using hi)
        rw [List.drop_drop] at this
        simpa [Nat.succ_mul, Nat.add_comm] using this
    · cases h

end
end Go.X
