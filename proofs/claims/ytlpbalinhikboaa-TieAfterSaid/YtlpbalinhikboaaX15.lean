/- Appends: the law. -/
import Derived.Test.YtlpbalinhikboaaX14
namespace Go.X
open Go
section
variable {P : Program} {c : Ctx} {κ : Kap} {Im : Nat → Prop} {w : World} {H : List AObj} {K : AV → List (Nat × AObj) → Prop} {k : Value → World → Prop}

theorem TC.enc_one (cc : TC) (x : cc.den) : (cc.enc x).all oneAV = true := by cases cc <;> rfl

theorem flat_len (cc : TC) (ys : List cc.den) : (ys.flatMap cc.enc).length = ys.length * cc.k := by
  induction ys with
  | nil => simp
  | cons y ys ih => rw [List.flatMap_cons, List.length_append, ih, cc.enc_len, List.length_cons, Nat.succ_mul, Nat.add_comm]

theorem flat_one (cc : TC) (ys : List cc.den) : (ys.flatMap cc.enc).all oneAV = true := by
  induction ys with
  | nil => rfl
  | cons y ys ih => rw [List.flatMap_cons, List.all_append, cc.enc_one, ih]; rfl

theorem reads_flat {cc : TC} : ∀ (ys : List cc.den) (L : List Value), (∀ j (h : j < ys.length), AV.rels κ Im w (cc.enc ys[j]) ((L.drop (j * cc.k)).take cc.k)) → AV.rels κ Im w (ys.flatMap cc.enc) (L.take (ys.length * cc.k))
  | [], L, _ => by simp [AV.rels]
  | y :: ys, L, h => by
    have h0 := h 0 (by simp)
    simp only [Nat.zero_mul, List.drop_zero, List.getElem_cons_zero] at h0
    have ih := reads_flat ys (L.drop cc.k) (fun j hj => by
      have := h (j + 1) (by simpa using hj)
      rw [List.drop_drop]
      rw [show cc.k + j * cc.k = (j + 1) * cc.k from by rw [Nat.succ_mul, Nat.add_comm]]
      exact this)
    rw [List.flatMap_cons, rels_append]
    refine ⟨L.take cc.k, (L.drop cc.k).take (ys.length * cc.k), ?_, h0, ih⟩
    have e : (y :: ys).length * cc.k = cc.k + ys.length * cc.k := by rw [List.length_cons, Nat.succ_mul, Nat.add_comm]
    rw [e, List.take_add]

theorem flat_reads {cc : TC} : ∀ (ys : List cc.den) (M : List Value), AV.rels κ Im w (ys.flatMap cc.enc) M → ∀ j (h : j < ys.length), AV.rels κ Im w (cc.enc ys[j]) ((M.drop (j * cc.k)).take cc.k)
  | [], M, _, j, h => by simp at h
  | y :: ys, M, hr, j, h => by
    rw [List.flatMap_cons, rels_append] at hr
    obtain ⟨a, b, rfl, h1, h2⟩ := hr
    have ha := rels_length _ _ h1
    rw [cc.enc_len] at ha
    cases j with
    | zero => simp only [Nat.zero_mul, List.drop_zero, List.getElem_cons_zero]; rw [List.take_append_of_le_length (by omega), List.take_of_length_le (by omega)]; exact h1
    | succ j =>
      have := flat_reads ys b h2 j (by simpa using h)
      rw [show (j + 1) * cc.k = a.length + j * cc.k from by rw [Nat.succ_mul, ha, Nat.add_comm]]
      rw [← List.drop_drop, List.drop_left' rfl]
      exact this

theorem take_chunk {α : Type} (L : List α) (n j kk : Nat) (h : j < n) : ((L.take (n * kk)).drop (j * kk)).take kk = (L.drop (j * kk)).take kk := by
  rw [List.drop_take, List.take_take]
  congr 1
  have : (j + 1) * kk ≤ n * kk := Nat.mul_le_mul_right _ h
  rw [Nat.succ_mul] at this
  omega

theorem run_append_none {t ty e : TypeId} {i : TypeInfo} {v : Value} {n : Nat} {xs : List Value} {size base : Nat} (ht : P.underlying t = some (.slice e)) (hi : P.info? e = some i) (hown : w.ownsRow base e size v n xs) (cap : Nat) :
    (Builtin.append_ #[t, t] ty #[v, .slice none 0 cap]).run P w = .ok v w := by
  rcases hown.2 with ⟨rfl, rfl⟩ | ⟨g, cap', cur, rfl, _, _, hle, _⟩
  · simp [Builtin.append_, run_underlying ht, sizeOf, typeInfo, hi, Builtin.lenOf, Builtin.firstCells]
  · simp [Builtin.append_, run_underlying ht, sizeOf, typeInfo, hi, Builtin.lenOf, Builtin.firstCells, hle, storeCells]

theorem grownBy_turn {w w' : World} {g : Option Nat} (h : w.grownBy w' g) : Turn g w w' := ⟨h.os, h.tape, h.output, h.size, h.block⟩

theorem append_block {t ty e : TypeId} {i : TypeInfo} {z : Value} {size bytes n m c : Nat} {v v' : Value} {w' : World} {xs news : List Value} {a : Addr} (ht : P.underlying t = some (.slice e)) (hi : P.info? e = some i) (hz : i.zero = some z)
    (hsize : i.size = size) (hby : i.bytes = bytes) (hzs : z.cells.size = size) (hown : w.ownsRow 0 e size v n xs) (hl : news.length = m * size) (hnews : ∀ j u, news[j]? = some u → w.cell? (a.add j) = some u) (h1 : ∀ u ∈ news, u.oneCell' = true)
    (h63 : n + m ≤ maxLen) (hbytes : (n + m) * bytes ≤ 140737488355328)
    (hr : (Builtin.append_ #[t, t] ty #[v, .slice (some a) m c]).run P w = .ok v' w') : ∀ b, v'.ownBlock = some b → v.ownBlock = some b ∨ w.heap.size ≤ b := by
  subst hsize hby
  simp only [maxLen] at h63
  intro b hb
  rcases hown.2 with ⟨rfl, rfl⟩ | ⟨g, cap, cur, rfl, hbg, hg, hnc, hcm, hcs, htake⟩
  · by_cases hm : m = 0
    · subst hm
      have hn : news = [] := List.eq_nil_of_length_eq_zero (by simpa using hl)
      subst hn
      have : (Builtin.append_ #[t, t] ty #[.slice none 0 0, .slice (some a) 0 c]).run P w = .ok (.slice none 0 0) w := by
        simp [Builtin.append_, run_underlying ht, sizeOf, typeInfo, hi, Builtin.lenOf, Builtin.firstCells, loadCells, loadCellsFrom]
      rw [this] at hr
      cases hr
      cases hb
    · have := run_append_nil (P := P) w t ty e i z ht hi hz a m c news hl hnews (by omega) (by omega) (by rw [Nat.zero_add] at hbytes; omega)
      rw [this] at hr
      cases hr
      simp [Value.ownBlock] at hb
      exact .inr (by omega)
  · by_cases hroom : n + m ≤ cap
    · have hfit : n * i.size + news.length ≤ cur.size := by rw [hl, hcs, ← Nat.add_mul]; exact Nat.mul_le_mul_right _ hroom
      have := run_append_room (P := P) w t ty e i ht hi g n cap cur hg a m c news hl hnews h1 hroom hfit
      rw [this] at hr
      cases hr
      exact .inl hb
    · have holds : ∀ j u, xs[j]? = some u → w.cell? ((⟨g, 0, none⟩ : Addr).add j) = some u := hown.cells (g := g) rfl
      have := run_append_grow (P := P) w t ty e i z ht hi hz ⟨g, 0, none⟩ n cap xs hown.1 holds a m c news hl hnews (by omega) (by omega) (growslice_fits (by omega) hbytes)
      rw [this] at hr
      cases hr
      simp [Value.ownBlock] at hb
      exact .inr (by omega)

/-- What an append gives, as rows. -/
theorem append_run {t ty e : TypeId} {i : TypeInfo} {z : Value} {cc : TC} {xs ys : List cc.den} {v x : Value} {cells : List Value} (ht : P.underlying t = some (.slice e)) (hi : P.info? e = some i) (hz : i.zero = some z)
    (hsz : szOf P e = cc.k) (hzs : z.cells.size = cc.k) (hown : w.ownsRow 0 e cc.k v xs.length cells) (hc : AV.rels κ Im w (xs.flatMap cc.enc) cells) (hy : Reads κ Im w cc ys x)
    (hb : (xs.length + ys.length) * byOf P e ≤ 2 ^ 47) (hby : 0 < byOf P e) :
    ∃ v' w' cells', (Builtin.append_ #[t, t] ty #[v, x]).run P w = .ok v' w' ∧ w'.ownsRow 0 e cc.k v' (xs.length + ys.length) cells' ∧ w.grownBy w' v.ownBlock ∧ AV.rels κ Im w ((xs ++ ys).flatMap cc.enc) cells' ∧
      (∀ b, v'.ownBlock = some b → v.ownBlock = some b ∨ w.heap.size ≤ b) := by
  obtain ⟨a, cap, rfl, h2⟩ := hy
  have hsz' : i.size = cc.k := by simpa [szOf, hi] using hsz
  have hby' : byOf P e = i.bytes := by simp [byOf, hi]
  rw [hby'] at hb hby
  have hmax : xs.length + ys.length ≤ maxLen := by
    have h1 : (xs.length + ys.length) * 1 ≤ (xs.length + ys.length) * i.bytes := Nat.mul_le_mul_left _ hby
    simp only [maxLen]; omega
  cases a with
  | none =>
    have hys : ys = [] := by
      cases ys with
      | nil => rfl
      | cons y ys => obtain ⟨b, o, _, _, _, e1, _⟩ := h2 (by simp); cases e1
    subst hys
    exact ⟨v, w, cells, run_append_none ht hi hown cap, by simpa using hown, ⟨rfl, rfl, rfl, Nat.le_refl _, fun _ _ _ => rfl⟩, by simpa using hc, fun b hb => .inl hb⟩
  | some ad =>
    by_cases hys : ys = []
    · subst hys
      obtain ⟨v', w', hr, ho, hg, _⟩ := run_append_own (P := P) w 0 t ty e i z cc.k i.bytes ht hi hz hsz' rfl hzs cc.k_pos v xs.length cells hown ad 0 cap [] (by simp) (fun j u hu => by simp at hu) (fun u hu => by simp at hu) (by simpa using hmax) (by simpa using hb) (Nat.zero_le _)
      exact ⟨v', w', _, hr, by simpa using ho, hg, by simpa using hc, append_block ht hi hz hsz' rfl hzs hown (news := []) (by simp) (fun j u hu => by simp at hu) (fun u hu => by simp at hu) (by simpa using hmax) (by simpa using hb) hr⟩
    · obtain ⟨b, o, arr, T, fz, e1, e2, e3⟩ := h2 hys
      cases e1
      have hf := reads_flat ys (arr.toList.drop o) (fun j hj => by rw [List.drop_drop]; exact e3 j hj)
      have hlen := rels_length _ _ hf
      rw [flat_len] at hlen
      have hnews : ∀ j u, ((arr.toList.drop o).take (ys.length * cc.k))[j]? = some u → w.cell? ((⟨b, o, none⟩ : Addr).add j) = some u := fun j u hu => by
          rw [add_off, cell_at e2]
          rw [List.getElem?_take] at hu
          split at hu
          · rw [List.getElem?_drop] at hu
            rw [← Array.getElem?_toList]; exact hu
          · cases hu
      obtain ⟨v', w', hr, ho, hg, _⟩ := run_append_own (P := P) w 0 t ty e i z cc.k i.bytes ht hi hz hsz' rfl hzs cc.k_pos v xs.length cells hown ⟨b, o, none⟩ ys.length cap _ hlen
        hnews (oneAVs_sound (flat_one cc ys) hf) hmax (by omega) (Nat.zero_le _)
      exact ⟨v', w', _, hr, ho, hg, by rw [List.flatMap_append, rels_append]; exact ⟨_, _, rfl, hc, hf⟩, append_block ht hi hz hsz' rfl hzs hown hlen hnews (oneAVs_sound (flat_one cc ys) hf) hmax (by omega) hr⟩

theorem own_holds {e : TypeId} {cc : TC} {zs : List cc.den} {v : Value} {cells : List Value} (ho : w.ownsRow 0 e cc.k v zs.length cells) (hc : AV.rels κ Im w (zs.flatMap cc.enc) cells) :
    AObj.holds κ Im w (some v) (fun b => v.ownBlock = some b) (.row e cc zs) := by
  rcases ho.2 with ⟨rfl, h0⟩ | ⟨g, cap, cur, rfl, _, h1, h2, h3, h4, h5⟩
  · have : zs = [] := List.eq_nil_of_length_eq_zero h0
    subst this
    exact ⟨none, 0, rfl, .inl ⟨rfl, rfl, rfl, fun b hb => by cases hb⟩⟩
  · refine ⟨_, cap, rfl, .inr ⟨g, cur, rfl, h1, h4, h2, h3, fun j hj => ?_, fun x => ?_⟩⟩
    · rw [← take_chunk _ zs.length j cc.k hj, h5]
      exact flat_reads zs cells hc j hj
    · simp [Value.ownBlock]; exact eq_comm

theorem append_sound {E : Env} {ats : Array TypeId} {ty : TypeId} {s x : AV} {ys yx : Value} {id : Nat} (hst : St c κ Im w H) (hid : H[id]? = some .free) (hs : AV.rel κ Im w s ys) (hx : AV.rel κ Im w x yx)
    (hsat : (effAppend E ats s x id (H.getD · .dead)).sat K) (hk : Cont c κ Im w H K k) : Gives E.P (do pure (.value (← Builtin.append_ ats ty #[ys, yx]))) w k := by
  unfold effAppend at hsat
  split at hsat
  case h_2 => exact hsat.elim
  rename_i t0 t1 ht0 ht1
  split at hsat
  case h_2 => exact hsat.elim
  rename_i e cc hel
  obtain ⟨hu, htc⟩ := Env.el_spec hel
  split at hsat
  case isFalse => exact hsat.elim
  rename_i hcond
  obtain ⟨rfl, hats, hsz, hzero, hby⟩ := hcond
  have hats' : ats = #[t1, t1] := by
    apply Array.ext
    · exact hats
    · intro j h1 h2
      have h2' : j < 2 := by simpa using h2
      rw [Array.getElem?_eq_getElem (by omega)] at ht0 ht1
      have : j = 0 ∨ j = 1 := by omega
      rcases this with rfl | rfl
      · simpa using ht0
      · simpa using ht1
  subst hats'
  obtain ⟨i, hi⟩ : ∃ i, E.P.info? e = some i := by
    cases h : E.P.info? e with
    | none => simp [h] at hzero
    | some i => exact ⟨i, rfl⟩
  obtain ⟨z, hz, hzs⟩ : ∃ z, i.zero = some z ∧ z.cells.size = cc.k := by
    cases h : i.zero with
    | none => simp [hi, h] at hzero
    | some z => simp [hi, h] at hzero; exact ⟨z, rfl, hzero⟩
  split at hsat
  · exact hsat.elim
  rename_i zs hzs2
  have hread := readSl_sound hst hzs2 hx
  split at hsat
  · -- onto nil
    obtain ⟨⟨hb⟩, hK⟩ := hsat
    simp only [AV.rel] at hs
    subst hs
    obtain ⟨v', w', cells, hr, ho, hg, hc, hnew⟩ := append_run (P := E.P) (κ := κ) (Im := Im) (w := w) (t := t1) (ty := ty) (xs := ([] : List cc.den)) (ys := zs) (cells := []) hu hi hz hsz hzs
      (World.ownsRow_nil w 0 e cc.k) (by simp [AV.rels]) hread (by simpa using hb) hby
    have ht : Turn none w w' := grownBy_turn hg
    simp only [List.length_nil, Nat.zero_add, List.nil_append] at ho hc
    obtain ⟨s1, s2⟩ := hst.put hid ht v' (.row e cc zs) (fun b => v'.ownBlock = some b) (fun b hb => by
      have hlt := ho.lt b hb
      refine ⟨hlt.2, ?_⟩
      rcases hnew b hb with h | h
      · cases h
      · exact h) (fun κ' hle hκ => own_holds ho (AV.rels_mono hle _ _ hc))
    refine gives_value (y := v') (w' := w') ?_ (hk _ _ _ _ _ _ hK s2 s1 ?_)
    · simp only [Sem.run_bind, hr, Result.andThen_ok, Sem.run_pure]
    · simp only [AV.rel]
      refine ⟨setK_same _ _ _, ?_⟩
      rcases ho.2 with ⟨rfl, _⟩ | ⟨g, cap, cur, rfl, _⟩ <;> rfl
  · -- onto a row of one's own
    rename_i i'
    split at hsat
    case h_2 => exact hsat.elim
    rename_i e' c' xs' ho'
    split at hsat
    case h_2 => exact hsat.elim
    rename_i xs hxs
    obtain ⟨rfl, rfl⟩ := castL_spec hxs
    split at hsat
    case isFalse => exact hsat.elim
    rename_i hcond2
    obtain ⟨rfl, hne⟩ := hcond2
    obtain ⟨⟨hb⟩, hK⟩ := hsat
    simp only [AV.rel] at hs
    have hi' := getD_dead (H := H) (by simp) ho'
    obtain ⟨D, hD⟩ := hst.obj hi'
    obtain ⟨a, cap, h1, h2⟩ := hD
    rw [h1] at hs
    obtain ⟨hs, _⟩ := hs
    cases hs
    have hown : ∃ cells, w.ownsRow 0 e' c'.k (.slice a xs'.length cap) xs'.length cells ∧ AV.rels κ Im w (xs'.flatMap c'.enc) cells := by
      rcases h2 with ⟨rfl, rfl, rfl, _⟩ | ⟨g, arr, rfl, h4, h5, h6, h7, h8, h9⟩
      · exact ⟨[], World.ownsRow_nil w 0 e' c'.k, by simp [AV.rels]⟩
      · have hf := reads_flat xs' arr.toList h8
        have hl := rels_length _ _ hf
        rw [flat_len] at hl
        exact ⟨_, ⟨hl, .inr ⟨g, cap, arr, rfl, Nat.zero_le _, h4, h6, h7, h5, rfl⟩⟩, hf⟩
    obtain ⟨cells, hown, hcells⟩ := hown
    obtain ⟨v', w', cells', hr, ho, hg, hc, hnew⟩ := append_run (P := E.P) (κ := κ) (Im := Im) (w := w) (t := t1) (ty := ty) (xs := xs') (ys := zs) hu hi hz hsz hzs hown hcells hread hb hby
    rw [← List.length_append] at ho
    have hidne : i' ≠ id := fun e => by subst e; rw [hi'] at hid; cases hid
    obtain ⟨s1, s2⟩ := hst.move hi' hid hidne (grownBy_turn hg) (fun D hD x hx => by
      obtain ⟨a2, cap2, e1, e2⟩ := hD
      rw [h1] at e1
      cases e1
      rcases e2 with ⟨rfl, _⟩ | ⟨g, arr, rfl, _, _, _, _, _, e9⟩
      · simp [Value.ownBlock] at hx
      · simp [Value.ownBlock] at hx; exact (e9 x).2 hx) v' (.row e' c' (xs' ++ zs)) (fun b => v'.ownBlock = some b) (fun b hb => by
        refine ⟨(ho.lt b hb).2, ?_⟩
        rcases hnew b hb with h | h
        · exact .inl h.symm
        · exact .inr h) (fun κ' hle hκ => own_holds ho (AV.rels_mono hle _ _ hc))
    refine gives_value (y := v') (w' := w') ?_ (hk _ _ _ _ _ _ hK s2 s1 ?_)
    · simp only [Sem.run_bind, hr, Result.andThen_ok, Sem.run_pure]
    · simp only [AV.rel]
      refine ⟨setK_same _ _ _, ?_⟩
      rcases ho.2 with ⟨rfl, _⟩ | ⟨g, cap, cur, rfl, _⟩ <;> rfl
  · exact hsat.elim
end
end Go.X
