/- Parts of the walks: X29 X30 X31 -/
import Derived.Test.YticlpjjkjpabmaaX28

/- Contracts of functions that turn objects: they hold at their calls. -/
namespace Go.X
open Go

theorem updH_same {u : List (Nat × AObj)} {H : List AObj} {i : Nat} (h : i ∉ u.map (·.1)) : (updH H u)[i]? = H[i]? := updH_get u H i h

theorem newsL_keys (σ : Nat → Nat) : ∀ (k : Nat) (S : List OS) (x : SDat S), (newsL σ k S x).map (·.1) = tgts σ k S
  | _, [], _ => rfl
  | k, s :: S, x => by simp [newsL, tgts, newsL_keys σ (k + 1) S x.2]
theorem tgts_mem (σ : Nat → Nat) : ∀ (k : Nat) (S : List OS) (i : Nat), i ∈ tgts σ k S ↔ ∃ j, j < S.length ∧ σ (k + j) = i
  | k, [], i => by simp [tgts]
  | k, s :: S, i => by
    simp only [tgts, List.mem_cons, tgts_mem σ (k + 1) S i, List.length_cons]
    constructor
    · rintro (rfl | ⟨j, hj, rfl⟩)
      · exact ⟨0, by omega, rfl⟩
      · exact ⟨j + 1, by omega, by rw [show k + (j + 1) = k + 1 + j from by omega]⟩
    · rintro ⟨j, hj, rfl⟩
      cases j with
      | zero => exact .inl rfl
      | succ j => exact .inr ⟨j, by omega, by rw [show k + (j + 1) = k + 1 + j from by omega]⟩
theorem newsL_get (σ : Nat → Nat) : ∀ (k : Nat) (S : List OS) (x : SDat S) (H : List AObj), (tgts σ k S).Nodup → (∀ i ∈ tgts σ k S, i < H.length) →
    ∀ j o, (olay σ S x)[j]? = some o → (updH H (newsL σ k S x))[σ (k + j)]? = some o
  | _, [], _, _, _, _, j, o, h => by simp [olay] at h
  | k, s :: S, x, H, hn, hl, j, o, h => by
    simp only [tgts, List.nodup_cons] at hn
    show (updH (H.set (σ k) (s.obj σ x.1)) (newsL σ (k + 1) S x.2))[_]? = _
    cases j with
    | zero =>
      simp only [olay, List.getElem?_cons_zero, Option.some.injEq] at h
      subst h
      show (updH (H.set (σ k) (s.obj σ x.1)) (newsL σ (k + 1) S x.2))[σ k]? = _
      rw [updH_same (by rw [newsL_keys]; exact hn.1), List.getElem?_set_self (hl (σ k) (by simp [tgts]))]
    | succ j =>
      rw [show k + (j + 1) = k + 1 + j from by omega]
      exact newsL_get σ (k + 1) S x.2 _ hn.2 (fun i hi => by rw [List.length_set]; exact hl i (by simp [tgts, hi])) j o (by simpa [olay] using h)

theorem tgts_inj (σ : Nat → Nat) : ∀ (k : Nat) (S : List OS), (tgts σ k S).Nodup → ∀ i j, i < S.length → j < S.length → σ (k + i) = σ (k + j) → i = j
  | _, [], _, i, j, hi, _, _ => by simp at hi
  | k, s :: S, hn, i, j, hi, hj, h => by
    simp only [tgts, List.nodup_cons] at hn
    simp only [List.length_cons] at hi hj
    cases i with
    | zero =>
      cases j with
      | zero => rfl
      | succ j => exact absurd ((tgts_mem σ (k + 1) S (σ k)).2 ⟨j, by omega, by rw [show k + 1 + j = k + (j + 1) from by omega]; exact h.symm⟩) hn.1
    | succ i =>
      cases j with
      | zero => exact absurd ((tgts_mem σ (k + 1) S (σ k)).2 ⟨i, by omega, by rw [show k + 1 + i = k + (i + 1) from by omega]; exact h⟩) hn.1
      | succ j =>
        have := tgts_inj σ (k + 1) S hn.2 i j (by omega) (by omega) (by rw [show k + 1 + i = k + (i + 1) from by omega, show k + 1 + j = k + (j + 1) from by omega]; exact h)
        omega

theorem updH_dead_in (H : List AObj) (ids : List Nat) (i : Nat) (h : i ∈ ids) (hl : i < H.length) : (updH H (deadAll ids))[i]? = some .dead := by
  induction ids generalizing H with
  | nil => cases h
  | cons j ids ih =>
    show (updH (H.set j .dead) (deadAll ids))[i]? = _
    by_cases hi : i ∈ ids
    · exact ih _ hi (by rw [List.length_set]; exact hl)
    · rw [updH_dead_ne _ _ _ hi]
      rcases List.mem_cons.1 h with rfl | h
      · rw [List.getElem?_set_self hl]
      · exact absurd h hi

section
variable {κ1 κ2 : Kap} {σ : Nat → Nat} {Im : Nat → Prop} {w : World}

theorem fAV_ren (h : ∀ k v, κ1 k = some v → κ2 (σ k) = some v) : ∀ (l : List FS) (x : FDat l) (ys : List Value), AV.rels κ1 Im w (fAV id l x) ys → AV.rels κ2 Im w (fAV σ l x) ys
  | [], _, ys, hr => by simpa only [fAV, AV.rels] using hr
  | .d c :: l, x, ys, hr => by
    simp only [fAV] at hr ⊢
    obtain ⟨a, b, rfl, ha, hb⟩ := (rels_append _ _ _).1 hr
    exact (rels_append _ _ _).2 ⟨a, b, rfl, AV.rels_hf _ _ (c.enc_hf x.1) ha, fAV_ren h l x.2 b hb⟩
  | .sl c :: l, x, ys, hr => by
    simp only [fAV, AV.rels] at hr ⊢
    obtain ⟨y, r, rfl, h1, h2⟩ := hr
    exact ⟨y, r, rfl, AV.rel_hf _ _ (by simp [AV.hf]) h1, fAV_ren h l x.2 r h2⟩
  | .hd k :: l, x, ys, hr => by
    simp only [fAV, AV.rels] at hr ⊢
    obtain ⟨y, r, rfl, h1, h2⟩ := hr
    refine ⟨y, r, rfl, ?_, fAV_ren h l x r h2⟩
    simp only [AV.rel] at h1 ⊢
    exact ⟨h _ _ h1.1, h1.2⟩
  | .ptr k :: l, x, ys, hr => by
    simp only [fAV, AV.rels] at hr ⊢
    obtain ⟨y, r, rfl, h1, h2⟩ := hr
    refine ⟨y, r, rfl, ?_, fAV_ren h l x r h2⟩
    simp only [AV.rel] at h1 ⊢
    obtain ⟨b, e1, e2⟩ := h1
    exact ⟨b, h _ _ e1, e2⟩

theorem ptrs_ren (h : ∀ k v, κ1 k = some v → κ2 (σ k) = some v) : ∀ (ks : List Nat) (ys : List Value), AV.rels κ1 Im w (ks.map fun k => .ptr k 0) ys → AV.rels κ2 Im w (ks.map fun k => .ptr (σ k) 0) ys
  | [], ys, hr => by simpa only [List.map_nil, AV.rels] using hr
  | k :: ks, ys, hr => by
    simp only [List.map_cons, AV.rels] at hr ⊢
    obtain ⟨y, r, rfl, h1, h2⟩ := hr
    refine ⟨y, r, rfl, ?_, ptrs_ren h ks r h2⟩
    simp only [AV.rel] at h1 ⊢
    obtain ⟨b, e1, e2⟩ := h1
    exact ⟨b, h _ _ e1, e2⟩

theorem aAV_ren (h : ∀ k v, κ1 k = some v → κ2 (σ k) = some v) : ∀ (l : List AS) (x : ADat l) (ys : List Value), AV.rels κ1 Im w (aAV id l x) ys → AV.rels κ2 Im w (aAV σ l x) ys
  | [], _, ys, hr => by simpa only [aAV, AV.rels] using hr
  | .tc c :: l, x, ys, hr => by
    simp only [aAV, AV.rels] at hr ⊢
    obtain ⟨y, r, rfl, h1, h2⟩ := hr
    exact ⟨y, r, rfl, AV.rel_hf _ _ (c.av_hf x.1) h1, aAV_ren h l x.2 r h2⟩
  | .sl c :: l, x, ys, hr => by
    simp only [aAV, AV.rels] at hr ⊢
    obtain ⟨y, r, rfl, h1, h2⟩ := hr
    exact ⟨y, r, rfl, AV.rel_hf _ _ (by simp [AV.hf]) h1, aAV_ren h l x.2 r h2⟩
  | .hd k :: l, x, ys, hr => by
    simp only [aAV, AV.rels] at hr ⊢
    obtain ⟨y, r, rfl, h1, h2⟩ := hr
    refine ⟨y, r, rfl, ?_, aAV_ren h l x r h2⟩
    simp only [AV.rel] at h1 ⊢
    exact ⟨h _ _ h1.1, h1.2⟩
  | .ptr k :: l, x, ys, hr => by
    simp only [aAV, AV.rels] at hr ⊢
    obtain ⟨y, r, rfl, h1, h2⟩ := hr
    refine ⟨y, r, rfl, ?_, aAV_ren h l x r h2⟩
    simp only [AV.rel] at h1 ⊢
    obtain ⟨b, e1, e2⟩ := h1
    exact ⟨b, h _ _ e1, e2⟩
  | .fn f ks :: l, x, ys, hr => by
    simp only [aAV, AV.rels] at hr ⊢
    obtain ⟨y, r, rfl, h1, h2⟩ := hr
    refine ⟨y, r, rfl, ?_, aAV_ren h l x r h2⟩
    simp only [AV.rel] at h1 ⊢
    obtain ⟨zs, e1, e2⟩ := h1
    exact ⟨zs, e1, ptrs_ren h ks _ e2⟩

theorem aAV_len (σ : Nat → Nat) : ∀ (l : List AS) (x : ADat l), (aAV σ l x).length = l.length
  | [], _ => rfl
  | .tc c :: l, x => by simp [aAV, aAV_len σ l x.2]
  | .sl c :: l, x => by simp [aAV, aAV_len σ l x.2]
  | .hd k :: l, x => by simp [aAV, aAV_len σ l x]
  | .ptr k :: l, x => by simp [aAV, aAV_len σ l x]
  | .fn f ks :: l, x => by simp [aAV, aAV_len σ l x]

theorem resAS_ren (h : ∀ k v, κ1 k = some v → κ2 (σ k) = some v) (rs : List AS) (x : ADat rs) (y : Value) (hr : AV.rel κ1 Im w (resAS id rs x) y) : AV.rel κ2 Im w (resAS σ rs x) y := by
  match rs, x, hr with
  | [], x, hr => simpa only [resAS, AV.rel, AV.rels] using hr
  | [t], x, hr =>
    have hl := aAV_len id [t] x
    have hl' := aAV_len σ [t] x
    obtain ⟨a, ha⟩ : ∃ a, aAV id [t] x = [a] := by
      match aAV id [t] x, hl with
      | [a], _ => exact ⟨a, rfl⟩
    obtain ⟨b, hb⟩ : ∃ b, aAV σ [t] x = [b] := by
      match aAV σ [t] x, hl' with
      | [b], _ => exact ⟨b, rfl⟩
    have := aAV_ren (Im := Im) (w := w) h [t] x [y]
    rw [ha, hb] at this
    simp only [resAS, ha, hb, List.headD_cons] at hr ⊢
    have := this (by simp only [AV.rels]; exact ⟨y, [], rfl, hr, rfl⟩)
    simp only [AV.rels] at this
    obtain ⟨y', r, e, h1, _⟩ := this
    cases e
    exact h1
  | t :: u :: l, x, hr =>
    simp only [resAS, AV.rel] at hr ⊢
    obtain ⟨ys, e1, e2⟩ := hr
    exact ⟨ys, e1, aAV_ren h _ _ _ e2⟩

theorem obj_ren (h : ∀ k v, κ1 k = some v → κ2 (σ k) = some v) {s : OS} {x : s.den} {v : Option Value} {D : Nat → Prop} (ho : (s.obj id x).holds κ1 Im w v D) : (s.obj σ x).holds κ2 Im w v D := by
  cases s with
  | cells fs E =>
    obtain ⟨b, arr, h1, h2, h3, h4⟩ := ho
    exact ⟨b, arr, h1, h2, fAV_ren h fs x _ h3, h4⟩
  | map ck cv =>
    obtain ⟨b, es, clock, h1, h2, ⟨m', h3, h3'⟩, h4⟩ := ho
    exact ⟨b, es, clock, h1, h2, ⟨m', h3, ents_hf _ _ h3'⟩, h4⟩
  | lent => exact ho
  | rng k ck cv =>
    obtain ⟨r, b, es, clock, sb, h1, h2, h3, h3', ⟨m', h4, h4'⟩, h5, h6, h7, h8, h9⟩ := ho
    exact ⟨r, b, es, clock, sb, h1, h _ _ h2, h3, h3', ⟨m', h4, ents_hf _ _ h4'⟩, h5, h6, h7, seen_hf _ _ h8, h9⟩
  | row c E =>
    obtain ⟨a, cap, h1, h2⟩ := ho
    refine ⟨a, cap, h1, ?_⟩
    rcases h2 with h2 | ⟨g, arr, h3, h4, h5, h6, h6', h7, h8⟩
    · exact .inl h2
    · exact .inr ⟨g, arr, h3, h4, h5, h6, h6', fun j hj => AV.rels_hf _ _ (TC.enc_hf _ _) (h7 j hj), h8⟩

theorem olay_ren (h : ∀ k v, κ1 k = some v → κ2 (σ k) = some v) : ∀ (S : List OS) (x : SDat S) (j : Nat) (o : AObj), (olay σ S x)[j]? = some o → ∃ o', (olay id S x)[j]? = some o' ∧ ∀ v D, o'.holds κ1 Im w v D → o.holds κ2 Im w v D
  | [], _, j, o, ho => by simp [olay] at ho
  | s :: S, x, 0, o, ho => by
    simp only [olay, List.getElem?_cons_zero, Option.some.injEq] at ho
    subst ho
    exact ⟨_, rfl, fun v D => obj_ren h⟩
  | s :: S, x, j + 1, o, ho => olay_ren h S x.2 j o (by simpa [olay] using ho)
end

theorem okR_spec {n : Nat} {τ : RT} {ss : List Nat} (h : okR n τ ss = true) : keysLt n τ = true ∧ (somes τ).Nodup ∧ ∀ i ∈ somes τ, i ∉ ss := by
  simp only [okR, Bool.and_eq_true] at h
  exact ⟨h.1.1, nodupB_spec h.1.2, apartB_spec h.2⟩

theorem keepOk_spec {τ : RT} : ∀ {l : List (Option Nat)}, keepOk τ l = true → ∀ k' k : Nat, l[k']? = some (some k) → ∃ i, lk τ k = some (some i)
  | [], _, k', k, h => by simp at h
  | none :: l, h, k', k, hk => by
    cases k' with
    | zero => simp at hk
    | succ k' => exact keepOk_spec (l := l) h k' k (by simpa using hk)
  | some j :: l, h, k', k, hk => by
    simp only [keepOk] at h
    split at h
    · rename_i i hi
      cases k' with
      | zero => simp at hk; subst hk; exact ⟨i, hi⟩
      | succ k' => exact keepOk_spec (l := l) h k' k (by simpa using hk)
    · cases h

theorem MSig.read_spec {g : MSig} {args : List AV} {H : List AObj} {τ : RT} {ss : List Nat} {d : SDat g.S} {a : ADat g.ar} (h : g.read args (H.getD · .dead) = some (τ, ss, d, a)) {κ κ' : Kap} {Im : Nat → Prop} {w : World} (hg : Goes κ κ' τ)
    (hs : ∀ i ∈ ss, Sealed κ Im w H i) : (∀ (j : Nat) o, (olay id g.S d)[j]? = some o → ∃ src, lk τ j = some src ∧ Stands κ κ' Im w H src o) ∧ ∀ ys, AV.rels κ Im w args ys → AV.rels κ' Im w (aAV id g.ar a) ys := by
  unfold MSig.read at h
  split at h
  · cases h
  · rename_i τ1 ss1 a1 h1
    split at h
    · cases h
    · rename_i τ2 ss2 d1 h2
      cases h
      obtain ⟨p1, p2⟩ := rdA_spec (κ := κ) (κ' := κ') (Im := Im) (w := w) h1
      obtain ⟨q1, q2⟩ := rdS_spec (κ := κ) (κ' := κ') (Im := Im) (w := w) h2
      refine ⟨fun j o ho => ?_, fun ys hr => p2 (hg.of_le q1) (fun i hi => hs i (List.mem_append_left _ hi)) ys hr⟩
      obtain ⟨src, e1, e2⟩ := q2 j o ho
      exact ⟨src, by simpa using e1, e2 hg fun i hi => hs i (List.mem_append_right _ hi)⟩

theorem mutSpec_sound {P : Program} {f : FuncId} {g : MSig} {pre : SDat g.S → ADat g.ar → Prop} {out : SDat g.S → ADat g.ar → SDat g.S' × ADat g.rs} (hf : MutOk P f g pre out) : CSound P f (mutSpec g pre out) := by
  intro c κ Im w H args ys id' K k hst hv hid hs hk
  simp only [mutSpec] at hs hid
  split at hs
  · exact hs.elim
  rename_i τ ss d a hread
  split at hs
  · exact hs.elim
  rename_i hok
  obtain ⟨⟨hpre⟩, hs⟩ := hs
  simp only [MSig.ok, Bool.and_eq_true] at hok
  obtain ⟨⟨⟨⟨hR, hlen⟩, hkeep⟩, hlt⟩, hnd⟩ := hok
  obtain ⟨hkeys, hsn, hss⟩ := okR_spec hR
  have hlen : g.keep.length = g.S'.length := Nat.eq_of_beq_eq_true hlen
  have hlt : ∀ i ∈ somes τ, i < id' := fun i hi => by simpa using List.all_eq_true.1 hlt i hi
  have hnd := nodupB_spec hnd
  -- what is given as data stays as it is
  obtain ⟨Im1, s1, s2, s3⟩ := seal_all ss hst
  obtain ⟨r1, r2⟩ := MSig.read_spec hread (kap_goes κ τ) s3
  have hv1 := r2 _ (AV.rels_mono s2 _ _ hv)
  have hH1 : ∀ i ∈ somes τ, (updH H (deadAll ss))[i]? = H[i]? := fun i hi => updH_dead_ne H ss i (hss i hi)
  obtain ⟨⟨D, d1, d2, d3⟩, hfresh, him, hkp, hframe, hsize, hk0, hos, htape, hout⟩ := s1
  obtain ⟨D', m1, m2, m3, m4⟩ := St.remap (S := g.S) (x := d) d1 d3 r1 hH1 hkeys hsn
  -- the callee's own
  let M : Nat → Prop := fun b => ∃ i ∈ somes τ, D i b
  have hst0 : ∀ t0 W m0, St ⟨w, κ0, M, Im1, t0, W, m0, []⟩ (kap κ τ) Im1 w (olay id g.S d) := fun t0 W m0 => by
    refine ⟨⟨D', m1, fun j b hb => ?_, m3⟩, m4, fun b hb => ⟨(him b hb).1, .inl hb⟩, fun _ h => h, fun _ _ _ => rfl, Nat.le_refl _, fun _ _ e => (by simp [κ0] at e), rfl, rfl, Outs.refl _⟩
    obtain ⟨q1, i, q2, q3⟩ := m2 j b hb
    exact ⟨q1, (d2 i b q3).2.1, (d2 i b q3).2.2.1, .inl ⟨i, q2, q3⟩⟩
  refine Calls.mono (hf M Im1 w (kap κ τ) ys d a (fun b hb => (him b hb).1) hst0 hv1 hpre) ?_
  rintro e w' ⟨v, κ1, Im2, rfl, hst1, hkk, hr⟩
  refine ⟨v, rfl, ?_⟩
  obtain ⟨⟨E1, e1, e2, e3⟩, f1, f2, f3, f4, f5, f6, f7, f8, f9⟩ := hst1 #[] (fun _ => true) 0
  simp only at e2 f2 f3 f4 f5 f7 f8 f9
  rw [olay_len] at f1
  -- the caller's names
  let σ := tgt id' τ g.keep
  have hnew : ∀ j : Nat, j < g.S'.length → H[id' + j]? = some .free := hid
  have hidH : id' + g.S'.length ≤ H.length ∨ g.S'.length = 0 := by
    rcases Nat.eq_zero_or_pos g.S'.length with h | h
    · exact .inr h
    · have := (List.getElem?_eq_some_iff.1 (hnew (g.S'.length - 1) (by omega))).1
      exact .inl (by omega)
  have hσ : ∀ k' : Nat, k' < g.S'.length → (∃ k i, g.keep[k']? = some (some k) ∧ lk τ k = some (some i) ∧ σ k' = i ∧ i ∈ somes τ) ∨ (g.keep[k']? = some none ∧ σ k' = id' + k') := by
    intro k' hk'
    cases hkp' : g.keep[k']? with
    | none => have := List.getElem?_eq_none_iff.1 hkp'; omega
    | some q =>
      cases q with
      | none => exact .inr ⟨rfl, by simp only [σ, tgt, hkp']⟩
      | some k =>
        obtain ⟨i, hi⟩ := keepOk_spec hkeep k' k hkp'
        exact .inl ⟨k, i, rfl, hi, by simp only [σ, tgt, hkp', hi], lk_somes hi⟩
  have hσlt : ∀ k' : Nat, k' < g.S'.length → σ k' < H.length := by
    intro k' hk'
    have := (List.getElem?_eq_some_iff.1 (hnew k' hk')).1
    rcases hσ k' hk' with ⟨k, i, _, _, e, hi⟩ | ⟨_, e⟩
    · rw [e]; have := hlt i hi; omega
    · rw [e]; exact this
  let κ2 : Kap := fun i => if id' ≤ i ∧ i < id' + g.S'.length ∧ g.keep[i - id']? = some none then κ1 (i - id') else κ i
  have hκσ : ∀ j : Nat, j < g.S'.length → κ2 (σ j) = κ1 j := by
    intro j hj
    rcases hσ j hj with ⟨k, i, h1, h2, e, hi⟩ | ⟨h1, e⟩
    · have := hlt i hi
      simp only [κ2, e]
      rw [if_neg (fun h => by omega), hkk j k h1]
      simp only [kap, h2, srcV]
    · simp only [κ2, e]
      rw [Nat.add_sub_cancel_left, if_pos ⟨by omega, by omega, h1⟩]
  have hren : ∀ j v, κ1 j = some v → κ2 (σ j) = some v := by
    intro j v hv
    have hj : j < g.S'.length := by
      rcases Nat.lt_or_ge j g.S'.length with h | h
      · exact h
      · rw [f1 j h] at hv; cases hv
    rw [hκσ j hj]; exact hv
  have hκ : ∀ i, i ∉ tgts σ 0 g.S' → κ2 i = κ i := by
    intro i hi
    simp only [κ2]
    rw [if_neg]
    rintro ⟨h1, h2, h3⟩
    refine hi ((tgts_mem σ 0 g.S' i).2 ⟨i - id', by omega, ?_⟩)
    rcases hσ (i - id') (by omega) with ⟨k, _, h4, _⟩ | ⟨_, e⟩
    · rw [h3] at h4; cases h4
    · rw [Nat.zero_add, e]; omega
  have hκle : ∀ i v, κ i = some v → κ2 i = some v := by
    intro i v hi
    simp only [κ2]
    rw [if_neg]
    · exact hi
    · rintro ⟨h1, h2, _⟩
      have := hst.free_none (i := i) (by have := hnew (i - id') (by omega); rwa [show id' + (i - id') = i from by omega] at this)
      rw [this] at hi; cases hi
  have hMdis : ∀ i b, D i b → i ∉ somes τ → ¬ M b := fun i b hb hi hM => by
    obtain ⟨i', q1, q2⟩ := hM
    exact hi (d3 _ _ _ hb q2 ▸ q1)
  have hImM : ∀ b, Im1 b → ¬ M b := fun b hb hM => by
    obtain ⟨i', _, q2⟩ := hM
    exact (d2 i' b q2).2.2.1 hb
  have hle : Le κ κ2 Im1 Im2 w w' := ⟨hκle, fun b hb => f3 b hb, fun b hb => f4 b (him b hb).1 (hImM b hb), f9.2.2⟩
  have hM : ∀ b, M b → c.M b ∨ c.w.heap.size ≤ b := fun b hb => by
    obtain ⟨i', _, q2⟩ := hb
    exact (d2 i' b q2).2.2.2
  refine hk _ _ κ2 Im2 w' v hs (s2.trans hle) ?_ (resAS_ren hren g.rs _ v hr)
  rw [updH_append, updH_append]
  have hlenH : (updH (updH H (deadAll ss)) (deadAll (somes τ))).length = H.length := by rw [updH_length, updH_length]
  refine ⟨⟨fun i b => (∃ j, j < g.S'.length ∧ σ j = i ∧ E1 j b) ∨ (i ∉ tgts σ 0 g.S' ∧ i ∉ somes τ ∧ D i b), fun i o ho => ?_, fun i b hb => ?_, fun i i2 b hb hb2 => ?_⟩, fun i hi => ?_, fun b hb => ?_, fun b hb => f3 b (hkp b hb), fun b hb hcM => ?_, Nat.le_trans hsize f5, fun i u hu => hκle i u (hk0 i u hu), f7.trans hos, f8.trans htape, f9.trans hout⟩
  · by_cases hi : i ∈ tgts σ 0 g.S'
    · obtain ⟨j, hj, rfl⟩ := (tgts_mem σ 0 g.S' i).1 hi
      rw [Nat.zero_add] at ho hi ⊢
      obtain ⟨o2, ho2⟩ : ∃ o2, (olay σ g.S' (out d a).1)[j]? = some o2 := ⟨_, List.getElem?_eq_getElem (by rw [olay_len]; exact hj)⟩
      have hget := newsL_get σ 0 g.S' (out d a).1 (updH (updH H (deadAll ss)) (deadAll (somes τ))) hnd (fun i hi => by
        obtain ⟨j2, hj2, rfl⟩ := (tgts_mem σ 0 g.S' i).1 hi
        rw [hlenH, Nat.zero_add]; exact hσlt j2 hj2) j o2 ho2
      rw [Nat.zero_add] at hget
      rw [hget] at ho
      cases ho
      obtain ⟨o', q1, q2⟩ := olay_ren (Im := Im2) (w := w') hren g.S' _ j o ho2
      have hD : (fun b => (∃ j2, j2 < g.S'.length ∧ σ j2 = σ j ∧ E1 j2 b) ∨ (σ j ∉ tgts σ 0 g.S' ∧ σ j ∉ somes τ ∧ D (σ j) b)) = E1 j := by
        funext b
        apply propext
        constructor
        · rintro (⟨j2, h1, h2, h3⟩ | ⟨h1, _⟩)
          · rw [← tgts_inj σ 0 g.S' hnd j2 j h1 hj (by simpa using h2)]; exact h3
          · exact absurd hi h1
        · exact fun h => .inl ⟨j, hj, rfl, h⟩
      show AObj.holds κ2 Im2 w' (κ2 (σ j)) (fun b => _) o
      rw [hD, hκσ j hj]
      exact q2 _ _ (e1 j o' q1)
    · rw [updH_same (by rw [newsL_keys]; exact hi)] at ho
      by_cases hi2 : i ∈ somes τ
      · have hlen2 : i < H.length := by
          have := (List.getElem?_eq_some_iff.1 ho).1
          rwa [hlenH] at this
        rw [updH_dead_in _ _ _ hi2 (by rw [updH_length]; exact hlen2)] at ho
        cases ho
        rintro b (⟨j, h1, h2, _⟩ | ⟨_, h2, _⟩)
        · exact hi ((tgts_mem σ 0 g.S' i).2 ⟨j, h1, by simpa using h2⟩)
        · exact h2 hi2
      · rw [updH_dead_ne _ _ _ hi2] at ho
        have hD : (fun b => (∃ j, j < g.S'.length ∧ σ j = i ∧ E1 j b) ∨ (i ∉ tgts σ 0 g.S' ∧ i ∉ somes τ ∧ D i b)) = D i := by
          funext b
          apply propext
          constructor
          · rintro (⟨j, h1, h2, _⟩ | ⟨_, _, h⟩)
            · exact absurd ((tgts_mem σ 0 g.S' i).2 ⟨j, h1, by simpa using h2⟩) hi
            · exact h
          · exact fun h => .inr ⟨hi, hi2, h⟩
        show AObj.holds κ2 Im2 w' (κ2 i) (fun b => _) o
        rw [hD, hκ i hi]
        exact AObj.holds_mono hle (fun b hb => f4 b (d2 i b hb).2.1 (hMdis i b hb hi2)) o (d1 i o ho)
  · rw [updH_length, hlenH]
    rcases hb with ⟨j, h1, h2, h3⟩ | ⟨_, h2, h3⟩
    · obtain ⟨q1, q2, q3, q4⟩ := e2 j b h3
      refine ⟨h2 ▸ hσlt j h1, q2, q3, ?_⟩
      rcases q4 with q4 | q4
      · exact hM b q4
      · exact .inr (by omega)
    · obtain ⟨q1, q2, q3, q4⟩ := d2 i b h3
      rw [updH_length] at q1
      refine ⟨q1, by omega, fun hI => ?_, q4⟩
      rcases (f2 b hI).2 with h | h | h
      · exact q3 h
      · exact hMdis i b h3 h2 h
      · omega
  · rcases hb with ⟨j, h1, h2, h3⟩ | ⟨h1, h2, h3⟩ <;> rcases hb2 with ⟨j2, g1, g2, g3⟩ | ⟨g1, g2, g3⟩
    · rw [← h2, ← g2, e3 _ _ _ h3 g3]
    · obtain ⟨_, q2, q3, q4⟩ := e2 j b h3
      rcases q4 with q4 | q4
      · exact absurd q4 (hMdis i2 b g3 g2)
      · have := (d2 i2 b g3).2.1; omega
    · obtain ⟨_, q2, q3, q4⟩ := e2 j2 b g3
      rcases q4 with q4 | q4
      · exact absurd q4 (hMdis i b h3 h2)
      · have := (d2 i b h3).2.1; omega
    · exact d3 _ _ _ h3 g3
  · rw [updH_length, hlenH] at hi
    rw [hκ i (fun h => by
      obtain ⟨j, hj, rfl⟩ := (tgts_mem σ 0 g.S' i).1 h
      have := hσlt j hj
      rw [Nat.zero_add] at hi
      omega)]
    exact hfresh i (by rw [updH_length]; exact hi)
  · obtain ⟨q1, q2⟩ := f2 b hb
    refine ⟨q1, ?_⟩
    rcases q2 with h | h | h
    · exact (him b h).2
    · exact .inr (hM b h)
    · exact .inr (.inr (by omega))
  · refine (f4 b (by omega) fun h => ?_).trans (hframe b hb hcM)
    rcases hM b h with h | h
    · exact hcM h
    · omega
end Go.X

/- A walk gives the contract of a function that turns objects. -/
namespace Go.X
open Go

def keptRT : Nat → List (Option Nat) → RT
  | _, [] => []
  | k', none :: l => keptRT (k' + 1) l
  | k', some k :: l => (k', some k) :: keptRT (k' + 1) l
def keepLt (n : Nat) : List (Option Nat) → Bool
  | [] => true
  | none :: l => keepLt n l
  | some k :: l => Nat.blt k n && keepLt n l

def retM (P : Program) (rvs : List ResultVar) (g : MSig) (y : SDat g.S' × ADat g.rs) : XK := fun e T H => match e with
  | .x _ => False
  | _ => match resVals P T (H.getD · .dead) rvs with
    | none => False
    | some l => match rdA (H.getD · .dead) g.rs (keptRT 0 g.keep) l with
      | none => False
      | some (τ, ss, r) => match rdS (H.getD · .dead) g.S' 0 τ with
        | none => False
        | some (τ', ss', x) => match okR g.S'.length τ' (ss ++ ss') && keepLt g.S.length g.keep with
          | false => False
          | true => Ok ((x, r) = y)

theorem keptRT_spec : ∀ (l : List (Option Nat)) (j : Nat) (k' k : Nat), l[k']? = some (some k) → lk (keptRT j l) (j + k') = some (some k)
  | [], _, k', k, h => by simp at h
  | none :: l, j, k', k, h => by
    cases k' with
    | zero => simp at h
    | succ k' =>
      rw [show j + (k' + 1) = j + 1 + k' from by omega]
      exact keptRT_spec l (j + 1) k' k (by simpa using h)
  | some i :: l, j, k', k, h => by
    simp only [keptRT]
    rw [lk_cons]
    cases k' with
    | zero => simp at h; subst h; simp
    | succ k' =>
      rw [if_neg (by omega), show j + (k' + 1) = j + 1 + k' from by omega]
      exact keptRT_spec l (j + 1) k' k (by simpa using h)
theorem keepLt_spec {n : Nat} : ∀ {l : List (Option Nat)}, keepLt n l = true → ∀ k' k : Nat, l[k']? = some (some k) → k < n
  | [], _, k', k, h => by simp at h
  | none :: l, h, k', k, hk => by
    cases k' with
    | zero => simp at hk
    | succ k' => exact keepLt_spec (l := l) h k' k (by simpa using hk)
  | some i :: l, h, k', k, hk => by
    simp only [keepLt, Bool.and_eq_true] at h
    cases k' with
    | zero => simp at hk; subst hk; simpa using h.1
    | succ k' => exact keepLt_spec (l := l) h.2 k' k (by simpa using hk)

theorem resAS_rel {κ Im w} (rs : List AS) (r : ADat rs) (ys : List Value) (h : AV.rels κ Im w (aAV id rs r) ys) : AV.rel κ Im w (resAS id rs r) (pickR ys) := by
  match rs, r, h with
  | [], r, h =>
    simp only [aAV, AV.rels] at h
    subst h
    simp only [resAS, AV.rel, pickR]; exact ⟨_, rfl, by simp [AV.rels]⟩
  | [t], r, h =>
    have hl := aAV_len id [t] r
    obtain ⟨a, ha⟩ : ∃ a, aAV id [t] r = [a] := by
      match aAV id [t] r, hl with
      | [a], _ => exact ⟨a, rfl⟩
    rw [ha] at h
    simp only [AV.rels] at h
    obtain ⟨y, l, rfl, h3, rfl⟩ := h
    simp only [resAS, ha, List.headD_cons, pickR]
    exact h3
  | t :: u :: l, r, h =>
    have hl := rels_len h
    rw [aAV_len] at hl
    match ys, h, hl with
    | [], _, hl => simp at hl
    | [_], _, hl => simp at hl
    | y :: z :: ys, h, _ => simp only [resAS, AV.rel, pickR]; exact ⟨_, rfl, by simpa using h⟩

theorem olay_some {κ : Kap} {Im : Nat → Prop} {w : World} {S : List OS} {d : SDat S} {k : Nat} {o : AObj} {v : Option Value} {D : Nat → Prop} (h : (olay id S d)[k]? = some o) (ho : o.holds κ Im w v D) : ∃ u, v = some u := by
  have : ∃ (s : OS) (x : s.den), o = s.obj id x := by
    induction S generalizing k with
    | nil => simp [olay] at h
    | cons s S ih =>
      cases k with
      | zero => simp only [olay, List.getElem?_cons_zero, Option.some.injEq] at h; exact ⟨s, d.1, h.symm⟩
      | succ k => exact ih (d := d.2) (by simpa [olay] using h)
  obtain ⟨s, x, rfl⟩ := this
  cases s with
  | cells fs E => obtain ⟨b, arr, h1, _⟩ := ho; exact ⟨_, h1⟩
  | map ck cv => obtain ⟨b, es, clock, h1, _⟩ := ho; exact ⟨_, h1⟩
  | row c E => obtain ⟨a, cap, h1, _⟩ := ho; exact ⟨_, h1⟩
  | lent => exact ho.1
  | rng k ck cv => obtain ⟨r, b, es, clock, sb, h1, _⟩ := ho; exact ⟨_, h1⟩

theorem mut_of_exec {E : Env} (hE : EnvOk E) {L : LT E.P} {fuel : Nat} {f : FuncId} {fn : Func} {code : Code} (hf : E.P.funcs[f]? = some fn) (hb : fn.body = some code) {n : Nat} (hn : fn.ntmps = n) {rvs : List ResultVar}
    (hrv : fn.results.toList = rvs) (hl : Nat.ble rvs.length 4 = true) {g : MSig} {pre : SDat g.S → ADat g.ar → Prop} {out : SDat g.S → ADat g.ar → SDat g.S' × ADat g.rs}
    (h : ∀ d a, pre d a → exec E L fuel code (startT n (aAV id g.ar a)) (olay id g.S d) (retM E.P rvs g (out d a))) : MutOk E.P f g pre out := by
  intro M Im w κ ys d a hIm hst hv hpre
  have hx := h d a hpre
  rw [startT_eq, ← hn] at hx
  refine exec_calls hE hf hb (M := M) (Im := Im) (κ0 := κ) (kc := κ) hIm (fun t0 W m0 => ?_) ?_ hx ?_ (fun i T' H' h => h)
  · obtain ⟨q1, q2, q3, q4, q5, q6, q7, q8, q9, q10⟩ := hst t0 W m0
    exact ⟨q1, q2, q3, q4, q5, q6, fun _ _ h => h, q8, q9, q10⟩
  · have e1 : (aAV id g.ar a).length = ys.size := by rw [rels_len hv]; simp
    rw [Array.toList_append, rels_append]
    exact ⟨_, _, rfl, hv, by rw [e1]; simpa using rels_undef _⟩
  · intro t0 W m0 T' H' κ' Im' tmps w' hK hf' hT'
    have hK : (match resVals E.P T' (H'.getD · .dead) rvs with
      | none => False
      | some l => match rdA (H'.getD · .dead) g.rs (keptRT 0 g.keep) l with
        | none => False
        | some (τ, ss, r) => match rdS (H'.getD · .dead) g.S' 0 τ with
          | none => False
          | some (τ', ss', x) => match okR g.S'.length τ' (ss ++ ss') && keepLt g.S.length g.keep with
            | false => False
            | true => Ok ((x, r) = out d a)) := by rcases hK with h | h <;> exact h
    split at hK
    · exact hK.elim
    rename_i l hlv
    split at hK
    · exact hK.elim
    rename_i τ ss r hr
    split at hK
    · exact hK.elim
    rename_i τ' ss' x hs
    split at hK
    · exact hK.elim
    rename_i hok
    obtain ⟨hout⟩ := hK
    simp only [Bool.and_eq_true] at hok
    obtain ⟨hkeys, hsn, hss⟩ := okR_spec hok.1
    obtain ⟨vs, hrs, hlen, hrun⟩ := resVals_sound (P := E.P) hf' hT' rvs l hlv
    obtain ⟨Im1, s1, s2, s3⟩ := seal_all (ss ++ ss') hf'
    obtain ⟨p1, p2⟩ := rdA_spec (κ := κ') (κ' := kap κ' τ') (Im := Im1) (w := w') hr
    obtain ⟨q1, q2⟩ := rdS_spec (κ := κ') (κ' := kap κ' τ') (Im := Im1) (w := w') hs
    have hg := kap_goes κ' τ'
    have h2 := p2 (hg.of_le q1) (fun i hi => s3 i (List.mem_append_left _ hi)) _ (AV.rels_mono s2 _ _ hrs)
    have hst2 : ∀ (j : Nat) o, (olay id g.S' x)[j]? = some o → ∃ src, lk τ' j = some src ∧ Stands κ' (kap κ' τ') Im1 w' H' src o := fun j o ho => by
      obtain ⟨src, e1, e2⟩ := q2 j o ho
      exact ⟨src, by simpa using e1, e2 hg fun i hi => s3 i (List.mem_append_right _ hi)⟩
    have hH1 : ∀ i ∈ somes τ', (updH H' (deadAll (ss ++ ss')))[i]? = H'[i]? := fun i hi => updH_dead_ne H' _ i (hss i hi)
    obtain ⟨⟨D, d1, d2, d3⟩, hfresh, him, hkp, hframe, hsize, hk0, hos, htape, hout'⟩ := s1
    obtain ⟨D', m1, m2, m3, m4⟩ := St.remap (S := g.S') (x := x) d1 d3 hst2 hH1 hkeys hsn
    have hl4 : rvs.length ≤ 4 := by simpa using hl
    refine ⟨_, results_run vs (by omega) (by rw [hrv]; exact hlen) (by rw [hrv]; exact hrun), _, kap κ' τ', Im1, rfl, fun t0 W m0 => ?_, fun k' k hk => ?_, ?_⟩
    · rw [← hout]
      refine ⟨⟨D', m1, fun j b hb => ?_, m3⟩, m4, him, hkp, hframe, hsize, fun _ _ e => (by simp [κ0] at e), hos, htape, hout'⟩
      obtain ⟨e1, i, e2, e3⟩ := m2 j b hb
      exact ⟨e1, (d2 i b e3).2⟩
    · have hlk := q1 _ _ (p1 _ _ (keptRT_spec g.keep 0 k' k hk))
      rw [Nat.zero_add] at hlk
      simp only [kap, hlk, srcV]
      obtain ⟨⟨D0, o1, _⟩, _⟩ := hst #[] (fun _ => true) 0
      obtain ⟨o, ho⟩ : ∃ o, (olay id g.S d)[k]? = some o := ⟨_, List.getElem?_eq_getElem (by rw [olay_len]; exact keepLt_spec hok.2 k' k hk)⟩
      obtain ⟨u, hu⟩ := olay_some ho (o1 k o ho)
      rw [hu]
      exact hk0 k u hu
    · rw [← hout]
      exact resAS_rel g.rs r vs h2

def Ctr.mut {P : Program} {f : FuncId} {g : MSig} {pre : SDat g.S → ADat g.ar → Prop} {out : SDat g.S → ADat g.ar → SDat g.S' × ADat g.rs} (h : MutOk P f g pre out) (enters : ∀ args w, (callFunc f args).run P w = .ok (.enter f args) w) : Ctr P where
  f := f
  s := mutSpec g pre out
  enters := enters
  loc := mutSpec_loc
  sound := mutSpec_sound h
end Go.X

/- Loops: what varies is told, all else stays; what is to be shown is that the least that is closed under a round holds where the loop begins. -/
namespace Go.X
open Go

structure LoopS where
  S : List OS
  at_ : List (Option Nat)
  slots : List Nat
  ar : List AS
  keep : List Nat

def wrL : Code → List Nat
  | .region _ ops _ => ops.toList.filterMap (·.dst)
  | .seq a b => wrL a ++ wrL b
  | .cond _ a b => wrL a ++ wrL b
  | .block _ b => wrL b
  | .loop b => wrL b
  | _ => []

def allF : (l : List FS) → (FDat l → Prop) → Prop
  | [], p => p ()
  | .d c :: l, p => ∀ x : c.den, allF l fun r => p (x, r)
  | .sl c :: l, p => ∀ x : List c.den, allF l fun r => p (x, r)
  | .hd _ :: l, p => allF l p
  | .ptr _ :: l, p => allF l p
def allO : (s : OS) → (s.den → Prop) → Prop
  | .cells fs _, p => allF fs p
  | .map ck cv, p => ∀ m : List (ck.den × cv.den), p m
  | .row c _, p => ∀ xs : List c.den, p xs
  | .lent, p => p ()
  | .rng _ ck cv, p => ∀ (m : List (ck.den × cv.den)) (ks : List ck.den), p (m, ks)
def allS : (l : List OS) → (SDat l → Prop) → Prop
  | [], p => p ()
  | s :: l, p => allO s fun x => allS l fun r => p (x, r)
def allA : (l : List AS) → (ADat l → Prop) → Prop
  | [], p => p ()
  | .tc c :: l, p => ∀ x : c.den, allA l fun r => p (x, r)
  | .sl c :: l, p => ∀ x : List c.den, allA l fun r => p (x, r)
  | .hd _ :: l, p => allA l p
  | .ptr _ :: l, p => allA l p
  | .fn _ _ :: l, p => allA l p
theorem allF_spec : ∀ {l : List FS} {p : FDat l → Prop}, allF l p → ∀ x, p x
  | [], _, h, () => h
  | .d _ :: _, _, h, (x, r) => allF_spec (h x) r
  | .sl _ :: _, _, h, (x, r) => allF_spec (h x) r
  | .hd _ :: l, _, h, x => allF_spec (l := l) h x
  | .ptr _ :: l, _, h, x => allF_spec (l := l) h x
theorem allO_spec {s : OS} {p : s.den → Prop} (h : allO s p) (x : s.den) : p x := by
  cases s with
  | cells fs E => exact allF_spec h x
  | map ck cv => exact h x
  | row c E => exact h x
  | lent => exact h
  | rng k ck cv => exact h x.1 x.2
theorem allS_spec : ∀ {l : List OS} {p : SDat l → Prop}, allS l p → ∀ x, p x
  | [], _, h, () => h
  | _ :: _, _, h, (x, r) => allS_spec (allO_spec h x) r
theorem allA_spec : ∀ {l : List AS} {p : ADat l → Prop}, allA l p → ∀ x, p x
  | [], _, h, () => h
  | .tc _ :: _, _, h, (x, r) => allA_spec (h x) r
  | .sl _ :: _, _, h, (x, r) => allA_spec (h x) r
  | .hd _ :: l, _, h, x => allA_spec (l := l) h x
  | .ptr _ :: l, _, h, x => allA_spec (l := l) h x
  | .fn _ _ :: l, _, h, x => allA_spec (l := l) h x

theorem allF_of : ∀ {l : List FS} {p : FDat l → Prop}, (∀ x, p x) → allF l p
  | [], _, h => h ()
  | .d _ :: _, _, h => fun x => allF_of fun r => h (x, r)
  | .sl _ :: _, _, h => fun x => allF_of fun r => h (x, r)
  | .hd _ :: l, _, h => allF_of (l := l) h
  | .ptr _ :: l, _, h => allF_of (l := l) h
theorem allO_of {s : OS} {p : s.den → Prop} (h : ∀ x, p x) : allO s p := by
  cases s with
  | cells fs E => exact allF_of h
  | map ck cv => exact h
  | row c E => exact h
  | lent => exact h ()
  | rng k ck cv => exact fun m ks => h (m, ks)
theorem allS_of : ∀ {l : List OS} {p : SDat l → Prop}, (∀ x, p x) → allS l p
  | [], _, h => h ()
  | _ :: _, _, h => allO_of fun x => allS_of fun r => h (x, r)
theorem allA_of : ∀ {l : List AS} {p : ADat l → Prop}, (∀ x, p x) → allA l p
  | [], _, h => h ()
  | .tc _ :: _, _, h => fun x => allA_of fun r => h (x, r)
  | .sl _ :: _, _, h => fun x => allA_of fun r => h (x, r)
  | .hd _ :: l, _, h => allA_of (l := l) h
  | .ptr _ :: l, _, h => allA_of (l := l) h
  | .fn _ _ :: l, _, h => allA_of (l := l) h

def forceOL : List AObj → (List AObj → Prop) → Prop
  | [], k => k []
  | o :: l, k => forceO o fun o => forceOL l fun l => k (o :: l)
theorem forceOL_eq : ∀ (l : List AObj) (k : List AObj → Prop), forceOL l k = k l
  | [], k => rfl
  | o :: l, k => by simp only [forceOL, forceO_eq, forceOL_eq l]

def lkV {α : Type} : List (Nat × α) → Nat → Option α
  | [], _ => none
  | (i, v) :: l, s => match Nat.beq i s with | true => some v | false => lkV l s
def embT (W : List Nat) (vs : List (Nat × AV)) : Nat → List AV → List AV
  | _, [] => []
  | s, a :: l => (match lkV vs s with | some v => v | none => match memB s W with | true => .any | false => a) :: embT W vs (s + 1) l
def embO (os : List (Nat × AObj)) (keep : List Nat) : Nat → List AObj → List AObj
  | _, [] => []
  | i, o :: l => (match lkV os i with | some v => v | none => match memB i keep with | true => o | false => .dead) :: embO os keep (i + 1) l
def atRT : Nat → List (Option Nat) → RT
  | _, [] => []
  | k, none :: l => atRT (k + 1) l
  | k, some i :: l => (k, some i) :: atRT (k + 1) l
def atLt (n : Nat) : List (Option Nat) → Bool
  | [] => true
  | none :: l => atLt n l
  | some i :: l => Nat.blt i n && atLt n l
def zipV : List Nat → List AV → List (Nat × AV)
  | s :: l, a :: m => (s, a) :: zipV l m
  | _, _ => []

mutual
def AV.idsLt (n : Nat) : AV → Bool
  | .v _ | .any | .rs _ _ | .ep _ _ _ _ => true
  | .gd _ _ _ a => a.idsLt n
  | .ptr i _ | .hd i | .vw i _ _ _ | .rp i _ _ _ => Nat.blt i n
  | .agg l | .tup l | .fn _ l => AV.idsLts n l
def AV.idsLts (n : Nat) : List AV → Bool
  | [] => true
  | a :: l => a.idsLt n && AV.idsLts n l
end
def AObj.idsLt (n : Nat) : AObj → Bool
  | .cells cs _ => AV.idsLts n cs
  | .rng i _ _ _ _ _ => Nat.blt i n
  | _ => true
def keepOkH (n : Nat) (H : List AObj) : List Nat → Bool
  | [] => true
  | i :: l => Nat.blt i n && (H.getD i .dead).idsLt n && keepOkH n H l
def keepP (H0 H : List AObj) : List Nat → Prop → Prop
  | [], k => k
  | i :: l, k => Ok (H.getD i .dead = H0.getD i .dead) ∧ keepP H0 H l k

namespace LoopS
def σ (s : LoopS) (n0 k : Nat) : Nat := match s.at_[k]? with | some (some i) => i | _ => n0 + k
def read (s : LoopS) (n0 : Nat) (T : List AV) (H : List AObj) : Option (SDat s.S × ADat s.ar) :=
  match rdA (H.getD · .dead) s.ar (atRT 0 s.at_) (s.slots.map (T.getD · .any)) with
  | none => none
  | some (τ, ss, a) => match rdS (H.getD · .dead) s.S 0 τ with
    | none => none
    | some (τ', ss', d) => match okR s.S.length τ' (ss ++ ss') && apartB s.keep (somes τ' ++ (ss ++ ss')) && atLt n0 s.at_ && Nat.beq s.at_.length s.S.length && nodupB (tgts (s.σ n0) 0 s.S) with
      | false => none
      | true => some (d, a)
def T1 (s : LoopS) (n0 : Nat) (W : List Nat) (T : List AV) (a : ADat s.ar) : List AV := embT W (zipV s.slots (aAV (s.σ n0) s.ar a)) 0 T
def H1 (s : LoopS) (n0 : Nat) (H : List AObj) (d : SDat s.S) : List AObj := embO (newsL (s.σ n0) 0 s.S d) s.keep 0 (H ++ List.replicate s.S.length .dead)

def run (s : LoopS) (code : Code) (x : XT) : XT := fun T H K =>
  forceN H.length fun n0 => forceNs (wrL code) fun W =>
    match s.read n0 T H, keepOkH n0 H s.keep with
    | some i0, true => ∀ R : SDat s.S × ADat s.ar → Prop,
        (allS s.S fun d => allA s.ar fun a =>
          (forceL (s.T1 n0 W T a) fun T1 => forceOL (s.H1 n0 H d) fun H1 => x T1 H1 fun e T' H' => match e with
            | .n => (match s.read n0 T' H' with
              | none => False
              | some j => keepP H H' s.keep (R j))
            | .x i => K (.x i) T' H'
            | .r => K .r T' H') → R (d, a)) → R i0
    | _, _ => False
end LoopS

/-! ### Soundness -/
section
variable {κ κ' : Kap} {Im : Nat → Prop} {w : World} {n : Nat}
mutual
theorem AV.rel_ids (h : ∀ i, i < n → κ' i = κ i) : ∀ (a : AV) (y : Value), a.idsLt n = true → AV.rel κ Im w a y → AV.rel κ' Im w a y
  | .v _, _, _, e => by simpa only [AV.rel] using e
  | .any, _, _, e => by simp only [AV.rel]
  | .gd _ _ _ a, y, hi, e => by
    simp only [AV.rel] at e ⊢
    exact ⟨fun ht => AV.rel_ids h a y (by simpa [AV.idsLt] using hi) (e.1 ht), e.2⟩
  | .ptr i _, _, hi, e => by
    simp only [AV.rel] at e ⊢
    rw [h i (by simpa [AV.idsLt] using hi)]; exact e
  | .hd i, _, hi, e => by
    simp only [AV.rel] at e ⊢
    rw [h i (by simpa [AV.idsLt] using hi)]; exact e
  | .vw i _ _ _, _, hi, e => by
    simp only [AV.rel] at e ⊢
    rw [h i (by simpa [AV.idsLt] using hi)]; exact e
  | .rp i _ _ _, _, hi, e => by
    simp only [AV.rel] at e ⊢
    rw [h i (by simpa [AV.idsLt] using hi)]; exact e
  | .agg l, _, hi, e => by
    simp only [AV.rel] at e ⊢
    obtain ⟨ys, h1, h2⟩ := e
    exact ⟨ys, h1, AV.rels_ids h l _ (by simpa [AV.idsLt] using hi) h2⟩
  | .tup l, _, hi, e => by
    simp only [AV.rel] at e ⊢
    obtain ⟨ys, h1, h2⟩ := e
    exact ⟨ys, h1, AV.rels_ids h l _ (by simpa [AV.idsLt] using hi) h2⟩
  | .fn _ l, _, hi, e => by
    simp only [AV.rel] at e ⊢
    obtain ⟨ys, h1, h2⟩ := e
    exact ⟨ys, h1, AV.rels_ids h l _ (by simpa [AV.idsLt] using hi) h2⟩
  | .rs c xs, y, _, e => AV.rel_hf (.rs c xs) y (by simp [AV.hf]) e
  | .ep c xs m o, y, _, e => AV.rel_hf (.ep c xs m o) y (by simp [AV.hf]) e
termination_by a => a.ms
decreasing_by all_goals (simp only [AV.ms]; omega)
theorem AV.rels_ids (h : ∀ i, i < n → κ' i = κ i) : ∀ (l : List AV) (ys : List Value), AV.idsLts n l = true → AV.rels κ Im w l ys → AV.rels κ' Im w l ys
  | [], _, _, e => by simpa only [AV.rels] using e
  | a :: l, _, hi, e => by
    simp only [AV.idsLts, Bool.and_eq_true] at hi
    simp only [AV.rels] at e ⊢
    obtain ⟨y, r, h1, h2, h3⟩ := e
    exact ⟨y, r, h1, AV.rel_ids h a y hi.1 h2, AV.rels_ids h l r hi.2 h3⟩
termination_by l => AV.mss l
decreasing_by all_goals (simp only [AV.mss]; have h1 := AV.ms_pos a; have h2 := AV.mss_pos l; omega)
end
theorem AObj.holds_ids (h : ∀ i, i < n → κ' i = κ i) {v : Option Value} {D : Nat → Prop} : ∀ o : AObj, o.idsLt n = true → o.holds κ Im w v D → o.holds κ' Im w v D
  | .free, _, e => e
  | .dead, _, e => e
  | .cells cs E, hi, e => by
    obtain ⟨b, arr, h1, h2, h3, h4⟩ := e
    exact ⟨b, arr, h1, h2, AV.rels_ids h _ _ hi h3, h4⟩
  | .row E c xs, _, e => by
    obtain ⟨a, cap, h1, h2⟩ := e
    refine ⟨a, cap, h1, ?_⟩
    rcases h2 with h2 | ⟨g, arr, h3, h4, h5, h6, h6', h7, h8⟩
    · exact .inl h2
    · exact .inr ⟨g, arr, h3, h4, h5, h6, h6', fun j hj => AV.rels_hf _ _ (TC.enc_hf _ _) (h7 j hj), h8⟩
  | .map ck cv m, _, e => by
    obtain ⟨b, es, clock, h1, h2, ⟨m', h3, h3'⟩, h4⟩ := e
    exact ⟨b, es, clock, h1, h2, ⟨m', h3, ents_hf _ _ h3'⟩, h4⟩
  | .lent, _, e => e
  | .rng i ck cv m seen cur, hi, e => by
    obtain ⟨r, b, es, clock, sb, h1, h2, h3, h3', ⟨m', h4, h4'⟩, h5, h6, h7, h8, h9⟩ := e
    exact ⟨r, b, es, clock, sb, h1, by rw [h i (by simpa [AObj.idsLt] using hi)]; exact h2, h3, h3', ⟨m', h4, ents_hf _ _ h4'⟩, h5, h6, h7, seen_hf _ _ h8, h9⟩
  | .loop st, _, e => e
end

theorem lkV_mem {α : Type} : ∀ {l : List (Nat × α)} {s : Nat} {v : α}, lkV l s = some v → (s, v) ∈ l
  | [], _, _, h => by simp [lkV] at h
  | (i, u) :: l, s, v, h => by
    simp only [lkV] at h
    split at h
    · rename_i e; have e := Nat.eq_of_beq_eq_true e; cases h; rw [e]; simp
    · exact List.mem_cons_of_mem _ (lkV_mem h)
theorem lkV_none {α : Type} : ∀ {l : List (Nat × α)} {s : Nat}, lkV l s = none → s ∉ l.map (·.1)
  | [], _, _ => by simp
  | (i, u) :: l, s, h => by
    simp only [lkV] at h
    split at h
    · cases h
    · rename_i e
      simp only [List.map_cons, List.mem_cons, not_or]
      refine ⟨fun e' => ?_, lkV_none h⟩
      rw [e', Nat.beq_refl] at e
      cases e

theorem embT_get (W : List Nat) (vs : List (Nat × AV)) : ∀ (l : List AV) (s j : Nat) (a : AV), (embT W vs s l)[j]? = some a → ∃ a0, l[j]? = some a0 ∧ ((lkV vs (s + j) = some a) ∨ a = .any ∨ (memB (s + j) W = false ∧ a = a0))
  | [], s, j, a, h => by simp [embT] at h
  | b :: l, s, j, a, h => by
    cases j with
    | zero =>
      simp only [embT, List.getElem?_cons_zero, Option.some.injEq] at h
      refine ⟨b, rfl, ?_⟩
      rw [Nat.add_zero]
      split at h
      · rename_i v hv; subst h; exact .inl hv
      · split at h
        · exact .inr (.inl h.symm)
        · rename_i hm; exact .inr (.inr ⟨hm, h.symm⟩)
    | succ j =>
      have := embT_get W vs l (s + 1) j a (by simpa [embT] using h)
      rw [show s + 1 + j = s + (j + 1) from by omega] at this
      simpa using this
theorem embT_len (W : List Nat) (vs : List (Nat × AV)) : ∀ (l : List AV) (s : Nat), (embT W vs s l).length = l.length
  | [], _ => rfl
  | _ :: l, s => by simp [embT, embT_len W vs l]
theorem embO_len (os : List (Nat × AObj)) (keep : List Nat) : ∀ (l : List AObj) (s : Nat), (embO os keep s l).length = l.length
  | [], _ => rfl
  | _ :: l, s => by simp [embO, embO_len os keep l]
theorem embO_get (os : List (Nat × AObj)) (keep : List Nat) : ∀ (l : List AObj) (s j : Nat) (a : AObj), (embO os keep s l)[j]? = some a → ∃ a0, l[j]? = some a0 ∧ ((lkV os (s + j) = some a) ∨ (lkV os (s + j) = none ∧ ((memB (s + j) keep = true ∧ a = a0) ∨ (memB (s + j) keep = false ∧ a = .dead))))
  | [], s, j, a, h => by simp [embO] at h
  | b :: l, s, j, a, h => by
    cases j with
    | zero =>
      simp only [embO, List.getElem?_cons_zero, Option.some.injEq] at h
      refine ⟨b, rfl, ?_⟩
      rw [Nat.add_zero]
      split at h
      · rename_i v hv; subst h; exact .inl hv
      · rename_i hv
        refine .inr ⟨hv, ?_⟩
        split at h
        · rename_i hm; exact .inl ⟨hm, h.symm⟩
        · rename_i hm; exact .inr ⟨hm, h.symm⟩
    | succ j =>
      have := embO_get os keep l (s + 1) j a (by simpa [embO] using h)
      rw [show s + 1 + j = s + (j + 1) from by omega] at this
      simpa using this

theorem rels_of_get {κ Im w} : ∀ {l : List AV} {ys : List Value}, l.length = ys.length → (∀ (i : Nat) a y, l[i]? = some a → ys[i]? = some y → AV.rel κ Im w a y) → AV.rels κ Im w l ys
  | [], [], _, _ => by simp [AV.rels]
  | [], _ :: _, h, _ => by simp at h
  | _ :: _, [], h, _ => by simp at h
  | a :: l, y :: ys, h, hg => by
    simp only [AV.rels]
    exact ⟨y, ys, rfl, hg 0 a y rfl rfl, rels_of_get (by simpa using h) fun i b z hb hz => hg (i + 1) b z (by simpa using hb) (by simpa using hz)⟩

theorem zipV_mem : ∀ {slots : List Nat} {as : List AV} {s : Nat} {v : AV}, (s, v) ∈ zipV slots as → ∃ j : Nat, slots[j]? = some s ∧ as[j]? = some v
  | [], _, _, _, h => by simp [zipV] at h
  | _ :: _, [], _, _, h => by simp [zipV] at h
  | t :: slots, a :: as, s, v, h => by
    simp only [zipV, List.mem_cons, Prod.mk.injEq] at h
    rcases h with ⟨rfl, rfl⟩ | h
    · exact ⟨0, rfl, rfl⟩
    · obtain ⟨j, h1, h2⟩ := zipV_mem h
      exact ⟨j + 1, by simpa using h1, by simpa using h2⟩

theorem wr_mem {W : Nat → Bool} : ∀ {code : Code}, wrIn W code = true → ∀ s ∈ wrL code, W s = true
  | .region _ ops _, h, s, hs => by
    obtain ⟨o, ho, e⟩ := List.mem_filterMap.1 hs
    exact dstsIn_spec h ho s e
  | .seq a b, h, s, hs => by
    simp only [wrIn, Bool.and_eq_true] at h
    rcases List.mem_append.1 hs with hs | hs
    · exact wr_mem h.1 s hs
    · exact wr_mem h.2 s hs
  | .cond _ a b, h, s, hs => by
    simp only [wrIn, Bool.and_eq_true] at h
    rcases List.mem_append.1 hs with hs | hs
    · exact wr_mem h.1 s hs
    · exact wr_mem h.2 s hs
  | .block _ b, h, s, hs => wr_mem (code := b) h s hs
  | .loop b, h, s, hs => wr_mem (code := b) h s hs
  | .skip, _, s, hs | .rangeFunc _ _ _ _, _, s, hs | .exit _, _, s, hs | .scope _, _, s, hs | .label _, _, s, hs | .goto _, _, s, hs | .ret, _, s, hs | .refuse _, _, s, hs => by simp [wrL] at hs
theorem wr_all {W : Nat → Bool} : ∀ {code : Code}, (∀ s ∈ wrL code, W s = true) → wrIn W code = true
  | .region _ ops _, h => by
    simp only [wrIn, dstsIn, List.all_eq_true]
    intro o ho
    cases hd : o.dst with
    | none => rfl
    | some s => exact h s (List.mem_filterMap.2 ⟨o, ho, hd⟩)
  | .seq a b, h => by
    simp only [wrIn, Bool.and_eq_true]
    exact ⟨wr_all fun s hs => h s (List.mem_append_left _ hs), wr_all fun s hs => h s (List.mem_append_right _ hs)⟩
  | .cond _ a b, h => by
    simp only [wrIn, Bool.and_eq_true]
    exact ⟨wr_all fun s hs => h s (List.mem_append_left _ hs), wr_all fun s hs => h s (List.mem_append_right _ hs)⟩
  | .block _ b, h => wr_all (code := b) h
  | .loop b, h => wr_all (code := b) h
  | .skip, _ | .rangeFunc _ _ _ _, _ | .exit _, _ | .scope _, _ | .label _, _ | .goto _, _ | .ret, _ | .refuse _, _ => rfl

theorem atRT_spec : ∀ (l : List (Option Nat)) (j : Nat) (k i : Nat), l[k]? = some (some i) → lk (atRT j l) (j + k) = some (some i)
  | [], _, k, i, h => by simp at h
  | none :: l, j, k, i, h => by
    cases k with
    | zero => simp at h
    | succ k =>
      rw [show j + (k + 1) = j + 1 + k from by omega]
      exact atRT_spec l (j + 1) k i (by simpa using h)
  | some q :: l, j, k, i, h => by
    simp only [atRT]
    rw [lk_cons]
    cases k with
    | zero => simp at h; subst h; simp
    | succ k =>
      rw [if_neg (by omega), show j + (k + 1) = j + 1 + k from by omega]
      exact atRT_spec l (j + 1) k i (by simpa using h)
theorem atLt_spec {n : Nat} : ∀ {l : List (Option Nat)}, atLt n l = true → ∀ k i : Nat, l[k]? = some (some i) → i < n
  | [], _, k, i, h => by simp at h
  | none :: l, h, k, i, hk => by
    cases k with
    | zero => simp at hk
    | succ k => exact atLt_spec (l := l) h k i (by simpa using hk)
  | some q :: l, h, k, i, hk => by
    simp only [atLt, Bool.and_eq_true] at h
    cases k with
    | zero => simp at hk; subst hk; simpa using h.1
    | succ k => exact atLt_spec (l := l) h.2 k i (by simpa using hk)
theorem keepOkH_spec {n : Nat} {H : List AObj} : ∀ {l : List Nat}, keepOkH n H l = true → ∀ i ∈ l, i < n ∧ (H.getD i .dead).idsLt n = true
  | [], _, i, hi => by cases hi
  | j :: l, h, i, hi => by
    simp only [keepOkH, Bool.and_eq_true] at h
    rcases List.mem_cons.1 hi with rfl | hi
    · exact ⟨by simpa using h.1.1, h.1.2⟩
    · exact keepOkH_spec h.2 i hi
theorem keepP_spec {H0 H : List AObj} : ∀ {l : List Nat} {k : Prop}, keepP H0 H l k → (∀ i ∈ l, H.getD i .dead = H0.getD i .dead) ∧ k
  | [], k, h => ⟨fun i hi => (by cases hi), h⟩
  | j :: l, k, h => by
    obtain ⟨⟨h1⟩, h2⟩ := h
    obtain ⟨h3, h4⟩ := keepP_spec h2
    exact ⟨fun i hi => by rcases List.mem_cons.1 hi with rfl | hi; exact h1; exact h3 i hi, h4⟩

theorem newsL_lk (σ : Nat → Nat) : ∀ (k : Nat) (S : List OS) (x : SDat S), (tgts σ k S).Nodup → ∀ (i : Nat) o, lkV (newsL σ k S x) i = some o → ∃ j, j < S.length ∧ σ (k + j) = i ∧ (olay σ S x)[j]? = some o
  | _, [], _, _, i, o, h => by simp [newsL, lkV] at h
  | k, s :: S, x, hn, i, o, h => by
    simp only [tgts, List.nodup_cons] at hn
    simp only [newsL, lkV] at h
    split at h
    · rename_i e
      cases h
      exact ⟨0, by simp, Nat.eq_of_beq_eq_true e, rfl⟩
    · obtain ⟨j, h1, h2, h3⟩ := newsL_lk σ (k + 1) S x.2 hn.2 i o h
      exact ⟨j + 1, by simp; omega, by rw [show k + (j + 1) = k + 1 + j from by omega]; exact h2, by simpa [olay] using h3⟩
end Go.X

