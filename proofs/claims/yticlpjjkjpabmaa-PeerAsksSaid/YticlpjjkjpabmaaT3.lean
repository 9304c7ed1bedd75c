/- Parts of the walks: X32 X33 X34 X35 A0 T0 T1 T2 T3 -/
import Derived.Test.YticlpjjkjpabmaaX31
import Derived.IntWalk
import Derived.Shelf.SlSortCmp.NoneTotal
import Derived.Test.YticlpjjkjpabmaaProg
import Derived.KernelRfl

/- Loops: their rule holds. -/
namespace Go.X
open Go

theorem Fits.outer {c : Ctx} {κ κ1 : Kap} {Im Im1 : Nat → Prop} {w w1 : World} {T T1 : List AV} {H H1 : List AObj} {a a1 : Act} (hf : Fits c T H κ Im a w) {D : Nat → Nat → Prop} {W : Nat → Bool}
    (hD : ∀ i b, D i b → i < H.length ∧ b < w.heap.size ∧ ¬ Im b ∧ (c.M b ∨ c.w.heap.size ≤ b)) (hW : ∀ s, c.W s = false → W s = false)
    (h : Fits ⟨w, κ, fun b => ∃ i, D i b, Im, a.tmps, W, c.m0, c.R⟩ T1 H1 κ1 Im1 a1 w1) : Fits c T1 H1 κ1 Im1 a1 w1 := by
  obtain ⟨s1, s2⟩ := hf.st.outer hD h.st
  obtain ⟨hs1, hs2⟩ := h.slots
  exact ⟨s1, h.tmps, h.defers, ⟨hs1.trans hf.slots.1, fun s hs' => (hs2 s (hW s hs')).trans (hf.slots.2 s hs')⟩, h.rounds, hf.m0le⟩

theorem LoopS.read_spec {s : LoopS} {n0 : Nat} {T : List AV} {H : List AObj} {d : SDat s.S} {ar : ADat s.ar} (h : s.read n0 T H = some (d, ar)) :
    ∃ τ ss, okR s.S.length τ ss = true ∧ (∀ i ∈ s.keep, i ∉ somes τ ∧ i ∉ ss) ∧ (∀ k i : Nat, s.at_[k]? = some (some i) → i < n0 ∧ lk τ k = some (some i)) ∧ s.at_.length = s.S.length ∧ (tgts (s.σ n0) 0 s.S).Nodup ∧
      ∀ (κ κ' : Kap) (Im : Nat → Prop) (w : World), Goes κ κ' τ → (∀ i ∈ ss, Sealed κ Im w H i) → (∀ (j : Nat) o, (olay id s.S d)[j]? = some o → ∃ src, lk τ j = some src ∧ Stands κ κ' Im w H src o) ∧
        ∀ ys, AV.rels κ Im w (s.slots.map (T.getD · .any)) ys → AV.rels κ' Im w (aAV id s.ar ar) ys := by
  unfold LoopS.read at h
  split at h
  · cases h
  rename_i τ ss a h1
  split at h
  · cases h
  rename_i τ' ss' d' h2
  split at h
  · cases h
  rename_i hok
  cases h
  simp only [Bool.and_eq_true] at hok
  obtain ⟨⟨⟨⟨hR, hap⟩, hat⟩, hlen⟩, hnd⟩ := hok
  have e1 : (atRT 0 s.at_).le τ' := (rdA_spec (κ := κ0) (κ' := κ0) (Im := fun _ => False) (w := default) h1).1.trans (rdS_spec (κ := κ0) (κ' := κ0) (Im := fun _ => False) (w := default) h2).1
  refine ⟨τ', ss ++ ss', hR, fun i hi => ?_, fun k i hk => ⟨atLt_spec hat k i hk, ?_⟩, Nat.eq_of_beq_eq_true hlen, nodupB_spec hnd, fun κ κ' Im w hg hs => ?_⟩
  · have := apartB_spec hap i hi
    rw [List.mem_append, not_or] at this
    exact this
  · have := e1 _ _ (atRT_spec s.at_ 0 k i hk)
    rwa [Nat.zero_add] at this
  · obtain ⟨p1, p2⟩ := rdA_spec (κ := κ) (κ' := κ') (Im := Im) (w := w) h1
    obtain ⟨q1, q2⟩ := rdS_spec (κ := κ) (κ' := κ') (Im := Im) (w := w) h2
    refine ⟨fun j o ho => ?_, fun ys hr => p2 (hg.of_le q1) (fun i hi => hs i (List.mem_append_left _ hi)) ys hr⟩
    obtain ⟨src, e1, e2⟩ := q2 j o ho
    exact ⟨src, by simpa using e1, e2 hg fun i hi => hs i (List.mem_append_right _ hi)⟩

theorem rels_slots {κ Im w} {T : List AV} {ys : List Value} (h : AV.rels κ Im w T ys) : ∀ slots : List Nat, AV.rels κ Im w (slots.map (T.getD · .any)) (slots.map (ys.getD · undef))
  | [] => by simp [AV.rels]
  | s :: slots => by
    simp only [List.map_cons, AV.rels]
    exact ⟨_, _, rfl, rels_get h s, rels_slots h slots⟩

/-- A round's end, as the next round's begin. -/
theorem LoopS.rebase {s : LoopS} {c : Ctx} {κ κ1 : Kap} {Im Im1 : Nat → Prop} {w w1 : World} {T T' : List AV} {H H' : List AObj} {a a1 : Act} (hf : Fits c T H κ Im a w) {D : Nat → Nat → Prop} {Wl : List Nat}
    (hD : ∀ i b, D i b → i < H.length ∧ b < w.heap.size ∧ ¬ Im b ∧ (c.M b ∨ c.w.heap.size ≤ b))
    (h : Fits ⟨w, κ, fun b => ∃ i, D i b, Im, a.tmps, fun s => memB s Wl, c.m0, c.R⟩ T' H' κ1 Im1 a1 w1) {d : SDat s.S} {ar : ADat s.ar} (hr : s.read H.length T' H' = some (d, ar)) (hk : keepOkH H.length H s.keep = true)
    (hkp : ∀ i ∈ s.keep, H'.getD i .dead = H.getD i .dead) :
    ∃ κ2 Im2, Fits ⟨w, κ, fun b => ∃ i, D i b, Im, a.tmps, fun s => memB s Wl, c.m0, c.R⟩ (s.T1 H.length Wl T ar) (s.H1 H.length H d) κ2 Im2 a1 w1 := by
  obtain ⟨τ, ss, hR, hkeep, hat, hlen, hnd, hread⟩ := LoopS.read_spec hr
  obtain ⟨hkeys, hsn, hss⟩ := okR_spec hR
  obtain ⟨Im2, s1, s2, s3⟩ := seal_all ss h.st
  obtain ⟨r1, r2⟩ := hread κ1 (kap κ1 τ) Im2 w1 (kap_goes κ1 τ) s3
  have hH1 : ∀ i ∈ somes τ, (updH H' (deadAll ss))[i]? = H'[i]? := fun i hi => updH_dead_ne H' ss i (hss i hi)
  obtain ⟨⟨D1, d1, d2, d3⟩, hfresh, him, hkp', hframe, hsize, hk0, hos, htape, hout⟩ := s1
  simp only at d2 him hkp' hframe hsize hk0 hos htape hout
  obtain ⟨D', m1, m2, m3, m4⟩ := St.remap (S := s.S) (x := d) d1 d3 r1 hH1 hkeys hsn
  let σ := s.σ H.length
  let κ2 : Kap := fun i => if i < H.length then κ1 i else if i < H.length + s.S.length ∧ s.at_[i - H.length]? = some none then kap κ1 τ (i - H.length) else none
  have hσ : ∀ j : Nat, j < s.S.length → (∃ i, s.at_[j]? = some (some i) ∧ lk τ j = some (some i) ∧ σ j = i ∧ i < H.length) ∨ (s.at_[j]? = some none ∧ σ j = H.length + j) := by
    intro j hj
    cases hq : s.at_[j]? with
    | none => have := List.getElem?_eq_none_iff.1 hq; omega
    | some q =>
      cases q with
      | none => exact .inr ⟨rfl, by simp only [σ, LoopS.σ, hq]⟩
      | some i => exact .inl ⟨i, rfl, (hat j i hq).2, by simp only [σ, LoopS.σ, hq], (hat j i hq).1⟩
  have hκσ : ∀ j : Nat, j < s.S.length → κ2 (σ j) = kap κ1 τ j := by
    intro j hj
    rcases hσ j hj with ⟨i, h1, h2, e, hi⟩ | ⟨h1, e⟩
    · simp only [κ2, e]
      rw [if_pos hi]
      simp only [kap, h2, srcV]
    · simp only [κ2, e]
      rw [if_neg (by omega), Nat.add_sub_cancel_left, if_pos ⟨by omega, h1⟩]
  have hren : ∀ j v, kap κ1 τ j = some v → κ2 (σ j) = some v := by
    intro j v hv
    have hj : j < s.S.length := by
      rcases Nat.lt_or_ge j s.S.length with h | h
      · exact h
      · rw [m4 j (by rw [olay_len]; exact h)] at hv; cases hv
    rw [hκσ j hj]; exact hv
  have hκlt : ∀ i, i < H.length → κ2 i = κ1 i := fun i hi => by simp only [κ2]; rw [if_pos hi]
  have hκH : ∀ i v, κ i = some v → i < H.length := fun i v hi => by
    rcases Nat.lt_or_ge i H.length with h | h
    · exact h
    · rw [hf.st.fresh i h] at hi; cases hi
  have hImD : ∀ b, Im b → ¬ ∃ i, D i b := fun b hb ⟨i, hi⟩ => (hD i b hi).2.2.1 hb
  have hle : Le κ κ2 Im Im2 w w1 := ⟨fun i v hi => by rw [hκlt i (hκH i v hi)]; exact hk0 i v hi, fun b hb => hkp' b hb, fun b hb => hframe b (hf.st.im b hb).1 (hImD b hb), hout.2.2⟩
  have hTlen : T.length = a.tmps.toList.length := rels_len hf.tmps
  have hsz : a1.tmps.size = a.tmps.size := h.slots.1
  have hvals := aAV_ren hren s.ar ar _ (r2 _ (AV.rels_mono s2 _ _ (rels_slots h.tmps s.slots)))
  refine ⟨κ2, Im2, ⟨⟨fun i b => (∃ j, j < s.S.length ∧ σ j = i ∧ D' j b) ∨ (i ∉ tgts σ 0 s.S ∧ i ∈ s.keep ∧ i < H.length ∧ D1 i b), fun i o ho => ?_, fun i b hb => ?_, fun i i2 b hb hb2 => ?_⟩, fun i hi => ?_, him, hkp', hframe, hsize, fun i v hi => hle.k i v hi, hos, htape, hout⟩, ?_, ?_, h.slots, fun d hd => rdOk_mono hle (hf.rounds d hd), h.m0le⟩
  · simp only [LoopS.H1] at ho
    obtain ⟨o0, e1, e2⟩ := embO_get _ _ _ 0 i o ho
    rw [Nat.zero_add] at e2
    rcases e2 with e2 | ⟨e2, e3⟩
    · obtain ⟨j, hj, hji, ho2⟩ := newsL_lk (s.σ H.length) 0 s.S d hnd i o e2
      rw [Nat.zero_add] at hji
      subst hji
      obtain ⟨o', q1, q2⟩ := olay_ren (Im := Im2) (w := w1) hren s.S _ j o ho2
      have hmem : σ j ∈ tgts σ 0 s.S := (tgts_mem σ 0 s.S _).2 ⟨j, hj, by rw [Nat.zero_add]⟩
      have hDD : (fun b => (∃ j2, j2 < s.S.length ∧ σ j2 = σ j ∧ D' j2 b) ∨ (σ j ∉ tgts σ 0 s.S ∧ σ j ∈ s.keep ∧ σ j < H.length ∧ D1 (σ j) b)) = D' j := by
        funext b
        apply propext
        constructor
        · rintro (⟨j2, h1, h2, h3⟩ | ⟨h1, _⟩)
          · rw [← tgts_inj σ 0 s.S hnd j2 j h1 hj (by simpa using h2)]; exact h3
          · exact absurd hmem h1
        · exact fun h => .inl ⟨j, hj, rfl, h⟩
      show AObj.holds κ2 Im2 w1 (κ2 (σ j)) (fun b => _) o
      rw [hDD, hκσ j hj]
      exact q2 _ _ (m1 j o' q1)
    · have hni : i ∉ tgts σ 0 s.S := by
        have := lkV_none e2
        rwa [newsL_keys] at this
      have hno : ∀ b, ¬ ∃ j, j < s.S.length ∧ σ j = i ∧ D' j b := fun b ⟨j, h1, h2, _⟩ => hni ((tgts_mem σ 0 s.S i).2 ⟨j, h1, by rw [Nat.zero_add]; exact h2⟩)
      rcases e3 with ⟨e3, e4⟩ | ⟨e3, e4⟩
      · have hik := memB_iff.1 e3
        obtain ⟨hlt, hids⟩ := keepOkH_spec hk i hik
        subst e4
        have hHi : H[i]? = some o := by rw [List.getElem?_append_left hlt] at e1; exact e1
        have hHd : H.getD i .dead = o := by rw [List.getD, hHi]; rfl
        have hDD : (fun b => (∃ j, j < s.S.length ∧ σ j = i ∧ D' j b) ∨ (i ∉ tgts σ 0 s.S ∧ i ∈ s.keep ∧ i < H.length ∧ D1 i b)) = D1 i := by
          funext b
          apply propext
          constructor
          · rintro (h | ⟨_, _, _, h⟩)
            · exact absurd h (hno b)
            · exact h
          · exact fun h => .inr ⟨hni, hik, hlt, h⟩
        show AObj.holds κ2 Im2 w1 (κ2 i) (fun b => _) o
        rw [hDD, hκlt i hlt]
        have hsame := hkp i hik
        rw [hHd] at hsame hids
        have hs2 : (updH H' (deadAll ss))[i]? = H'[i]? := updH_dead_ne H' ss i (hkeep i hik).2
        cases hH' : H'[i]? with
        | none =>
          rw [List.getD, hH'] at hsame
          simp only [Option.getD_none] at hsame
          subst hsame
          intro b hb
          have := (d2 i b hb).1
          rw [updH_length] at this
          rw [List.getElem?_eq_none_iff] at hH'
          omega
        | some o' =>
          rw [List.getD, hH'] at hsame
          simp only [Option.getD_some] at hsame
          subst hsame
          exact AObj.holds_ids (fun i hi => hκlt i hi) o' hids (d1 i o' (hs2.trans hH'))
      · subst e4
        rintro b (h | ⟨_, h, _⟩)
        · exact hno b h
        · exact memB_false.1 e3 h
  · have hlenH : (s.H1 H.length H d).length = H.length + s.S.length := by simp [LoopS.H1, embO_len]
    rw [hlenH]
    rcases hb with ⟨j, h1, h2, h3⟩ | ⟨_, _, h2, h3⟩
    · obtain ⟨_, i', q2, q3⟩ := m2 j b h3
      refine ⟨?_, (d2 i' b q3).2⟩
      rcases hσ j h1 with ⟨i2, _, _, e, hi⟩ | ⟨_, e⟩ <;> omega
    · exact ⟨by omega, (d2 i b h3).2⟩
  · rcases hb with ⟨j, h1, h2, h3⟩ | ⟨h1, h1', h2, h3⟩ <;> rcases hb2 with ⟨j2, g1, g2, g3⟩ | ⟨g1, g1', g2, g3⟩
    · rw [← h2, ← g2, m3 _ _ _ h3 g3]
    · obtain ⟨_, i', q2, q3⟩ := m2 j b h3
      exact absurd (d3 _ _ _ q3 g3 ▸ q2) (hkeep i2 g1').1
    · obtain ⟨_, i', q2, q3⟩ := m2 j2 b g3
      exact absurd (d3 _ _ _ q3 h3 ▸ q2) (hkeep i h1').1
    · exact d3 _ _ _ h3 g3
  · have hlenH : (s.H1 H.length H d).length = H.length + s.S.length := by simp [LoopS.H1, embO_len]
    rw [hlenH] at hi
    simp only [κ2]
    rw [if_neg (by omega), if_neg (fun h => by omega)]
  · refine rels_of_get (by simp only [LoopS.T1, embT_len]; rw [hTlen]; simp [hsz]) fun i v y hv hy => ?_
    simp only [LoopS.T1] at hv
    obtain ⟨a0, e1, e2⟩ := embT_get _ _ _ 0 i v hv
    rw [Nat.zero_add] at e2
    rcases e2 with e2 | rfl | ⟨e2, rfl⟩
    · obtain ⟨j, h1, h2⟩ := zipV_mem (lkV_mem e2)
      obtain ⟨z, hz, hrz⟩ := rels_getElem hvals h2
      rw [List.getElem?_map, h1] at hz
      simp only [Option.map_some, Option.some.injEq, List.getD, hy, Option.getD_some] at hz
      rw [hz]; exact hrz
    · simp only [AV.rel]
    · have hq := h.slots.2 i e2
      rw [← Array.getElem?_toList, hy] at hq
      obtain ⟨z, hz, hrz⟩ := rels_getElem hf.tmps e1
      rw [← Array.getElem?_toList, hz] at hq
      cases hq
      exact AV.rel_mono hle _ _ hrz
  · obtain ⟨L, l1, l2, l3⟩ := h.defers
    exact ⟨L, l1, l2, fun b hb => ⟨s2.im b (l3 b hb).1, (l3 b hb).2.1, (l3 b hb).2.2⟩⟩

theorem LoopS.ok (s : LoopS) {P : Program} (Rd : List RD) (r : Bool) (x : XT) (code : Code) (hx : AbsSound P Rd r x code) : AbsSound P Rd r (s.run code x) (.loop code) := by
  intro ro n c T H κ Im a w K Q hro hc hW hf h hk
  unfold LoopS.run at h
  rw [forceN_eq, forceNs_eq] at h
  split at h
  case h_2 => exact h.elim
  rename_i i0 hr0 hk0
  obtain ⟨D, d1, d2, d3⟩ := hf.st.objs
  have hst' : St ⟨w, κ, fun b => ∃ i, D i b, Im, a.tmps, fun s => memB s (wrL code), c.m0, c.R⟩ κ Im w H :=
    ⟨⟨D, d1, fun i b hb => ⟨(d2 i b hb).1, (d2 i b hb).2.1, (d2 i b hb).2.2.1, .inl ⟨i, hb⟩⟩, d3⟩, hf.st.fresh, fun b hb => ⟨(hf.st.im b hb).1, .inl hb⟩, fun _ h => h, fun _ _ _ => rfl, Nat.le_refl _, fun _ _ h => h, rfl, rfl, Outs.refl _⟩
  have hf' : Fits ⟨w, κ, fun b => ∃ i, D i b, Im, a.tmps, fun s => memB s (wrL code), c.m0, c.R⟩ T H κ Im a w := ⟨hst', hf.tmps, hf.defers, ⟨rfl, fun _ _ => rfl⟩, hf.rounds, Nat.le_trans hf.m0le hf.st.size⟩
  have hWin : ∀ s', c.W s' = false → memB s' (wrL code) = false := fun s' hs' => by
    rw [memB_false]
    intro hm
    rw [wr_mem (code := code) hW s' hm] at hs'
    cases hs'
  refine loopW_wp ?_
  have key := h (fun i => ∀ κ2 Im2 a2 w2, Fits ⟨w, κ, fun b => ∃ i, D i b, Im, a.tmps, fun s => memB s (wrL code), c.m0, c.R⟩ (s.T1 H.length (wrL code) T i.2) (s.H1 H.length H i.1) κ2 Im2 a2 w2 → loopW (FR ro) n P code Q a2 w2) ?_
  · obtain ⟨d0, a0⟩ := i0
    obtain ⟨κ2, Im2, hfit⟩ := LoopS.rebase hf d2 hf' hr0 hk0 fun _ _ => rfl
    exact key κ2 Im2 a w hfit
  · refine allS_of fun d => allA_of fun ar hb κ2 Im2 a2 w2 hfit => ?_
    rw [forceL_eq, forceOL_eq] at hb
    refine loopW_round (hx ro n ⟨w, κ, fun b => ∃ i, D i b, Im, a.tmps, fun s => memB s (wrL code), c.m0, c.R⟩ _ _ κ2 Im2 a2 w2 _ _ hro hc (wr_all fun s' hs' => memB_iff.2 hs') hfit hb ?_)
    intro e T' H' κ' Im' a' w' hK hf2
    cases e with
    | n =>
      simp only at hK
      split at hK
      · exact hK.elim
      · rename_i j hj
        obtain ⟨k1, k2⟩ := keepP_spec hK
        obtain ⟨d1', a1'⟩ := j
        obtain ⟨κ3, Im3, hfit3⟩ := LoopS.rebase hf d2 hf2 hj hk0 k1
        exact k2 κ3 Im3 a' w' hfit3
    | x i => exact hk (.x i) T' H' κ' Im' a' w' hK (hf.outer d2 hWin hf2)
    | r => exact hk .r T' H' κ' Im' a' w' hK (hf.outer d2 hWin hf2)

/-- A loop's rule, of what varies. -/
def LoopS.spec (s : LoopS) (P : Program) : LSpec P := ⟨s.run, fun Rd r x code => s.ok Rd r x code⟩
def loopsL (P : Program) : List (Nat × LoopS) → Nat → Option (LSpec P)
  | [], _ => none
  | (k, s) :: l, i => match Nat.beq k i with | true => some (s.spec P) | false => loopsL P l i
def loopsOf (P : Program) (l : List (Nat × LoopS)) : LT P := .plain (loopsL P l)
end Go.X

/- What proofs about normal forms lean on. -/
namespace Go.X
open Go

theorem Ok_iff {p : Prop} : Ok p ↔ p := ⟨fun h => h.out, fun h => ⟨h⟩⟩
@[simp] theorem cnd_true (a b : Prop) : cnd true a b = a := rfl
@[simp] theorem cnd_false (a b : Prop) : cnd false a b = b := rfl
theorem cnd_decide (p : Prop) [Decidable p] (a b : Prop) : cnd (decide p) a b ↔ (p → a) ∧ (¬ p → b) := by rw [cnd_iff]; simp

theorem cnd_not (t : Bool) (a b : Prop) : cnd (!t) a b = cnd t b a := by cases t <;> rfl
theorem cnd_and (s t : Bool) (a b : Prop) : cnd (s && t) a b = cnd s (cnd t a b) b := by cases s <;> rfl
theorem cnd_or (s t : Bool) (a b : Prop) : cnd (s || t) a b = cnd s a (cnd t a b) := by cases s <;> rfl

theorem wrap_nat {i : Nat} (h : i < 9223372036854775807) : IntKind.i64.wrap ((i : Int) + 1) = ((i + 1 : Nat) : Int) := by
  rw [IntWalk.i64_in _ (by omega)]; omega
theorem wrap_in {i : Int} (h : -9223372036854775808 ≤ i) (h' : i ≤ 9223372036854775807) : IntKind.i64.wrap i = i := by
  exact IntWalk.i64_in _ ⟨h, h'⟩

theorem beq_tieId (a b : TieId) : (a.Dir == b.Dir && (a.Origin == b.Origin && (a.Kind == b.Kind && a.Nr == b.Nr))) = decide (a = b) := by
  rcases a with ⟨a1, a2, a3, a4⟩; rcases b with ⟨b1, b2, b3, b4⟩
  by_cases h1 : a1 = b1 <;> by_cases h2 : a2 = b2 <;> by_cases h3 : a3 = b3 <;> by_cases h4 : a4 = b4 <;> simp [h1, h2, h3, h4]
theorem beq_head (a b : Head) : (a.Id.Dir == b.Id.Dir && (a.Id.Origin == b.Id.Origin && (a.Id.Kind == b.Id.Kind && (a.Id.Nr == b.Id.Nr && (a.Seq == b.Seq && a.Life == b.Life))))) = decide (a = b) := by
  rcases a with ⟨⟨a1, a2, a3, a4⟩, a5, a6⟩; rcases b with ⟨⟨b1, b2, b3, b4⟩, b5, b6⟩
  by_cases h1 : a1 = b1 <;> by_cases h2 : a2 = b2 <;> by_cases h3 : a3 = b3 <;> by_cases h4 : a4 = b4 <;> by_cases h5 : a5 = b5 <;> by_cases h6 : a6 = b6 <;> simp [h1, h2, h3, h4, h5, h6]
theorem beq_prefix (a b : Prefix) : (a.Net == b.Net && a.Bits == b.Bits) = decide (a = b) := by
  rcases a with ⟨a1, a2⟩; rcases b with ⟨b1, b2⟩
  by_cases h1 : a1 = b1 <;> by_cases h2 : a2 = b2 <;> simp [h1, h2]

theorem getD_at {α : Type} {l : List α} {i : Nat} {x d : α} {r : List α} (h : l.drop i = x :: r) : l.getD i d = x := by
  have := congrArg List.head? h
  simp only [List.head?_drop, List.head?_cons] at this
  simp [List.getD, this]
theorem drop_lt {α : Type} {l : List α} {i : Nat} {x : α} {r : List α} (h : l.drop i = x :: r) : i < l.length := by
  rcases Nat.lt_or_ge i l.length with h' | h'
  · exact h'
  · rw [List.drop_eq_nil_of_le h'] at h; cases h
theorem drop_next {α : Type} {l : List α} {i : Nat} {x : α} {r : List α} (h : l.drop i = x :: r) : l.drop (i + 1) = r := by
  rw [← List.drop_drop, h]; rfl

/-- Over a list, place by place. -/
theorem loop_list {α β : Type} (l : List α) (R : β → Nat → Prop) (inv : List α → β → Prop)
    (step : ∀ (i : Nat) (x : α) (r : List α) (b : β), l.drop i = x :: r → i < l.length → inv (x :: r) b → (∀ b', inv r b' → R b' (i + 1)) → R b i)
    (done : ∀ b, inv [] b → R b l.length) : ∀ b, inv l b → R b 0 := by
  have key : ∀ (r : List α) (i : Nat) (b : β), l.drop i = r → i ≤ l.length → inv r b → R b i := by
    intro r
    induction r with
    | nil =>
      intro i b hd hi hb
      have : i = l.length := by
        have := congrArg List.length hd
        simp at this; omega
      rw [this]; exact done b hb
    | cons x r ih =>
      intro i b hd hi hb
      have hlt := drop_lt hd
      exact step i x r b hd hlt hb fun b' hb' => ih (i + 1) b' (drop_next hd) (by omega) hb'
  intro b hb
  exact key l 0 b rfl (by omega) hb
end Go.X

/- Functions that are walked where they are called: how they are told. -/
namespace Go.X
open Go

def ItGood (P : Program) (f : FuncId) (it : ItS P) : Prop :=
  (∀ args w, (callFunc f args).run P w = .ok (.enter f args) w) ∧ ∃ fn, P.funcs[f]? = some fn ∧ fn.body = some it.code ∧ fn.ntmps = it.nt ∧ fn.results.toList = it.rvs ∧ it.rvs.length ≤ 4
def itsOf {P : Program} : List (FuncId × ItS P) → FuncId → Option (ItS P)
  | [], _ => none
  | (g, it) :: l, f => match Nat.beq g f with | true => some it | false => itsOf l f
def AllGood (P : Program) : List (FuncId × ItS P) → Prop
  | [] => True
  | p :: l => ItGood P p.1 p.2 ∧ AllGood P l
theorem itsOf_ok {P : Program} : ∀ {l : List (FuncId × ItS P)}, AllGood P l → ItOk P (itsOf l)
  | [], _, _, _, h => by cases h
  | (g, it) :: l, hl, f, it', h => by
    simp only [itsOf] at h
    split at h
    · rename_i e
      cases h
      have := Nat.eq_of_beq_eq_true e
      subst this
      exact hl.1
    · exact itsOf_ok hl.2 f it' h
def ltsOf {P : Program} (L : List (Nat × LoopS)) (its : List (FuncId × ItS P)) (d : Nat) (h : AllGood P its) : LT P := ⟨loopsL P L, itsOf its, d, itsOf_ok h⟩
theorem ItGood.mk {P : Program} {f : FuncId} {fn : Func} {code : Code} {nt : Nat} {rvs : List ResultVar} (L : Nat → Option (LSpec P)) (h : ∀ args w, (callFunc f args).run P w = .ok (.enter f args) w) (h1 : P.funcs[f]? = some fn) (h2 : fn.body = some code) (h3 : fn.ntmps = nt)
    (h4 : fn.results.toList = rvs) (h5 : Nat.ble rvs.length 4 = true) : ItGood P f ⟨code, nt, rvs, L⟩ := ⟨h, fn, h1, h2, h3, h4, by simpa using h5⟩
end Go.X

/- slices.SortFunc, as a contract: the kit's law, at a row. -/
namespace Go.X
open Go Go.Proofs Go.Sort Go.Shelf

instance (c : TC) : Inhabited c.den := ⟨c.d⟩

/-! ### Codes whose cells are plain values -/
def unV : AV → Value
  | .v v => v
  | _ => undef
def TC.vals (c : TC) (x : c.den) : List Value := (c.enc x).map unV
def TC.plain : TC → Bool
  | .tieId | .head => true
  | _ => false
theorem TC.vals_enc {c : TC} (h : c.plain = true) (x : c.den) : c.enc x = (c.vals x).map .v := by
  cases c <;> simp [TC.plain] at h <;> simp [TC.vals, TC.enc, encId, encHead, unV]
theorem TC.vals_len {c : TC} (h : c.plain = true) (x : c.den) : (c.vals x).length = c.k := by
  cases c <;> simp [TC.plain] at h <;> simp [TC.vals, TC.enc, encId, encHead, TC.k]
theorem TC.vals_one {c : TC} (h : c.plain = true) (x : c.den) : ∀ v ∈ c.vals x, v.oneCell' = true := by
  cases c <;> simp [TC.plain] at h <;> simp [TC.vals, TC.enc, encId, encHead, unV, Value.oneCell']
theorem TC.plain_agg {c : TC} (h : c.plain = true) : c.isAgg = true := by cases c <;> simp [TC.plain] at h <;> rfl
theorem TC.plain_k {c : TC} (h : c.plain = true) : 0 < c.k := by cases c <;> simp [TC.plain] at h <;> decide

theorem rels_v {κ : Kap} {Im : Nat → Prop} {w : World} : ∀ (l : List Value) (ys : List Value), AV.rels κ Im w (l.map .v) ys ↔ ys = l
  | [], ys => by simp [AV.rels]
  | v :: l, ys => by
    simp only [List.map_cons, AV.rels, AV.rel]
    constructor
    · rintro ⟨y, r, rfl, rfl, h⟩
      rw [(rels_v l r).1 h]
    · rintro rfl
      exact ⟨v, l, rfl, rfl, (rels_v l l).2 rfl⟩
theorem rels_vals {κ : Kap} {Im : Nat → Prop} {w : World} {c : TC} (h : c.plain = true) (x : c.den) (ys : List Value) : AV.rels κ Im w (c.enc x) ys ↔ ys = c.vals x := by
  rw [TC.vals_enc h]; exact rels_v _ _

/-! ### Worlds that have grown -/
theorem grown_of_turn {w w' : World} (h : Turn none w w') : ∃ q os, w' = grow (w.drewN q) os := by
  refine ⟨w'.drawn - w.drawn, w'.heap.extract w.heap.size, ?_⟩
  have h1 := h.os; have h2 := h.tape; have h3 := h.output.1; have h4 := h.output.2.1
  have hh : w'.heap = w.heap ++ w'.heap.extract w.heap.size := by
    apply Array.ext_getElem?
    intro b
    rw [Array.getElem?_append]
    split
    · rename_i hb; exact h.block b hb (by simp)
    · rename_i hb
      rw [Array.getElem?_extract]
      have := h.size
      by_cases hb2 : b < w'.heap.size
      · rw [if_pos (by omega)]; congr 1; omega
      · rw [if_neg (by omega), Array.getElem?_eq_none (by omega)]
  obtain ⟨heap', tape', drawn', os', out'⟩ := w'
  obtain ⟨heap, tape, drawn, os, out⟩ := w
  simp only at h1 h2 h3 h4 hh
  subst h1; subst h2; subst h3
  simp only [grow, World.drewN, World.mk.injEq, true_and, and_true]
  exact ⟨hh, by omega⟩

/-- One block's cells are turned, blocks are laid. -/
theorem turn_sorted {w : World} {b n : Nat} {f : Array Value → Array Value} {os : Array Obj} {arr : Array Value} {E : TypeId} (hb : w.heap[b]? = some (.cells arr E (0, 0))) :
    Turn (some b) w (grow (mapBlock (Sort.ahead w n) b f) os) ∧ (grow (mapBlock (Sort.ahead w n) b f) os).heap[b]? = some (.cells (f arr) E (0, 0)) := by
  have hlt := (Array.getElem?_eq_some_iff.1 hb).1
  have hsz : (mapBlock (Sort.ahead w n) b f).heap.size = w.heap.size := by simp [mapBlock, Sort.ahead]
  have hat : ∀ x, x < w.heap.size → (grow (mapBlock (Sort.ahead w n) b f) os).heap[x]? = if b = x then (w.heap[x]?).map (onCells f) else w.heap[x]? := fun x hx => by
    show ((mapBlock (Sort.ahead w n) b f).heap ++ os)[x]? = _
    rw [Array.getElem?_append_left (by omega)]
    show (w.heap.modify b (onCells f))[x]? = _
    rw [Array.getElem?_modify]
  have hself : (grow (mapBlock (Sort.ahead w n) b f) os).heap[b]? = some (.cells (f arr) E (0, 0)) := by
    rw [hat b hlt, if_pos rfl, hb]; rfl
  refine ⟨⟨rfl, rfl, ⟨rfl, ?_, Recs.of_but (g := b) (by rw [hb]; rfl) fun x hx hne => by rw [hat x hx, if_neg (Ne.symm hne)]⟩, by simp [hsz], fun x hx hne => ?_⟩, hself⟩
  · show w.drawn ≤ w.drawn + n; omega
  · rw [hat x hx, if_neg (fun e => hne (by rw [e]))]

/-! ### Sorting -/
noncomputable def sortBy {α : Type} (cf : α → α → Int) (l : List α) : List α := l.mergeSort fun x y => !(ltOf cf) y x

theorem sorted_of {α : Type} [Inhabited α] {lt : α → α → Bool} (hS : SWO lt) {d d' : Array α} (hanti : ∀ x ∈ d.toList, ∀ y ∈ d.toList, lt x y = false → lt y x = false → x = y) (hP : PermIn 0 d.size d d') (hSo : SortedIn lt 0 d.size d') :
    d'.toList = d.toList.mergeSort (fun x y => !lt y x) := by
  obtain ⟨hsz, _, hperm⟩ := hP
  have e1 : d'.extract 0 d.size = d' := by rw [← hsz]; exact Array.extract_size
  rw [e1, Array.extract_size] at hperm
  refine List.Perm.eq_of_pairwise (le := fun x y => (!lt y x) = true) ?_ ?_ ?_ (hperm.trans (List.mergeSort_perm _ _).symm)
  · intro a b ha hb h1 h2
    simp only [Bool.not_eq_true'] at h1 h2
    exact hanti a (hperm.mem_iff.1 ha) b ((List.mergeSort_perm _ _).mem_iff.1 hb) h2 h1
  · rw [List.pairwise_iff_getElem]
    intro i j hi hj hij
    have hi' : i < d'.size := by simpa using hi
    have hj' : j < d'.size := by simpa using hj
    have := hSo i j (Nat.zero_le _) hij (by omega)
    rw [getElem!_pos d' j hj', getElem!_pos d' i hi'] at this
    simpa using this
  · refine List.pairwise_mergeSort ?_ ?_ _
    · intro a b c h1 h2
      simp only [Bool.not_eq_true'] at h1 h2 ⊢
      exact hS.ntrans c b a h2 h1
    · intro a b
      cases h : lt b a with
      | false => simp
      | true =>
        have : lt a b = false := by
          cases h2 : lt a b with
          | false => rfl
          | true => have := hS.trans _ _ _ h h2; rw [hS.irrefl] at this; cases this
        simp [this]

section
variable {c : TC}

theorem flat_at (hc : c.plain = true) (xs : List c.den) (i t : Nat) (hi : i < xs.length) (ht : t < c.k) : i * c.k + t < xs.toArray.size * c.k ∧ (flatK c.vals c.k xs.toArray)[i * c.k + t]! = (c.vals xs[i])[t]'(by rw [TC.vals_len hc]; exact ht) := by
  have hb : i * c.k + t < xs.toArray.size * c.k := by
    have := Nat.mul_le_mul_right c.k (show i + 1 ≤ xs.length from hi)
    rw [Nat.add_mul, Nat.one_mul] at this
    simp only [List.size_toArray]; omega
  refine ⟨hb, ?_⟩
  have hd : (i * c.k + t) / c.k = i := (blk_iff c.k i _ (TC.plain_k hc)).1 ⟨by omega, by omega⟩
  have hm : (i * c.k + t) % c.k = t := by rw [Nat.mod_eq_sub_div_mul, hd]; omega
  rw [get_flatK _ _ _ _ hb, hd, hm, getElem!_pos xs.toArray i (by simpa using hi), getElem!_pos (c.vals _) t (by rw [TC.vals_len hc]; exact ht)]
  simp

theorem row_after (hc : c.plain = true) (xs : List c.den) {arr : Array Value} {cap : Nat} (hlen : xs.length ≤ cap) (harr : arr.size = cap * c.k) (i : Nat) (hi : i < xs.length) :
    ((putCells id 0 (flatK c.vals c.k xs.toArray) arr).toList.drop (i * c.k)).take c.k = c.vals xs[i] := by
  have hsz : (putCells id 0 (flatK c.vals c.k xs.toArray) arr).size = cap * c.k := by simp [putCells, harr]
  have hbd : i * c.k + c.k ≤ cap * c.k := by
    have := Nat.mul_le_mul_right c.k (show i + 1 ≤ cap by omega)
    rwa [Nat.add_mul, Nat.one_mul] at this
  refine List.ext_getElem ?_ fun t h1 h2 => ?_
  · rw [List.length_take, List.length_drop, TC.vals_len hc]
    simp only [Array.length_toList, hsz]; omega
  · have ht : t < c.k := by rw [TC.vals_len hc] at h2; exact h2
    obtain ⟨q1, q2⟩ := flat_at hc xs i t hi ht
    rw [List.getElem_take, List.getElem_drop, Array.getElem_toList, ← q2]
    simp only [putCells, Array.getElem_mapIdx]
    rw [if_pos ⟨by omega, by simpa using q1⟩]
    simp

theorem row_holds (hc : c.plain = true) {w : World} {g : Nat} {E : TypeId} (xs : List c.den) {arr : Array Value} (hb : w.heap[g]? = some (.cells arr E (0, 0))) (h : ∀ i (hi : i < xs.length), (arr.toList.drop (i * c.k)).take c.k = c.vals xs[i]) :
    HoldsK c.vals c.k w g 0 xs.toArray := by
  intro j hj
  rw [size_flatK] at hj
  have k0 := TC.plain_k hc
  have hi : j / c.k < xs.length := by
    rw [Nat.div_lt_iff_lt_mul k0]; simpa using hj
  have ht : j % c.k < c.k := Nat.mod_lt _ k0
  have hjd : j / c.k * c.k + j % c.k = j := by rw [Nat.mul_comm]; exact Nat.div_add_mod j c.k
  obtain ⟨_, q2⟩ := flat_at hc xs (j / c.k) (j % c.k) hi ht
  rw [hjd] at q2
  have hr := h _ hi
  have e : (c.vals xs[j / c.k])[j % c.k]? = some ((c.vals xs[j / c.k])[j % c.k]'(by rw [TC.vals_len hc]; exact ht)) := List.getElem?_eq_getElem _
  rw [← q2, ← hr, List.getElem?_take, if_pos ht, List.getElem?_drop, hjd, Array.getElem?_toList] at e
  constructor
  · simp only [World.cell?, hb, Nat.zero_add]
    simpa using e
  · simp [World.frozen?, hb]

theorem cmp_lays (hc : c.plain = true) {P : Program} {g : FuncId} {cf : c.den → c.den → Int} (hcmp : PureOk P g [.tc c, .tc c] (fun _ => True) [.tc .int] fun d => (cf d.1 d.2.1, ())) (W : World) (x y : c.den) :
    Calls P g (#[.agg (c.vals x).toArray, .agg (c.vals y).toArray] ++ #[]) W fun e w' => e = .returned (.int .i64 (cf x y)) ∧ ∃ q os', w' = grow (W.drewN q) os' := by
  have hv : ∀ z : c.den, AV.rel κ0 (fun _ => False) W (c.av z) (.agg (c.vals z).toArray) := fun z => by
    simp only [TC.av, TC.plain_agg hc, if_true, AV.rel]
    exact ⟨_, rfl, (rels_vals hc z _).2 rfl⟩
  have hargs : AV.rels κ0 (fun _ => False) W (avs [.tc c, .tc c] (x, y, ())) [.agg (c.vals x).toArray, .agg (c.vals y).toArray] := by
    simp only [avs, AT.av, AV.rels]
    exact ⟨_, _, rfl, hv x, _, _, rfl, hv y, rfl⟩
  have hcall := hcmp (fun _ => False) W #[.agg (c.vals x).toArray, .agg (c.vals y).toArray] (x, y, ()) (fun _ h => h.elim) hargs trivial
  have e : (#[.agg (c.vals x).toArray, .agg (c.vals y).toArray] ++ #[] : Array Value) = #[.agg (c.vals x).toArray, .agg (c.vals y).toArray] := by simp
  rw [e]
  refine Calls.mono hcall ?_
  rintro e w' ⟨v, Im', rfl, ht, _, _, hr⟩
  refine ⟨?_, grown_of_turn ht⟩
  have : v = .int .i64 (cf x y) := by simpa [resAV, avs, AT.av, TC.av, TC.isAgg, TC.enc, AV.rel] using hr
  rw [this]

/-- **slices.SortFunc**: the row is sorted; by an order that tells all of its elements apart. -/
theorem sortFunc_ok (hc : c.plain = true) {P : Program} {ρ : Ren} (L : SlLaysF0.n6 P ρ) (aE : ∀ w, (isAgg (ρ.t 24)).run P w = .ok true w) (zE : ∀ w, (Go.sizeOf (ρ.t 24)).run P w = .ok c.k w) {g : FuncId} (eg : ∀ args w, (callFunc g args).run P w = .ok (.enter g args) w)
    {cf : c.den → c.den → Int} (hcmp : PureOk P g [.tc c, .tc c] (fun _ => True) [.tc .int] fun d => (cf d.1 d.2.1, ())) (hO : SWO (ltOf cf)) (E : TypeId) :
    MutOk P (ρ.f 6) { S := [.row c E], ar := [.hd 0, .fn g []], S' := [.row c E], keep := [some 0], rs := [] }
      (fun d _ => d.1.length < 4611686018427387904 ∧ ∀ x ∈ d.1, ∀ y ∈ d.1, 0 ≤ cf x y → 0 ≤ cf y x → x = y) (fun d _ => ((sortBy cf d.1, ()), ())) := by
  intro M Im w κ ys d a hIm hst hys hpre
  obtain ⟨xs, ⟨⟩⟩ := d
  obtain ⟨hsz, hanti⟩ := hpre
  have hst0 := hst #[] (fun _ => true) 0
  have h0 : (olay id [OS.row c E] (xs, ()))[0]? = some (.row E c xs) := rfl
  obtain ⟨D, hD⟩ := hst0.obj h0
  obtain ⟨ad, cap, hκ, hrow⟩ := hD
  have hys' : ys = #[.slice ad xs.length cap, .func (.func g) #[] #[]] := by
    simp only [aAV, AV.rels, AV.rel, List.map_nil] at hys
    obtain ⟨y, r, e1, ⟨e2, _⟩, y2, r2, rfl, ⟨cs, rfl, e3⟩, rfl⟩ := hys
    rw [show id 0 = 0 from rfl, hκ] at e2
    cases e2
    have : cs = #[] := Array.ext' (by simpa using e3)
    subst this
    exact Array.ext' (by simpa using e1)
  subst hys'
  rcases hrow with ⟨rfl, rfl, rfl, hno⟩ | ⟨b, arr, rfl, hb, harr, hlen, hcap, hcells, hDb⟩
  · refine (AnyF.slices_SortFunc_none L none 0 _ w).mono ?_
    rintro e w' ⟨rfl, rfl⟩
    refine ⟨_, κ, Im, rfl, fun t0 W m0 => ?_, fun k' k hk => ?_, ?_⟩
    · have : sortBy cf ([] : List c.den) = [] := by simp [sortBy]
      simp only [this]
      exact hst t0 W m0
    · cases k' with
      | zero => simp at hk; rw [hk]
      | succ k' => simp at hk
    · simp only [resAS, AV.rel, AV.rels]
      exact ⟨_, rfl, rfl⟩
  · have hcells' : ∀ i (hi : i < xs.length), (arr.toList.drop (i * c.k)).take c.k = c.vals xs[i] := fun i hi => (rels_vals hc _ _).1 (hcells i hi)
    have hlt := (Array.getElem?_eq_some_iff.1 hb).1
    have hC : CmpLays P g #[] c.vals c.k cf b 0 xs.toArray.size w := fun m os dk _ x y => cmp_lays hc hcmp _ x y
    refine (AnyQ.slices_SortFunc L c.k aE zE c.vals (TC.vals_len hc) (TC.vals_one hc) cf hO g #[] b 0 cap xs.toArray w eg hC (row_holds hc xs hb hcells') hlt (by simpa using hsz)).mono ?_
    rintro e w' ⟨rfl, d', n, os, hp, hs, rfl⟩
    have hd' : d'.toList = sortBy cf xs := by
      have := sorted_of hO (d := xs.toArray) (d' := d') (fun x hx y hy h1 h2 => by
        simp only [ltOf, decide_eq_false_iff_not, Int.not_lt] at h1 h2
        exact hanti x (by simpa using hx) y (by simpa using hy) h1 h2) hp hs
      simpa [sortBy] using this
    have hlen' : d'.toList.length = xs.length := by have := hp.1; simpa using this
    have hnew : ∀ i (hi : i < d'.toList.length), ((putCells id 0 (flatK c.vals c.k d') arr).toList.drop (i * c.k)).take c.k = c.vals d'.toList[i] := fun i hi => by
      have := row_after hc d'.toList (arr := arr) (cap := cap) (by rw [hlen']; exact hlen) harr i hi
      simpa using this
    obtain ⟨ht, hself⟩ := turn_sorted (n := n) (f := putCells id 0 (flatK c.vals c.k d')) (os := os) hb
    refine ⟨_, κ, Im, rfl, fun t0 W m0 => ?_, fun k' k hk => ?_, ?_⟩
    · obtain ⟨s1, _⟩ := (hst t0 W m0).turn h0 (w' := sortWorldK c.vals c.k w b 0 n d' os) (o' := .row E c d'.toList) (g := b) ht (fun D hD x => by
        obtain ⟨a2, cap2, e1, e2⟩ := hD
        rw [hκ] at e1; cases e1
        rcases e2 with ⟨e, _⟩ | ⟨g2, _, e, _, _, _, _, _, e3⟩
        · cases e
        · cases e; exact e3 x) (fun hle => ⟨_, cap, by rw [hκ, hlen'], .inr ⟨b, _, rfl, hself, by simp [putCells, harr], by rw [hlen']; exact hlen, hcap, fun i hi => (rels_vals hc _ _).2 (hnew i hi), fun _ => Iff.rfl⟩⟩)
      · simp only [← hd']
        exact s1
    · cases k' with
      | zero => simp at hk; rw [hk]
      | succ k' => simp at hk
    · simp only [resAS, AV.rel, AV.rels]
      exact ⟨_, rfl, rfl⟩
end
end Go.X

/- The laws on peers and ties: what is given. -/
namespace Go.Proofs.Yticlpjjkjpabmaa
open Go Go.X Go.Proofs

def tcS : TypeId → Option TC
  | 3 => some .int | 4 => some .bool | 29 => some .tieId | 31 => some .int | 38 => some .head | 45 => some .step20 | 68 => some .entHead | 84 => some .entId | 110 => some .wait | _ => none
noncomputable def E0 : Env := mkEnv Try.prog tcS []
noncomputable def bodyOf (f : Func) : Code := match f.body with | some c => c | none => .skip
theorem bodyOf_eq {f : Func} {c : Code} (h : f.body = some c) : f.body = some (bodyOf f) := by simp [bodyOf, h]
theorem mixed : Try.prog.follows .mixedOrders = true := by kernel_rfl
theorem ok0 : EnvOk E0 := mkEnv_ok mixed tcS []

def withoutF (l : List Wait) (id : TieId) : List Wait := l.filter fun x => !decide (x.H.Id = id)
def findF : List Wait → TieId → Head × Bool
  | [], _ => (⟨⟨0, 0, 0, 0⟩, 0, 0⟩, false)
  | x :: l, id => if x.H.Id = id then (x.H, true) else findF l id
end Go.Proofs.Yticlpjjkjpabmaa

namespace Go.Proofs.Yticlpjjkjpabmaa
open Go Go.X Go.Proofs
set_option maxRecDepth 100000

def L0 {P : Program} : LT P := .plain fun _ => none
def cmpI (a b : Int) : Int := if a < b then -1 else if a > b then 1 else 0

@[reducible] def I : AT := .tc .int
@[reducible] def B : AT := .tc .bool
@[reducible] def T : AT := .tc .tieId
@[reducible] def Hd : AT := .tc .head

def out46 (d : Dat [I, I]) : Dat [I] := (cmpI d.1 d.2.1, ())
def out61 (_ : Dat [I]) : Dat [B] := (false, ())
def farI (a b : Int) : Bool := decide (a > b) && decide (IntKind.u64.wrap (IntKind.u64.wrap a - IntKind.u64.wrap b) > 300)
def out60 (d : Dat [I, I]) : Dat [B] := (farI d.1 d.2.1, ())
def rightI (x : TieId) : Bool := decide (x.Dir ≥ 1) && decide (x.Dir ≤ 2) && decide (x.Origin ≥ 1) && decide (x.Origin ≤ 1000) && decide (x.Kind ≥ 1) && decide (x.Kind ≤ 4) && decide (x.Nr ≥ 0) && decide (x.Nr ≤ 65535)
def out919 (d : Dat [T]) : Dat [B] := (rightI d.1, ())
def firstI : TieId := ⟨1, 1, 1, 0⟩
def lastI : TieId := ⟨2, 1000, 4, 65535⟩
def outF (_ : Dat []) : Dat [T] := (firstI, ())
def outL (_ : Dat []) : Dat [T] := (lastI, ())
def rise : List Int → Int
  | a :: b :: l => if a < b then -1 else if a > b then 1 else rise l
  | _ => 0
@[reducible] def Li : AT := .sl .int
def out45 (d : Dat [Li]) : Dat [I] := (rise d.1, ())
end Go.Proofs.Yticlpjjkjpabmaa

namespace Go.Proofs.Yticlpjjkjpabmaa
open Go Go.X Go.Proofs
set_option maxRecDepth 100000

theorem nf61 (a : Int) : exec E0 L0 20 (bodyOf Try.f61) (startT 6 (avs [I] (a, ()))) [] (retK Try.prog [.tmp 2] [B] (out61 (a, ()))) = (
Ok ((a != a, ()) = out61 (a, ()))) := by kernel_rfl

theorem nf38 (a b : Int) : exec E0 L0 20 (bodyOf Try.f38) (startT 11 (avs [I, I] (a, b, ()))) [] (retK Try.prog [.tmp 4] [I] (out46 (a, b, ()))) = (
cnd (decide (a < b)) (Ok (((-1 : Int), ()) = out46 (a, b, ()))) (cnd (decide (a > b)) (Ok (((1 : Int), ()) = out46 (a, b, ()))) (Ok (((0 : Int), ()) = out46 (a, b, ()))))) := by kernel_rfl

theorem nf60 (a b : Int) : exec E0 L0 20 (bodyOf Try.f60) (startT 16 (avs [I, I] (a, b, ()))) [] (retK Try.prog [.tmp 4] [B] (out60 (a, b, ()))) = (
Ok (decide (a > b) = true → decide (a > b) = true) ∧
  Ok (decide (a > b) = true → decide (a > b) = true) ∧
    Ok (decide (a > b) = true → decide (a > b) = true) ∧
      Ok (decide (a > b) = true → decide (a > b) = true) ∧
        Ok (decide (a > b) = true → decide (a > b) = true) ∧
          Ok (decide (a > b) = true → decide (a > b) = true) ∧ Ok ((decide (a > b) && decide (IntKind.u64.wrap (IntKind.u64.wrap a - IntKind.u64.wrap b) > (300 : Int)), ()) = out60 (a, b, ()))) := by kernel_rfl

theorem nf54  : exec E0 L0 20 (bodyOf Try.f54) (startT 2 (avs [] ())) [] (retK Try.prog [.cell 0 29] [T] (outF ())) = (
Ok (({ Dir := (1 : Int), Origin := (1 : Int), Kind := (1 : Int), Nr := (0 : Int) }, ()) = outF ())) := by kernel_rfl

theorem nf55  : exec E0 L0 20 (bodyOf Try.f55) (startT 2 (avs [] ())) [] (retK Try.prog [.cell 0 29] [T] (outL ())) = (
Ok (({ Dir := (2 : Int), Origin := (1000 : Int), Kind := (4 : Int), Nr := (65535 : Int) }, ()) = outL ())) := by kernel_rfl
end Go.Proofs.Yticlpjjkjpabmaa

namespace Go.Proofs.Yticlpjjkjpabmaa
open Go Go.X Go.Proofs
set_option maxRecDepth 100000


theorem p61 : PureOk Try.prog 61 [I] (fun _ => True) [B] out61 :=
  pure_of_exec ok0 (L := L0) (fuel := 20) Try.func61 (code := bodyOf Try.f61) (by kernel_rfl) (by kernel_rfl) (rvs := [.tmp 2]) (by kernel_rfl) rfl (by
    rintro ⟨a, ⟨⟩⟩ -
    refine (nf61 a).mpr ?_
    simp [Ok_iff, out61])

theorem p38 : PureOk Try.prog 38 [I, I] (fun _ => True) [I] out46 :=
  pure_of_exec ok0 (L := L0) (fuel := 20) Try.func38 (code := bodyOf Try.f38) (by kernel_rfl) (by kernel_rfl) (rvs := [.tmp 4]) (by kernel_rfl) rfl (by
    rintro ⟨a, b, ⟨⟩⟩ -
    refine (nf38 a b).mpr ?_
    simp only [cnd_iff, Ok_iff, out46, cmpI, decide_eq_true_eq, decide_eq_false_iff_not]
    refine ⟨fun h => by simp [h], fun h => ⟨fun h' => by simp [h, h'], fun h' => by simp [h, h']⟩⟩)

theorem p60 : PureOk Try.prog 60 [I, I] (fun _ => True) [B] out60 :=
  pure_of_exec ok0 (L := L0) (fuel := 20) Try.func60 (code := bodyOf Try.f60) (by kernel_rfl) (by kernel_rfl) (rvs := [.tmp 4]) (by kernel_rfl) rfl (by
    rintro ⟨a, b, ⟨⟩⟩ -
    refine (nf60 a b).mpr ?_
    simp [Ok_iff, out60, farI])

theorem p54 : PureOk Try.prog 54 [] (fun _ => True) [T] outF :=
  pure_of_exec ok0 (L := L0) (fuel := 20) Try.func54 (code := bodyOf Try.f54) (by kernel_rfl) (by kernel_rfl) (rvs := [.cell 0 29]) (by kernel_rfl) rfl (by
    rintro ⟨⟩ -
    refine nf54.mpr ?_
    simp [Ok_iff, outF, firstI])
theorem p55 : PureOk Try.prog 55 [] (fun _ => True) [T] outL :=
  pure_of_exec ok0 (L := L0) (fuel := 20) Try.func55 (code := bodyOf Try.f55) (by kernel_rfl) (by kernel_rfl) (rvs := [.cell 0 29]) (by kernel_rfl) rfl (by
    rintro ⟨⟩ -
    refine nf55.mpr ?_
    simp [Ok_iff, outL, lastI])
noncomputable def E1 : Env := mkEnv Try.prog tcS [.pure p61 Try.call61, .pure p38 Try.call38, .pure p60 Try.call60, .pure p54 Try.call54, .pure p55 Try.call55]
theorem ok1 : EnvOk E1 := mkEnv_ok mixed tcS _

/-- The reference's Compare. -/
def cmpId (a b : TieId) : Int := if a.Dir ≠ b.Dir then cmpI a.Dir b.Dir else if a.Origin ≠ b.Origin then cmpI a.Origin b.Origin else if a.Kind ≠ b.Kind then cmpI a.Kind b.Kind else cmpI a.Nr b.Nr
def outC (d : Dat [T, T]) : Dat [I] := (cmpId d.1 d.2.1, ())
def newI (a b : Head) : Int := if a.Seq ≠ b.Seq then cmpI a.Seq b.Seq else if farI a.Life b.Life then 1 else if farI b.Life a.Life then -1 else 0
def outN (d : Dat [Hd, Hd]) : Dat [I] := (newI d.1 d.2.1, ())
def zeroI : TieId := ⟨0, 0, 0, 0⟩
def afterI (x : TieId) : TieId × Bool :=
  if rightI x then
    if x.Nr < 65535 then ({ x with Nr := x.Nr + 1 }, true)
    else if x.Kind < 4 then ({ x with Nr := 0, Kind := x.Kind + 1 }, true)
    else if x.Origin < 1000 then ({ x with Nr := 0, Kind := 1, Origin := x.Origin + 1 }, true)
    else if x.Dir < 2 then ({ Nr := 0, Kind := 1, Origin := 1, Dir := x.Dir + 1 }, true)
    else (zeroI, false)
  else (zeroI, false)
def outA (d : Dat [T]) : Dat [T, B] := ((afterI d.1).1, (afterI d.1).2, ())
end Go.Proofs.Yticlpjjkjpabmaa

namespace Go.Proofs.Yticlpjjkjpabmaa
open Go Go.X Go.Proofs
set_option maxRecDepth 100000

theorem nf46 (a b : Int) : exec E1 L0 20 (bodyOf Try.f46) (startT 20 (avs [I, I] (a, b, ()))) [] (retK Try.prog [.tmp 4] [I] (out46 (a, b, ()))) = (
Ok True ∧ Ok True ∧ cnd (decide (a < b)) (Ok (((-1 : Int), ()) = out46 (a, b, ()))) (cnd (decide (a > b)) (Ok (((1 : Int), ()) = out46 (a, b, ()))) (Ok (((0 : Int), ()) = out46 (a, b, ()))))) := by kernel_rfl

theorem nf23 (a b : TieId) : exec E1 L0 20 (bodyOf Try.f23) (startT 40 (avs [T, T] (a, b, ()))) [] (retK Try.prog [.tmp 4] [I] (outC (a, b, ()))) = (
cnd (a.Dir != b.Dir) (Ok True ∧ Ok (((out46 (a.Dir, b.Dir, ())).fst, ()) = outC (a, b, ())))
  (cnd (a.Origin != b.Origin) (Ok True ∧ Ok (((out46 (a.Origin, b.Origin, ())).fst, ()) = outC (a, b, ())))
    (cnd (a.Kind != b.Kind) (Ok True ∧ Ok (((out46 (a.Kind, b.Kind, ())).fst, ()) = outC (a, b, ()))) (Ok True ∧ Ok (((out46 (a.Nr, b.Nr, ())).fst, ()) = outC (a, b, ())))))) := by kernel_rfl

theorem nf44 (a b : Head) : exec E1 L0 20 (bodyOf Try.f44) (startT 25 (avs [Hd, Hd] (a, b, ()))) [] (retK Try.prog [.tmp 4] [I] (outN (a, b, ()))) = (
cnd (a.Seq != b.Seq) (Ok True ∧ Ok (((out46 (a.Seq, b.Seq, ())).fst, ()) = outN (a, b, ())))
  (Ok True ∧
    cnd (out60 (a.Life, b.Life, ())).fst (Ok (((1 : Int), ()) = outN (a, b, ())))
      (Ok True ∧ cnd (out60 (b.Life, a.Life, ())).fst (Ok (((-1 : Int), ()) = outN (a, b, ()))) (Ok (((0 : Int), ()) = outN (a, b, ())))))) := by kernel_rfl

theorem nf39 (a : TieId) : exec E1 L0 20 (bodyOf Try.f39) (startT 85 (avs [T] (a, ()))) [] (retK Try.prog [.cell 2 29, .tmp 3] [T, B] (outA (a, ()))) = (
Ok True ∧
  Ok True ∧
    Ok ((0 : Int) ≤ (0 : Int) ∧ (0 : Int) < ↑(4 : Nat)) ∧
      Ok ((!decide (a.Nr < (outF ()).fst.Nr)) = true → (!decide (a.Nr < (outF ()).fst.Nr)) = true) ∧
        Ok ((!decide (a.Nr < (outF ()).fst.Nr)) = true → (!decide (a.Nr < (outF ()).fst.Nr)) = true) ∧
          Ok ((!decide (a.Nr < (outF ()).fst.Nr)) = true → (!decide (a.Nr < (outF ()).fst.Nr)) = true) ∧
            Ok ((!decide (a.Nr < (outF ()).fst.Nr)) = true → (!decide (a.Nr < (outF ()).fst.Nr)) = true) ∧
              Ok ((!decide (a.Nr < (outF ()).fst.Nr)) = true → (!decide (a.Nr < (outF ()).fst.Nr)) = true) ∧
                Ok ((!decide (a.Nr < (outF ()).fst.Nr)) = true → (!decide (a.Nr < (outF ()).fst.Nr)) = true) ∧
                  Ok ((!decide (a.Nr < (outF ()).fst.Nr)) = true → (!decide (a.Nr < (outF ()).fst.Nr)) = true) ∧
                    Ok ((!decide (a.Nr < (outF ()).fst.Nr)) = true → (!decide (a.Nr < (outF ()).fst.Nr)) = true) ∧
                      Ok (decide (a.Nr < (outF ()).fst.Nr) = false → (!decide (a.Nr < (outF ()).fst.Nr)) = true) ∧
                        cnd (decide (a.Nr < (outF ()).fst.Nr) || decide (a.Nr > (outL ()).fst.Nr))
                          (Ok (({ Dir := (0 : Int), Origin := (0 : Int), Kind := (0 : Int), Nr := (0 : Int) }, false, ()) = outA (a, ())))
                          (Ok ((0 : Int) ≤ IntKind.i64.wrap ((0 : Int) + (1 : Int)) ∧ IntKind.i64.wrap ((0 : Int) + (1 : Int)) < ↑(4 : Nat)) ∧
                            Ok ((!decide (a.Kind < (outF ()).fst.Kind)) = true → (!decide (a.Kind < (outF ()).fst.Kind)) = true) ∧
                              Ok ((!decide (a.Kind < (outF ()).fst.Kind)) = true → (!decide (a.Kind < (outF ()).fst.Kind)) = true) ∧
                                Ok ((!decide (a.Kind < (outF ()).fst.Kind)) = true → (!decide (a.Kind < (outF ()).fst.Kind)) = true) ∧
                                  Ok ((!decide (a.Kind < (outF ()).fst.Kind)) = true → (!decide (a.Kind < (outF ()).fst.Kind)) = true) ∧
                                    Ok ((!decide (a.Kind < (outF ()).fst.Kind)) = true → (!decide (a.Kind < (outF ()).fst.Kind)) = true) ∧
                                      Ok ((!decide (a.Kind < (outF ()).fst.Kind)) = true → (!decide (a.Kind < (outF ()).fst.Kind)) = true) ∧
                                        Ok ((!decide (a.Kind < (outF ()).fst.Kind)) = true → (!decide (a.Kind < (outF ()).fst.Kind)) = true) ∧
                                          Ok ((!decide (a.Kind < (outF ()).fst.Kind)) = true → (!decide (a.Kind < (outF ()).fst.Kind)) = true) ∧
                                            Ok (decide (a.Kind < (outF ()).fst.Kind) = false → (!decide (a.Kind < (outF ()).fst.Kind)) = true) ∧
                                              cnd (decide (a.Kind < (outF ()).fst.Kind) || decide (a.Kind > (outL ()).fst.Kind))
                                                (Ok (({ Dir := (0 : Int), Origin := (0 : Int), Kind := (0 : Int), Nr := (0 : Int) }, false, ()) = outA (a, ())))
                                                (Ok
                                                    ((0 : Int) ≤ IntKind.i64.wrap (IntKind.i64.wrap ((0 : Int) + (1 : Int)) + (1 : Int)) ∧
                                                      IntKind.i64.wrap (IntKind.i64.wrap ((0 : Int) + (1 : Int)) + (1 : Int)) < ↑(4 : Nat)) ∧
                                                  Ok ((!decide (a.Origin < (outF ()).fst.Origin)) = true → (!decide (a.Origin < (outF ()).fst.Origin)) = true) ∧
                                                    Ok ((!decide (a.Origin < (outF ()).fst.Origin)) = true → (!decide (a.Origin < (outF ()).fst.Origin)) = true) ∧
                                                      Ok ((!decide (a.Origin < (outF ()).fst.Origin)) = true → (!decide (a.Origin < (outF ()).fst.Origin)) = true) ∧
                                                        Ok ((!decide (a.Origin < (outF ()).fst.Origin)) = true → (!decide (a.Origin < (outF ()).fst.Origin)) = true) ∧
                                                          Ok ((!decide (a.Origin < (outF ()).fst.Origin)) = true → (!decide (a.Origin < (outF ()).fst.Origin)) = true) ∧
                                                            Ok ((!decide (a.Origin < (outF ()).fst.Origin)) = true → (!decide (a.Origin < (outF ()).fst.Origin)) = true) ∧
                                                              Ok ((!decide (a.Origin < (outF ()).fst.Origin)) = true → (!decide (a.Origin < (outF ()).fst.Origin)) = true) ∧
                                                                Ok ((!decide (a.Origin < (outF ()).fst.Origin)) = true → (!decide (a.Origin < (outF ()).fst.Origin)) = true) ∧
                                                                  Ok (decide (a.Origin < (outF ()).fst.Origin) = false → (!decide (a.Origin < (outF ()).fst.Origin)) = true) ∧
                                                                    cnd (decide (a.Origin < (outF ()).fst.Origin) || decide (a.Origin > (outL ()).fst.Origin))
                                                                      (Ok (({ Dir := (0 : Int), Origin := (0 : Int), Kind := (0 : Int), Nr := (0 : Int) }, false, ()) = outA (a, ())))
                                                                      (Ok
                                                                          ((0 : Int) ≤ IntKind.i64.wrap (IntKind.i64.wrap (IntKind.i64.wrap ((0 : Int) + (1 : Int)) + (1 : Int)) + (1 : Int)) ∧
                                                                            IntKind.i64.wrap (IntKind.i64.wrap (IntKind.i64.wrap ((0 : Int) + (1 : Int)) + (1 : Int)) + (1 : Int)) < ↑(4 : Nat)) ∧
                                                                        Ok ((!decide (a.Dir < (outF ()).fst.Dir)) = true → (!decide (a.Dir < (outF ()).fst.Dir)) = true) ∧
                                                                          Ok ((!decide (a.Dir < (outF ()).fst.Dir)) = true → (!decide (a.Dir < (outF ()).fst.Dir)) = true) ∧
                                                                            Ok ((!decide (a.Dir < (outF ()).fst.Dir)) = true → (!decide (a.Dir < (outF ()).fst.Dir)) = true) ∧
                                                                              Ok ((!decide (a.Dir < (outF ()).fst.Dir)) = true → (!decide (a.Dir < (outF ()).fst.Dir)) = true) ∧
                                                                                Ok ((!decide (a.Dir < (outF ()).fst.Dir)) = true → (!decide (a.Dir < (outF ()).fst.Dir)) = true) ∧
                                                                                  Ok ((!decide (a.Dir < (outF ()).fst.Dir)) = true → (!decide (a.Dir < (outF ()).fst.Dir)) = true) ∧
                                                                                    Ok ((!decide (a.Dir < (outF ()).fst.Dir)) = true → (!decide (a.Dir < (outF ()).fst.Dir)) = true) ∧
                                                                                      Ok ((!decide (a.Dir < (outF ()).fst.Dir)) = true → (!decide (a.Dir < (outF ()).fst.Dir)) = true) ∧
                                                                                        Ok (decide (a.Dir < (outF ()).fst.Dir) = false → (!decide (a.Dir < (outF ()).fst.Dir)) = true) ∧
                                                                                          cnd (decide (a.Dir < (outF ()).fst.Dir) || decide (a.Dir > (outL ()).fst.Dir))
                                                                                            (Ok
                                                                                              (({ Dir := (0 : Int), Origin := (0 : Int), Kind := (0 : Int), Nr := (0 : Int) }, false, ()) =
                                                                                                outA (a, ())))
                                                                                            (Ok ((0 : Int) ≤ (0 : Int) ∧ (0 : Int) < ↑(4 : Nat)) ∧
                                                                                              cnd (decide (a.Nr < (outL ()).fst.Nr))
                                                                                                (Ok
                                                                                                  (({ Dir := a.Dir, Origin := a.Origin, Kind := a.Kind, Nr := IntKind.i64.wrap (a.Nr + (1 : Int)) },
                                                                                                      true, ()) =
                                                                                                    outA (a, ())))
                                                                                                (Ok
                                                                                                    ((0 : Int) ≤ IntKind.i64.wrap ((0 : Int) + (1 : Int)) ∧
                                                                                                      IntKind.i64.wrap ((0 : Int) + (1 : Int)) < ↑(4 : Nat)) ∧
                                                                                                  cnd (decide (a.Kind < (outL ()).fst.Kind))
                                                                                                    (Ok
                                                                                                      (({ Dir := a.Dir, Origin := a.Origin, Kind := IntKind.i64.wrap (a.Kind + (1 : Int)),
                                                                                                            Nr := (outF ()).fst.Nr },
                                                                                                          true, ()) =
                                                                                                        outA (a, ())))
                                                                                                    (Ok
                                                                                                        ((0 : Int) ≤ IntKind.i64.wrap (IntKind.i64.wrap ((0 : Int) + (1 : Int)) + (1 : Int)) ∧
                                                                                                          IntKind.i64.wrap (IntKind.i64.wrap ((0 : Int) + (1 : Int)) + (1 : Int)) < ↑(4 : Nat)) ∧
                                                                                                      cnd (decide (a.Origin < (outL ()).fst.Origin))
                                                                                                        (Ok
                                                                                                          (({ Dir := a.Dir, Origin := IntKind.i64.wrap (a.Origin + (1 : Int)),
                                                                                                                Kind := (outF ()).fst.Kind, Nr := (outF ()).fst.Nr },
                                                                                                              true, ()) =
                                                                                                            outA (a, ())))
                                                                                                        (Ok
                                                                                                            ((0 : Int) ≤
                                                                                                                IntKind.i64.wrap
                                                                                                                  (IntKind.i64.wrap (IntKind.i64.wrap ((0 : Int) + (1 : Int)) + (1 : Int)) +
                                                                                                                    (1 : Int)) ∧
                                                                                                              IntKind.i64.wrap
                                                                                                                  (IntKind.i64.wrap (IntKind.i64.wrap ((0 : Int) + (1 : Int)) + (1 : Int)) +
                                                                                                                    (1 : Int)) <
                                                                                                                ↑(4 : Nat)) ∧
                                                                                                          cnd (decide (a.Dir < (outL ()).fst.Dir))
                                                                                                            (Ok
                                                                                                              (({ Dir := IntKind.i64.wrap (a.Dir + (1 : Int)), Origin := (outF ()).fst.Origin,
                                                                                                                    Kind := (outF ()).fst.Kind, Nr := (outF ()).fst.Nr },
                                                                                                                  true, ()) =
                                                                                                                outA (a, ())))
                                                                                                            (Ok
                                                                                                              (({ Dir := (0 : Int), Origin := (0 : Int), Kind := (0 : Int), Nr := (0 : Int) }, false,
                                                                                                                  ()) =
                                                                                                                outA (a, ()))))))))))) := by kernel_rfl
end Go.Proofs.Yticlpjjkjpabmaa

