/- Views. -/
import Derived.Test.YtlpbalinhikboaaX16
namespace Go.X
open Go
section
variable {P : Program} {c : Ctx} {κ : Kap} {Im : Nat → Prop} {w : World} {H : List AObj} {K : AV → List (Nat × AObj) → Prop} {k : Value → World → Prop}

/-- A bound of a slice expression. -/
def bndRel (κ : Kap) (Im : Nat → Prop) (w : World) : Option AV → Option Value → Prop
  | none, none => True
  | some a, some y => AV.rel κ Im w a y
  | _, _ => False

theorem run_slice {t e : TypeId} (hu : P.underlying t = some (.slice e)) {s : Nat} (hs : (sizeOf e).run P w = .ok s w) {a : Option Addr} {n cap l h : Nat} {lo hi : Option Value}
    (hlo : (lo = none ∧ l = 0) ∨ ∃ kd, lo = some (.int kd l)) (hhi : (hi = none ∧ h = n) ∨ ∃ kd, hi = some (.int kd h)) (h1 : l ≤ h) (h2 : h ≤ cap) :
    (Instr.sliceAt t (.slice a n cap) lo hi none).run P w = .ok (.slice (if cap = l then a else a.map (·.add (l * s))) (h - l) (cap - l)) w := by
  have e1 : (Instr.sliceBounds true n cap lo hi none).run P w = .ok (l, h, cap) w := by
    rcases hlo with ⟨rfl, rfl⟩ | ⟨kd, rfl⟩ <;> rcases hhi with ⟨rfl, rfl⟩ | ⟨kd', rfl⟩
    · simp [Instr.sliceBounds]
    · simp [Instr.sliceBounds, Instr.sliceBound, asIntOf, h2]
    · simp [Instr.sliceBounds, Instr.sliceBound, asIntOf, h1]
    · simp [Instr.sliceBounds, Instr.sliceBound, asIntOf, h1, h2]
  simp [Instr.sliceAt, Instr.slice, run_underlying hu, e1, hs]

theorem slice_sound {E : Env} {t : TypeId} {x : AV} {y : Value} {lo hi : Option AV} {ylo yhi : Option Value} (hst : St c κ Im w H) (hx : AV.rel κ Im w x y) (hlo : bndRel κ Im w lo ylo) (hhi : bndRel κ Im w hi yhi)
    (hs : (effSlice E t x lo hi (H.getD · .dead)).sat K) (hk : Cont c κ Im w H K k) : Gives E.P (do pure (.value (← Instr.sliceAt t y ylo yhi none))) w k := by
  unfold effSlice at hs
  split at hs
  case h_2 => exact hs.elim
  rename_i e hu
  split at hs
  · exact hs.elim
  rename_i l hl
  have hlo' : (ylo = none ∧ l = 0) ∨ ∃ kd, ylo = some (.int kd l) := by
    unfold loInt at hl
    split at hl
    · cases hl
      cases ylo with
      | none => exact .inl ⟨rfl, rfl⟩
      | some _ => exact hlo.elim
    · cases hl
      cases ylo with
      | none => exact hlo.elim
      | some z => simp only [bndRel, AV.rel] at hlo; subst hlo; exact .inr ⟨_, rfl⟩
    · cases hl
  -- the end of a view
  have fin : ∀ (a : Option Addr) (m cap : Nat) (h : Int) (sz : Nat), y = .slice a m cap → ((yhi = none ∧ h = m) ∨ ∃ kd, yhi = some (.int kd h)) → 0 ≤ l → l ≤ h → h ≤ cap → (sizeOf e).run E.P w = .ok sz w →
      k (.slice (if cap = l.toNat then a else a.map (·.add (l.toNat * sz))) (h.toNat - l.toNat) (cap - l.toNat)) w → Gives E.P (do pure (.value (← Instr.sliceAt t y ylo yhi none))) w k := by
    intro a m cap h sz hy hh h0 h1 h2 hsz hkk
    subst hy
    refine gives_value ?_ hkk
    have el : l = (l.toNat : Int) := by omega
    have eh : h = (h.toNat : Int) := by omega
    have := run_slice (P := E.P) (w := w) hu hsz (a := a) (n := m) (cap := cap) (l := l.toNat) (h := h.toNat) (lo := ylo) (hi := yhi)
      (by rcases hlo' with ⟨h3, h4⟩ | ⟨kd, h3⟩
          · exact .inl ⟨h3, by omega⟩
          · exact .inr ⟨kd, by rw [h3, ← el]⟩)
      (by rcases hh with ⟨h3, h4⟩ | ⟨kd, h3⟩
          · exact .inl ⟨h3, by omega⟩
          · exact .inr ⟨kd, by rw [h3, ← eh]⟩) (by omega) (by omega)
    simp only [Sem.run_bind, this, Result.andThen_ok, Sem.run_pure]
  split at hs
  · -- what stays
    rename_i cc xs
    split at hs
    case isFalse => exact hs.elim
    rename_i hsz
    have hsize : (sizeOf e).run E.P w = .ok cc.k w := by rw [← hsz]; exact run_sizeOf_pos (by rw [hsz]; exact cc.k_pos)
    simp only [AV.rel] at hx
    obtain ⟨a, cap, hy, hcap, h2⟩ := hx
    -- both bounds known
    have rs : ∀ h : Int, 0 ≤ l → l ≤ h → h ≤ xs.length → ((yhi = none ∧ h = xs.length) ∨ ∃ kd, yhi = some (.int kd h)) → ∀ zs : List cc.den, zs = (xs.take h.toNat).drop l.toNat → K (.rs cc zs) [] →
        Gives E.P (do pure (.value (← Instr.sliceAt t y ylo yhi none))) w k := by
      intro h h0 h1 h3 hh zs hzs hK
      subst hzs
      have hlen : ((xs.take h.toNat).drop l.toNat).length = h.toNat - l.toNat := by rw [List.length_drop, List.length_take]; omega
      refine fin a xs.length cap h cc.k hy hh h0 h1 (by omega) hsize (hk.same hst hK ?_)
      simp only [AV.rel]
      refine ⟨_, _, by rw [hlen], by omega, fun hne => ?_⟩
      have hpos : 0 < h.toNat - l.toNat := by rw [← hlen]; exact List.length_pos_iff.2 hne
      obtain ⟨b, o, rfl, h4, arr, T, fz, h5, h6⟩ := h2 (fun h => by subst h; simp at h3; omega)
      refine ⟨b, o + l.toNat * cc.k, by rw [if_neg (by omega)]; simp [add_off], h4, arr, T, fz, h5, fun j hj => ?_⟩
      rw [hlen] at hj
      simp only [List.getElem_drop, List.getElem_take]
      have := h6 (l.toNat + j) (by omega)
      rw [show o + l.toNat * cc.k + j * cc.k = o + (l.toNat + j) * cc.k from by rw [Nat.add_mul]; omega]
      exact this
    split at hs
    · obtain ⟨⟨hb⟩, hK⟩ := hs
      cases yhi with
      | some _ => exact hhi.elim
      | none => exact rs xs.length hb.1 hb.2 (by omega) (.inl ⟨rfl, rfl⟩) _ (by simp) hK
    · obtain ⟨⟨hb⟩, hK⟩ := hs
      cases yhi with
      | none => exact hhi.elim
      | some z =>
        simp only [bndRel, AV.rel] at hhi
        subst hhi
        exact rs _ hb.1 hb.2.1 hb.2.2 (.inr ⟨_, rfl⟩) _ rfl hK
    · exact hs.elim
  · -- a row of one's own
    rename_i i
    split at hs
    case h_2 => exact hs.elim
    rename_i E' cc xs ho
    split at hs
    case isFalse => exact hs.elim
    rename_i hsz
    have hsize : (sizeOf e).run E.P w = .ok cc.k w := by rw [← hsz]; exact run_sizeOf_pos (by rw [hsz]; exact cc.k_pos)
    obtain ⟨D, a, cap, h1, h2⟩ := hst.obj (getD_dead (by simp) ho)
    simp only [AV.rel] at hx
    have h1' := h1
    rw [h1] at hx
    obtain ⟨hx, _⟩ := hx
    cases hx
    have hcap : xs.length ≤ cap := by
      rcases h2 with ⟨_, _, h3, _⟩ | ⟨g, arr, _, _, _, h6, _⟩
      · subst h3; exact Nat.zero_le _
      · exact h6
    have vw : ∀ h : Int, 0 ≤ l → l ≤ h → h ≤ xs.length → ((yhi = none ∧ h = xs.length) ∨ ∃ kd, yhi = some (.int kd h)) → ∀ n, n = h.toNat - l.toNat → K (.vw i cc.k l.toNat n) [] →
        Gives E.P (do pure (.value (← Instr.sliceAt t (.slice a xs.length cap) ylo yhi none))) w k := by
      intro h h0 h3 h4 hh n hn hK
      subst hn
      refine fin a xs.length cap h cc.k rfl hh h0 h3 (by omega) hsize (hk.same hst hK ?_)
      simp only [AV.rel]
      exact ⟨a, xs.length, cap, _, _, h1', by omega, rfl, by omega, fun hne => by rw [if_neg (by omega)]⟩
    split at hs
    · obtain ⟨⟨hb⟩, hK⟩ := hs
      cases yhi with
      | some _ => exact hhi.elim
      | none => exact vw xs.length hb.1 hb.2 (by omega) (.inl ⟨rfl, rfl⟩) _ (by simp) hK
    · obtain ⟨⟨hb⟩, hK⟩ := hs
      cases yhi with
      | none => exact hhi.elim
      | some z =>
        simp only [bndRel, AV.rel] at hhi
        subst hhi
        exact vw _ hb.1 hb.2.1 hb.2.2 (.inr ⟨_, rfl⟩) _ rfl hK
    · exact hs.elim
  · exact hs.elim

end
end Go.X
