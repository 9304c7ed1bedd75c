/- Loads, stores, new blocks. -/
import Derived.Test.YtlpbalinhikboaaX5
namespace Go.X
open Go
section
variable {P : Program} {c : Ctx} {κ : Kap} {Im : Nat → Prop} {w : World} {H : List AObj} {K : AV → List (Nat × AObj) → Prop} {k : Value → World → Prop}

theorem info_of_underlying {t : TypeId} {d : TypeDesc} (h : P.underlying t = some d) : ∃ i, P.info? t = some i := by
  unfold Program.underlying at h
  cases hi : P.info? t with
  | none => simp [hi] at h
  | some i => exact ⟨i, rfl⟩

theorem add_off (b o j : Nat) : (⟨b, o, none⟩ : Addr).add j = ⟨b, o + j, none⟩ := by
  unfold Addr.add; split <;> simp_all

theorem cell_at {b o : Nat} {arr : Array Value} {T : TypeId} {fz : Nat × Nat} (h : w.heap[b]? = some (.cells arr T fz)) : w.cell? ⟨b, o, none⟩ = arr[o]? := by
  simp [World.cell?, h]

theorem run_loadVar_seg {t : TypeId} {b s m off : Nat} {arr : Array Value} {T : TypeId} {fz : Nat × Nat} {cs : List AV} {r : AV} (hb : w.heap[b]? = some (.cells arr T fz))
    (hr : AV.rels κ Im w cs ((arr.toList.drop s).take m)) (hp : partAV P t cs off = some r) :
    ∃ y, (loadVar t ⟨b, s + off, none⟩).run P w = .ok y w ∧ AV.rel κ Im w r y := by
  unfold partAV at hp
  cases hu : P.underlying t with
  | none => simp [hu] at hp
  | some d =>
    simp only [hu] at hp
    obtain ⟨i, hi⟩ := info_of_underlying hu
    have hsz := run_sizeOf' (w := w) t hi
    have hag := run_isAgg (w := w) t hu
    by_cases ha : aggB P t = true
    · simp only [ha, if_true] at hp
      split at hp
      · rename_i hle
        cases hp
        have hlen := rels_length _ _ hr
        have hseg := rels_take (rels_drop hr off) (szOf P t)
        refine ⟨.agg ((((arr.toList.drop s).take m).drop off).take (szOf P t)).toArray, ?_, ?_⟩
        · have hl : ((((arr.toList.drop s).take m).drop off).take (szOf P t)).length = szOf P t := by
            rw [List.length_take, List.length_drop, hlen]; omega
          have := run_loadCells_list (P := P) w ⟨b, s + off, none⟩ ((((arr.toList.drop s).take m).drop off).take (szOf P t)) (fun j v hv => by
            rw [add_off, cell_at hb]
            rw [List.getElem?_take] at hv
            split at hv
            · rw [List.getElem?_drop, List.getElem?_take] at hv
              split at hv
              · rw [List.getElem?_drop] at hv
                rw [← Array.getElem?_toList, ← hv]
                congr 1; omega
              · cases hv
            · cases hv)
          rw [hl] at this
          simp [loadVar, hag, ha, hsz, this]
        · simp only [AV.rel]
          exact ⟨_, rfl, by simpa using hseg⟩
      · cases hp
    · simp only [ha] at hp
      obtain ⟨y, hy, hry⟩ := rels_getElem hr (by simpa using hp)
      refine ⟨y, ?_, hry⟩
      rw [List.getElem?_take] at hy
      split at hy
      · rw [List.getElem?_drop] at hy
        have hc : w.cell? ⟨b, s + off, none⟩ = some y := by rw [cell_at hb, ← Array.getElem?_toList]; exact hy
        simp [loadVar, hag, ha, hc]
      · cases hy

theorem getD_getElem {α : Type} {xs : List α} {n : Nat} (d : α) (h : n < xs.length) : xs.getD n d = xs[n] := by
  simp [List.getD, h]

theorem St.obj {i : Nat} {o : AObj} (hst : St c κ Im w H) (h : H[i]? = some o) : ∃ D, o.holds κ Im w (κ i) D := by
  obtain ⟨D, h1, _⟩ := hst.objs
  exact ⟨_, h1 i o h⟩

theorem getD_dead {i : Nat} {o : AObj} (ho : o ≠ .dead) (h : H.getD i .dead = o) : H[i]? = some o := by
  rw [List.getD] at h
  cases hi : H[i]? with
  | none => rw [hi] at h; exact absurd h.symm ho
  | some x => rw [hi] at h; simp at h; rw [h]

theorem load_sound {t : TypeId} {a : AV} {y : Value} (hst : St c κ Im w H) (ha : AV.rel κ Im w a y) (hs : (effLoad P t a (H.getD · .dead)).sat K)
    (hk : Cont c κ Im w H K k) : Gives P (do pure (.value (← Instr.loadAt t y))) w k := by
  unfold effLoad at hs
  split at hs
  · rename_i r hr
    have key : ∃ b off z, y = .pointer (some ⟨b, off, none⟩) ∧ (loadVar t ⟨b, off, none⟩).run P w = .ok z w ∧ AV.rel κ Im w r z := by
      cases a with
      | ptr i off =>
        simp only at hr
        split at hr
        · rename_i cs E ho
          obtain ⟨D, b, arr, h1, h2, h3, h4⟩ := hst.obj (getD_dead (by simp) ho)
          simp only [AV.rel] at ha
          obtain ⟨b', h5, h6⟩ := ha
          rw [h1] at h5
          cases h5
          obtain ⟨z, hz, hrz⟩ := run_loadVar_seg (P := P) (t := t) (s := 0) (m := arr.size) (off := off) h2 (by rw [List.drop_zero, List.take_of_length_le (by simp)]; exact h3) hr
          exact ⟨b, off, z, h6, by simpa using hz, hrz⟩
        · cases hr
      | ep cc xs n off =>
        simp only at hr
        simp only [AV.rel] at ha
        obtain ⟨h0, b, o, h1, h2, arr, T, fz, h3, h4⟩ := ha
        rw [getD_getElem _ h0] at hr
        obtain ⟨z, hz, hrz⟩ := run_loadVar_seg (P := P) (t := t) (off := off) h3 (h4 n h0) hr
        exact ⟨b, _, z, h1, hz, hrz⟩
      | rp i kk n off =>
        simp only at hr
        split at hr
        · rename_i E cc xs ho
          split at hr
          · rename_i hkk
            subst hkk
            obtain ⟨D, a, cap, h1, h2⟩ := hst.obj (getD_dead (by simp) ho)
            simp only [AV.rel] at ha
            obtain ⟨g, len, cap', h5, h6, h7⟩ := ha
            rw [h1] at h5
            cases h5
            rcases h2 with ⟨h2, _⟩ | ⟨g', arr, h8, h9, h10, h11, h12, h13, h14⟩
            · cases h2
            · cases h8
              rw [getD_getElem _ h6] at hr
              obtain ⟨z, hz, hrz⟩ := run_loadVar_seg (P := P) (t := t) (off := off) h9 (h13 n h6) hr
              exact ⟨_, _, z, h7, hz, hrz⟩
          · cases hr
        · cases hr
      | _ => cases hr
    obtain ⟨b, off, z, rfl, hz, hrz⟩ := key
    refine gives_value (y := z) (w' := w) ?_ (hk.same hst hs hrz)
    simp [Instr.loadAt, Instr.sureAddr, hz]
  · exact hs.elim

end
end Go.X
