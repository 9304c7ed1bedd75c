/- Slices: literals, appends, views, index addresses. -/
import Derived.Test.YtlpbalinhikboaaX12
namespace Go.X
open Go
section
variable {P : Program} {c : Ctx} {κ : Kap} {Im : Nat → Prop} {w : World} {H : List AObj} {K : AV → List (Nat × AObj) → Prop} {k : Value → World → Prop}

theorem Env.el_spec {E : Env} {t : TypeId} {e : TypeId} {cc : TC} (h : E.el t = some (e, cc)) : E.P.underlying t = some (.slice e) ∧ E.tc e = some cc := by
  unfold Env.el at h
  split at h
  · rename_i e' hu
    cases htc : E.tc e' with
    | none => simp [htc] at h
    | some x => simp [htc] at h; obtain ⟨rfl, rfl⟩ := h; exact ⟨hu, htc⟩
  · cases h

theorem rels_replicate_any (n : Nat) : ∀ (ys : List Value), ys.length = n → AV.rels κ Im w (List.replicate n .any) ys := by
  induction n with
  | zero => intro ys h; simp [AV.rels, List.eq_nil_of_length_eq_zero h]
  | succ n ih =>
    intro ys h
    cases ys with
    | nil => simp at h
    | cons y ys => simp only [List.replicate_succ, AV.rels]; exact ⟨y, ys, rfl, by simp only [AV.rel], ih ys (by simpa using h)⟩

theorem TC.k_pos (cc : TC) : 0 < cc.k := by cases cc <;> simp [TC.k]

theorem sealIds_some {l : List AV} {ys : List Value} (hr : AV.rels κ Im w l ys) {i : Nat} (hi : i ∈ l.flatMap sealIds) : κ i ≠ none := by
  induction l generalizing ys with
  | nil => simp at hi
  | cons a l ih =>
    simp only [AV.rels] at hr
    obtain ⟨y, r, rfl, h2, h3⟩ := hr
    rw [List.flatMap_cons, List.mem_append] at hi
    rcases hi with hi | hi
    · cases a with
      | hd j => simp [sealIds] at hi; subst hi; simp only [AV.rel] at h2; rw [h2.1]; simp
      | vw j kk lo n => simp [sealIds] at hi; subst hi; simp only [AV.rel] at h2; obtain ⟨_, _, _, _, _, h, _⟩ := h2; rw [h]; simp
      | _ => simp [sealIds] at hi
    · exact ih h3 hi

theorem St.free_none {i : Nat} (hst : St c κ Im w H) (h : H[i]? = some .free) : κ i = none := by
  obtain ⟨D, h1, _⟩ := hst.obj h
  exact h1

/-- A new row, under a free id. -/
theorem St.layRow (hst : St c κ Im w H) {id : Nat} (hid : H[id]? = some .free) {w' : World} (ht : Turn none w w') {g : Nat} (hg : w.heap.size ≤ g) {e : TypeId} {cc : TC} {ds : List cc.den} {arr : Array Value} {cap : Nat}
    (hh : w'.heap[g]? = some (.cells arr e (0, 0))) (hsz : arr.size = cap * cc.k) (hle : ds.length ≤ cap) (hmax : cap ≤ maxLen)
    (hr : ∀ κ', Le κ κ' Im Im w w' → ∀ i (h : i < ds.length), AV.rels κ' Im w' (cc.enc ds[i]) ((arr.toList.drop (i * cc.k)).take cc.k)) :
    St c (setK κ id (.slice (some ⟨g, 0, none⟩) ds.length cap)) Im w' (H.set id (.row e cc ds)) ∧ Le κ (setK κ id (.slice (some ⟨g, 0, none⟩) ds.length cap)) Im Im w w' :=
  hst.lay hid ht g hg (Array.getElem?_eq_some_iff.1 hh).1 _ _ fun κ' hl _ => ⟨_, cap, rfl, .inr ⟨g, arr, rfl, hh, hsz, hle, hmax, hr κ' hl, fun _ => Iff.rfl⟩⟩

theorem fill_size {place : Nat → Option (Nat × Nat)} : ∀ {vs : List (Nat × Value)} {a b : Array Value}, Instr.fill place a vs = some b → b.size = a.size
  | [], a, b, h => by simp [Instr.fill] at h; rw [h]
  | (i, v) :: r, a, b, h => by
    simp only [Instr.fill] at h
    split at h
    · cases h
    · rename_i off size _
      split at h
      · cases h
      · rename_i hfit
        rw [fill_size h]
        have : ∀ (L : List (Value × Nat)) (x : Array Value), (L.foldl (fun cs (p : Value × Nat) => match p with | (c, j) => cs.setIfInBounds (off + j) c) x).size = x.size := by
          intro L
          induction L with
          | nil => intro x; rfl
          | cons p L ih => intro x; rw [List.foldl_cons, ih]; simp
        rw [← Array.foldl_toList]
        exact this _ _

theorem buildSlice_sound {E : Env} {t : TypeId} {len : Nat} {ps : List (Nat × AV)} {vs : Array (Nat × Value)} {id : Nat} (hst : St c κ Im w H) (hid : H[id]? = some .free) (hp : partsRel κ Im w ps vs.toList)
    (hs : (effBuildSlice E t len ps id (H.getD · .dead)).sat K) (hk : Cont c κ Im w H K k) : Gives E.P (do pure (.value (← Instr.buildSlice t len vs))) w k := by
  unfold effBuildSlice at hs
  split at hs
  · exact hs.elim
  rename_i e cc hel
  obtain ⟨hu, htc⟩ := Env.el_spec hel
  split at hs
  case isFalse => exact hs.elim
  rename_i hcond
  obtain ⟨hsz, hbig, hzero⟩ := hcond
  split at hs
  case h_2 => exact hs.elim
  rename_i l hl
  split at hs
  case h_2 => exact hs.elim
  rename_i ds hds
  -- the seals
  obtain ⟨Im', s1, s2, s3⟩ := seal_all (l.flatMap sealIds) hst
  obtain ⟨i, hi⟩ : ∃ i, E.P.info? e = some i := by
    cases h : E.P.info? e with
    | none => simp [h] at hzero
    | some i => exact ⟨i, rfl⟩
  obtain ⟨z, hz⟩ : ∃ z, i.zero = some z := by
    simp only [hi, Option.bind_some] at hzero
    exact Option.isSome_iff_exists.1 hzero
  have hsize : (sizeOf e).run E.P w = .ok (szOf E.P e) w := run_sizeOf' e hi
  rw [hsz] at hsize
  obtain ⟨init, hinit, hrun⟩ : ∃ init : Array Value, init.size = len * cc.k ∧ ∀ arr, Instr.fill (fun i => some (i * cc.k, cc.k)) init vs.toList = some arr →
      (Instr.buildSlice t len vs).run E.P w = .ok (.slice (some ⟨w.heap.size, 0, none⟩) len len) (w.alloc (.cells arr e)) := by
    by_cases h0 : len * cc.k = 0
    · refine ⟨(Array.range (len * cc.k)).map (fun x => (#[] : Array Value)[x % (#[] : Array Value).size]!), by simp, fun arr harr => ?_⟩
      simp only [Instr.buildSlice, Sem.run_bind, run_underlying hu, Result.andThen_ok, hsize]
      rw [if_neg (by omega), if_pos h0]
      simp only [Sem.run_bind, Sem.run_pure, Result.andThen_ok, harr]
      simp [newRow]
    · refine ⟨(Array.range (len * cc.k)).map (fun x => z.cells[x % z.cells.size]!), by simp, fun arr harr => ?_⟩
      simp only [Instr.buildSlice, Sem.run_bind, run_underlying hu, Result.andThen_ok, hsize]
      rw [if_neg (by omega), if_neg h0]
      simp only [zeroValue, typeInfo, Sem.run_bind, run_program, hi, hz, Sem.run_pure, Result.andThen_ok, harr]
      simp [newRow]
  obtain ⟨arr, harr, hrl⟩ := fill_sound _ _ _ _ _ _ hp (rels_replicate_any (κ := κ) (Im := Im) (w := w) (len * cc.k) init.toList (by rw [Array.length_toList, hinit])) hl
  have hnid : id ∉ l.flatMap sealIds := fun h => sealIds_some hrl h (hst.free_none hid)
  have hid' : (updH H (deadAll (l.flatMap sealIds)))[id]? = some .free := by rw [updH_dead_ne _ _ _ hnid]; exact hid
  have hrs := sealAVs_rel (AV.rels_mono s2 _ _ hrl) s3
  obtain ⟨d1, d2⟩ := decRows_sound cc len _ ds _ hds hrs
  have hlen := rels_length _ _ hrl
  have hasz : arr.size = len * cc.k := by
    have h1 := fill_size harr
    rw [h1, hinit]
  have hkp := cc.k_pos
  have hmax : len ≤ maxLen := by
    have : len * 1 ≤ len * cc.k := Nat.mul_le_mul_left _ hkp
    simp only [maxLen]; omega
  obtain ⟨t1, t2⟩ := s1.layRow hid' (Turn.alloc w (.cells arr e)) (Nat.le_refl _) (e := e) (cc := cc) (ds := ds) (arr := arr) (cap := len) (heap_alloc_new w _) hasz (by omega) hmax
    (fun κ' hl' i hi => AV.rels_mono hl' _ _ (d2 i hi))
  refine gives_value (y := .slice (some ⟨w.heap.size, 0, none⟩) len len) (w' := w.alloc (.cells arr e)) ?_ (hk _ _ _ _ _ _ hs (s2.trans t2) ?_ ?_)
  · simp only [Sem.run_bind, hrun arr harr, Result.andThen_ok, Sem.run_pure]
  · rw [updH_append]; exact t1
  · simp only [AV.rel]
    exact ⟨by rw [setK_same, d1], rfl⟩

end
end Go.X
