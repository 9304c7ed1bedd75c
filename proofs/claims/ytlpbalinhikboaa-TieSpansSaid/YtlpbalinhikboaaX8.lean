/- Stores. -/
import Derived.Test.YtlpbalinhikboaaX7
namespace Go.X
open Go
section
variable {P : Program} {c : Ctx} {κ : Kap} {Im : Nat → Prop} {w : World} {H : List AObj} {K : AV → List (Nat × AObj) → Prop} {k : Value → World → Prop}

theorem oneAV_sound {a : AV} {y : Value} (h : oneAV a = true) (hr : AV.rel κ Im w a y) : y.oneCell' = true := by
  cases a with
  | v z => simp only [AV.rel] at hr; subst hr; cases y <;> simp_all [oneAV, Value.oneCell']
  | any => simp [oneAV] at h
  | gd j p t a => simp [oneAV] at h
  | ptr i off => simp only [AV.rel] at hr; obtain ⟨b, _, rfl⟩ := hr; rfl
  | agg l => simp [oneAV] at h
  | tup l => simp [oneAV] at h
  | fn f l => simp only [AV.rel] at hr; obtain ⟨b, rfl, _⟩ := hr; rfl
  | rs cc xs => simp only [AV.rel] at hr; obtain ⟨b, cap, rfl, _⟩ := hr; rfl
  | ep cc xs n off => simp only [AV.rel] at hr; obtain ⟨_, b, o, rfl, _⟩ := hr; rfl
  | hd i => simp only [AV.rel, isH] at hr; cases y <;> simp_all [Value.oneCell']
  | vw i kk lo n => simp only [AV.rel] at hr; obtain ⟨_, _, _, _, _, _, _, rfl, _⟩ := hr; rfl
  | rp i kk n off => simp only [AV.rel] at hr; obtain ⟨_, _, _, _, _, rfl⟩ := hr; rfl

theorem oneAVs_sound {l : List AV} {ys : List Value} (h : l.all oneAV = true) (hr : AV.rels κ Im w l ys) : ∀ y ∈ ys, y.oneCell' = true := by
  induction l generalizing ys with
  | nil => simp only [AV.rels] at hr; subst hr; intro y hy; cases hy
  | cons a l ih =>
    simp only [AV.rels] at hr
    obtain ⟨y, r, rfl, h2, h3⟩ := hr
    simp only [List.all_cons, Bool.and_eq_true] at h
    intro z hz
    rcases List.mem_cons.1 hz with rfl | hz
    · exact oneAV_sound h.1 h2
    · exact ih h.2 h3 z hz

theorem splice_get {α : Type} (a v : List α) (p m : Nat) (h : p + v.length ≤ a.length) :
    (a.take p ++ v ++ a.drop (p + v.length))[m]? = if m < p then a[m]? else if m < p + v.length then v[m - p]? else a[m]? := by
  have h1 : (a.take p).length = p := by rw [List.length_take]; omega
  by_cases hm : m < p
  · rw [if_pos hm, List.append_assoc, List.getElem?_append_left (by omega), List.getElem?_take, if_pos hm]
  · rw [if_neg hm, List.append_assoc, List.getElem?_append_right (by omega), h1]
    by_cases hm2 : m < p + v.length
    · rw [if_pos hm2, List.getElem?_append_left (by omega)]
    · rw [if_neg hm2, List.getElem?_append_right (by omega), List.getElem?_drop]
      congr 1; omega

theorem splice_seg {α : Type} (a v : List α) (p s n : Nat) (h : p + v.length ≤ a.length) (hs : s ≤ p) (hn : p + v.length ≤ s + n) :
    ((a.take p ++ v ++ a.drop (p + v.length)).drop s).take n = ((a.drop s).take n).take (p - s) ++ v ++ ((a.drop s).take n).drop (p - s + v.length) := by
  apply List.ext_getElem?
  intro m
  by_cases hle : p - s + v.length ≤ ((a.drop s).take n).length
  · rw [splice_get _ _ _ _ hle, List.getElem?_take, List.getElem?_drop, splice_get _ _ _ _ h]
    simp only [List.getElem?_take, List.getElem?_drop]
    by_cases h1 : m < n
    · rw [if_pos h1]
      by_cases h2 : m < p - s
      · rw [if_pos h2, if_pos (by omega), if_pos h1]
      · rw [if_neg h2, if_neg (by omega)]
        by_cases h3 : m < p - s + v.length
        · rw [if_pos h3, if_pos (by omega)]; congr 1; omega
        · rw [if_neg h3, if_neg (by omega), if_pos h1]
    · rw [if_neg h1, if_neg (by omega), if_neg (by omega), if_neg h1]
  · exfalso
    apply hle
    rw [List.length_take, List.length_drop]
    omega

theorem splice_seg_other {α : Type} (a v : List α) (p s n : Nat) (h : p + v.length ≤ a.length) (hs : s + n ≤ p ∨ p + v.length ≤ s) :
    ((a.take p ++ v ++ a.drop (p + v.length)).drop s).take n = (a.drop s).take n := by
  apply List.ext_getElem?
  intro m
  rw [List.getElem?_take, List.getElem?_drop, splice_get _ _ _ _ h, List.getElem?_take, List.getElem?_drop]
  by_cases h1 : m < n
  · rw [if_pos h1, if_pos h1]
    rcases hs with hs | hs
    · rw [if_pos (by omega)]
    · rw [if_neg (by omega), if_neg (by omega)]
  · rw [if_neg h1, if_neg h1]

theorem rels_splice {cs l : List AV} {a v : List Value} {off : Nat} (hc : AV.rels κ Im w cs a) (hl : AV.rels κ Im w l v) : AV.rels κ Im w (spliceAV cs off l) (a.take off ++ v ++ a.drop (off + v.length)) := by
  unfold spliceAV
  rw [rels_append]
  refine ⟨_, _, rfl, ?_, ?_⟩
  · rw [rels_append]
    exact ⟨_, _, rfl, rels_take hc off, hl⟩
  · rw [rels_length _ _ hl]
    exact rels_drop hc _

theorem Turn.setRow (w : World) (g : Nat) (cs : Array Value) : Turn (some g) w (w.setRow g cs) :=
  ⟨rfl, rfl, rfl, by simp, fun b _ hne => setRow_other w g b cs (fun e => hne (by rw [e]))⟩

theorem store_sound {t : TypeId} {a x : AV} {ya y : Value} (hst : St c κ Im w H) (ha : AV.rel κ Im w a ya) (hx : AV.rel κ Im w x y) (hs : (effStore P t a x (H.getD · .dead)).sat K)
    (hk : Cont c κ Im w H K k) : Gives P (do Instr.storeAt t ya y; pure .skip) w k := by
  unfold effStore at hs
  split at hs
  · exact hs.elim
  rename_i l hl
  split at hs
  case isFalse => exact hs.elim
  rename_i hcond
  obtain ⟨hsz, hpos, hone⟩ := hcond
  have hcells := cellsAV_sound hl hx
  have hlen := rels_length _ _ hcells
  have hone' := oneAVs_sound hone hcells
  obtain ⟨i0, hi0⟩ : ∃ i, P.info? t = some i := by
    cases hi : P.info? t with
    | none => simp only [szOf, hi, Option.map_none, Option.getD_none] at hsz; omega
    | some i => exact ⟨i, rfl⟩
  have hrunsz := run_sizeOf' (w := w) t hi0
  have hsize : y.cells.size = szOf P t := by rw [← Array.length_toList, hlen, hsz]
  -- the run, once the block is known
  have key : ∀ (b off : Nat) (arr : Array Value) (E : TypeId), ya = .pointer (some ⟨b, off, none⟩) → w.heap[b]? = some (.cells arr E (0, 0)) → off + l.length ≤ arr.size →
      k undef (w.setRow b (arr.toList.take off ++ y.cells.toList ++ arr.toList.drop (off + y.cells.toList.length)).toArray) → Gives P (do Instr.storeAt t ya y; pure .skip) w k := by
    intro b off arr E h1 h2 h3 h4
    subst h1
    refine gives_skip ?_ h4
    have hr := run_storeCells_at P b off E y.cells.toList 0 arr w h2 (by rw [hlen]; omega) hone'
    simp only [Nat.add_zero] at hr
    simp [Instr.storeAt, Instr.sureAddr, storeVar, hrunsz, hsize, hr]
  split at hs
  · -- a pointer into an object
    rename_i i off
    simp only [AV.rel] at ha
    obtain ⟨b', h5, h6⟩ := ha
    simp only at hs
    split at hs
    · rename_i cs E ho
      split at hs
      case isFalse => exact hs.elim
      rename_i hfit
      have hid := getD_dead (H := H) (by simp) ho
      obtain ⟨D, b, arr, h1, h2, h3, h4⟩ := hst.obj hid
      obtain rfl : b = b' := by rw [h1] at h5; cases h5; rfl
      have hcl := rels_length _ _ h3
      rw [Array.length_toList] at hcl
      refine key b off arr E h6 h2 (by omega) ?_
      obtain ⟨s1, s2⟩ := hst.turn hid (g := b) (Turn.setRow w b (arr.toList.take off ++ y.cells.toList ++ arr.toList.drop (off + y.cells.toList.length)).toArray) (o' := .cells (spliceAV cs off l) E)
        (fun D hD => by obtain ⟨b2, arr2, e1, e2, e3, e4⟩ := hD; rw [h1] at e1; cases e1; exact e4)
        (fun hle => ⟨b, _, h1, setRow_heap w b arr _ E _ h2, by
          have := rels_splice (off := off) h3 hcells
          simpa using AV.rels_mono hle _ _ this, fun x => Iff.rfl⟩)
      exact hk _ _ _ _ _ _ hs s2 s1 (by simp [AV.rel])
    · exact hs.elim
  · -- a pointer into a row
    rename_i i kk n off
    simp only [AV.rel] at ha
    obtain ⟨g, len, cap, h5, h6, h7⟩ := ha
    simp only at hs
    split at hs
    · rename_i E cc xs ho
      split at hs
      case isFalse => exact hs.elim
      rename_i hfit
      obtain ⟨hkk, hoff⟩ := hfit
      subst hkk
      split at hs
      case h_2 => exact hs.elim
      rename_i d hd
      have hid := getD_dead (H := H) (by simp) ho
      obtain ⟨D, a, cap', h1, h2⟩ := hst.obj hid
      have h1' := h1
      have h5' := h5
      rw [h1] at h5
      simp only [Option.some.injEq, Value.slice.injEq] at h5
      obtain ⟨rfl, rfl, rfl⟩ := h5
      rcases h2 with ⟨h2, _⟩ | ⟨g', arr, h8, h9, h10, h11, h12, h13, h14⟩
      · cases h2
      cases h8
      have hnk : n * cc.k + cc.k ≤ arr.size := by
        rw [h10, ← Nat.succ_mul]
        exact Nat.mul_le_mul_right _ (by omega)
      refine key g (n * cc.k + off) arr E h7 h9 (by omega) ?_
      have hlen2 : y.cells.toList.length = l.length := hlen
      have hfit2 : (n * cc.k + off) + y.cells.toList.length ≤ arr.toList.length := by rw [hlen2, Array.length_toList (xs := arr)]; omega
      obtain ⟨s1, s2⟩ := hst.turn hid (g := g) (Turn.setRow w g (arr.toList.take (n * cc.k + off) ++ y.cells.toList ++ arr.toList.drop (n * cc.k + off + y.cells.toList.length)).toArray) (o' := .row E cc (xs.set n d))
        (fun D hD => by
          obtain ⟨a2, cap2, e1, e2⟩ := hD
          rw [h1'] at e1; cases e1
          rcases e2 with ⟨e2, _⟩ | ⟨g2, arr2, e3, e4, e5, e6, e7, e8, e9⟩
          · cases e2
          · cases e3; exact e9)
        (fun hle => ⟨_, cap', by rw [List.length_set]; exact h1', .inr ⟨g, _, rfl, setRow_heap w g arr _ E _ h9, by
            rw [← h10]
            simp only [List.size_toArray, List.length_append, List.length_take, List.length_drop, Array.length_toList] at hfit2 ⊢
            omega, by rw [List.length_set]; exact h11, h12, fun j hj => by
            have hj' : j < xs.length := by simpa using hj
            simp only
            by_cases hjn : j = n
            · subst hjn
              rw [List.getElem_set_self, splice_seg _ _ _ _ _ hfit2 (by omega) (by omega)]
              have e1 : j * cc.k + off - j * cc.k = off := by omega
              rw [e1]
              have hx := h13 j hj'
              rw [getD_getElem _ hj'] at hd
              exact AV.rels_mono hle _ _ (TC.dec_law hd _ _ _ _ (rels_splice hx hcells))
            · rw [List.getElem_set_ne (fun e => hjn e.symm), splice_seg_other _ _ _ _ _ hfit2 ?_]
              · exact AV.rels_mono hle _ _ (h13 j hj')
              · rcases Nat.lt_or_gt_of_ne hjn with h | h
                · left; have : (j + 1) * cc.k ≤ n * cc.k := Nat.mul_le_mul_right _ h; rw [Nat.succ_mul] at this; omega
                · right; have : (n + 1) * cc.k ≤ j * cc.k := Nat.mul_le_mul_right _ h; rw [Nat.succ_mul] at this; omega, fun x => Iff.rfl⟩⟩)
      exact hk _ _ _ _ _ _ hs s2 s1 (by simp [AV.rel])
    · exact hs.elim
  · exact hs.elim

end
end Go.X
