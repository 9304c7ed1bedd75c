/- Parts of the walks: X8 X9 X10 X11 X12 X13 -/
import Derived.Test.YticlpjjkjpabmaaX7
import Derived.Laws.StructEq

/- Stores. -/
namespace Go.X
open Go
section
variable {P : Program} {c : Ctx} {κ : Kap} {Im : Nat → Prop} {w : World} {H : List AObj} {K : AV → List (Nat × AObj) → Prop} {k : Value → World → Prop}

theorem oneAV_sound {a : AV} {y : Value} (h : oneAV a = true) (hr : AV.rel κ Im w a y) : y.oneCell' = true := by
  cases a with
  | v z => simp only [AV.rel] at hr; subst hr; cases y <;> simp_all [oneAV, Value.oneCell']
  | any => simp [oneAV] at h
  | gd j p t a => simp [oneAV] at h
  | ptr i off => simp only [AV.rel] at hr; obtain ⟨b, _, rfl⟩ := hr; rfl
  | agg l => simp [oneAV] at h
  | tup l => simp [oneAV] at h
  | fn f l => simp only [AV.rel] at hr; obtain ⟨b, rfl, _⟩ := hr; rfl
  | rs cc xs => simp only [AV.rel] at hr; obtain ⟨b, cap, rfl, _⟩ := hr; rfl
  | ep cc xs n off => simp only [AV.rel] at hr; obtain ⟨_, b, o, rfl, _⟩ := hr; rfl
  | hd i => simp only [AV.rel, isH] at hr; cases y <;> simp_all [Value.oneCell']
  | vw i kk lo n => simp only [AV.rel] at hr; obtain ⟨_, _, _, _, _, _, _, rfl, _⟩ := hr; rfl
  | rp i kk n off => simp only [AV.rel] at hr; obtain ⟨_, _, _, _, _, rfl⟩ := hr; rfl

theorem oneAVs_sound {l : List AV} {ys : List Value} (h : l.all oneAV = true) (hr : AV.rels κ Im w l ys) : ∀ y ∈ ys, y.oneCell' = true := by
  induction l generalizing ys with
  | nil => simp only [AV.rels] at hr; subst hr; intro y hy; cases hy
  | cons a l ih =>
    simp only [AV.rels] at hr
    obtain ⟨y, r, rfl, h2, h3⟩ := hr
    simp only [List.all_cons, Bool.and_eq_true] at h
    intro z hz
    rcases List.mem_cons.1 hz with rfl | hz
    · exact oneAV_sound h.1 h2
    · exact ih h.2 h3 z hz

theorem splice_get {α : Type} (a v : List α) (p m : Nat) (h : p + v.length ≤ a.length) :
    (a.take p ++ v ++ a.drop (p + v.length))[m]? = if m < p then a[m]? else if m < p + v.length then v[m - p]? else a[m]? := by
  have h1 : (a.take p).length = p := by rw [List.length_take]; omega
  by_cases hm : m < p
  · rw [if_pos hm, List.append_assoc, List.getElem?_append_left (by omega), List.getElem?_take, if_pos hm]
  · rw [if_neg hm, List.append_assoc, List.getElem?_append_right (by omega), h1]
    by_cases hm2 : m < p + v.length
    · rw [if_pos hm2, List.getElem?_append_left (by omega)]
    · rw [if_neg hm2, List.getElem?_append_right (by omega), List.getElem?_drop]
      congr 1; omega

theorem splice_seg {α : Type} (a v : List α) (p s n : Nat) (h : p + v.length ≤ a.length) (hs : s ≤ p) (hn : p + v.length ≤ s + n) :
    ((a.take p ++ v ++ a.drop (p + v.length)).drop s).take n = ((a.drop s).take n).take (p - s) ++ v ++ ((a.drop s).take n).drop (p - s + v.length) := by
  apply List.ext_getElem?
  intro m
  by_cases hle : p - s + v.length ≤ ((a.drop s).take n).length
  · rw [splice_get _ _ _ _ hle, List.getElem?_take, List.getElem?_drop, splice_get _ _ _ _ h]
    simp only [List.getElem?_take, List.getElem?_drop]
    by_cases h1 : m < n
    · rw [if_pos h1]
      by_cases h2 : m < p - s
      · rw [if_pos h2, if_pos (by omega), if_pos h1]
      · rw [if_neg h2, if_neg (by omega)]
        by_cases h3 : m < p - s + v.length
        · rw [if_pos h3, if_pos (by omega)]; congr 1; omega
        · rw [if_neg h3, if_neg (by omega), if_pos h1]
    · rw [if_neg h1, if_neg (by omega), if_neg (by omega), if_neg h1]
  · exfalso
    apply hle
    rw [List.length_take, List.length_drop]
    omega

theorem splice_seg_other {α : Type} (a v : List α) (p s n : Nat) (h : p + v.length ≤ a.length) (hs : s + n ≤ p ∨ p + v.length ≤ s) :
    ((a.take p ++ v ++ a.drop (p + v.length)).drop s).take n = (a.drop s).take n := by
  apply List.ext_getElem?
  intro m
  rw [List.getElem?_take, List.getElem?_drop, splice_get _ _ _ _ h, List.getElem?_take, List.getElem?_drop]
  by_cases h1 : m < n
  · rw [if_pos h1, if_pos h1]
    rcases hs with hs | hs
    · rw [if_pos (by omega)]
    · rw [if_neg (by omega), if_neg (by omega)]
  · rw [if_neg h1, if_neg h1]

theorem rels_splice {cs l : List AV} {a v : List Value} {off : Nat} (hc : AV.rels κ Im w cs a) (hl : AV.rels κ Im w l v) : AV.rels κ Im w (spliceAV cs off l) (a.take off ++ v ++ a.drop (off + v.length)) := by
  unfold spliceAV
  rw [rels_append]
  refine ⟨_, _, rfl, ?_, ?_⟩
  · rw [rels_append]
    exact ⟨_, _, rfl, rels_take hc off, hl⟩
  · rw [rels_length _ _ hl]
    exact rels_drop hc _

theorem Turn.setRow (w : World) (g : Nat) (cs : Array Value) {arr : Array Value} {T : TypeId} {fz : Nat × Nat} (hg : w.heap[g]? = some (.cells arr T fz)) : Turn (some g) w (w.setRow g cs) :=
  ⟨rfl, rfl, ⟨rfl, Nat.le_refl _, Recs.of_but (g := g) (by rw [hg]; rfl) fun b _ hne => setRow_other w g b cs hne⟩, by simp, fun b _ hne => setRow_other w g b cs (fun e => hne (by rw [e]))⟩

theorem store_sound {t : TypeId} {a x : AV} {ya y : Value} (hst : St c κ Im w H) (ha : AV.rel κ Im w a ya) (hx : AV.rel κ Im w x y) (hs : (effStore P t a x (H.getD · .dead)).sat K)
    (hk : Cont c κ Im w H K k) : Gives P (do Instr.storeAt t ya y; pure .skip) w k := by
  unfold effStore at hs
  split at hs
  · exact hs.elim
  rename_i l hl
  split at hs
  case isFalse => exact hs.elim
  rename_i hcond
  obtain ⟨hsz, hpos, hone⟩ := hcond
  have hcells := cellsAV_sound hl hx
  have hlen := rels_length _ _ hcells
  have hone' := oneAVs_sound hone hcells
  obtain ⟨i0, hi0⟩ : ∃ i, P.info? t = some i := by
    cases hi : P.info? t with
    | none => simp only [szOf, hi, Option.map_none, Option.getD_none] at hsz; omega
    | some i => exact ⟨i, rfl⟩
  have hrunsz := run_sizeOf' (w := w) t hi0
  have hsize : y.cells.size = szOf P t := by rw [← Array.length_toList, hlen, hsz]
  -- the run, once the block is known
  have key : ∀ (b off : Nat) (arr : Array Value) (E : TypeId), ya = .pointer (some ⟨b, off, none⟩) → w.heap[b]? = some (.cells arr E (0, 0)) → off + l.length ≤ arr.size →
      k undef (w.setRow b (arr.toList.take off ++ y.cells.toList ++ arr.toList.drop (off + y.cells.toList.length)).toArray) → Gives P (do Instr.storeAt t ya y; pure .skip) w k := by
    intro b off arr E h1 h2 h3 h4
    subst h1
    refine gives_skip ?_ h4
    have hr := run_storeCells_at P b off E y.cells.toList 0 arr w h2 (by rw [hlen]; omega) hone'
    simp only [Nat.add_zero] at hr
    simp [Instr.storeAt, Instr.sureAddr, storeVar, hrunsz, hsize, hr]
  split at hs
  · -- a pointer into an object
    rename_i i off
    simp only [AV.rel] at ha
    obtain ⟨b', h5, h6⟩ := ha
    simp only at hs
    split at hs
    · rename_i cs E ho
      split at hs
      case isFalse => exact hs.elim
      rename_i hfit
      have hid := getD_dead (H := H) (by simp) ho
      obtain ⟨D, b, arr, h1, h2, h3, h4⟩ := hst.obj hid
      obtain rfl : b = b' := by rw [h1] at h5; cases h5; rfl
      have hcl := rels_length _ _ h3
      rw [Array.length_toList] at hcl
      refine key b off arr E h6 h2 (by omega) ?_
      obtain ⟨s1, s2⟩ := hst.turn hid (g := b) (Turn.setRow w b (arr.toList.take off ++ y.cells.toList ++ arr.toList.drop (off + y.cells.toList.length)).toArray h2) (o' := .cells (spliceAV cs off l) E)
        (fun D hD => by obtain ⟨b2, arr2, e1, e2, e3, e4⟩ := hD; rw [h1] at e1; cases e1; exact e4)
        (fun hle => ⟨b, _, h1, setRow_heap w b arr _ E _ h2, by
          have := rels_splice (off := off) h3 hcells
          simpa using AV.rels_mono hle _ _ this, fun x => Iff.rfl⟩)
      exact hk _ _ _ _ _ _ hs s2 s1 (by simp [AV.rel])
    · exact hs.elim
  · -- a pointer into a row
    rename_i i kk n off
    simp only [AV.rel] at ha
    obtain ⟨g, len, cap, h5, h6, h7⟩ := ha
    simp only at hs
    split at hs
    · rename_i E cc xs ho
      split at hs
      case isFalse => exact hs.elim
      rename_i hfit
      obtain ⟨hkk, hoff⟩ := hfit
      subst hkk
      split at hs
      case h_2 => exact hs.elim
      rename_i d hd
      have hid := getD_dead (H := H) (by simp) ho
      obtain ⟨D, a, cap', h1, h2⟩ := hst.obj hid
      have h1' := h1
      have h5' := h5
      rw [h1] at h5
      simp only [Option.some.injEq, Value.slice.injEq] at h5
      obtain ⟨rfl, rfl, rfl⟩ := h5
      rcases h2 with ⟨h2, _⟩ | ⟨g', arr, h8, h9, h10, h11, h12, h13, h14⟩
      · cases h2
      cases h8
      have hnk : n * cc.k + cc.k ≤ arr.size := by
        rw [h10, ← Nat.succ_mul]
        exact Nat.mul_le_mul_right _ (by omega)
      refine key g (n * cc.k + off) arr E h7 h9 (by omega) ?_
      have hlen2 : y.cells.toList.length = l.length := hlen
      have hfit2 : (n * cc.k + off) + y.cells.toList.length ≤ arr.toList.length := by rw [hlen2, Array.length_toList (xs := arr)]; omega
      obtain ⟨s1, s2⟩ := hst.turn hid (g := g) (Turn.setRow w g (arr.toList.take (n * cc.k + off) ++ y.cells.toList ++ arr.toList.drop (n * cc.k + off + y.cells.toList.length)).toArray h9) (o' := .row E cc (xs.set n d))
        (fun D hD => by
          obtain ⟨a2, cap2, e1, e2⟩ := hD
          rw [h1'] at e1; cases e1
          rcases e2 with ⟨e2, _⟩ | ⟨g2, arr2, e3, e4, e5, e6, e7, e8, e9⟩
          · cases e2
          · cases e3; exact e9)
        (fun hle => ⟨_, cap', by rw [List.length_set]; exact h1', .inr ⟨g, _, rfl, setRow_heap w g arr _ E _ h9, by
            rw [← h10]
            simp only [List.size_toArray, List.length_append, List.length_take, List.length_drop, Array.length_toList] at hfit2 ⊢
            omega, by rw [List.length_set]; exact h11, h12, fun j hj => by
            have hj' : j < xs.length := by simpa using hj
            simp only
            by_cases hjn : j = n
            · subst hjn
              rw [List.getElem_set_self, splice_seg _ _ _ _ _ hfit2 (by omega) (by omega)]
              have e1 : j * cc.k + off - j * cc.k = off := by omega
              rw [e1]
              have hx := h13 j hj'
              rw [getD_getElem _ hj'] at hd
              exact AV.rels_mono hle _ _ (TC.dec_law hd _ _ _ _ (rels_splice hx hcells))
            · rw [List.getElem_set_ne (fun e => hjn e.symm), splice_seg_other _ _ _ _ _ hfit2 ?_]
              · exact AV.rels_mono hle _ _ (h13 j hj')
              · rcases Nat.lt_or_gt_of_ne hjn with h | h
                · left; have : (j + 1) * cc.k ≤ n * cc.k := Nat.mul_le_mul_right _ h; rw [Nat.succ_mul] at this; omega
                · right; have : (n + 1) * cc.k ≤ j * cc.k := Nat.mul_le_mul_right _ h; rw [Nat.succ_mul] at this; omega, fun x => Iff.rfl⟩⟩)
      exact hk _ _ _ _ _ _ hs s2 s1 (by simp [AV.rel])
    · exact hs.elim
  · exact hs.elim

end
end Go.X

/- The operations that turn nothing. -/
namespace Go.X
open Go
section
variable {P : Program} {c : Ctx} {κ : Kap} {Im : Nat → Prop} {w : World} {H : List AObj} {K : AV → List (Nat × AObj) → Prop} {k : Value → World → Prop}

theorem Cont.val (hk : Cont c κ Im w H K k) (hst : St c κ Im w H) {x : Value} {s : Sem Next} (hs : (Eff.ok (.v x) []).sat K) (hr : s.run P w = .ok (.value x) w) : Gives P s w k :=
  gives_value hr (hk.same hst hs (by simp only [AV.rel]))

theorem run_sizeOf_pos {t : TypeId} (h : 0 < szOf P t) : (sizeOf t).run P w = .ok (szOf P t) w := by
  cases hi : P.info? t with
  | none => simp [szOf, hi] at h
  | some i => exact run_sizeOf' t hi

theorem fieldOff_spec {s : TypeId} {f d : Nat} {t : TypeId} (h : fieldOff P s f = some (d, t)) : ∃ fs x, P.underlying s = some (.struct fs) ∧ fs[f]? = some x ∧ x.offset = d ∧ x.type = t ∧ 0 < szOf P t := by
  unfold fieldOff at h
  split at h
  · rename_i fs hu
    split at h
    · rename_i x hx
      split at h
      · rename_i hp; cases h; exact ⟨fs, x, hu, hx, rfl, rfl, hp⟩
      · cases h
    · cases h
  · cases h

theorem fieldAddr_sound {s : TypeId} {f : Nat} {a : AV} {y : Value} (hst : St c κ Im w H) (ha : AV.rel κ Im w a y) (hs : (effFieldAddr P s f a).sat K) (hk : Cont c κ Im w H K k) :
    Gives P (do pure (.value (← Instr.fieldAt s y f))) w k := by
  unfold effFieldAddr at hs
  split at hs
  · exact hs.elim
  rename_i d t hd
  obtain ⟨fs, x, hu, hx, rfl, rfl, hp⟩ := fieldOff_spec hd
  have hsz := run_sizeOf_pos (w := w) hp
  have key : ∀ b off, y = .pointer (some ⟨b, off, none⟩) → k (.pointer (some ⟨b, off + x.offset, none⟩)) w → Gives P (do pure (.value (← Instr.fieldAt s y f))) w k := by
    rintro b off rfl hkk
    refine gives_value ?_ hkk
    simp [Instr.fieldAt, run_underlying hu, hx, Instr.sureAddr, fieldPlace, hsz, Nat.pos_iff_ne_zero.1 hp, add_off]
  split at hs
  · simp only [AV.rel] at ha
    obtain ⟨b, h1, h2⟩ := ha
    exact key b _ h2 (hk.same hst hs (by simp only [AV.rel]; exact ⟨b, h1, rfl⟩))
  · simp only [AV.rel] at ha
    obtain ⟨h0, b, o, h1, h2⟩ := ha
    refine key b _ h1 (hk.same hst hs ?_)
    simp only [AV.rel]
    exact ⟨h0, b, o, by rw [Nat.add_assoc], h2⟩
  · simp only [AV.rel] at ha
    obtain ⟨g, len, cap, h1, h2, h3⟩ := ha
    refine key g _ h3 (hk.same hst hs ?_)
    simp only [AV.rel]
    exact ⟨g, len, cap, h1, h2, by rw [Nat.add_assoc]⟩
  · exact hs.elim

theorem run_part {t : TypeId} {cs : List AV} {ys : Array Value} {off : Nat} {r : AV} (h : partAV P t cs off = some r) (hr : AV.rels κ Im w cs ys.toList) :
    ∃ y, (part t ys off).run P w = .ok y w ∧ AV.rel κ Im w r y := by
  unfold partAV at h
  cases hu : P.underlying t with
  | none => simp [hu] at h
  | some d =>
    simp only [hu] at h
    obtain ⟨i, hi⟩ := info_of_underlying hu
    have hsz := run_sizeOf' (w := w) t hi
    have hag := run_isAgg (w := w) t hu
    by_cases ha : aggB P t = true
    · simp only [ha, if_true] at h
      split at h
      · cases h
        refine ⟨.agg (ys.extract off (off + szOf P t)), by simp [part, hag, ha, hsz], ?_⟩
        simp only [AV.rel]
        refine ⟨_, rfl, ?_⟩
        have := rels_take (rels_drop hr off) (szOf P t)
        rw [Array.toList_extract, List.extract_eq_take_drop]
        simpa using this
      · cases h
    · simp only [ha] at h
      obtain ⟨y, hy, hry⟩ := rels_getElem hr (by simpa using h)
      refine ⟨y, ?_, hry⟩
      rw [Array.getElem?_toList] at hy
      simp [part, hag, ha, hy]

theorem field_sound {s : TypeId} {f : Nat} {a : AV} {y : Value} (hst : St c κ Im w H) (ha : AV.rel κ Im w a y) (hs : (effField P s f a).sat K) (hk : Cont c κ Im w H K k) :
    Gives P (do pure (.value (← Instr.field s y f))) w k := by
  unfold effField at hs
  split at hs
  · rename_i d t cs hd
    obtain ⟨fs, x, hu, hx, rfl, rfl, hp⟩ := fieldOff_spec hd
    split at hs
    · rename_i r hr
      simp only [AV.rel] at ha
      obtain ⟨ys, rfl, h2⟩ := ha
      obtain ⟨z, hz, hrz⟩ := run_part hr h2
      refine gives_value ?_ (hk.same hst hs hrz)
      simp [Instr.field, run_underlying hu, hx, asAgg, hz]
    · exact hs.elim
  · exact hs.elim

theorem index_sound {t : TypeId} {a i : AV} {y yi : Value} (hst : St c κ Im w H) (ha : AV.rel κ Im w a y) (hi : AV.rel κ Im w i yi) (hs : (effIndex P t a i).sat K) (hk : Cont c κ Im w H K k) :
    Gives P (do pure (.value (← Instr.index t y yi))) w k := by
  unfold effIndex at hs
  split at hs
  · rename_i len e cs kd n hu
    split at hs
    · rename_i r hr
      obtain ⟨⟨hb⟩, hs⟩ := hs
      simp only [AV.rel] at ha hi
      obtain ⟨ys, rfl, h2⟩ := ha
      subst hi
      obtain ⟨z, hz, hrz⟩ := run_part hr h2
      have hsz : (sizeOf e).run P w = .ok (szOf P e) w := by
        unfold partAV at hr
        cases hu : P.underlying e with
        | none => simp [hu] at hr
        | some d =>
          obtain ⟨i, hi⟩ := info_of_underlying hu
          exact run_sizeOf' e hi
      refine gives_value ?_ (hk.same hst hs hrz)
      simp [Instr.index, asIntOf, run_underlying hu, hb.1, hb.2, hsz, hz]
    · exact hs.elim
  · exact hs.elim

theorem un_sound {u : UnOp} {x : AV} {y : Value} (hst : St c κ Im w H) (hx : AV.rel κ Im w x y) (hs : (effUn u x).sat K) (hk : Cont c κ Im w H K k) :
    Gives P (do pure (.value (← Op.unary u y))) w k := by
  unfold effUn at hs
  split at hs
  · simp only [AV.rel] at hx
    subst hx
    exact hk.val hst hs (by simp [Op.unary, Op.intArith])
  · simp only [AV.rel] at hx
    subst hx
    exact hk.val hst hs (by simp [Op.unary])
  · exact hs.elim

theorem conv_sound {s d : TypeId} {x : AV} {y : Value} (hst : St c κ Im w H) (hx : AV.rel κ Im w x y) (hs : (effConv P s d x).sat K) (hk : Cont c κ Im w H K k) :
    Gives P (do pure (.value (← convert s d y))) w k := by
  unfold effConv at hs
  split at hs
  · rename_i d1 kd k2 n h1 h2
    simp only [AV.rel] at hx
    subst hx
    exact hk.val hst hs (by simp [convert, run_underlying h1, run_underlying h2, Conv.intToInt])
  · exact hs.elim

theorem pick_sound {x a b : AV} {yc ya yb : Value} (hst : St c κ Im w H) (hc : AV.rel κ Im w x yc) (ha : AV.rel κ Im w a ya) (hb : AV.rel κ Im w b yb) (hs : (effPick x a b).sat K) (hk : Cont c κ Im w H K k) :
    Gives P (do pure (.value (if ← asBool yc then ya else yb))) w k := by
  unfold effPick at hs
  split at hs
  · rename_i t
    simp only [AV.rel] at hc
    subst hc
    have run : ∀ z, (if t = true then ya else yb) = z → ((do pure (.value (if ← asBool (.bool t) then ya else yb)) : Sem Next)).run P w = .ok (.value z) w := fun z hz => by
      simp [asBool, hz]
    split at hs
    · obtain ⟨⟨hq⟩, hs⟩ := hs
      simp only [AV.rel] at ha hb
      refine gives_value (run _ rfl) (hk.same hst hs ?_)
      simp only [AV.rel]
      cases t
      · simpa using hb.1 (hq rfl)
      · simpa using ha
    · simp only [AV.rel] at ha hb
      refine gives_value (run _ rfl) (hk.same hst hs ?_)
      simp only [AV.rel]
      cases t <;> simp [ha, hb]
    · obtain ⟨⟨hq⟩, hs⟩ := hs
      simp only [AV.rel] at ha hb
      refine gives_value (run _ rfl) (hk.same hst hs ?_)
      simp only [AV.rel]
      cases t
      · simpa using hb
      · simpa using ha.1 (hq rfl)
    · simp only [AV.rel] at ha hb
      refine gives_value (run _ rfl) (hk.same hst hs ?_)
      simp only [AV.rel]
      cases t <;> simp [ha, hb]
    · simp only [AV.rel] at ha hb
      refine gives_value (run _ rfl) (hk.same hst hs ?_)
      simp only [AV.rel]
      cases t <;> simp [ha, hb]
    · exact hs.elim
  · exact hs.elim

end
end Go.X

/- Arithmetic and comparisons. -/
namespace Go.X
open Go
section
variable {P : Program} {c : Ctx} {κ : Kap} {Im : Nat → Prop} {w : World} {H : List AObj} {K : AV → List (Nat × AObj) → Prop} {k : Value → World → Prop}

theorem allEq_cons {q : Bool} {ks : List Bool} {l m : List AV} {r : Bool} (h : allEq (q :: ks) l m = some r) :
    ∃ a l' b m' x y, l = a :: l' ∧ m = b :: m' ∧ eq1 q a b = some x ∧ allEq ks l' m' = some y ∧ r = (x && y) := by
  unfold allEq at h
  split at h
  · simp at *
  · rename_i q' a b e
    simp only [List.cons.injEq] at e
    obtain ⟨rfl, rfl⟩ := e
    exact ⟨a, [], b, [], r, true, rfl, rfl, h, rfl, by simp⟩
  · rename_i q' ks' a l' b m' _ e
    simp only [List.cons.injEq] at e
    obtain ⟨rfl, rfl⟩ := e
    split at h
    · rename_i x y h1 h2
      cases h
      exact ⟨a, l', b, m', x, y, rfl, rfl, h1, h2, rfl⟩
    · cases h
  · cases h

theorem allEq_append : ∀ (ks ks' : List Bool) (l m : List AV) (r : Bool), allEq (ks ++ ks') l m = some r →
    ∃ l1 l2 m1 m2 r1 r2, l = l1 ++ l2 ∧ m = m1 ++ m2 ∧ l1.length = ks.length ∧ m1.length = ks.length ∧ allEq ks l1 m1 = some r1 ∧ allEq ks' l2 m2 = some r2 ∧ r = (r1 && r2)
  | [], ks', l, m, r, h => ⟨[], l, [], m, true, r, rfl, rfl, rfl, rfl, rfl, h, by simp⟩
  | q :: ks, ks', l, m, r, h => by
    obtain ⟨a, l', b, m', x, y, rfl, rfl, h1, h2, rfl⟩ := allEq_cons h
    obtain ⟨l1, l2, m1, m2, r1, r2, rfl, rfl, e1, e2, h3, h4, rfl⟩ := allEq_append ks ks' _ _ _ h2
    refine ⟨a :: l1, l2, b :: m1, m2, x && r1, r2, rfl, rfl, by simp [e1], by simp [e2], ?_, h4, by rw [Bool.and_assoc]⟩
    cases ks with
    | nil =>
      cases l1 with
      | cons _ _ => simp at e1
      | nil => cases m1 with
        | cons _ _ => simp at e2
        | nil => simp [allEq] at h3; subst h3; simp [allEq, h1]
    | cons q2 ks => unfold allEq; split <;> simp_all

/-- A value of a type, by its cells. -/
def valOf (P : Program) (t : TypeId) (ls : List Value) (v : Value) : Prop := if aggB P t = true then v = .agg ls.toArray else ls = [v]

theorem flat_guard : ∀ (n : Nat) (t : TypeId) (s : List Bool), flatSz P n t = some s → ∀ d, n ≤ d → P.eqGuardType d t = false
  | 0, t, s, h => by simp [flatSz] at h
  | n + 1, t, s, h => by
    intro d hd
    obtain ⟨d, rfl⟩ : ∃ e, d = e + 1 := ⟨d - 1, by omega⟩
    simp only [flatSz] at h
    unfold Program.eqGuardType
    split at h
    · rename_i hu; simp [hu]
    · rename_i hu; simp [hu]
    · rename_i fs hu
      split at h
      · cases h
      split at h
      · rename_i tot htot
        simp only [hu]
        have : ∀ (l : List Field) (acc : Nat) (tot : List Bool), flatFs P (flatSz P n) acc l = some tot → (l.any fun f => f.name != "_" && P.eqGuardType d f.type) = false := by
          intro l
          induction l with
          | nil => intros; rfl
          | cons f r ih =>
            intro acc tot h
            simp only [flatFs] at h
            split at h
            · split at h
              · rename_i s1 hs1
                split at h
                · rename_i q hq
                  simp only [List.any_cons, ih _ _ hq, flat_guard n _ _ hs1 d (by omega), Bool.and_false, Bool.or_self]
                · cases h
              · cases h
            · cases h
        rw [← Array.any_toList]
        exact this _ _ _ htot
      · cases h
    · cases h

theorem flat_sz {n : Nat} {t : TypeId} {s : List Bool} (h : flatSz P n t = some s) (ha : aggB P t = true) : szOf P t = s.length := by
  cases n with
  | zero => simp [flatSz] at h
  | succ n =>
    simp only [flatSz] at h
    unfold aggB at ha
    split at h
    · rename_i hu; simp [hu] at ha
    · rename_i hu; simp [hu] at ha
    · split at h
      · cases h
      split at h
      · split at h
        · rename_i e; cases h; exact e
        · cases h
      · cases h
    · cases h

theorem flat_single {n : Nat} {t : TypeId} {s : List Bool} (h : flatSz P n t = some s) (ha : aggB P t = false) :
    (s = [true] ∧ ∃ kd, P.underlying t = some (.int kd)) ∨ (s = [false] ∧ P.underlying t = some .bool) := by
  cases n with
  | zero => simp [flatSz] at h
  | succ n =>
    simp only [flatSz] at h
    unfold aggB at ha
    split at h
    · rename_i kd hu; cases h; exact .inl ⟨rfl, _, hu⟩
    · rename_i hu; cases h; exact .inr ⟨rfl, hu⟩
    · rename_i hu; simp [hu] at ha
    · cases h

theorem flat_eq : ∀ (n : Nat) (t : TypeId) (s : List Bool), flatSz P n t = some s → ∀ d, n ≤ d → ∀ (l m : List AV) (ls ms : List Value) (r : Bool) (vx vy : Value),
    AV.rels κ Im w l ls → AV.rels κ Im w m ms → allEq s l m = some r → valOf P t ls vx → valOf P t ms vy → (Op.equalIn d t vx vy).run P w = .ok r w
  | 0, t, s, h => by simp [flatSz] at h
  | n + 1, t, s, h => by
    intro d hd l m ls ms r vx vy hl hm heq hvx hvy
    obtain ⟨d, rfl⟩ : ∃ e, d = e + 1 := ⟨d - 1, by omega⟩
    cases ha : aggB P t with
    | false =>
      simp only [valOf, ha, Bool.false_eq_true, if_false] at hvx hvy
      subst hvx hvy
      rcases flat_single h ha with ⟨rfl, kd, hu⟩ | ⟨rfl, hu⟩
      all_goals
        obtain ⟨a, l', b, m', x, y, rfl, rfl, h1, h2, rfl⟩ := allEq_cons heq
        simp only [AV.rels] at hl hm
        obtain ⟨y1, r1, e1, hr1, e1'⟩ := hl
        obtain ⟨y2, r2, e2, hr2, e2'⟩ := hm
        cases e1; cases e2
        have hnil : l' = [] ∧ m' = [] := by
          cases l' with
          | cons _ _ => simp [AV.rels] at e1'
          | nil => cases m' with
            | cons _ _ => simp [AV.rels] at e2'
            | nil => exact ⟨rfl, rfl⟩
        obtain ⟨rfl, rfl⟩ := hnil
        simp [allEq] at h2
        subst h2
        unfold eq1 at h1
        split at h1
        all_goals first | (exfalso; simp at *; done) | skip
      · split at h1
        · rename_i hkk
          subst hkk
          cases h1
          simp only [AV.rel] at hr1 hr2
          subst hr1 hr2
          rw [run_equalIn_int w d t _ kd _ _ hu, Bool.and_true]
        · cases h1
      · cases h1
        simp only [AV.rel] at hr1 hr2
        subst hr1 hr2
        rw [run_equalIn_bool' w d t _ _ hu, Bool.and_true]
    | true =>
      simp only [valOf, ha, if_true] at hvx hvy
      subst hvx hvy
      simp only [flatSz] at h
      unfold aggB at ha
      split at h
      · rename_i hu; simp [hu] at ha
      · rename_i hu; simp [hu] at ha
      · rename_i fs hu
        split at h
        · cases h
        rename_i hp
        split at h
        case h_2 => cases h
        rename_i tot htot
        split at h
        case isFalse => cases h
        rename_i hsz
        cases h
        have hf : P.fieldsOf t = fs := by unfold Program.fieldsOf; rw [hu]
        rw [run_equalIn_struct w d t _ _ (by rw [hf]; exact hu) (by simpa using hp), hf]
        have key : ∀ (fl : List Field) (acc : Nat) (tot : List Bool), flatFs P (flatSz P n) acc fl = some tot → ∀ (l m : List AV) (ls ms pl pm : List Value) (r : Bool),
            AV.rels κ Im w l ls → AV.rels κ Im w m ms → allEq tot l m = some r → pl.length = acc → pm.length = acc → (Op.eqFields d (pl ++ ls).toArray (pm ++ ms).toArray fl).run P w = .ok r w := by
          intro fl
          induction fl with
          | nil =>
            intro acc tot h l m ls ms pl pm r hl hm heq _ _
            simp [flatFs] at h
            subst h
            unfold allEq at heq
            split at heq <;> simp_all [Op.eqFields]
          | cons f fr ih =>
            intro acc tot h l m ls ms pl pm r hl hm heq hpl hpm
            simp only [flatFs] at h
            split at h
            case isFalse => cases h
            rename_i hname
            split at h
            case h_2 => cases h
            rename_i s1 hs1
            split at h
            case h_2 => cases h
            rename_i q hq
            cases h
            obtain ⟨l1, l2, m1, m2, r1, r2, rfl, rfl, e1, e2, h3, h4, rfl⟩ := allEq_append _ _ _ _ _ heq
            obtain ⟨ls1, ls2, rfl, hl1, hl2⟩ := (rels_append _ _ _).1 hl
            obtain ⟨ms1, ms2, rfl, hm1, hm2⟩ := (rels_append _ _ _).1 hm
            have el1 := rels_length _ _ hl1
            have em1 := rels_length _ _ hm1
            have hpart : ∀ (p a b : List Value), p.length = acc → a.length = s1.length → ∃ v, (part f.type (p ++ (a ++ b)).toArray f.offset).run P w = .ok v w ∧ valOf P f.type a v := by
              intro p a b hp1 ha1
              cases hag : aggB P f.type with
              | true =>
                have hsz1 := flat_sz hs1 hag
                obtain ⟨dd, hdd⟩ : ∃ dd, P.underlying f.type = some dd := by
                  unfold aggB at hag
                  cases hdd : P.underlying f.type with
                  | none => simp [hdd] at hag
                  | some dd => exact ⟨dd, rfl⟩
                obtain ⟨i, hi⟩ := info_of_underlying hdd
                refine ⟨.agg a.toArray, ?_, by simp [valOf, hag]⟩
                simp only [part, Sem.run_bind, run_isAgg f.type hdd, Result.andThen_ok, hag, if_true, run_sizeOf' f.type hi, Sem.run_pure, hsz1, hname.2]
                congr 2
                apply Array.ext'
                rw [Array.toList_extract, List.extract_eq_take_drop]
                simp [← hp1, ← ha1]
              | false =>
                have h1 : s1.length = 1 := by rcases flat_single hs1 hag with ⟨rfl, _⟩ | ⟨rfl, _⟩ <;> rfl
                obtain ⟨v, rfl⟩ : ∃ v, a = [v] := by
                  cases a with
                  | nil => simp at ha1; omega
                  | cons v a => cases a with
                    | nil => exact ⟨v, rfl⟩
                    | cons _ _ => simp at ha1; omega
                obtain ⟨dd, hdd⟩ : ∃ dd, P.underlying f.type = some dd := by
                  rcases flat_single hs1 hag with ⟨_, kd, hu⟩ | ⟨_, hu⟩ <;> exact ⟨_, hu⟩
                refine ⟨v, ?_, by simp [valOf, hag]⟩
                have : (p ++ ([v] ++ b)).toArray[f.offset]? = some v := by simp [hname.2, ← hp1]
                simp only [part, Sem.run_bind, run_isAgg f.type hdd, Result.andThen_ok, hag, Bool.false_eq_true, if_false, this, Sem.run_pure]
            obtain ⟨vx, hvx, ox⟩ := hpart pl ls1 ls2 hpl (by rw [el1, e1])
            obtain ⟨vy, hvy, oy⟩ := hpart pm ms1 ms2 hpm (by rw [em1, e2])
            have h5 := flat_eq n f.type s1 hs1 d (by omega) l1 m1 ls1 ms1 r1 vx vy hl1 hm1 h3 ox oy
            have h6 := ih _ _ hq l2 m2 ls2 ms2 (pl ++ ls1) (pm ++ ms1) r2 hl2 hm2 h4 (by rw [List.length_append, hpl, el1, e1]) (by rw [List.length_append, hpm, em1, e2])
            simp only [Op.eqFields, hname.1, ne_eq, not_false_eq_true, if_true, Sem.run_bind, hvx, Result.andThen_ok, hvy, h5]
            cases r1
            · simp
            · simpa [List.append_assoc] using h6
        have := key fs.toList 0 _ htot l m ls ms [] [] r hl hm heq rfl rfl
        simpa using this
      · cases h
end
end Go.X

/- Binary operations; builds; index addresses. -/
namespace Go.X
open Go
section
variable {P : Program} {c : Ctx} {κ : Kap} {Im : Nat → Prop} {w : World} {H : List AObj} {K : AV → List (Nat × AObj) → Prop} {k : Value → World → Prop}

theorem run_guard_int (op : BinOp) (t : TypeId) (x y : Operand) (k1 k2 : IntKind) (a b : Int) : (eqGuard op t x y (.int k1 a) (.int k2 b)).run P w = .ok () w := by
  cases op <;> simp [eqGuard]
theorem run_guard_bool (op : BinOp) (t : TypeId) (x y : Operand) (a b : Bool) : (eqGuard op t x y (.bool a) (.bool b)).run P w = .ok () w := by
  cases op <;> simp [eqGuard]
theorem run_guard_ptr (op : BinOp) (t : TypeId) (x y : Operand) (a b : Option Addr) : (eqGuard op t x y (.pointer a) (.pointer b)).run P w = .ok () w := by
  cases op <;> simp [eqGuard]

theorem run_eq_ptr1 (d : Nat) (t : TypeId) {e : TypeId} (hu : P.underlying t = some (.pointer e)) (b : Option Addr) : (Op.equalIn (d + 1) t (.pointer none) (.pointer b)).run P w = .ok b.isNone w := by
  simp [Op.equalIn, run_underlying hu]
theorem run_eq_ptr2 (d : Nat) (t : TypeId) {e : TypeId} (hu : P.underlying t = some (.pointer e)) (a : Addr) : (Op.equalIn (d + 1) t (.pointer (some a)) (.pointer none)).run P w = .ok false w := by
  simp [Op.equalIn, run_underlying hu]
theorem run_eql_pp (t : TypeId) (x y : Option Addr) : (binOp .eql t (.pointer x) (.pointer y)).run P w = ((Op.equalIn 10000 t (.pointer x) (.pointer y)).run P w).andThen fun b w' => .ok (.bool b) w' := by
  simp only [binOp]
  simp [Op.equal, Op.maxDepth]
theorem run_neq_pp (t : TypeId) (x y : Option Addr) : (binOp .neq t (.pointer x) (.pointer y)).run P w = ((Op.equalIn 10000 t (.pointer x) (.pointer y)).run P w).andThen fun b w' => .ok (.bool (!b)) w' := by
  simp only [binOp]
  simp [Op.equal, Op.maxDepth]

theorem depth_ge (P : Program) : 20 ≤ P.depth := by
  unfold Program.depth Made.depth; omega

theorem bin_sound {b : BinOp} {t : TypeId} {ox oy : Operand} {x y : AV} {y1 y2 : Value} (hst : St c κ Im w H) (hx : AV.rel κ Im w x y1) (hy : AV.rel κ Im w y y2)
    (hs : (effBin P b t x y).sat K) (hk : Cont c κ Im w H K k) : Gives P (do pure (.value (← (do eqGuard b t ox oy y1 y2; binOp b t y1 y2)))) w k := by
  unfold effBin at hs
  split at hs
  · -- numbers
    rename_i k1 a k2 d
    simp only [AV.rel] at hx hy
    subst hx hy
    have run : ∀ (z : Value), (binOp b t (.int k1 a) (.int k2 d)).run P w = .ok z w → K (.v z) [] → Gives P (do pure (.value (← (do eqGuard b t ox oy (.int k1 a) (.int k2 d); binOp b t (.int k1 a) (.int k2 d))))) w k := by
      intro z hz hK
      refine hk.val hst hK ?_
      simp only [Sem.run_bind, run_guard_int, Result.andThen_ok, hz, Sem.run_pure]
    cases b <;> simp only at hs
    case shl =>
      obtain ⟨⟨hq⟩, hs⟩ := hs
      exact run _ (by simp [binOp, Op.shift, show ¬ d < 0 by omega]) hs
    case shr =>
      obtain ⟨⟨hq⟩, hs⟩ := hs
      exact run _ (by simp [binOp, Op.shift, show ¬ d < 0 by omega]) hs
    all_goals
      split at hs
      case isFalse => exact hs.elim
      rename_i hkk
      subst hkk
    case h_1.quo.isTrue =>
      obtain ⟨⟨hq⟩, hs⟩ := hs
      exact run _ (by simp [binOp, Op.intDiv, hq]) hs
    case h_1.rem.isTrue =>
      obtain ⟨⟨hq⟩, hs⟩ := hs
      exact run _ (by simp [binOp, Op.intDiv, hq]) hs
    case h_1.add.isTrue => exact run _ (by simp [binOp, Op.intArith]) hs
    case h_1.sub.isTrue => exact run _ (by simp [binOp, Op.intArith]) hs
    case h_1.mul.isTrue => exact run _ (by simp [binOp, Op.intArith]) hs
    case h_1.and.isTrue => exact run _ (by simp only [binOp, ne_eq, not_true_eq_false, if_false]; rfl) hs
    case h_1.or.isTrue => exact run _ (by simp only [binOp, ne_eq, not_true_eq_false, if_false]; rfl) hs
    case h_1.xor.isTrue => exact run _ (by simp only [binOp, ne_eq, not_true_eq_false, if_false]; rfl) hs
    case h_1.andNot.isTrue => exact run _ (by simp only [binOp, ne_eq, not_true_eq_false, if_false]; rfl) hs
    all_goals exact run _ (by simp [binOp, Op.intCmp]) hs
  · -- bools
    rename_i a d
    simp only [AV.rel] at hx hy
    subst hx hy
    split at hs
    · rename_i hu
      exact hk.val hst hs (by simp only [Sem.run_bind, run_guard_bool, Result.andThen_ok]; simp [binOp, Op.equal, Op.maxDepth, run_equalIn_bool' w _ t a d hu])
    · rename_i hu
      exact hk.val hst hs (by simp only [Sem.run_bind, run_guard_bool, Result.andThen_ok]; simp [binOp, Op.equal, Op.maxDepth, run_equalIn_bool' w _ t a d hu])
    · exact hs.elim
  · -- structs
    rename_i l m
    split at hs
    case h_2 => exact hs.elim
    rename_i ks hks
    split at hs
    case isFalse => exact hs.elim
    rename_i hag
    simp only [AV.rel] at hx hy
    obtain ⟨xs, rfl, hl⟩ := hx
    obtain ⟨ys, rfl, hm⟩ := hy
    have hg := flat_guard 20 t ks hks P.depth (depth_ge P)
    have heq : ∀ r, allEq ks l m = some r → (Op.equalIn 10000 t (.agg xs) (.agg ys)).run P w = .ok r w := fun r hr =>
      flat_eq 20 t ks hks 10000 (by omega) l m _ _ r _ _ hl hm hr (by simp [valOf, hag]) (by simp [valOf, hag])
    split at hs
    · rename_i r hr
      exact hk.val hst hs (by simp only [Sem.run_bind, run_eqGuard_agg w _ t ox oy xs ys hg, Result.andThen_ok, run_eql_struct, heq r hr, Sem.run_pure])
    · rename_i r hr
      exact hk.val hst hs (by simp only [Sem.run_bind, run_eqGuard_agg w _ t ox oy xs ys hg, Result.andThen_ok, run_neq_struct, heq r hr, Sem.run_pure])
    · exact hs.elim
  · -- a pointer and nil
    simp only [AV.rel] at hx hy
    obtain ⟨b', _, rfl⟩ := hx
    subst hy
    split at hs
    · rename_i e hu
      exact hk.val hst hs (by simp only [Sem.run_bind, run_guard_ptr, Result.andThen_ok]; rw [run_eql_pp, run_eq_ptr2 9999 _ hu]; rfl)
    · rename_i e hu
      exact hk.val hst hs (by simp only [Sem.run_bind, run_guard_ptr, Result.andThen_ok]; rw [run_neq_pp, run_eq_ptr2 9999 _ hu]; rfl)
    · exact hs.elim
  · simp only [AV.rel] at hx hy
    subst hx hy
    split at hs
    · rename_i e hu
      exact hk.val hst hs (by simp only [Sem.run_bind, run_guard_ptr, Result.andThen_ok]; rw [run_eql_pp, run_eq_ptr1 9999 _ hu]; rfl)
    · rename_i e hu
      exact hk.val hst hs (by simp only [Sem.run_bind, run_guard_ptr, Result.andThen_ok]; rw [run_neq_pp, run_eq_ptr1 9999 _ hu]; rfl)
    · exact hs.elim
  · exact hs.elim

end
end Go.X

/- Builds, and what is given up to stay as it is. -/
namespace Go.X
open Go
section
variable {P : Program} {c : Ctx} {κ : Kap} {Im : Nat → Prop} {w : World} {H : List AObj} {K : AV → List (Nat × AObj) → Prop} {k : Value → World → Prop}

theorem foldl_set (off : Nat) : ∀ (L : List Value) (s : Nat) (a : Array Value), off + s + L.length ≤ a.size →
    ((L.zipIdx s).foldl (fun cs p => cs.setIfInBounds (off + p.2) p.1) a).toList = a.toList.take (off + s) ++ L ++ a.toList.drop (off + s + L.length)
  | [], s, a, h => by simp
  | v :: rest, s, a, h => by
    simp only [List.zipIdx_cons, List.foldl_cons]
    rw [foldl_set off rest (s + 1) (a.setIfInBounds (off + s) v) (by simp at h ⊢; omega)]
    simp only [Array.toList_setIfInBounds]
    have := list_seg_step a.toList (off + s) v rest (by simp at h ⊢; omega)
    simpa [Nat.add_assoc] using this

/-- Parts, abstract and real. -/
def partsRel (κ : Kap) (Im : Nat → Prop) (w : World) : List (Nat × AV) → List (Nat × Value) → Prop
  | [], [] => True
  | (i, x) :: r, (j, y) :: s => i = j ∧ AV.rel κ Im w x y ∧ partsRel κ Im w r s
  | _, _ => False

theorem fill_sound (place : Nat → Option (Nat × Nat)) : ∀ (ps : List (Nat × AV)) (vs : List (Nat × Value)) (cs l : List AV) (arr : Array Value), partsRel κ Im w ps vs → AV.rels κ Im w cs arr.toList →
    fillAV place cs ps = some l → ∃ arr', Instr.fill place arr vs = some arr' ∧ AV.rels κ Im w l arr'.toList
  | [], [], cs, l, arr, _, hr, h => by simp [fillAV] at h; subst h; exact ⟨arr, rfl, hr⟩
  | [], _ :: _, _, _, _, hp, _, _ => by simp [partsRel] at hp
  | _ :: _, [], _, _, _, hp, _, _ => by simp [partsRel] at hp
  | (i, x) :: r, (j, y) :: s, cs, l, arr, hp, hr, h => by
    simp only [partsRel] at hp
    obtain ⟨rfl, hx, hp⟩ := hp
    simp only [fillAV] at h
    split at h
    · rename_i off size lx hplace hlx
      split at h
      · rename_i hfit
        have hc := cellsAV_sound hlx hx
        have hlen := rels_length _ _ hc
        have hlarr := rels_length _ _ hr
        rw [Array.length_toList] at hlen hlarr
        simp only [Instr.fill, hplace]
        rw [if_neg (by simp only [ne_eq, Bool.or_eq_true, decide_eq_true_eq, not_or, Decidable.not_not]; omega)]
        have hf := foldl_set off y.cells.toList 0 arr (by rw [Array.length_toList]; omega)
        have e1 : y.cells.zipIdx.foldl (fun cs (x : Value × Nat) => match x with | (c, j) => cs.setIfInBounds (off + j) c) arr = (y.cells.toList.zipIdx 0).foldl (fun cs p => cs.setIfInBounds (off + p.2) p.1) arr := by
          rw [← Array.foldl_toList, Array.toList_zipIdx]
        rw [e1]
        refine fill_sound place r s _ l _ hp ?_ h
        rw [hf]
        simpa using rels_splice (off := off) hr hc
      · cases h
    · cases h

theorem build_sound {t : TypeId} {ps : List (Nat × AV)} {vs : Array (Nat × Value)} (hst : St c κ Im w H) (hp : partsRel κ Im w ps vs.toList) (hs : (effBuild P t ps).sat K) (hk : Cont c κ Im w H K k) :
    Gives P (do pure (.value (← Instr.build t vs))) w k := by
  unfold effBuild at hs
  split at hs
  case h_2 => exact hs.elim
  rename_i l hl
  have key : ∃ arr, P.built t vs.toList = some arr ∧ AV.rels κ Im w l arr.toList := by
    unfold Program.built
    split at hl
    · rename_i it e n h1 h2
      simp only [h1, h2]
      split at hl
      · rename_i z ie h3 h4
        simp only [h3, h4]
        exact fill_sound _ _ _ _ _ _ hp (rels_map_v _) hl
      · cases hl
    · rename_i it fields h1 h2
      simp only [h1, h2]
      split at hl
      · rename_i z places h3 h4
        simp only [h3, h4]
        exact fill_sound _ _ _ _ _ _ hp (rels_map_v _) hl
      · cases hl
    · cases hl
  obtain ⟨arr, h1, h2⟩ := key
  refine gives_value (y := .agg arr) (w' := w) ?_ (hk.same hst hs (by simp only [AV.rel]; exact ⟨arr, rfl, h2⟩))
  simp only [Sem.run_bind, run_build w t vs arr h1, Result.andThen_ok, Sem.run_pure]

theorem updH_append (H : List AObj) (u v : List (Nat × AObj)) : updH H (u ++ v) = updH (updH H u) v := by
  induction u generalizing H with
  | nil => rfl
  | cons p u ih => obtain ⟨i, o⟩ := p; exact ih _

theorem updH_length (H : List AObj) (u : List (Nat × AObj)) : (updH H u).length = H.length := by
  induction u generalizing H with
  | nil => rfl
  | cons p u ih => obtain ⟨i, o⟩ := p; simp [updH, ih]

theorem updH_dead_ne (H : List AObj) (ids : List Nat) (i : Nat) (h : i ∉ ids) : (updH H (deadAll ids))[i]? = H[i]? := by
  induction ids generalizing H with
  | nil => rfl
  | cons j ids ih =>
    simp only [List.mem_cons, not_or] at h
    show (updH (H.set j .dead) (deadAll ids))[i]? = _
    rw [ih _ h.2, List.getElem?_set_ne (fun e => h.1 e.symm)]

/-- What a row held, as what stays. -/
def Sealed (κ : Kap) (Im : Nat → Prop) (w : World) (H : List AObj) (i : Nat) : Prop :=
  ∀ E cc xs, H[i]? = some (.row E cc xs) → ∃ a cap, κ i = some (.slice a xs.length cap) ∧ xs.length ≤ cap ∧
    (xs ≠ [] → ∃ g, a = some ⟨g, 0, none⟩ ∧ Im g ∧ ∃ arr T fz, w.heap[g]? = some (.cells arr T fz) ∧ ∀ j (h : j < xs.length), AV.rels κ Im w (cc.enc xs[j]) ((arr.toList.drop (j * cc.k)).take cc.k))

theorem Sealed.mono {κ' Im' w' i} (h : Sealed κ Im w H i) (hle : Le κ κ' Im Im' w w') : Sealed κ' Im' w' H i := by
  intro E cc xs hi
  obtain ⟨a, cap, h1, h0, h2⟩ := h E cc xs hi
  refine ⟨a, cap, hle.k _ _ h1, h0, fun hx => ?_⟩
  obtain ⟨g, e1, e2, arr, T, fz, e3, e4⟩ := h2 hx
  exact ⟨g, e1, hle.im _ e2, arr, T, fz, (hle.heap _ e2).trans e3, fun j hj => AV.rels_mono hle _ _ (e4 j hj)⟩

theorem seal_one (hst : St c κ Im w H) (i : Nat) : ∃ Im', St c κ Im' w (H.set i .dead) ∧ Le κ κ Im Im' w w ∧ Sealed κ Im' w H i := by
  cases hi : H[i]? with
  | none =>
    refine ⟨Im, ?_, Le.refl _ _ _, fun E cc xs h => by rw [hi] at h; cases h⟩
    rw [List.set_eq_of_length_le (by rw [List.getElem?_eq_none_iff] at hi; exact hi)]
    exact hst
  | some o =>
    by_cases hrow : ∃ E cc xs, o = .row E cc xs ∧ xs ≠ []
    · obtain ⟨E, cc, xs, rfl, hx⟩ := hrow
      obtain ⟨D, a, cap, h1, h2⟩ := hst.obj hi
      rcases h2 with ⟨_, _, h3, _⟩ | ⟨g, arr, rfl, h4, h5, h6, h7, h8, h9⟩
      · exact absurd h3 hx
      obtain ⟨Im', s1, s2, s3⟩ := hst.seal hi (g := g) (fun D hD => by
        obtain ⟨a2, cap2, e1, e2⟩ := hD
        rw [h1] at e1; cases e1
        rcases e2 with ⟨e2, _⟩ | ⟨g2, arr2, e3, e4, e5, e6, e7, e8, e9⟩
        · cases e2
        · cases e3; exact e9)
      refine ⟨Im', s1, s2, fun E' cc' xs' h => ?_⟩
      rw [hi] at h
      cases h
      exact ⟨_, cap, h1, h6, fun _ => ⟨g, rfl, s3, arr, E, (0, 0), h4, fun j hj => AV.rels_mono s2 _ _ (h8 j hj)⟩⟩
    · refine ⟨Im, hst.drop hi, Le.refl _ _ _, fun E cc xs h => ?_⟩
      rw [hi] at h
      cases h
      obtain ⟨D, a, cap, h1, h2⟩ := hst.obj hi
      have hle : xs.length ≤ cap := by
        rcases h2 with ⟨_, _, h3, _⟩ | ⟨g, arr, _, _, _, h6, _⟩
        · subst h3; exact Nat.zero_le _
        · exact h6
      exact ⟨a, cap, h1, hle, fun hx => absurd ⟨E, cc, xs, rfl, hx⟩ hrow⟩

theorem seal_all : ∀ (ids : List Nat) {Im : Nat → Prop} {H : List AObj}, St c κ Im w H → ∃ Im', St c κ Im' w (updH H (deadAll ids)) ∧ Le κ κ Im Im' w w ∧ ∀ i ∈ ids, Sealed κ Im' w H i
  | [], Im, H, hst => ⟨Im, hst, Le.refl _ _ _, fun i hi => by cases hi⟩
  | j :: ids, Im, H, hst => by
    obtain ⟨Im1, s1, s2, s3⟩ := seal_one hst j
    obtain ⟨Im2, t1, t2, t3⟩ := seal_all ids s1
    refine ⟨Im2, t1, s2.trans t2, fun i hi => ?_⟩
    by_cases hij : i = j
    · subst hij; exact s3.mono t2
    · rcases List.mem_cons.1 hi with h | h
      · exact absurd h hij
      · intro E cc xs hx
        refine t3 i h E cc xs ?_
        rw [List.getElem?_set_ne (fun e => hij e.symm)]
        exact hx

theorem sealAV_rel {a : AV} {y : Value} (hr : AV.rel κ Im w a y) (hs : ∀ i ∈ sealIds a, Sealed κ Im w H i) : AV.rel κ Im w (sealAV (H.getD · .dead) a) y := by
  cases a with
  | hd i =>
    simp only [sealAV]
    split
    · rename_i E cc xs ho
      obtain ⟨a, cap, h1, h0, h2⟩ := hs i (by simp [sealIds]) E cc xs (getD_dead (by simp) ho)
      simp only [AV.rel] at hr ⊢
      rw [h1] at hr
      obtain ⟨hr, _⟩ := hr
      cases hr
      refine ⟨a, cap, rfl, h0, fun hx => ?_⟩
      obtain ⟨g, e1, e2, arr, T, fz, e3, e4⟩ := h2 hx
      exact ⟨g, 0, e1, e2, arr, T, fz, e3, fun j hj => by simpa using e4 j hj⟩
    · exact hr
  | vw i kk lo n =>
    simp only [sealAV]
    split
    · rename_i E cc xs ho
      split
      · rename_i hkk
        subst hkk
        obtain ⟨a, cap, h1, h0, h2⟩ := hs i (by simp [sealIds]) E cc xs (getD_dead (by simp) ho)
        simp only [AV.rel] at hr ⊢
        obtain ⟨a', len, cap', a2, cap2, e1, e2, rfl, e4, e3⟩ := hr
        rw [h1] at e1
        cases e1
        have hlen : ((xs.drop lo).take n).length = n := by rw [List.length_take, List.length_drop]; omega
        refine ⟨a2, cap2, by rw [hlen], by omega, fun hx => ?_⟩
        have hn : n ≠ 0 := fun h => hx (List.eq_nil_of_length_eq_zero (by rw [hlen]; exact h))
        obtain ⟨g, f1, f2, arr, T, fz, f3, f4⟩ := h2 (fun h => by subst h; simp at e2; exact hn e2.2)
        refine ⟨g, lo * cc.k, by rw [e3 hn, f1]; simp [add_off], f2, arr, T, fz, f3, fun j hj => ?_⟩
        rw [hlen] at hj
        have := f4 (lo + j) (by omega)
        simp only [List.getElem_take, List.getElem_drop]
        rw [show lo * cc.k + j * cc.k = (lo + j) * cc.k from by rw [Nat.add_mul]]
        exact this
      · exact hr
    · exact hr
  | _ => exact hr

theorem sealAVs_rel {l : List AV} {ys : List Value} (hr : AV.rels κ Im w l ys) (hs : ∀ i ∈ l.flatMap sealIds, Sealed κ Im w H i) : AV.rels κ Im w (l.map (sealAV (H.getD · .dead))) ys := by
  induction l generalizing ys with
  | nil => exact hr
  | cons a l ih =>
    simp only [AV.rels, List.map_cons] at hr ⊢
    obtain ⟨y, r, h1, h2, h3⟩ := hr
    exact ⟨y, r, h1, sealAV_rel h2 (fun i hi => hs i (by simp [hi])), ih h3 (fun i hi => hs i (by rw [List.flatMap_cons]; exact List.mem_append_right _ hi))⟩

theorem decRows_sound (cc : TC) : ∀ (n : Nat) (l : List AV) (ds : List cc.den) (ys : List Value), decRows cc n l = some ds → AV.rels κ Im w l ys →
    ds.length = n ∧ ∀ i (h : i < ds.length), AV.rels κ Im w (cc.enc ds[i]) ((ys.drop (i * cc.k)).take cc.k)
  | 0, [], ds, ys, h, _ => by simp [decRows] at h; subst h; exact ⟨rfl, fun i h => by simp at h⟩
  | 0, _ :: _, ds, ys, h, _ => by simp [decRows] at h
  | n + 1, l, ds, ys, h, hr => by
    simp only [decRows] at h
    split at h
    · rename_i d ds' h1 h2
      cases h
      obtain ⟨e1, e2⟩ := decRows_sound cc n _ _ _ h2 (rels_drop hr cc.k)
      refine ⟨by simp [e1], fun i hi => ?_⟩
      cases i with
      | zero => simpa using TC.dec_law h1 _ _ _ _ (rels_take hr cc.k)
      | succ i =>
        have := e2 i (by simpa using hi)
        rw [List.drop_drop] at this
        simpa [Nat.succ_mul, Nat.add_comm] using this
    · cases h

end
end Go.X

/- Slices: literals, appends, views, index addresses. -/
namespace Go.X
open Go
section
variable {P : Program} {c : Ctx} {κ : Kap} {Im : Nat → Prop} {w : World} {H : List AObj} {K : AV → List (Nat × AObj) → Prop} {k : Value → World → Prop}

theorem Env.el_spec {E : Env} {t : TypeId} {e : TypeId} {cc : TC} (h : E.el t = some (e, cc)) : E.P.underlying t = some (.slice e) ∧ E.tc e = some cc := by
  unfold Env.el at h
  split at h
  · rename_i e' hu
    cases htc : E.tc e' with
    | none => simp [htc] at h
    | some x => simp [htc] at h; obtain ⟨rfl, rfl⟩ := h; exact ⟨hu, htc⟩
  · cases h

theorem rels_replicate_any (n : Nat) : ∀ (ys : List Value), ys.length = n → AV.rels κ Im w (List.replicate n .any) ys := by
  induction n with
  | zero => intro ys h; simp [AV.rels, List.eq_nil_of_length_eq_zero h]
  | succ n ih =>
    intro ys h
    cases ys with
    | nil => simp at h
    | cons y ys => simp only [List.replicate_succ, AV.rels]; exact ⟨y, ys, rfl, by simp only [AV.rel], ih ys (by simpa using h)⟩

theorem TC.k_pos (cc : TC) : 0 < cc.k := by cases cc <;> simp [TC.k]

theorem sealIds_some {l : List AV} {ys : List Value} (hr : AV.rels κ Im w l ys) {i : Nat} (hi : i ∈ l.flatMap sealIds) : κ i ≠ none := by
  induction l generalizing ys with
  | nil => simp at hi
  | cons a l ih =>
    simp only [AV.rels] at hr
    obtain ⟨y, r, rfl, h2, h3⟩ := hr
    rw [List.flatMap_cons, List.mem_append] at hi
    rcases hi with hi | hi
    · cases a with
      | hd j => simp [sealIds] at hi; subst hi; simp only [AV.rel] at h2; rw [h2.1]; simp
      | vw j kk lo n => simp [sealIds] at hi; subst hi; simp only [AV.rel] at h2; obtain ⟨_, _, _, _, _, h, _⟩ := h2; rw [h]; simp
      | _ => simp [sealIds] at hi
    · exact ih h3 hi

theorem St.free_none {i : Nat} (hst : St c κ Im w H) (h : H[i]? = some .free) : κ i = none := by
  obtain ⟨D, h1, _⟩ := hst.obj h
  exact h1

/-- A new row, under a free id. -/
theorem St.layRow (hst : St c κ Im w H) {id : Nat} (hid : H[id]? = some .free) {w' : World} (ht : Turn none w w') {g : Nat} (hg : w.heap.size ≤ g) {e : TypeId} {cc : TC} {ds : List cc.den} {arr : Array Value} {cap : Nat}
    (hh : w'.heap[g]? = some (.cells arr e (0, 0))) (hsz : arr.size = cap * cc.k) (hle : ds.length ≤ cap) (hmax : cap ≤ maxLen)
    (hr : ∀ κ', Le κ κ' Im Im w w' → ∀ i (h : i < ds.length), AV.rels κ' Im w' (cc.enc ds[i]) ((arr.toList.drop (i * cc.k)).take cc.k)) :
    St c (setK κ id (.slice (some ⟨g, 0, none⟩) ds.length cap)) Im w' (H.set id (.row e cc ds)) ∧ Le κ (setK κ id (.slice (some ⟨g, 0, none⟩) ds.length cap)) Im Im w w' :=
  hst.lay hid ht g hg (Array.getElem?_eq_some_iff.1 hh).1 _ _ fun κ' hl _ => ⟨_, cap, rfl, .inr ⟨g, arr, rfl, hh, hsz, hle, hmax, hr κ' hl, fun _ => Iff.rfl⟩⟩

theorem fill_size {place : Nat → Option (Nat × Nat)} : ∀ {vs : List (Nat × Value)} {a b : Array Value}, Instr.fill place a vs = some b → b.size = a.size
  | [], a, b, h => by simp [Instr.fill] at h; rw [h]
  | (i, v) :: r, a, b, h => by
    simp only [Instr.fill] at h
    split at h
    · cases h
    · rename_i off size _
      split at h
      · cases h
      · rename_i hfit
        rw [fill_size h]
        have : ∀ (L : List (Value × Nat)) (x : Array Value), (L.foldl (fun cs (p : Value × Nat) => match p with | (c, j) => cs.setIfInBounds (off + j) c) x).size = x.size := by
          intro L
          induction L with
          | nil => intro x; rfl
          | cons p L ih => intro x; rw [List.foldl_cons, ih]; simp
        rw [← Array.foldl_toList]
        exact this _ _

theorem buildSlice_sound {E : Env} {t : TypeId} {len : Nat} {ps : List (Nat × AV)} {vs : Array (Nat × Value)} {id : Nat} (hst : St c κ Im w H) (hid : H[id]? = some .free) (hp : partsRel κ Im w ps vs.toList)
    (hs : (effBuildSlice E t len ps id (H.getD · .dead)).sat K) (hk : Cont c κ Im w H K k) : Gives E.P (do pure (.value (← Instr.buildSlice t len vs))) w k := by
  unfold effBuildSlice at hs
  split at hs
  · exact hs.elim
  rename_i e cc hel
  obtain ⟨hu, htc⟩ := Env.el_spec hel
  split at hs
  case isFalse => exact hs.elim
  rename_i hcond
  obtain ⟨hsz, hbig, hzero⟩ := hcond
  split at hs
  case h_2 => exact hs.elim
  rename_i l hl
  split at hs
  case h_2 => exact hs.elim
  rename_i ds hds
  -- the seals
  obtain ⟨Im', s1, s2, s3⟩ := seal_all (l.flatMap sealIds) hst
  obtain ⟨i, hi⟩ : ∃ i, E.P.info? e = some i := by
    cases h : E.P.info? e with
    | none => simp [h] at hzero
    | some i => exact ⟨i, rfl⟩
  obtain ⟨z, hz⟩ : ∃ z, i.zero = some z := by
    simp only [hi, Option.bind_some] at hzero
    exact Option.isSome_iff_exists.1 hzero
  have hsize : (sizeOf e).run E.P w = .ok (szOf E.P e) w := run_sizeOf' e hi
  rw [hsz] at hsize
  obtain ⟨init, hinit, hrun⟩ : ∃ init : Array Value, init.size = len * cc.k ∧ ∀ arr, Instr.fill (fun i => some (i * cc.k, cc.k)) init vs.toList = some arr →
      (Instr.buildSlice t len vs).run E.P w = .ok (.slice (some ⟨w.heap.size, 0, none⟩) len len) (w.alloc (.cells arr e)) := by
    by_cases h0 : len * cc.k = 0
    · refine ⟨(Array.range (len * cc.k)).map (fun x => (#[] : Array Value)[x % (#[] : Array Value).size]!), by simp, fun arr harr => ?_⟩
      simp only [Instr.buildSlice, Sem.run_bind, run_underlying hu, Result.andThen_ok, hsize]
      rw [if_neg (by omega), if_pos h0]
      simp only [Sem.run_bind, Sem.run_pure, Result.andThen_ok, harr]
      simp [newRow]
    · refine ⟨(Array.range (len * cc.k)).map (fun x => z.cells[x % z.cells.size]!), by simp, fun arr harr => ?_⟩
      simp only [Instr.buildSlice, Sem.run_bind, run_underlying hu, Result.andThen_ok, hsize]
      rw [if_neg (by omega), if_neg h0]
      simp only [zeroValue, typeInfo, Sem.run_bind, run_program, hi, hz, Sem.run_pure, Result.andThen_ok, harr]
      simp [newRow]
  obtain ⟨arr, harr, hrl⟩ := fill_sound _ _ _ _ _ _ hp (rels_replicate_any (κ := κ) (Im := Im) (w := w) (len * cc.k) init.toList (by rw [Array.length_toList, hinit])) hl
  have hnid : id ∉ l.flatMap sealIds := fun h => sealIds_some hrl h (hst.free_none hid)
  have hid' : (updH H (deadAll (l.flatMap sealIds)))[id]? = some .free := by rw [updH_dead_ne _ _ _ hnid]; exact hid
  have hrs := sealAVs_rel (AV.rels_mono s2 _ _ hrl) s3
  obtain ⟨d1, d2⟩ := decRows_sound cc len _ ds _ hds hrs
  have hlen := rels_length _ _ hrl
  have hasz : arr.size = len * cc.k := by
    have h1 := fill_size harr
    rw [h1, hinit]
  have hkp := cc.k_pos
  have hmax : len ≤ maxLen := by
    have : len * 1 ≤ len * cc.k := Nat.mul_le_mul_left _ hkp
    simp only [maxLen]; omega
  obtain ⟨t1, t2⟩ := s1.layRow hid' (Turn.alloc w (.cells arr e)) (Nat.le_refl _) (e := e) (cc := cc) (ds := ds) (arr := arr) (cap := len) (heap_alloc_new w _) hasz (by omega) hmax
    (fun κ' hl' i hi => AV.rels_mono hl' _ _ (d2 i hi))
  refine gives_value (y := .slice (some ⟨w.heap.size, 0, none⟩) len len) (w' := w.alloc (.cells arr e)) ?_ (hk _ _ _ _ _ _ hs (s2.trans t2) ?_ ?_)
  · simp only [Sem.run_bind, hrun arr harr, Result.andThen_ok, Sem.run_pure]
  · rw [updH_append]; exact t1
  · simp only [AV.rel]
    exact ⟨by rw [setK_same, d1], rfl⟩

end
end Go.X

