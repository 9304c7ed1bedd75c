/- The operations that turn nothing. -/
import Derived.Test.YtlpbalinhikboaaX8
namespace Go.X
open Go
section
variable {P : Program} {c : Ctx} {κ : Kap} {Im : Nat → Prop} {w : World} {H : List AObj} {K : AV → List (Nat × AObj) → Prop} {k : Value → World → Prop}

theorem Cont.val (hk : Cont c κ Im w H K k) (hst : St c κ Im w H) {x : Value} {s : Sem Next} (hs : (Eff.ok (.v x) []).sat K) (hr : s.run P w = .ok (.value x) w) : Gives P s w k :=
  gives_value hr (hk.same hst hs (by simp only [AV.rel]))

theorem run_sizeOf_pos {t : TypeId} (h : 0 < szOf P t) : (sizeOf t).run P w = .ok (szOf P t) w := by
  cases hi : P.info? t with
  | none => simp [szOf, hi] at h
  | some i => exact run_sizeOf' t hi

theorem fieldOff_spec {s : TypeId} {f d : Nat} {t : TypeId} (h : fieldOff P s f = some (d, t)) : ∃ fs x, P.underlying s = some (.struct fs) ∧ fs[f]? = some x ∧ x.offset = d ∧ x.type = t ∧ 0 < szOf P t := by
  unfold fieldOff at h
  split at h
  · rename_i fs hu
    split at h
    · rename_i x hx
      split at h
      · rename_i hp; cases h; exact ⟨fs, x, hu, hx, rfl, rfl, hp⟩
      · cases h
    · cases h
  · cases h

theorem fieldAddr_sound {s : TypeId} {f : Nat} {a : AV} {y : Value} (hst : St c κ Im w H) (ha : AV.rel κ Im w a y) (hs : (effFieldAddr P s f a).sat K) (hk : Cont c κ Im w H K k) :
    Gives P (do pure (.value (← Instr.fieldAt s y f))) w k := by
  unfold effFieldAddr at hs
  split at hs
  · exact hs.elim
  rename_i d t hd
  obtain ⟨fs, x, hu, hx, rfl, rfl, hp⟩ := fieldOff_spec hd
  have hsz := run_sizeOf_pos (w := w) hp
  have key : ∀ b off, y = .pointer (some ⟨b, off, none⟩) → k (.pointer (some ⟨b, off + x.offset, none⟩)) w → Gives P (do pure (.value (← Instr.fieldAt s y f))) w k := by
    rintro b off rfl hkk
    refine gives_value ?_ hkk
    simp [Instr.fieldAt, run_underlying hu, hx, Instr.sureAddr, fieldPlace, hsz, Nat.pos_iff_ne_zero.1 hp, add_off]
  split at hs
  · simp only [AV.rel] at ha
    obtain ⟨b, h1, h2⟩ := ha
    exact key b _ h2 (hk.same hst hs (by simp only [AV.rel]; exact ⟨b, h1, rfl⟩))
  · simp only [AV.rel] at ha
    obtain ⟨h0, b, o, h1, h2⟩ := ha
    refine key b _ h1 (hk.same hst hs ?_)
    simp only [AV.rel]
    exact ⟨h0, b, o, by rw [Nat.add_assoc], h2⟩
  · simp only [AV.rel] at ha
    obtain ⟨g, len, cap, h1, h2, h3⟩ := ha
    refine key g _ h3 (hk.same hst hs ?_)
    simp only [AV.rel]
    exact ⟨g, len, cap, h1, h2, by rw [Nat.add_assoc]⟩
  · exact hs.elim

theorem run_part {t : TypeId} {cs : List AV} {ys : Array Value} {off : Nat} {r : AV} (h : partAV P t cs off = some r) (hr : AV.rels κ Im w cs ys.toList) :
    ∃ y, (part t ys off).run P w = .ok y w ∧ AV.rel κ Im w r y := by
  unfold partAV at h
  cases hu : P.underlying t with
  | none => simp [hu] at h
  | some d =>
    simp only [hu] at h
    obtain ⟨i, hi⟩ := info_of_underlying hu
    have hsz := run_sizeOf' (w := w) t hi
    have hag := run_isAgg (w := w) t hu
    by_cases ha : aggB P t = true
    · simp only [ha, if_true] at h
      split at h
      · cases h
        refine ⟨.agg (ys.extract off (off + szOf P t)), by simp [part, hag, ha, hsz], ?_⟩
        simp only [AV.rel]
        refine ⟨_, rfl, ?_⟩
        have := rels_take (rels_drop hr off) (szOf P t)
        rw [Array.toList_extract, List.extract_eq_take_drop]
        simpa using this
      · cases h
    · simp only [ha] at h
      obtain ⟨y, hy, hry⟩ := rels_getElem hr (by simpa using h)
      refine ⟨y, ?_, hry⟩
      rw [Array.getElem?_toList] at hy
      simp [part, hag, ha, hy]

theorem field_sound {s : TypeId} {f : Nat} {a : AV} {y : Value} (hst : St c κ Im w H) (ha : AV.rel κ Im w a y) (hs : (effField P s f a).sat K) (hk : Cont c κ Im w H K k) :
    Gives P (do pure (.value (← Instr.field s y f))) w k := by
  unfold effField at hs
  split at hs
  · rename_i d t cs hd
    obtain ⟨fs, x, hu, hx, rfl, rfl, hp⟩ := fieldOff_spec hd
    split at hs
    · rename_i r hr
      simp only [AV.rel] at ha
      obtain ⟨ys, rfl, h2⟩ := ha
      obtain ⟨z, hz, hrz⟩ := run_part hr h2
      refine gives_value ?_ (hk.same hst hs hrz)
      simp [Instr.field, run_underlying hu, hx, asAgg, hz]
    · exact hs.elim
  · exact hs.elim

theorem index_sound {t : TypeId} {a i : AV} {y yi : Value} (hst : St c κ Im w H) (ha : AV.rel κ Im w a y) (hi : AV.rel κ Im w i yi) (hs : (effIndex P t a i).sat K) (hk : Cont c κ Im w H K k) :
    Gives P (do pure (.value (← Instr.index t y yi))) w k := by
  unfold effIndex at hs
  split at hs
  · rename_i len e cs kd n hu
    split at hs
    · rename_i r hr
      obtain ⟨⟨hb⟩, hs⟩ := hs
      simp only [AV.rel] at ha hi
      obtain ⟨ys, rfl, h2⟩ := ha
      subst hi
      obtain ⟨z, hz, hrz⟩ := run_part hr h2
      have hsz : (sizeOf e).run P w = .ok (szOf P e) w := by
        unfold partAV at hr
        cases hu : P.underlying e with
        | none => simp [hu] at hr
        | some d =>
          obtain ⟨i, hi⟩ := info_of_underlying hu
          exact run_sizeOf' e hi
      refine gives_value ?_ (hk.same hst hs hrz)
      simp [Instr.index, asIntOf, run_underlying hu, hb.1, hb.2, hsz, hz]
    · exact hs.elim
  · exact hs.elim

theorem un_sound {u : UnOp} {x : AV} {y : Value} (hst : St c κ Im w H) (hx : AV.rel κ Im w x y) (hs : (effUn u x).sat K) (hk : Cont c κ Im w H K k) :
    Gives P (do pure (.value (← Op.unary u y))) w k := by
  unfold effUn at hs
  split at hs
  · simp only [AV.rel] at hx
    subst hx
    exact hk.val hst hs (by simp [Op.unary, Op.intArith])
  · simp only [AV.rel] at hx
    subst hx
    exact hk.val hst hs (by simp [Op.unary])
  · exact hs.elim

theorem conv_sound {s d : TypeId} {x : AV} {y : Value} (hst : St c κ Im w H) (hx : AV.rel κ Im w x y) (hs : (effConv P s d x).sat K) (hk : Cont c κ Im w H K k) :
    Gives P (do pure (.value (← convert s d y))) w k := by
  unfold effConv at hs
  split at hs
  · rename_i d1 kd k2 n h1 h2
    simp only [AV.rel] at hx
    subst hx
    exact hk.val hst hs (by simp [convert, run_underlying h1, run_underlying h2, Conv.intToInt])
  · exact hs.elim

theorem pick_sound {x a b : AV} {yc ya yb : Value} (hst : St c κ Im w H) (hc : AV.rel κ Im w x yc) (ha : AV.rel κ Im w a ya) (hb : AV.rel κ Im w b yb) (hs : (effPick x a b).sat K) (hk : Cont c κ Im w H K k) :
    Gives P (do pure (.value (if ← asBool yc then ya else yb))) w k := by
  unfold effPick at hs
  split at hs
  · rename_i t
    simp only [AV.rel] at hc
    subst hc
    have run : ∀ z, (if t = true then ya else yb) = z → ((do pure (.value (if ← asBool (.bool t) then ya else yb)) : Sem Next)).run P w = .ok (.value z) w := fun z hz => by
      simp [asBool, hz]
    split at hs
    · obtain ⟨⟨hq⟩, hs⟩ := hs
      simp only [AV.rel] at ha hb
      refine gives_value (run _ rfl) (hk.same hst hs ?_)
      simp only [AV.rel]
      cases t
      · simpa using hb.1 (hq rfl)
      · simpa using ha
    · simp only [AV.rel] at ha hb
      refine gives_value (run _ rfl) (hk.same hst hs ?_)
      simp only [AV.rel]
      cases t <;> simp [ha, hb]
    · obtain ⟨⟨hq⟩, hs⟩ := hs
      simp only [AV.rel] at ha hb
      refine gives_value (run _ rfl) (hk.same hst hs ?_)
      simp only [AV.rel]
      cases t
      · simpa using hb
      · simpa using ha.1 (hq rfl)
    · simp only [AV.rel] at ha hb
      refine gives_value (run _ rfl) (hk.same hst hs ?_)
      simp only [AV.rel]
      cases t <;> simp [ha, hb]
    · simp only [AV.rel] at ha hb
      refine gives_value (run _ rfl) (hk.same hst hs ?_)
      simp only [AV.rel]
      cases t <;> simp [ha, hb]
    · exact hs.elim
  · exact hs.elim

end
end Go.X
