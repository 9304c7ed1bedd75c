/- Index addresses, lengths, views, least and greatest. -/
import Derived.Test.YtlpbalinhikboaaX15
namespace Go.X
open Go
section
variable {P : Program} {c : Ctx} {κ : Kap} {Im : Nat → Prop} {w : World} {H : List AObj} {K : AV → List (Nat × AObj) → Prop} {k : Value → World → Prop}

theorem indexAddr_sound {E : Env} {t : TypeId} {a i : AV} {y yi : Value} (hst : St c κ Im w H) (ha : AV.rel κ Im w a y) (hi : AV.rel κ Im w i yi) (hs : (effIndexAddr E t a i (H.getD · .dead)).sat K)
    (hk : Cont c κ Im w H K k) : Gives E.P (do pure (.value (← Instr.indexAt t y yi))) w k := by
  unfold effIndexAddr at hs
  split at hs
  · rename_i e hu
    split at hs
    · rename_i cc xs kd n
      split at hs
      case isFalse => exact hs.elim
      rename_i hsz
      obtain ⟨⟨hb⟩, hK⟩ := hs
      simp only [AV.rel] at ha hi
      subst hi
      obtain ⟨ad, cap, rfl, _, h2⟩ := ha
      have hne : xs ≠ [] := fun h => by subst h; simp at hb; omega
      obtain ⟨b, o, rfl, h3, h4⟩ := h2 hne
      have hsize : (sizeOf e).run E.P w = .ok cc.k w := by rw [← hsz]; exact run_sizeOf_pos (by rw [hsz]; exact cc.k_pos)
      refine gives_value (y := .pointer (some ⟨b, o + n.toNat * cc.k, none⟩)) (w' := w) ?_ (hk.same hst hK ?_)
      · simp [Instr.indexAt, asIntOf, run_underlying hu, hb.1, hb.2, hsize, add_off]
      · simp only [AV.rel]
        exact ⟨by omega, b, o, rfl, h3, h4⟩
    · rename_i j kd n
      split at hs
      case h_2 => exact hs.elim
      rename_i E' cc xs ho
      split at hs
      case isFalse => exact hs.elim
      rename_i hsz
      obtain ⟨⟨hb⟩, hK⟩ := hs
      simp only [AV.rel] at ha hi
      subst hi
      obtain ⟨D, ad, cap, h1, h2⟩ := hst.obj (getD_dead (by simp) ho)
      have h1' := h1
      rw [h1] at ha
      obtain ⟨ha, _⟩ := ha
      cases ha
      rcases h2 with ⟨_, _, h3, _⟩ | ⟨g, arr, rfl, h4, h5, h6, h7, h8, h9⟩
      · subst h3; simp at hb; omega
      have hsize : (sizeOf e).run E.P w = .ok cc.k w := by rw [← hsz]; exact run_sizeOf_pos (by rw [hsz]; exact cc.k_pos)
      refine gives_value (y := .pointer (some ⟨g, 0 + n.toNat * cc.k, none⟩)) (w' := w) ?_ (hk.same hst hK ?_)
      · simp [Instr.indexAt, asIntOf, run_underlying hu, hb.1, hb.2, hsize, add_off]
      · simp only [AV.rel]
        exact ⟨g, _, cap, h1', by omega, by simp⟩
    · exact hs.elim
  · rename_i len e hu
    split at hs
    · rename_i j off kd n
      split at hs
      case isFalse => exact hs.elim
      rename_i hsz
      obtain ⟨⟨hb⟩, hK⟩ := hs
      simp only [AV.rel] at ha hi
      subst hi
      obtain ⟨b, h1, rfl⟩ := ha
      have hsize : (sizeOf e).run E.P w = .ok (szOf E.P e) w := run_sizeOf_pos hsz
      refine gives_value (y := .pointer (some ⟨b, off + n.toNat * szOf E.P e, none⟩)) (w' := w) ?_ (hk.same hst hK ?_)
      · simp [Instr.indexAt, asIntOf, run_underlying hu, Instr.sureAddr, hb.1, hb.2, hsize, add_off]
      · simp only [AV.rel]
        exact ⟨b, h1, rfl⟩
    · exact hs.elim
  · exact hs.elim

theorem len_sound {ats : Array TypeId} {ty : TypeId} {x : AV} {y : Value} (hst : St c κ Im w H) (hx : AV.rel κ Im w x y) (hs : (effLen P ats x (H.getD · .dead)).sat K) (hk : Cont c κ Im w H K k) :
    Gives P (do pure (.value (← Builtin.len_ ats ty #[y]))) w k := by
  unfold effLen at hs
  split at hs
  · exact hs.elim
  rename_i t ht
  have slice : ∀ e, P.underlying t = some (.slice e) → ∀ n, lenSl (H.getD · .dead) x = some n → (Eff.ok (i64 n) []).sat K → Gives P (do pure (.value (← Builtin.len_ ats ty #[y]))) w k := by
    intro e hu n hn hK
    have key : ∃ a m cap, y = .slice a m cap ∧ (m : Int) = n := by
      unfold lenSl at hn
      split at hn
      · cases hn; simp only [AV.rel] at hx; obtain ⟨a, cap, rfl, _⟩ := hx; exact ⟨_, _, _, rfl, rfl⟩
      · cases hn; simp only [AV.rel] at hx; obtain ⟨_, _, _, a, cap, _, _, rfl, _⟩ := hx; exact ⟨_, _, _, rfl, rfl⟩
      · rename_i j
        split at hn
        · rename_i E cc xs ho
          cases hn
          obtain ⟨D, ad, cap, h1, h2⟩ := hst.obj (getD_dead (by simp) ho)
          simp only [AV.rel] at hx
          rw [h1] at hx
          obtain ⟨hx, _⟩ := hx
          cases hx
          exact ⟨_, _, _, rfl, rfl⟩
        · cases hn
      · cases hn; simp only [AV.rel] at hx; exact ⟨_, _, _, hx, rfl⟩
      · cases hn
    obtain ⟨a, m, cap, rfl, rfl⟩ := key
    exact hk.val hst hK (by simp [Builtin.len_, ht, run_underlying hu, goInt])
  have map : ∀ e1 e2, P.underlying t = some (.map e1 e2) → ∀ n, lenMp (H.getD · .dead) x = some n → (Eff.ok (i64 n) []).sat K → Gives P (do pure (.value (← Builtin.len_ ats ty #[y]))) w k := by
    intro e1 e2 hu n hn hK
    unfold lenMp at hn
    split at hn
    · rename_i j
      split at hn
      · rename_i ck cv m ho
        cases hn
        obtain ⟨D, b, es, clock, h1, h2, h3, _⟩ := hst.obj (getD_dead (by simp) ho)
        simp only [AV.rel] at hx
        rw [h1] at hx
        obtain ⟨hx, _⟩ := hx
        cases hx
        have hg : (getObj b).run P w = .ok (.map es clock) w := by simp [getObj, Sem.run, h2]
        exact hk.val hst hK (by simp [Builtin.len_, ht, run_underlying hu, goInt, hg, h3])
      · cases hn
    · cases hn
      simp only [AV.rel] at hx
      subst hx
      exact hk.val hst hK (by simp [Builtin.len_, ht, run_underlying hu, goInt])
    · cases hn
  split at hs
  · rename_i e hu
    split at hs
    · rename_i n hn; exact slice e hu n hn hs
    · exact hs.elim
  · rename_i e1 e2 hu
    split at hs
    · rename_i n hn; exact map e1 e2 hu n hn hs
    · exact hs.elim
  · exact hs.elim

theorem mmAcc_sound (mx : Bool) (kd : IntKind) : ∀ (l : List AV) (ys : List Value) (a : Int) (r : AV), mmAcc mx kd a l = some r → AV.rels κ Im w l ys →
    ∃ m, r = .v (.int kd m) ∧ ((ys.foldlM (if mx then Builtin.max2 else Builtin.min2) (.int kd a) : Sem Value)).run P w = .ok (.int kd m) w
  | [], ys, a, r, h, hr => by
    simp only [AV.rels] at hr; subst hr
    simp [mmAcc] at h; subst h
    exact ⟨a, rfl, by simp⟩
  | x :: l, ys, a, r, h, hr => by
    simp only [AV.rels] at hr
    obtain ⟨y, rest, rfl, h2, h3⟩ := hr
    unfold mmAcc at h
    split at h
    · simp at *
    · rename_i a' k' b l' e
      cases e
      split at h
      · rename_i hk
        subst hk
        simp only [AV.rel] at h2
        subst h2
        obtain ⟨m, e1, e2⟩ := mmAcc_sound mx k' l rest _ r h h3
        refine ⟨m, e1, ?_⟩
        cases mx <;> simp only [List.foldlM_cons, Sem.run_bind, Builtin.max2, Builtin.min2, Bool.false_eq_true, if_true, if_false, Sem.run_pure, Result.andThen_ok] at e2 ⊢ <;> exact e2
      · cases h
    · cases h

end
end Go.X
