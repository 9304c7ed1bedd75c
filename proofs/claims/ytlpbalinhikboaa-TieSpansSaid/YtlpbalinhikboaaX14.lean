/- Appends. -/
import Derived.Test.YtlpbalinhikboaaX13
import Derived.Laws.OwnMore
namespace Go.X
open Go
section
variable {P : Program} {c : Ctx} {κ : Kap} {Im : Nat → Prop} {w : World} {H : List AObj} {K : AV → List (Nat × AObj) → Prop} {k : Value → World → Prop}

/-- One object's block goes over to a new one. -/
theorem St.move {w' : World} (h : St c κ Im w H) {i id : Nat} {o : AObj} (hi : H[i]? = some o) (hid : H[id]? = some .free) (hne : i ≠ id) {g : Option Nat} (ht : Turn g w w')
    (hold : ∀ D, o.holds κ Im w (κ i) D → ∀ x, some x = g → D x) (v : Value) (o' : AObj) (Dn : Nat → Prop) (hDn : ∀ b, Dn b → b < w'.heap.size ∧ (some b = g ∨ w.heap.size ≤ b))
    (ho : ∀ κ', Le κ κ' Im Im w w' → κ' id = some v → o'.holds κ' Im w' (some v) Dn) :
    St c (setK κ id v) Im w' ((H.set i .dead).set id o') ∧ Le κ (setK κ id v) Im Im w w' := by
  have hlt : id < H.length := (List.getElem?_eq_some_iff.1 hid).1
  have hlti : i < H.length := (List.getElem?_eq_some_iff.1 hi).1
  have hs := ht.size
  obtain ⟨⟨D, h1, h2, h3⟩, hfresh, him, hkeep, hframe, hsize, hk0, hos, htape, hout⟩ := h
  have hnone : κ id = none := (h1 id _ hid).1
  have hDi := hold _ (h1 i _ hi)
  have hsame : ∀ b, b < w.heap.size → some b ≠ g → w'.heap[b]? = w.heap[b]? := ht.block
  have hImne : ∀ b, Im b → some b ≠ g := fun b hb e => (h2 i b (hDi b e)).2.2.1 hb
  have hle : Le κ (setK κ id v) Im Im w w' := le_setK v hnone fun b hb => hsame b (him b hb).1 (hImne b hb)
  refine ⟨⟨⟨fun j b => if j = id then Dn b else (j ≠ i ∧ D j b), ?_, ?_, ?_⟩, ?_, ?_, hkeep, ?_, by omega, ?_, ht.os.trans hos, ht.tape.trans htape, ht.output.trans hout⟩, hle⟩
  · intro j o2 hj
    by_cases e : j = id
    · subst e
      rw [List.getElem?_set_self (by simpa using hlt)] at hj
      cases hj
      simp only [setK_same, if_true]
      exact ho _ hle (setK_same _ _ _)
    · rw [List.getElem?_set_ne (fun h => e h.symm)] at hj
      rw [setK_ne _ _ e]
      simp only [e, if_false]
      by_cases e2 : j = i
      · subst e2
        rw [List.getElem?_set_self hlti] at hj
        cases hj
        exact fun b hb => hb.1 rfl
      · rw [List.getElem?_set_ne (fun h => e2 h.symm)] at hj
        have : (fun b => j ≠ i ∧ D j b) = D j := funext fun b => propext ⟨fun h => h.2, fun h => ⟨e2, h⟩⟩
        rw [this]
        exact AObj.holds_mono hle (fun b hb => hsame b (h2 j b hb).2.1 (fun eg => e2 (h3 j i b hb (hDi b eg)))) o2 (h1 j o2 hj)
  · intro j b hb
    by_cases e : j = id
    · subst e
      simp only [if_true] at hb
      obtain ⟨b1, b2⟩ := hDn b hb
      refine ⟨by simpa using hlt, b1, ?_, ?_⟩
      · intro hI
        rcases b2 with b2 | b2
        · exact hImne b hI b2
        · have := (him b hI).1; omega
      · rcases b2 with b2 | b2
        · exact (h2 i b (hDi b b2)).2.2.2
        · exact .inr (by omega)
    · simp only [e, if_false] at hb
      obtain ⟨a1, a2, a3, a4⟩ := h2 j b hb.2
      exact ⟨by simpa using a1, by omega, a3, a4⟩
  · intro j j' b hj hj'
    by_cases ej : j = id <;> by_cases ej' : j' = id <;> simp only [ej, ej', if_true, if_false] at hj hj'
    · rw [ej, ej']
    · exfalso
      rcases (hDn b hj).2 with e | e
      · exact hj'.1 (h3 j' i b hj'.2 (hDi b e))
      · have := (h2 j' b hj'.2).2.1; omega
    · exfalso
      rcases (hDn b hj').2 with e | e
      · exact hj.1 (h3 j i b hj.2 (hDi b e))
      · have := (h2 j b hj.2).2.1; omega
    · exact h3 j j' b hj.2 hj'.2
  · intro j hj
    have hj' : H.length ≤ j := by simpa using hj
    rw [setK_ne _ _ (by omega)]
    exact hfresh j hj'
  · intro b hb
    obtain ⟨a1, a2⟩ := him b hb
    exact ⟨by omega, a2⟩
  · intro b hb hM
    refine (hsame b (by omega) (fun e => ?_)).trans (hframe b hb hM)
    rcases (h2 i b (hDi b e)).2.2.2 with h | h
    · exact hM h
    · omega
  · intro j u e
    exact hle.k _ _ (hk0 j u e)

/-- A new object, of new blocks or of none. -/
theorem St.put {w' : World} (h : St c κ Im w H) {id : Nat} (hid : H[id]? = some .free) (ht : Turn none w w') (v : Value) (o' : AObj) (Dn : Nat → Prop) (hDn : ∀ b, Dn b → b < w'.heap.size ∧ w.heap.size ≤ b)
    (ho : ∀ κ', Le κ κ' Im Im w w' → κ' id = some v → o'.holds κ' Im w' (some v) Dn) :
    St c (setK κ id v) Im w' (H.set id o') ∧ Le κ (setK κ id v) Im Im w w' := by
  have hlt : id < H.length := (List.getElem?_eq_some_iff.1 hid).1
  have hs := ht.size
  obtain ⟨⟨D, h1, h2, h3⟩, hfresh, him, hkeep, hframe, hsize, hk0, hos, htape, hout⟩ := h
  have hnone : κ id = none := (h1 id _ hid).1
  have hsame : ∀ b, b < w.heap.size → w'.heap[b]? = w.heap[b]? := fun b hb => ht.block b hb (by simp)
  have hle : Le κ (setK κ id v) Im Im w w' := le_setK v hnone fun b hb => hsame b (him b hb).1
  refine ⟨⟨⟨fun j b => if j = id then Dn b else D j b, ?_, ?_, ?_⟩, ?_, ?_, hkeep, ?_, by omega, ?_, ht.os.trans hos, ht.tape.trans htape, ht.output.trans hout⟩, hle⟩
  · intro j o2 hj
    by_cases e : j = id
    · subst e
      rw [List.getElem?_set_self hlt] at hj
      cases hj
      simp only [setK_same, if_true]
      exact ho _ hle (setK_same _ _ _)
    · rw [List.getElem?_set_ne (fun h => e h.symm)] at hj
      rw [setK_ne _ _ e]
      simp only [e, if_false]
      exact AObj.holds_mono hle (fun b hb => hsame b (h2 j b hb).2.1) o2 (h1 j o2 hj)
  · intro j b hb
    by_cases e : j = id
    · subst e
      simp only [if_true] at hb
      obtain ⟨b1, b2⟩ := hDn b hb
      refine ⟨by simpa using hlt, b1, fun hI => ?_, .inr (by omega)⟩
      have := (him b hI).1; omega
    · simp only [e, if_false] at hb
      obtain ⟨a1, a2, a3, a4⟩ := h2 j b hb
      exact ⟨by simpa using a1, by omega, a3, a4⟩
  · intro j j' b hj hj'
    by_cases ej : j = id <;> by_cases ej' : j' = id <;> simp only [ej, ej', if_true, if_false] at hj hj'
    · rw [ej, ej']
    · have := (hDn b hj).2; have := (h2 j' b hj').2.1; omega
    · have := (hDn b hj').2; have := (h2 j b hj).2.1; omega
    · exact h3 j j' b hj hj'
  · intro j hj
    have hj' : H.length ≤ j := by simpa using hj
    rw [setK_ne _ _ (by omega)]
    exact hfresh j hj'
  · intro b hb
    obtain ⟨a1, a2⟩ := him b hb
    exact ⟨by omega, a2⟩
  · intro b hb hM
    exact (hsame b (by omega)).trans (hframe b hb hM)
  · intro j u e
    exact hle.k _ _ (hk0 j u e)

theorem castL_spec {a b : TC} {xs : List b.den} {ys : List a.den} (h : castL a b xs = some ys) : ∃ e : b = a, e ▸ xs = ys := by
  unfold castL at h
  split at h
  · rename_i e; exact ⟨e, by simpa using h⟩
  · cases h

/-- A slice that is read. -/
def Reads (κ : Kap) (Im : Nat → Prop) (w : World) (cc : TC) (ys : List cc.den) (y : Value) : Prop :=
  ∃ a cap, y = .slice a ys.length cap ∧ (ys ≠ [] → ∃ b o arr T fz, a = some ⟨b, o, none⟩ ∧ w.heap[b]? = some (.cells arr T fz) ∧
    ∀ j (h : j < ys.length), AV.rels κ Im w (cc.enc ys[j]) ((arr.toList.drop (o + j * cc.k)).take cc.k))

theorem readSl_sound {cc : TC} {x : AV} {y : Value} {ys : List cc.den} (hst : St c κ Im w H) (h : readSl cc (H.getD · .dead) x = some ys) (hr : AV.rel κ Im w x y) : Reads κ Im w cc ys y := by
  unfold readSl at h
  split at h
  · obtain ⟨rfl, rfl⟩ := castL_spec h
    simp only [AV.rel] at hr
    obtain ⟨a, cap, rfl, _, h2⟩ := hr
    refine ⟨a, cap, rfl, fun hx => ?_⟩
    obtain ⟨b, o, e1, _, arr, T, fz, e2, e3⟩ := h2 hx
    exact ⟨b, o, arr, T, fz, e1, e2, e3⟩
  · rename_i i
    split at h
    · rename_i E c' xs ho
      obtain ⟨rfl, rfl⟩ := castL_spec h
      simp only [AV.rel] at hr
      obtain ⟨D, a, cap, h1, h2⟩ := hst.obj (getD_dead (by simp) ho)
      rw [h1] at hr
      obtain ⟨hr, _⟩ := hr
      cases hr
      refine ⟨a, cap, rfl, fun hx => ?_⟩
      rcases h2 with ⟨_, _, h3, _⟩ | ⟨g, arr, rfl, h4, h5, h6, h7, h8, h9⟩
      · exact absurd h3 hx
      · exact ⟨g, 0, arr, E, (0, 0), rfl, h4, fun j hj => by simpa using h8 j hj⟩
    · cases h
  · rename_i i kk lo n
    split at h
    · rename_i E c' xs ho
      split at h
      · rename_i hkk
        subst hkk
        obtain ⟨rfl, rfl⟩ := castL_spec h
        simp only [AV.rel] at hr
        obtain ⟨a', len, cap', a2, cap2, e1, e2, rfl, _, e3⟩ := hr
        obtain ⟨D, a, cap, h1, h2⟩ := hst.obj (getD_dead (by simp) ho)
        rw [h1] at e1
        cases e1
        have hlen : ((xs.drop lo).take n).length = n := by rw [List.length_take, List.length_drop]; omega
        refine ⟨a2, cap2, by rw [hlen], fun hx => ?_⟩
        have hn : n ≠ 0 := fun h => hx (List.eq_nil_of_length_eq_zero (by rw [hlen]; exact h))
        rcases h2 with ⟨_, _, h3, _⟩ | ⟨g, arr, rfl, h4, h5, h6, h7, h8, h9⟩
        · subst h3; simp at e2; exact absurd e2.2 hn
        refine ⟨g, lo * c'.k, arr, E, (0, 0), by rw [e3 hn]; simp [add_off], h4, fun j hj => ?_⟩
        rw [hlen] at hj
        simp only [List.getElem_take, List.getElem_drop]
        rw [show lo * c'.k + j * c'.k = (lo + j) * c'.k from by rw [Nat.add_mul]]
        exact h8 (lo + j) (by omega)
      · cases h
    · cases h
  · cases h
    simp only [AV.rel] at hr
    exact ⟨none, 0, hr, fun h => absurd rfl h⟩
  · cases h

end
end Go.X
