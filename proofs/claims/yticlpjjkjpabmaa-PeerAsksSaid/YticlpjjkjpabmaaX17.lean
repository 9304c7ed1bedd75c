/- Parts of the walks: X14 X15 X16 X17 -/
import Derived.Test.YticlpjjkjpabmaaX13
import Derived.Laws.OwnMore

/- Appends. -/
namespace Go.X
open Go
section
variable {P : Program} {c : Ctx} {κ : Kap} {Im : Nat → Prop} {w : World} {H : List AObj} {K : AV → List (Nat × AObj) → Prop} {k : Value → World → Prop}

/-- One object's block goes over to a new one. -/
theorem St.move {w' : World} (h : St c κ Im w H) {i id : Nat} {o : AObj} (hi : H[i]? = some o) (hid : H[id]? = some .free) (hne : i ≠ id) {g : Option Nat} (ht : Turn g w w')
    (hold : ∀ D, o.holds κ Im w (κ i) D → ∀ x, some x = g → D x) (v : Value) (o' : AObj) (Dn : Nat → Prop) (hDn : ∀ b, Dn b → b < w'.heap.size ∧ (some b = g ∨ w.heap.size ≤ b))
    (ho : ∀ κ', Le κ κ' Im Im w w' → κ' id = some v → o'.holds κ' Im w' (some v) Dn) :
    St c (setK κ id v) Im w' ((H.set i .dead).set id o') ∧ Le κ (setK κ id v) Im Im w w' := by
  have hlt : id < H.length := (List.getElem?_eq_some_iff.1 hid).1
  have hlti : i < H.length := (List.getElem?_eq_some_iff.1 hi).1
  have hs := ht.size
  obtain ⟨⟨D, h1, h2, h3⟩, hfresh, him, hkeep, hframe, hsize, hk0, hos, htape, hout⟩ := h
  have hnone : κ id = none := (h1 id _ hid).1
  have hDi := hold _ (h1 i _ hi)
  have hsame : ∀ b, b < w.heap.size → some b ≠ g → w'.heap[b]? = w.heap[b]? := ht.block
  have hImne : ∀ b, Im b → some b ≠ g := fun b hb e => (h2 i b (hDi b e)).2.2.1 hb
  have hle : Le κ (setK κ id v) Im Im w w' := le_setK v hnone (fun b hb => hsame b (him b hb).1 (hImne b hb)) ht.output.2.2
  refine ⟨⟨⟨fun j b => if j = id then Dn b else (j ≠ i ∧ D j b), ?_, ?_, ?_⟩, ?_, ?_, hkeep, ?_, by omega, ?_, ht.os.trans hos, ht.tape.trans htape, ht.output.trans hout⟩, hle⟩
  · intro j o2 hj
    by_cases e : j = id
    · subst e
      rw [List.getElem?_set_self (by simpa using hlt)] at hj
      cases hj
      simp only [setK_same, if_true]
      exact ho _ hle (setK_same _ _ _)
    · rw [List.getElem?_set_ne (fun h => e h.symm)] at hj
      rw [setK_ne _ _ e]
      simp only [e, if_false]
      by_cases e2 : j = i
      · subst e2
        rw [List.getElem?_set_self hlti] at hj
        cases hj
        exact fun b hb => hb.1 rfl
      · rw [List.getElem?_set_ne (fun h => e2 h.symm)] at hj
        have : (fun b => j ≠ i ∧ D j b) = D j := funext fun b => propext ⟨fun h => h.2, fun h => ⟨e2, h⟩⟩
        rw [this]
        exact AObj.holds_mono hle (fun b hb => hsame b (h2 j b hb).2.1 (fun eg => e2 (h3 j i b hb (hDi b eg)))) o2 (h1 j o2 hj)
  · intro j b hb
    by_cases e : j = id
    · subst e
      simp only [if_true] at hb
      obtain ⟨b1, b2⟩ := hDn b hb
      refine ⟨by simpa using hlt, b1, ?_, ?_⟩
      · intro hI
        rcases b2 with b2 | b2
        · exact hImne b hI b2
        · have := (him b hI).1; omega
      · rcases b2 with b2 | b2
        · exact (h2 i b (hDi b b2)).2.2.2
        · exact .inr (by omega)
    · simp only [e, if_false] at hb
      obtain ⟨a1, a2, a3, a4⟩ := h2 j b hb.2
      exact ⟨by simpa using a1, by omega, a3, a4⟩
  · intro j j' b hj hj'
    by_cases ej : j = id <;> by_cases ej' : j' = id <;> simp only [ej, ej', if_true, if_false] at hj hj'
    · rw [ej, ej']
    · exfalso
      rcases (hDn b hj).2 with e | e
      · exact hj'.1 (h3 j' i b hj'.2 (hDi b e))
      · have := (h2 j' b hj'.2).2.1; omega
    · exfalso
      rcases (hDn b hj').2 with e | e
      · exact hj.1 (h3 j i b hj.2 (hDi b e))
      · have := (h2 j b hj.2).2.1; omega
    · exact h3 j j' b hj.2 hj'.2
  · intro j hj
    have hj' : H.length ≤ j := by simpa using hj
    rw [setK_ne _ _ (by omega)]
    exact hfresh j hj'
  · intro b hb
    obtain ⟨a1, a2⟩ := him b hb
    exact ⟨by omega, a2⟩
  · intro b hb hM
    refine (hsame b (by omega) (fun e => ?_)).trans (hframe b hb hM)
    rcases (h2 i b (hDi b e)).2.2.2 with h | h
    · exact hM h
    · omega
  · intro j u e
    exact hle.k _ _ (hk0 j u e)

/-- A new object, of new blocks or of none. -/
theorem St.put {w' : World} (h : St c κ Im w H) {id : Nat} (hid : H[id]? = some .free) (ht : Turn none w w') (v : Value) (o' : AObj) (Dn : Nat → Prop) (hDn : ∀ b, Dn b → b < w'.heap.size ∧ w.heap.size ≤ b)
    (ho : ∀ κ', Le κ κ' Im Im w w' → κ' id = some v → o'.holds κ' Im w' (some v) Dn) :
    St c (setK κ id v) Im w' (H.set id o') ∧ Le κ (setK κ id v) Im Im w w' := by
  have hlt : id < H.length := (List.getElem?_eq_some_iff.1 hid).1
  have hs := ht.size
  obtain ⟨⟨D, h1, h2, h3⟩, hfresh, him, hkeep, hframe, hsize, hk0, hos, htape, hout⟩ := h
  have hnone : κ id = none := (h1 id _ hid).1
  have hsame : ∀ b, b < w.heap.size → w'.heap[b]? = w.heap[b]? := fun b hb => ht.block b hb (by simp)
  have hle : Le κ (setK κ id v) Im Im w w' := le_setK v hnone (fun b hb => hsame b (him b hb).1) ht.output.2.2
  refine ⟨⟨⟨fun j b => if j = id then Dn b else D j b, ?_, ?_, ?_⟩, ?_, ?_, hkeep, ?_, by omega, ?_, ht.os.trans hos, ht.tape.trans htape, ht.output.trans hout⟩, hle⟩
  · intro j o2 hj
    by_cases e : j = id
    · subst e
      rw [List.getElem?_set_self hlt] at hj
      cases hj
      simp only [setK_same, if_true]
      exact ho _ hle (setK_same _ _ _)
    · rw [List.getElem?_set_ne (fun h => e h.symm)] at hj
      rw [setK_ne _ _ e]
      simp only [e, if_false]
      exact AObj.holds_mono hle (fun b hb => hsame b (h2 j b hb).2.1) o2 (h1 j o2 hj)
  · intro j b hb
    by_cases e : j = id
    · subst e
      simp only [if_true] at hb
      obtain ⟨b1, b2⟩ := hDn b hb
      refine ⟨by simpa using hlt, b1, fun hI => ?_, .inr (by omega)⟩
      have := (him b hI).1; omega
    · simp only [e, if_false] at hb
      obtain ⟨a1, a2, a3, a4⟩ := h2 j b hb
      exact ⟨by simpa using a1, by omega, a3, a4⟩
  · intro j j' b hj hj'
    by_cases ej : j = id <;> by_cases ej' : j' = id <;> simp only [ej, ej', if_true, if_false] at hj hj'
    · rw [ej, ej']
    · have := (hDn b hj).2; have := (h2 j' b hj').2.1; omega
    · have := (hDn b hj').2; have := (h2 j b hj).2.1; omega
    · exact h3 j j' b hj hj'
  · intro j hj
    have hj' : H.length ≤ j := by simpa using hj
    rw [setK_ne _ _ (by omega)]
    exact hfresh j hj'
  · intro b hb
    obtain ⟨a1, a2⟩ := him b hb
    exact ⟨by omega, a2⟩
  · intro b hb hM
    exact (hsame b (by omega)).trans (hframe b hb hM)
  · intro j u e
    exact hle.k _ _ (hk0 j u e)

theorem castL_spec {a b : TC} {xs : List b.den} {ys : List a.den} (h : castL a b xs = some ys) : ∃ e : b = a, e ▸ xs = ys := by
  unfold castL at h
  split at h
  · rename_i e; exact ⟨e, by simpa using h⟩
  · cases h

/-- A slice that is read. -/
def Reads (κ : Kap) (Im : Nat → Prop) (w : World) (cc : TC) (ys : List cc.den) (y : Value) : Prop :=
  ∃ a cap, y = .slice a ys.length cap ∧ (ys ≠ [] → ∃ b o arr T fz, a = some ⟨b, o, none⟩ ∧ w.heap[b]? = some (.cells arr T fz) ∧
    ∀ j (h : j < ys.length), AV.rels κ Im w (cc.enc ys[j]) ((arr.toList.drop (o + j * cc.k)).take cc.k))

theorem readSl_sound {cc : TC} {x : AV} {y : Value} {ys : List cc.den} (hst : St c κ Im w H) (h : readSl cc (H.getD · .dead) x = some ys) (hr : AV.rel κ Im w x y) : Reads κ Im w cc ys y := by
  unfold readSl at h
  split at h
  · obtain ⟨rfl, rfl⟩ := castL_spec h
    simp only [AV.rel] at hr
    obtain ⟨a, cap, rfl, _, h2⟩ := hr
    refine ⟨a, cap, rfl, fun hx => ?_⟩
    obtain ⟨b, o, e1, _, arr, T, fz, e2, e3⟩ := h2 hx
    exact ⟨b, o, arr, T, fz, e1, e2, e3⟩
  · rename_i i
    split at h
    · rename_i E c' xs ho
      obtain ⟨rfl, rfl⟩ := castL_spec h
      simp only [AV.rel] at hr
      obtain ⟨D, a, cap, h1, h2⟩ := hst.obj (getD_dead (by simp) ho)
      rw [h1] at hr
      obtain ⟨hr, _⟩ := hr
      cases hr
      refine ⟨a, cap, rfl, fun hx => ?_⟩
      rcases h2 with ⟨_, _, h3, _⟩ | ⟨g, arr, rfl, h4, h5, h6, h7, h8, h9⟩
      · exact absurd h3 hx
      · exact ⟨g, 0, arr, E, (0, 0), rfl, h4, fun j hj => by simpa using h8 j hj⟩
    · cases h
  · rename_i i kk lo n
    split at h
    · rename_i E c' xs ho
      split at h
      · rename_i hkk
        subst hkk
        obtain ⟨rfl, rfl⟩ := castL_spec h
        simp only [AV.rel] at hr
        obtain ⟨a', len, cap', a2, cap2, e1, e2, rfl, _, e3⟩ := hr
        obtain ⟨D, a, cap, h1, h2⟩ := hst.obj (getD_dead (by simp) ho)
        rw [h1] at e1
        cases e1
        have hlen : ((xs.drop lo).take n).length = n := by rw [List.length_take, List.length_drop]; omega
        refine ⟨a2, cap2, by rw [hlen], fun hx => ?_⟩
        have hn : n ≠ 0 := fun h => hx (List.eq_nil_of_length_eq_zero (by rw [hlen]; exact h))
        rcases h2 with ⟨_, _, h3, _⟩ | ⟨g, arr, rfl, h4, h5, h6, h7, h8, h9⟩
        · subst h3; simp at e2; exact absurd e2.2 hn
        refine ⟨g, lo * c'.k, arr, E, (0, 0), by rw [e3 hn]; simp [add_off], h4, fun j hj => ?_⟩
        rw [hlen] at hj
        simp only [List.getElem_take, List.getElem_drop]
        rw [show lo * c'.k + j * c'.k = (lo + j) * c'.k from by rw [Nat.add_mul]]
        exact h8 (lo + j) (by omega)
      · cases h
    · cases h
  · cases h
    simp only [AV.rel] at hr
    exact ⟨none, 0, hr, fun h => absurd rfl h⟩
  · cases h

end
end Go.X

/- Appends: the law. -/
namespace Go.X
open Go
section
variable {P : Program} {c : Ctx} {κ : Kap} {Im : Nat → Prop} {w : World} {H : List AObj} {K : AV → List (Nat × AObj) → Prop} {k : Value → World → Prop}

theorem TC.enc_one (cc : TC) (x : cc.den) : (cc.enc x).all oneAV = true := by cases cc <;> rfl

theorem flat_len (cc : TC) (ys : List cc.den) : (ys.flatMap cc.enc).length = ys.length * cc.k := by
  induction ys with
  | nil => simp
  | cons y ys ih => rw [List.flatMap_cons, List.length_append, ih, cc.enc_len, List.length_cons, Nat.succ_mul, Nat.add_comm]

theorem flat_one (cc : TC) (ys : List cc.den) : (ys.flatMap cc.enc).all oneAV = true := by
  induction ys with
  | nil => rfl
  | cons y ys ih => rw [List.flatMap_cons, List.all_append, cc.enc_one, ih]; rfl

theorem reads_flat {cc : TC} : ∀ (ys : List cc.den) (L : List Value), (∀ j (h : j < ys.length), AV.rels κ Im w (cc.enc ys[j]) ((L.drop (j * cc.k)).take cc.k)) → AV.rels κ Im w (ys.flatMap cc.enc) (L.take (ys.length * cc.k))
  | [], L, _ => by simp [AV.rels]
  | y :: ys, L, h => by
    have h0 := h 0 (by simp)
    simp only [Nat.zero_mul, List.drop_zero, List.getElem_cons_zero] at h0
    have ih := reads_flat ys (L.drop cc.k) (fun j hj => by
      have := h (j + 1) (by simpa using hj)
      rw [List.drop_drop]
      rw [show cc.k + j * cc.k = (j + 1) * cc.k from by rw [Nat.succ_mul, Nat.add_comm]]
      exact this)
    rw [List.flatMap_cons, rels_append]
    refine ⟨L.take cc.k, (L.drop cc.k).take (ys.length * cc.k), ?_, h0, ih⟩
    have e : (y :: ys).length * cc.k = cc.k + ys.length * cc.k := by rw [List.length_cons, Nat.succ_mul, Nat.add_comm]
    rw [e, List.take_add]

theorem flat_reads {cc : TC} : ∀ (ys : List cc.den) (M : List Value), AV.rels κ Im w (ys.flatMap cc.enc) M → ∀ j (h : j < ys.length), AV.rels κ Im w (cc.enc ys[j]) ((M.drop (j * cc.k)).take cc.k)
  | [], M, _, j, h => by simp at h
  | y :: ys, M, hr, j, h => by
    rw [List.flatMap_cons, rels_append] at hr
    obtain ⟨a, b, rfl, h1, h2⟩ := hr
    have ha := rels_length _ _ h1
    rw [cc.enc_len] at ha
    cases j with
    | zero => simp only [Nat.zero_mul, List.drop_zero, List.getElem_cons_zero]; rw [List.take_append_of_le_length (by omega), List.take_of_length_le (by omega)]; exact h1
    | succ j =>
      have := flat_reads ys b h2 j (by simpa using h)
      rw [show (j + 1) * cc.k = a.length + j * cc.k from by rw [Nat.succ_mul, ha, Nat.add_comm]]
      rw [← List.drop_drop, List.drop_left' rfl]
      exact this

theorem take_chunk {α : Type} (L : List α) (n j kk : Nat) (h : j < n) : ((L.take (n * kk)).drop (j * kk)).take kk = (L.drop (j * kk)).take kk := by
  rw [List.drop_take, List.take_take]
  congr 1
  have : (j + 1) * kk ≤ n * kk := Nat.mul_le_mul_right _ h
  rw [Nat.succ_mul] at this
  omega

theorem run_append_none {t ty e : TypeId} {i : TypeInfo} {v : Value} {n : Nat} {xs : List Value} {size base : Nat} (ht : P.underlying t = some (.slice e)) (hi : P.info? e = some i) (hown : w.ownsRow base e size v n xs) (cap : Nat) :
    (Builtin.append_ #[t, t] ty #[v, .slice none 0 cap]).run P w = .ok v w := by
  rcases hown.2 with ⟨rfl, rfl⟩ | ⟨g, cap', cur, rfl, _, _, hle, _⟩
  · simp [Builtin.append_, run_underlying ht, sizeOf, typeInfo, hi, Builtin.lenOf, Builtin.firstCells]
  · simp [Builtin.append_, run_underlying ht, sizeOf, typeInfo, hi, Builtin.lenOf, Builtin.firstCells, hle, storeCells]

theorem grownBy_turn {w w' : World} {g : Option Nat} (h : w.grownBy w' g) (hd : w.drawn ≤ w'.drawn) (hg : ∀ b, g = some b → lstat w.heap[b]? = none) : Turn g w w' := ⟨h.os, h.tape, ⟨h.output, hd, by
    cases g with
    | none => exact Recs.of_same fun b hb => h.block b hb (by simp)
    | some g => exact Recs.of_but (hg g rfl) fun b hb hne => h.block b hb (fun e => hne (by cases e; rfl))⟩, h.size, h.block⟩

theorem append_block {t ty e : TypeId} {i : TypeInfo} {z : Value} {size bytes n m c : Nat} {v v' : Value} {w' : World} {xs news : List Value} {a : Addr} (ht : P.underlying t = some (.slice e)) (hi : P.info? e = some i) (hz : i.zero = some z)
    (hsize : i.size = size) (hby : i.bytes = bytes) (hzs : z.cells.size = size) (hown : w.ownsRow 0 e size v n xs) (hl : news.length = m * size) (hnews : ∀ j u, news[j]? = some u → w.cell? (a.add j) = some u) (h1 : ∀ u ∈ news, u.oneCell' = true)
    (h63 : n + m ≤ maxLen) (hbytes : (n + m) * bytes ≤ 140737488355328)
    (hr : (Builtin.append_ #[t, t] ty #[v, .slice (some a) m c]).run P w = .ok v' w') : ∀ b, v'.ownBlock = some b → v.ownBlock = some b ∨ w.heap.size ≤ b := by
  subst hsize hby
  simp only [maxLen] at h63
  intro b hb
  rcases hown.2 with ⟨rfl, rfl⟩ | ⟨g, cap, cur, rfl, hbg, hg, hnc, hcm, hcs, htake⟩
  · by_cases hm : m = 0
    · subst hm
      have hn : news = [] := List.eq_nil_of_length_eq_zero (by simpa using hl)
      subst hn
      have : (Builtin.append_ #[t, t] ty #[.slice none 0 0, .slice (some a) 0 c]).run P w = .ok (.slice none 0 0) w := by
        simp [Builtin.append_, run_underlying ht, sizeOf, typeInfo, hi, Builtin.lenOf, Builtin.firstCells, loadCells, loadCellsFrom]
      rw [this] at hr
      cases hr
      cases hb
    · have := run_append_nil (P := P) w t ty e i z ht hi hz a m c news hl hnews (by omega) (by omega) (by rw [Nat.zero_add] at hbytes; omega)
      rw [this] at hr
      cases hr
      simp [Value.ownBlock] at hb
      exact .inr (by omega)
  · by_cases hroom : n + m ≤ cap
    · have hfit : n * i.size + news.length ≤ cur.size := by rw [hl, hcs, ← Nat.add_mul]; exact Nat.mul_le_mul_right _ hroom
      have := run_append_room (P := P) w t ty e i ht hi g n cap cur hg a m c news hl hnews h1 hroom hfit
      rw [this] at hr
      cases hr
      exact .inl hb
    · have holds : ∀ j u, xs[j]? = some u → w.cell? ((⟨g, 0, none⟩ : Addr).add j) = some u := hown.cells (g := g) rfl
      have := run_append_grow (P := P) w t ty e i z ht hi hz ⟨g, 0, none⟩ n cap xs hown.1 holds a m c news hl hnews (by omega) (by omega) (growslice_fits (by omega) hbytes)
      rw [this] at hr
      cases hr
      simp [Value.ownBlock] at hb
      exact .inr (by omega)

/-- What an append gives, as rows. -/
theorem append_run {t ty e : TypeId} {i : TypeInfo} {z : Value} {cc : TC} {xs ys : List cc.den} {v x : Value} {cells : List Value} (ht : P.underlying t = some (.slice e)) (hi : P.info? e = some i) (hz : i.zero = some z)
    (hsz : szOf P e = cc.k) (hzs : z.cells.size = cc.k) (hown : w.ownsRow 0 e cc.k v xs.length cells) (hc : AV.rels κ Im w (xs.flatMap cc.enc) cells) (hy : Reads κ Im w cc ys x)
    (hb : (xs.length + ys.length) * byOf P e ≤ 2 ^ 47) (hby : 0 < byOf P e) :
    ∃ v' w' cells', (Builtin.append_ #[t, t] ty #[v, x]).run P w = .ok v' w' ∧ w'.ownsRow 0 e cc.k v' (xs.length + ys.length) cells' ∧ w.grownBy w' v.ownBlock ∧ AV.rels κ Im w ((xs ++ ys).flatMap cc.enc) cells' ∧
      (∀ b, v'.ownBlock = some b → v.ownBlock = some b ∨ w.heap.size ≤ b) := by
  obtain ⟨a, cap, rfl, h2⟩ := hy
  have hsz' : i.size = cc.k := by simpa [szOf, hi] using hsz
  have hby' : byOf P e = i.bytes := by simp [byOf, hi]
  rw [hby'] at hb hby
  have hmax : xs.length + ys.length ≤ maxLen := by
    have h1 : (xs.length + ys.length) * 1 ≤ (xs.length + ys.length) * i.bytes := Nat.mul_le_mul_left _ hby
    simp only [maxLen]; omega
  cases a with
  | none =>
    have hys : ys = [] := by
      cases ys with
      | nil => rfl
      | cons y ys => obtain ⟨b, o, _, _, _, e1, _⟩ := h2 (by simp); cases e1
    subst hys
    exact ⟨v, w, cells, run_append_none ht hi hown cap, by simpa using hown, ⟨rfl, rfl, rfl, Nat.le_refl _, fun _ _ _ => rfl⟩, by simpa using hc, fun b hb => .inl hb⟩
  | some ad =>
    by_cases hys : ys = []
    · subst hys
      obtain ⟨v', w', hr, ho, hg, _⟩ := run_append_own (P := P) w 0 t ty e i z cc.k i.bytes ht hi hz hsz' rfl hzs cc.k_pos v xs.length cells hown ad 0 cap [] (by simp) (fun j u hu => by simp at hu) (fun u hu => by simp at hu) (by simpa using hmax) (by simpa using hb) (Nat.zero_le _)
      exact ⟨v', w', _, hr, by simpa using ho, hg, by simpa using hc, append_block ht hi hz hsz' rfl hzs hown (news := []) (by simp) (fun j u hu => by simp at hu) (fun u hu => by simp at hu) (by simpa using hmax) (by simpa using hb) hr⟩
    · obtain ⟨b, o, arr, T, fz, e1, e2, e3⟩ := h2 hys
      cases e1
      have hf := reads_flat ys (arr.toList.drop o) (fun j hj => by rw [List.drop_drop]; exact e3 j hj)
      have hlen := rels_length _ _ hf
      rw [flat_len] at hlen
      have hnews : ∀ j u, ((arr.toList.drop o).take (ys.length * cc.k))[j]? = some u → w.cell? ((⟨b, o, none⟩ : Addr).add j) = some u := fun j u hu => by
          rw [add_off, cell_at e2]
          rw [List.getElem?_take] at hu
          split at hu
          · rw [List.getElem?_drop] at hu
            rw [← Array.getElem?_toList]; exact hu
          · cases hu
      obtain ⟨v', w', hr, ho, hg, _⟩ := run_append_own (P := P) w 0 t ty e i z cc.k i.bytes ht hi hz hsz' rfl hzs cc.k_pos v xs.length cells hown ⟨b, o, none⟩ ys.length cap _ hlen
        hnews (oneAVs_sound (flat_one cc ys) hf) hmax (by omega) (Nat.zero_le _)
      exact ⟨v', w', _, hr, ho, hg, by rw [List.flatMap_append, rels_append]; exact ⟨_, _, rfl, hc, hf⟩, append_block ht hi hz hsz' rfl hzs hown hlen hnews (oneAVs_sound (flat_one cc ys) hf) hmax (by omega) hr⟩

theorem own_holds {e : TypeId} {cc : TC} {zs : List cc.den} {v : Value} {cells : List Value} (ho : w.ownsRow 0 e cc.k v zs.length cells) (hc : AV.rels κ Im w (zs.flatMap cc.enc) cells) :
    AObj.holds κ Im w (some v) (fun b => v.ownBlock = some b) (.row e cc zs) := by
  rcases ho.2 with ⟨rfl, h0⟩ | ⟨g, cap, cur, rfl, _, h1, h2, h3, h4, h5⟩
  · have : zs = [] := List.eq_nil_of_length_eq_zero h0
    subst this
    exact ⟨none, 0, rfl, .inl ⟨rfl, rfl, rfl, fun b hb => by cases hb⟩⟩
  · refine ⟨_, cap, rfl, .inr ⟨g, cur, rfl, h1, h4, h2, h3, fun j hj => ?_, fun x => ?_⟩⟩
    · rw [← take_chunk _ zs.length j cc.k hj, h5]
      exact flat_reads zs cells hc j hj
    · simp [Value.ownBlock]; exact eq_comm

theorem append_sound {E : Env} {ats : Array TypeId} {ty : TypeId} {s x : AV} {ys yx : Value} {id : Nat} (hst : St c κ Im w H) (hid : H[id]? = some .free) (hs : AV.rel κ Im w s ys) (hx : AV.rel κ Im w x yx)
    (hsat : (effAppend E ats s x id (H.getD · .dead)).sat K) (hk : Cont c κ Im w H K k) : Gives E.P (do pure (.value (← Builtin.append_ ats ty #[ys, yx]))) w k := by
  unfold effAppend at hsat
  split at hsat
  case h_2 => exact hsat.elim
  rename_i t0 t1 ht0 ht1
  split at hsat
  case h_2 => exact hsat.elim
  rename_i e cc hel
  obtain ⟨hu, htc⟩ := Env.el_spec hel
  split at hsat
  case isFalse => exact hsat.elim
  rename_i hcond
  obtain ⟨rfl, hats, hsz, hzero, hby⟩ := hcond
  have hats' : ats = #[t1, t1] := by
    apply Array.ext
    · exact hats
    · intro j h1 h2
      have h2' : j < 2 := by simpa using h2
      rw [Array.getElem?_eq_getElem (by omega)] at ht0 ht1
      have : j = 0 ∨ j = 1 := by omega
      rcases this with rfl | rfl
      · simpa using ht0
      · simpa using ht1
  subst hats'
  obtain ⟨i, hi⟩ : ∃ i, E.P.info? e = some i := by
    cases h : E.P.info? e with
    | none => simp [h] at hzero
    | some i => exact ⟨i, rfl⟩
  obtain ⟨z, hz, hzs⟩ : ∃ z, i.zero = some z ∧ z.cells.size = cc.k := by
    cases h : i.zero with
    | none => simp [hi, h] at hzero
    | some z => simp [hi, h] at hzero; exact ⟨z, rfl, hzero⟩
  split at hsat
  · exact hsat.elim
  rename_i zs hzs2
  have hread := readSl_sound hst hzs2 hx
  split at hsat
  · -- onto nil
    obtain ⟨⟨hb⟩, hK⟩ := hsat
    simp only [AV.rel] at hs
    subst hs
    obtain ⟨v', w', cells, hr, ho, hg, hc, hnew⟩ := append_run (P := E.P) (κ := κ) (Im := Im) (w := w) (t := t1) (ty := ty) (xs := ([] : List cc.den)) (ys := zs) (cells := []) hu hi hz hsz hzs
      (World.ownsRow_nil w 0 e cc.k) (by simp [AV.rels]) hread (by simpa using hb) hby
    have ht : Turn none w w' := grownBy_turn hg (run_drawn _ hr) (fun _ h => by cases h)
    simp only [List.length_nil, Nat.zero_add, List.nil_append] at ho hc
    obtain ⟨s1, s2⟩ := hst.put hid ht v' (.row e cc zs) (fun b => v'.ownBlock = some b) (fun b hb => by
      have hlt := ho.lt b hb
      refine ⟨hlt.2, ?_⟩
      rcases hnew b hb with h | h
      · cases h
      · exact h) (fun κ' hle hκ => own_holds ho (AV.rels_mono hle _ _ hc))
    refine gives_value (y := v') (w' := w') ?_ (hk _ _ _ _ _ _ hK s2 s1 ?_)
    · simp only [Sem.run_bind, hr, Result.andThen_ok, Sem.run_pure]
    · simp only [AV.rel]
      refine ⟨setK_same _ _ _, ?_⟩
      rcases ho.2 with ⟨rfl, _⟩ | ⟨g, cap, cur, rfl, _⟩ <;> rfl
  · -- onto a row of one's own
    rename_i i'
    split at hsat
    case h_2 => exact hsat.elim
    rename_i e' c' xs' ho'
    split at hsat
    case h_2 => exact hsat.elim
    rename_i xs hxs
    obtain ⟨rfl, rfl⟩ := castL_spec hxs
    split at hsat
    case isFalse => exact hsat.elim
    rename_i hcond2
    obtain ⟨rfl, hne⟩ := hcond2
    obtain ⟨⟨hb⟩, hK⟩ := hsat
    simp only [AV.rel] at hs
    have hi' := getD_dead (H := H) (by simp) ho'
    obtain ⟨D, hD⟩ := hst.obj hi'
    obtain ⟨a, cap, h1, h2⟩ := hD
    rw [h1] at hs
    obtain ⟨hs, _⟩ := hs
    cases hs
    have hown : ∃ cells, w.ownsRow 0 e' c'.k (.slice a xs'.length cap) xs'.length cells ∧ AV.rels κ Im w (xs'.flatMap c'.enc) cells := by
      rcases h2 with ⟨rfl, rfl, rfl, _⟩ | ⟨g, arr, rfl, h4, h5, h6, h7, h8, h9⟩
      · exact ⟨[], World.ownsRow_nil w 0 e' c'.k, by simp [AV.rels]⟩
      · have hf := reads_flat xs' arr.toList h8
        have hl := rels_length _ _ hf
        rw [flat_len] at hl
        exact ⟨_, ⟨hl, .inr ⟨g, cap, arr, rfl, Nat.zero_le _, h4, h6, h7, h5, rfl⟩⟩, hf⟩
    obtain ⟨cells, hown, hcells⟩ := hown
    obtain ⟨v', w', cells', hr, ho, hg, hc, hnew⟩ := append_run (P := E.P) (κ := κ) (Im := Im) (w := w) (t := t1) (ty := ty) (xs := xs') (ys := zs) hu hi hz hsz hzs hown hcells hread hb hby
    rw [← List.length_append] at ho
    have hidne : i' ≠ id := fun e => by subst e; rw [hi'] at hid; cases hid
    have hnl : ∀ b, (Value.slice a xs'.length cap).ownBlock = some b → lstat w.heap[b]? = none := fun b hb => by
      rcases hown.2 with ⟨h, _⟩ | ⟨g, cap', cur, h, _, h4, _⟩
      · rw [h] at hb; simp [Value.ownBlock] at hb
      · rw [h] at hb
        simp only [Value.ownBlock, Option.some.injEq] at hb
        subst hb
        rw [h4]; rfl
    obtain ⟨s1, s2⟩ := hst.move hi' hid hidne (grownBy_turn hg (run_drawn _ hr) hnl) (fun D hD x hx => by
      obtain ⟨a2, cap2, e1, e2⟩ := hD
      rw [h1] at e1
      cases e1
      rcases e2 with ⟨rfl, _⟩ | ⟨g, arr, rfl, _, _, _, _, _, e9⟩
      · simp [Value.ownBlock] at hx
      · simp [Value.ownBlock] at hx; exact (e9 x).2 hx) v' (.row e' c' (xs' ++ zs)) (fun b => v'.ownBlock = some b) (fun b hb => by
        refine ⟨(ho.lt b hb).2, ?_⟩
        rcases hnew b hb with h | h
        · exact .inl h.symm
        · exact .inr h) (fun κ' hle hκ => own_holds ho (AV.rels_mono hle _ _ hc))
    refine gives_value (y := v') (w' := w') ?_ (hk _ _ _ _ _ _ hK s2 s1 ?_)
    · simp only [Sem.run_bind, hr, Result.andThen_ok, Sem.run_pure]
    · simp only [AV.rel]
      refine ⟨setK_same _ _ _, ?_⟩
      rcases ho.2 with ⟨rfl, _⟩ | ⟨g, cap, cur, rfl, _⟩ <;> rfl
  · exact hsat.elim
end
end Go.X

/- Index addresses, lengths, views, least and greatest. -/
namespace Go.X
open Go
section
variable {P : Program} {c : Ctx} {κ : Kap} {Im : Nat → Prop} {w : World} {H : List AObj} {K : AV → List (Nat × AObj) → Prop} {k : Value → World → Prop}

theorem indexAddr_sound {E : Env} {t : TypeId} {a i : AV} {y yi : Value} (hst : St c κ Im w H) (ha : AV.rel κ Im w a y) (hi : AV.rel κ Im w i yi) (hs : (effIndexAddr E t a i (H.getD · .dead)).sat K)
    (hk : Cont c κ Im w H K k) : Gives E.P (do pure (.value (← Instr.indexAt t y yi))) w k := by
  unfold effIndexAddr at hs
  split at hs
  · rename_i e hu
    split at hs
    · rename_i cc xs kd n
      split at hs
      case isFalse => exact hs.elim
      rename_i hsz
      obtain ⟨⟨hb⟩, hK⟩ := hs
      simp only [AV.rel] at ha hi
      subst hi
      obtain ⟨ad, cap, rfl, _, h2⟩ := ha
      have hne : xs ≠ [] := fun h => by subst h; simp at hb; omega
      obtain ⟨b, o, rfl, h3, h4⟩ := h2 hne
      have hsize : (sizeOf e).run E.P w = .ok cc.k w := by rw [← hsz]; exact run_sizeOf_pos (by rw [hsz]; exact cc.k_pos)
      refine gives_value (y := .pointer (some ⟨b, o + n.toNat * cc.k, none⟩)) (w' := w) ?_ (hk.same hst hK ?_)
      · simp [Instr.indexAt, asIntOf, run_underlying hu, hb.1, hb.2, hsize, add_off]
      · simp only [AV.rel]
        exact ⟨by omega, b, o, rfl, h3, h4⟩
    · rename_i j kd n
      split at hs
      case h_2 => exact hs.elim
      rename_i E' cc xs ho
      split at hs
      case isFalse => exact hs.elim
      rename_i hsz
      obtain ⟨⟨hb⟩, hK⟩ := hs
      simp only [AV.rel] at ha hi
      subst hi
      obtain ⟨D, ad, cap, h1, h2⟩ := hst.obj (getD_dead (by simp) ho)
      have h1' := h1
      rw [h1] at ha
      obtain ⟨ha, _⟩ := ha
      cases ha
      rcases h2 with ⟨_, _, h3, _⟩ | ⟨g, arr, rfl, h4, h5, h6, h7, h8, h9⟩
      · subst h3; simp at hb; omega
      have hsize : (sizeOf e).run E.P w = .ok cc.k w := by rw [← hsz]; exact run_sizeOf_pos (by rw [hsz]; exact cc.k_pos)
      refine gives_value (y := .pointer (some ⟨g, 0 + n.toNat * cc.k, none⟩)) (w' := w) ?_ (hk.same hst hK ?_)
      · simp [Instr.indexAt, asIntOf, run_underlying hu, hb.1, hb.2, hsize, add_off]
      · simp only [AV.rel]
        exact ⟨g, _, cap, h1', by omega, by simp⟩
    · exact hs.elim
  · rename_i len e hu
    split at hs
    · rename_i j off kd n
      split at hs
      case isFalse => exact hs.elim
      rename_i hsz
      obtain ⟨⟨hb⟩, hK⟩ := hs
      simp only [AV.rel] at ha hi
      subst hi
      obtain ⟨b, h1, rfl⟩ := ha
      have hsize : (sizeOf e).run E.P w = .ok (szOf E.P e) w := run_sizeOf_pos hsz
      refine gives_value (y := .pointer (some ⟨b, off + n.toNat * szOf E.P e, none⟩)) (w' := w) ?_ (hk.same hst hK ?_)
      · simp [Instr.indexAt, asIntOf, run_underlying hu, Instr.sureAddr, hb.1, hb.2, hsize, add_off]
      · simp only [AV.rel]
        exact ⟨b, h1, rfl⟩
    · exact hs.elim
  · exact hs.elim

theorem len_sound {ats : Array TypeId} {ty : TypeId} {x : AV} {y : Value} (hst : St c κ Im w H) (hx : AV.rel κ Im w x y) (hs : (effLen P ats x (H.getD · .dead)).sat K) (hk : Cont c κ Im w H K k) :
    Gives P (do pure (.value (← Builtin.len_ ats ty #[y]))) w k := by
  unfold effLen at hs
  split at hs
  · exact hs.elim
  rename_i t ht
  have slice : ∀ e, P.underlying t = some (.slice e) → ∀ n, lenSl (H.getD · .dead) x = some n → (Eff.ok (i64 n) []).sat K → Gives P (do pure (.value (← Builtin.len_ ats ty #[y]))) w k := by
    intro e hu n hn hK
    have key : ∃ a m cap, y = .slice a m cap ∧ (m : Int) = n := by
      unfold lenSl at hn
      split at hn
      · cases hn; simp only [AV.rel] at hx; obtain ⟨a, cap, rfl, _⟩ := hx; exact ⟨_, _, _, rfl, rfl⟩
      · cases hn; simp only [AV.rel] at hx; obtain ⟨_, _, _, a, cap, _, _, rfl, _⟩ := hx; exact ⟨_, _, _, rfl, rfl⟩
      · rename_i j
        split at hn
        · rename_i E cc xs ho
          cases hn
          obtain ⟨D, ad, cap, h1, h2⟩ := hst.obj (getD_dead (by simp) ho)
          simp only [AV.rel] at hx
          rw [h1] at hx
          obtain ⟨hx, _⟩ := hx
          cases hx
          exact ⟨_, _, _, rfl, rfl⟩
        · cases hn
      · cases hn; simp only [AV.rel] at hx; exact ⟨_, _, _, hx, rfl⟩
      · cases hn
    obtain ⟨a, m, cap, rfl, rfl⟩ := key
    exact hk.val hst hK (by simp [Builtin.len_, ht, run_underlying hu, goInt])
  have map : ∀ e1 e2, P.underlying t = some (.map e1 e2) → ∀ n, lenMp (H.getD · .dead) x = some n → (Eff.ok (i64 n) []).sat K → Gives P (do pure (.value (← Builtin.len_ ats ty #[y]))) w k := by
    intro e1 e2 hu n hn hK
    unfold lenMp at hn
    split at hn
    · rename_i j
      split at hn
      · rename_i ck cv m ho
        cases hn
        obtain ⟨D, b, es, clock, h1, h2, ⟨m', h3, h3'⟩, _⟩ := hst.obj (getD_dead (by simp) ho)
        have hlen : es.size = m.length := by rw [← Array.length_toList, ← entsRel_len _ _ h3', h3.length_eq]
        simp only [AV.rel] at hx
        rw [h1] at hx
        obtain ⟨hx, _⟩ := hx
        cases hx
        have hg : (getObj b).run P w = .ok (.map es clock) w := by simp [getObj, Sem.run, h2]
        exact hk.val hst hK (by simp [Builtin.len_, ht, run_underlying hu, goInt, hg, hlen])
      · cases hn
    · cases hn
      simp only [AV.rel] at hx
      subst hx
      exact hk.val hst hK (by simp [Builtin.len_, ht, run_underlying hu, goInt])
    · cases hn
  split at hs
  · rename_i e hu
    split at hs
    · rename_i n hn; exact slice e hu n hn hs
    · exact hs.elim
  · rename_i e1 e2 hu
    split at hs
    · rename_i n hn; exact map e1 e2 hu n hn hs
    · exact hs.elim
  · exact hs.elim

theorem mmAcc_sound (mx : Bool) (kd : IntKind) : ∀ (l : List AV) (ys : List Value) (a : Int) (r : AV), mmAcc mx kd a l = some r → AV.rels κ Im w l ys →
    ∃ m, r = .v (.int kd m) ∧ ((ys.foldlM (if mx then Builtin.max2 else Builtin.min2) (.int kd a) : Sem Value)).run P w = .ok (.int kd m) w
  | [], ys, a, r, h, hr => by
    simp only [AV.rels] at hr; subst hr
    simp [mmAcc] at h; subst h
    exact ⟨a, rfl, by simp⟩
  | x :: l, ys, a, r, h, hr => by
    simp only [AV.rels] at hr
    obtain ⟨y, rest, rfl, h2, h3⟩ := hr
    unfold mmAcc at h
    split at h
    · simp at *
    · rename_i a' k' b l' e
      cases e
      split at h
      · rename_i hk
        subst hk
        simp only [AV.rel] at h2
        subst h2
        obtain ⟨m, e1, e2⟩ := mmAcc_sound mx k' l rest _ r h h3
        refine ⟨m, e1, ?_⟩
        cases mx <;> simp only [List.foldlM_cons, Sem.run_bind, Builtin.max2, Builtin.min2, Bool.false_eq_true, if_true, if_false, Sem.run_pure, Result.andThen_ok] at e2 ⊢ <;> exact e2
      · cases h
    · cases h

end
end Go.X

/- Views. -/
namespace Go.X
open Go
section
variable {P : Program} {c : Ctx} {κ : Kap} {Im : Nat → Prop} {w : World} {H : List AObj} {K : AV → List (Nat × AObj) → Prop} {k : Value → World → Prop}

/-- A bound of a slice expression. -/
def bndRel (κ : Kap) (Im : Nat → Prop) (w : World) : Option AV → Option Value → Prop
  | none, none => True
  | some a, some y => AV.rel κ Im w a y
  | _, _ => False

theorem run_slice {t e : TypeId} (hu : P.underlying t = some (.slice e)) {s : Nat} (hs : (sizeOf e).run P w = .ok s w) {a : Option Addr} {n cap l h : Nat} {lo hi : Option Value}
    (hlo : (lo = none ∧ l = 0) ∨ ∃ kd, lo = some (.int kd l)) (hhi : (hi = none ∧ h = n) ∨ ∃ kd, hi = some (.int kd h)) (h1 : l ≤ h) (h2 : h ≤ cap) :
    (Instr.sliceAt t (.slice a n cap) lo hi none).run P w = .ok (.slice (if cap = l then a else a.map (·.add (l * s))) (h - l) (cap - l)) w := by
  have e1 : (Instr.sliceBounds true n cap lo hi none).run P w = .ok (l, h, cap) w := by
    rcases hlo with ⟨rfl, rfl⟩ | ⟨kd, rfl⟩ <;> rcases hhi with ⟨rfl, rfl⟩ | ⟨kd', rfl⟩
    · simp [Instr.sliceBounds]
    · simp [Instr.sliceBounds, Instr.sliceBound, asIntOf, h2]
    · simp [Instr.sliceBounds, Instr.sliceBound, asIntOf, h1]
    · simp [Instr.sliceBounds, Instr.sliceBound, asIntOf, h1, h2]
  simp [Instr.sliceAt, Instr.slice, run_underlying hu, e1, hs]

theorem slice_sound {E : Env} {t : TypeId} {x : AV} {y : Value} {lo hi : Option AV} {ylo yhi : Option Value} (hst : St c κ Im w H) (hx : AV.rel κ Im w x y) (hlo : bndRel κ Im w lo ylo) (hhi : bndRel κ Im w hi yhi)
    (hs : (effSlice E t x lo hi (H.getD · .dead)).sat K) (hk : Cont c κ Im w H K k) : Gives E.P (do pure (.value (← Instr.sliceAt t y ylo yhi none))) w k := by
  unfold effSlice at hs
  split at hs
  case h_2 => exact hs.elim
  rename_i e hu
  split at hs
  · exact hs.elim
  rename_i l hl
  have hlo' : (ylo = none ∧ l = 0) ∨ ∃ kd, ylo = some (.int kd l) := by
    unfold loInt at hl
    split at hl
    · cases hl
      cases ylo with
      | none => exact .inl ⟨rfl, rfl⟩
      | some _ => exact hlo.elim
    · cases hl
      cases ylo with
      | none => exact hlo.elim
      | some z => simp only [bndRel, AV.rel] at hlo; subst hlo; exact .inr ⟨_, rfl⟩
    · cases hl
  -- the end of a view
  have fin : ∀ (a : Option Addr) (m cap : Nat) (h : Int) (sz : Nat), y = .slice a m cap → ((yhi = none ∧ h = m) ∨ ∃ kd, yhi = some (.int kd h)) → 0 ≤ l → l ≤ h → h ≤ cap → (sizeOf e).run E.P w = .ok sz w →
      k (.slice (if cap = l.toNat then a else a.map (·.add (l.toNat * sz))) (h.toNat - l.toNat) (cap - l.toNat)) w → Gives E.P (do pure (.value (← Instr.sliceAt t y ylo yhi none))) w k := by
    intro a m cap h sz hy hh h0 h1 h2 hsz hkk
    subst hy
    refine gives_value ?_ hkk
    have el : l = (l.toNat : Int) := by omega
    have eh : h = (h.toNat : Int) := by omega
    have := run_slice (P := E.P) (w := w) hu hsz (a := a) (n := m) (cap := cap) (l := l.toNat) (h := h.toNat) (lo := ylo) (hi := yhi)
      (by rcases hlo' with ⟨h3, h4⟩ | ⟨kd, h3⟩
          · exact .inl ⟨h3, by omega⟩
          · exact .inr ⟨kd, by rw [h3, ← el]⟩)
      (by rcases hh with ⟨h3, h4⟩ | ⟨kd, h3⟩
          · exact .inl ⟨h3, by omega⟩
          · exact .inr ⟨kd, by rw [h3, ← eh]⟩) (by omega) (by omega)
    simp only [Sem.run_bind, this, Result.andThen_ok, Sem.run_pure]
  split at hs
  · -- what stays
    rename_i cc xs
    split at hs
    case isFalse => exact hs.elim
    rename_i hsz
    have hsize : (sizeOf e).run E.P w = .ok cc.k w := by rw [← hsz]; exact run_sizeOf_pos (by rw [hsz]; exact cc.k_pos)
    simp only [AV.rel] at hx
    obtain ⟨a, cap, hy, hcap, h2⟩ := hx
    -- both bounds known
    have rs : ∀ h : Int, 0 ≤ l → l ≤ h → h ≤ xs.length → ((yhi = none ∧ h = xs.length) ∨ ∃ kd, yhi = some (.int kd h)) → ∀ zs : List cc.den, zs = (xs.take h.toNat).drop l.toNat → K (.rs cc zs) [] →
        Gives E.P (do pure (.value (← Instr.sliceAt t y ylo yhi none))) w k := by
      intro h h0 h1 h3 hh zs hzs hK
      subst hzs
      have hlen : ((xs.take h.toNat).drop l.toNat).length = h.toNat - l.toNat := by rw [List.length_drop, List.length_take]; omega
      refine fin a xs.length cap h cc.k hy hh h0 h1 (by omega) hsize (hk.same hst hK ?_)
      simp only [AV.rel]
      refine ⟨_, _, by rw [hlen], by omega, fun hne => ?_⟩
      have hpos : 0 < h.toNat - l.toNat := by rw [← hlen]; exact List.length_pos_iff.2 hne
      obtain ⟨b, o, rfl, h4, arr, T, fz, h5, h6⟩ := h2 (fun h => by subst h; simp at h3; omega)
      refine ⟨b, o + l.toNat * cc.k, by rw [if_neg (by omega)]; simp [add_off], h4, arr, T, fz, h5, fun j hj => ?_⟩
      rw [hlen] at hj
      simp only [List.getElem_drop, List.getElem_take]
      have := h6 (l.toNat + j) (by omega)
      rw [show o + l.toNat * cc.k + j * cc.k = o + (l.toNat + j) * cc.k from by rw [Nat.add_mul]; omega]
      exact this
    split at hs
    · obtain ⟨⟨hb⟩, hK⟩ := hs
      cases yhi with
      | some _ => exact hhi.elim
      | none => exact rs xs.length hb.1 hb.2 (by omega) (.inl ⟨rfl, rfl⟩) _ (by simp) hK
    · obtain ⟨⟨hb⟩, hK⟩ := hs
      cases yhi with
      | none => exact hhi.elim
      | some z =>
        simp only [bndRel, AV.rel] at hhi
        subst hhi
        exact rs _ hb.1 hb.2.1 hb.2.2 (.inr ⟨_, rfl⟩) _ rfl hK
    · exact hs.elim
  · -- a row of one's own
    rename_i i
    split at hs
    case h_2 => exact hs.elim
    rename_i E' cc xs ho
    split at hs
    case isFalse => exact hs.elim
    rename_i hsz
    have hsize : (sizeOf e).run E.P w = .ok cc.k w := by rw [← hsz]; exact run_sizeOf_pos (by rw [hsz]; exact cc.k_pos)
    obtain ⟨D, a, cap, h1, h2⟩ := hst.obj (getD_dead (by simp) ho)
    simp only [AV.rel] at hx
    have h1' := h1
    rw [h1] at hx
    obtain ⟨hx, _⟩ := hx
    cases hx
    have hcap : xs.length ≤ cap := by
      rcases h2 with ⟨_, _, h3, _⟩ | ⟨g, arr, _, _, _, h6, _⟩
      · subst h3; exact Nat.zero_le _
      · exact h6
    have vw : ∀ h : Int, 0 ≤ l → l ≤ h → h ≤ xs.length → ((yhi = none ∧ h = xs.length) ∨ ∃ kd, yhi = some (.int kd h)) → ∀ n, n = h.toNat - l.toNat → K (.vw i cc.k l.toNat n) [] →
        Gives E.P (do pure (.value (← Instr.sliceAt t (.slice a xs.length cap) ylo yhi none))) w k := by
      intro h h0 h3 h4 hh n hn hK
      subst hn
      refine fin a xs.length cap h cc.k rfl hh h0 h3 (by omega) hsize (hk.same hst hK ?_)
      simp only [AV.rel]
      exact ⟨a, xs.length, cap, _, _, h1', by omega, rfl, by omega, fun hne => by rw [if_neg (by omega)]⟩
    split at hs
    · obtain ⟨⟨hb⟩, hK⟩ := hs
      cases yhi with
      | some _ => exact hhi.elim
      | none => exact vw xs.length hb.1 hb.2 (by omega) (.inl ⟨rfl, rfl⟩) _ (by simp) hK
    · obtain ⟨⟨hb⟩, hK⟩ := hs
      cases yhi with
      | none => exact hhi.elim
      | some z =>
        simp only [bndRel, AV.rel] at hhi
        subst hhi
        exact vw _ hb.1 hb.2.1 hb.2.2 (.inr ⟨_, rfl⟩) _ rfl hK
    · exact hs.elim
  · exact hs.elim

end
end Go.X

