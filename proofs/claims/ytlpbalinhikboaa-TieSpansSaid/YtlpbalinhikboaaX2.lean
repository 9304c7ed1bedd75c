/- The objects that a call owns, and the state of a walk: which world fits which objects. -/
import Derived.Test.YtlpbalinhikboaaX1
namespace Go.X
open Go

def TC.isAgg : TC → Bool
  | .int | .bool | .u32 | .u8 => false
  | _ => true

/-- A datum as one value. -/
def TC.av (c : TC) (x : c.den) : AV := if c.isAgg then .agg (c.enc x) else (c.enc x).headD .any

inductive AObj where
  | free
  | dead
  | cells (cs : List AV) (E : TypeId)
  | row (E : TypeId) (c : TC) (xs : List c.den)
  | map (ck cv : TC) (m : List (ck.den × cv.den))

instance : Inhabited AObj := ⟨.dead⟩

def AObj.holds (κ : Kap) (Im : Nat → Prop) (w : World) (h : Option Value) (D : Nat → Prop) : AObj → Prop
  | .free => h = none ∧ ∀ b, ¬ D b
  | .dead => ∀ b, ¬ D b
  | .cells cs E => ∃ b arr, h = some (.pointer (some ⟨b, 0, none⟩)) ∧ w.heap[b]? = some (.cells arr E (0, 0)) ∧ AV.rels κ Im w cs arr.toList ∧ ∀ x, D x ↔ x = b
  | .row E c xs => ∃ a cap, h = some (.slice a xs.length cap) ∧
      ((a = none ∧ cap = 0 ∧ xs = [] ∧ ∀ b, ¬ D b) ∨
       ∃ g arr, a = some ⟨g, 0, none⟩ ∧ w.heap[g]? = some (.cells arr E (0, 0)) ∧ arr.size = cap * c.k ∧ xs.length ≤ cap ∧ cap ≤ maxLen ∧
         (∀ i (hi : i < xs.length), AV.rels κ Im w (c.enc xs[i]) ((arr.toList.drop (i * c.k)).take c.k)) ∧ ∀ x, D x ↔ x = g)
  | .map ck cv m => ∃ b es clock, h = some (.map (some b)) ∧ w.heap[b]? = some (.map es clock) ∧ es.size = m.length ∧
      (∀ i (hi : i < m.length) (hj : i < es.size), AV.rel κ Im w (ck.av m[i].1) es[i].key ∧ AV.rel κ Im w (cv.av m[i].2) es[i].val ∧ es[i].born < clock) ∧
      (es.toList.map (·.born)).Nodup ∧ (m.map (·.1)).Nodup ∧ ∀ x, D x ↔ x = b

theorem AObj.holds_mono {κ κ' : Kap} {Im Im' : Nat → Prop} {w w' : World} {h : Option Value} {D : Nat → Prop} (hl : Le κ κ' Im Im' w w')
    (hd : ∀ b, D b → w'.heap[b]? = w.heap[b]?) : ∀ (o : AObj), o.holds κ Im w h D → o.holds κ' Im' w' h D
  | .free, e => e
  | .dead, e => e
  | .cells cs E, e => by
    obtain ⟨b, arr, h1, h2, h3, h4⟩ := e
    exact ⟨b, arr, h1, (hd b ((h4 b).2 rfl)).trans h2, AV.rels_mono hl _ _ h3, h4⟩
  | .row E c xs, e => by
    obtain ⟨a, cap, h1, h2⟩ := e
    refine ⟨a, cap, h1, ?_⟩
    rcases h2 with h2 | ⟨g, arr, h3, h4, h5, h6, h6', h7, h8⟩
    · exact .inl h2
    · exact .inr ⟨g, arr, h3, (hd g ((h8 g).2 rfl)).trans h4, h5, h6, h6', fun i hi => AV.rels_mono hl _ _ (h7 i hi), h8⟩
  | .map ck cv m, e => by
    obtain ⟨b, es, clock, h1, h2, h3, h4, h5, h6, h7⟩ := e
    exact ⟨b, es, clock, h1, (hd b ((h7 b).2 rfl)).trans h2, h3, fun i hi hj => ⟨AV.rel_mono hl _ _ (h4 i hi hj).1, AV.rel_mono hl _ _ (h4 i hi hj).2.1, (h4 i hi hj).2.2⟩, h5, h6, h7⟩

/-- Where a walk began: the world, the handles, the blocks that it may turn, those that stay. -/
structure Ctx where
  w : World
  κ : Kap
  M : Nat → Prop
  Im : Nat → Prop

structure St (c : Ctx) (κ : Kap) (Im : Nat → Prop) (w : World) (H : List AObj) : Prop where
  objs : ∃ D : Nat → Nat → Prop, (∀ (i : Nat) (o : AObj), H[i]? = some o → o.holds κ Im w (κ i) (D i)) ∧
    (∀ i b, D i b → i < H.length ∧ b < w.heap.size ∧ ¬ Im b ∧ (c.M b ∨ c.w.heap.size ≤ b)) ∧ (∀ i j b, D i b → D j b → i = j)
  fresh : ∀ i, H.length ≤ i → κ i = none
  im : ∀ b, Im b → b < w.heap.size ∧ (c.Im b ∨ c.M b ∨ c.w.heap.size ≤ b)
  keep : ∀ b, c.Im b → Im b
  frame : ∀ b, b < c.w.heap.size → ¬ c.M b → w.heap[b]? = c.w.heap[b]?
  size : c.w.heap.size ≤ w.heap.size
  k0 : ∀ i v, c.κ i = some v → κ i = some v
  os : w.os = c.w.os
  tape : w.tape = c.w.tape
  output : w.output = c.w.output

theorem St.drew {c κ Im w H} (h : St c κ Im w H) : St c κ Im { w with drawn := w.drawn + 1 } H := by
  obtain ⟨⟨D, h1, h2, h3⟩, r⟩ := h
  exact ⟨⟨D, fun i o ho => AObj.holds_mono (w := w) (w' := { w with drawn := w.drawn + 1 }) ⟨fun _ _ e => e, fun _ e => e, fun _ _ => rfl⟩ (fun _ _ => rfl) o (h1 i o ho), h2, h3⟩, ‹_›, ‹_›, ‹_›, ‹_›, ‹_›, ‹_›, ‹_›, ‹_›, ‹_›⟩

def setK (κ : Kap) (i : Nat) (v : Value) : Kap := fun j => if j = i then some v else κ j

theorem setK_same (κ i v) : setK κ i v i = some v := by simp [setK]
theorem setK_ne (κ) {i j} (v) (h : j ≠ i) : setK κ i v j = κ j := by simp [setK, h]

theorem le_setK {κ : Kap} {i : Nat} (v : Value) {Im : Nat → Prop} {w w' : World} (hi : κ i = none) (hw : ∀ b, Im b → w'.heap[b]? = w.heap[b]?) : Le κ (setK κ i v) Im Im w w' :=
  ⟨fun j u e => by
    by_cases h : j = i
    · subst h; rw [hi] at e; cases e
    · rw [setK_ne _ _ h]; exact e, fun _ h => h, hw⟩

/-- The world has turned at block g alone, or nowhere; new blocks may lie behind. -/
structure Turn (g : Option Nat) (w w' : World) : Prop where
  os : w'.os = w.os
  tape : w'.tape = w.tape
  output : w'.output = w.output
  size : w.heap.size ≤ w'.heap.size
  block : ∀ b, b < w.heap.size → some b ≠ g → w'.heap[b]? = w.heap[b]?

theorem Turn.refl (g w) : Turn g w w := ⟨rfl, rfl, rfl, Nat.le_refl _, fun _ _ _ => rfl⟩
theorem Turn.trans {g w w' w''} (h : Turn g w w') (h' : Turn g w' w'') : Turn g w w'' :=
  ⟨h'.os.trans h.os, h'.tape.trans h.tape, h'.output.trans h.output, Nat.le_trans h.size h'.size, fun b hb hg => (h'.block b (Nat.lt_of_lt_of_le hb h.size) hg).trans (h.block b hb hg)⟩
theorem Turn.alloc (w : World) (o : Obj) : Turn none w (w.alloc o) := ⟨rfl, rfl, rfl, by simp, fun b hb _ => by show (w.heap.push o)[b]? = _; rw [Array.getElem?_push, if_neg (by omega)]⟩

/-- Blocks are laid that nobody owns. -/
theorem St.garb {c κ Im w w' H} (h : St c κ Im w H) (ht : Turn none w w') : St c κ Im w' H ∧ Le κ κ Im Im w w' := by
  obtain ⟨⟨D, h1, h2, h3⟩, hfresh, him, hkeep, hframe, hsize, hk0, hos, htape, hout⟩ := h
  have hs := ht.size
  have hb : ∀ b, b < w.heap.size → w'.heap[b]? = w.heap[b]? := fun b hb => ht.block b hb (by simp)
  have hle : Le κ κ Im Im w w' := ⟨fun _ _ e => e, fun _ e => e, fun b h => hb b (him b h).1⟩
  exact ⟨⟨⟨D, fun i o ho => AObj.holds_mono hle (fun b hd => hb b (h2 i b hd).2.1) o (h1 i o ho), fun i b hd => by
      obtain ⟨a1, a2, a3, a4⟩ := h2 i b hd
      exact ⟨a1, by omega, a3, a4⟩, h3⟩, hfresh, fun b h => ⟨by have := (him b h).1; omega, (him b h).2⟩, hkeep, fun b hlt hM => (hb b (by omega)).trans (hframe b hlt hM), by omega, hk0,
      ht.os.trans hos, ht.tape.trans htape, ht.output.trans hout⟩, hle⟩

/-- A new block under a free id. -/
theorem St.lay {c κ Im w w' H} (h : St c κ Im w H) {id : Nat} (hid : H[id]? = some .free) (ht : Turn none w w') (g : Nat) (hg : w.heap.size ≤ g) (hg' : g < w'.heap.size) (o : AObj) (v : Value)
    (ho : ∀ κ', Le κ κ' Im Im w w' → κ' id = some v → o.holds κ' Im w' (some v) (fun b => b = g)) :
    St c (setK κ id v) Im w' (H.set id o) ∧ Le κ (setK κ id v) Im Im w w' := by
  have hlt : id < H.length := (List.getElem?_eq_some_iff.1 hid).1
  have hsame : ∀ b, b < w.heap.size → w'.heap[b]? = w.heap[b]? := fun b hb => ht.block b hb (by simp)
  have hs := ht.size
  obtain ⟨⟨D, h1, h2, h3⟩, hfresh, him, hkeep, hframe, hsize, hk0, hos, htape, hout⟩ := h
  have hnone : κ id = none := (h1 id _ hid).1
  have hle : Le κ (setK κ id v) Im Im w w' := le_setK v hnone fun b hb => hsame b (him b hb).1
  refine ⟨⟨⟨fun i b => if i = id then b = g else D i b, ?_, ?_, ?_⟩, ?_, ?_, hkeep, ?_, by omega, ?_, ht.os.trans hos, ht.tape.trans htape, ht.output.trans hout⟩, hle⟩
  · intro i o' hi
    by_cases e : i = id
    · subst e
      simp only [List.getElem?_set_self hlt, Option.some.injEq] at hi
      subst hi
      simp only [setK_same, if_true]
      exact ho _ hle (setK_same _ _ _)
    · rw [List.getElem?_set_ne (fun h => e h.symm)] at hi
      rw [setK_ne _ _ e]
      simp only [e, if_false]
      exact AObj.holds_mono hle (fun b hb => hsame b (h2 i b hb).2.1) o' (h1 i o' hi)
  · intro i b hb
    by_cases e : i = id
    · subst e
      simp only [if_true] at hb
      subst hb
      refine ⟨by simpa using hlt, hg', fun hi => ?_, .inr (by omega)⟩
      have := (him _ hi).1; omega
    · simp only [e, if_false] at hb
      obtain ⟨a1, a2, a3, a4⟩ := h2 i b hb
      exact ⟨by simpa using a1, by omega, a3, a4⟩
  · intro i j b hi hj
    by_cases ei : i = id <;> by_cases ej : j = id <;> simp only [ei, ej, if_true, if_false] at hi hj
    · rw [ei, ej]
    · have := (h2 j b hj).2.1; omega
    · have := (h2 i b hi).2.1; omega
    · exact h3 i j b hi hj
  · intro i hi
    have hi' : H.length ≤ i := by simpa using hi
    rw [setK_ne _ _ (by omega)]
    exact hfresh i hi'
  · intro b hb
    obtain ⟨a1, a2⟩ := him b hb
    exact ⟨by omega, a2⟩
  · intro b hb hM
    exact (hsame b (by omega)).trans (hframe b hb hM)
  · intro i u e
    exact hle.k _ _ (hk0 i u e)

/-- A value without a block under a free id. -/
theorem St.name {c κ Im w H} (h : St c κ Im w H) {id : Nat} (hid : H[id]? = some .free) (o : AObj) (v : Value)
    (ho : ∀ κ', Le κ κ' Im Im w w → κ' id = some v → o.holds κ' Im w (some v) (fun _ => False)) :
    St c (setK κ id v) Im w (H.set id o) ∧ Le κ (setK κ id v) Im Im w w := by
  have hlt : id < H.length := (List.getElem?_eq_some_iff.1 hid).1
  obtain ⟨⟨D, h1, h2, h3⟩, hfresh, him, hkeep, hframe, hsize, hk0, hos, htape, hout⟩ := h
  have hnone : κ id = none := (h1 id _ hid).1
  have hle : Le κ (setK κ id v) Im Im w w := le_setK v hnone fun b hb => rfl
  refine ⟨⟨⟨fun i b => if i = id then False else D i b, ?_, ?_, ?_⟩, ?_, him, hkeep, hframe, hsize, ?_, hos, htape, hout⟩, hle⟩
  · intro i o' hi
    by_cases e : i = id
    · subst e
      simp only [List.getElem?_set_self hlt, Option.some.injEq] at hi
      subst hi
      simp only [setK_same, if_true]
      exact ho _ hle (setK_same _ _ _)
    · rw [List.getElem?_set_ne (fun h => e h.symm)] at hi
      rw [setK_ne _ _ e]
      simp only [e, if_false]
      exact AObj.holds_mono hle (fun b hb => rfl) o' (h1 i o' hi)
  · intro i b hb
    by_cases e : i = id
    · simp only [e, if_true] at hb
    · simp only [e, if_false] at hb
      obtain ⟨a1, a2, a3, a4⟩ := h2 i b hb
      exact ⟨by simpa using a1, a2, a3, a4⟩
  · intro i j b hi hj
    by_cases ei : i = id <;> by_cases ej : j = id <;> simp only [ei, ej, if_true, if_false] at hi hj
    exact h3 i j b hi hj
  · intro i hi
    have hi' : H.length ≤ i := by simpa using hi
    rw [setK_ne _ _ (by omega)]
    exact hfresh i hi'
  · intro i u e
    exact hle.k _ _ (hk0 i u e)

/-- What an object's block holds is turned. -/
theorem St.turn {c κ Im w w' H} (h : St c κ Im w H) {id : Nat} {o o' : AObj} (hid : H[id]? = some o) {g : Nat} (ht : Turn (some g) w w')
    (hold : ∀ D, o.holds κ Im w (κ id) D → ∀ x, D x ↔ x = g)
    (hnew : Le κ κ Im Im w w' → o'.holds κ Im w' (κ id) (fun b => b = g)) :
    St c κ Im w' (H.set id o') ∧ Le κ κ Im Im w w' := by
  have hlt : id < H.length := (List.getElem?_eq_some_iff.1 hid).1
  obtain ⟨⟨D, h1, h2, h3⟩, hfresh, him, hkeep, hframe, hsize, hk0, hos, htape, hout⟩ := h
  have hD := hold _ (h1 id _ hid)
  have hDg := h2 id g ((hD g).2 rfl)
  have hs := ht.size
  have hset : ∀ b, b < w.heap.size → b ≠ g → w'.heap[b]? = w.heap[b]? := fun b hb hne => ht.block b hb (fun e => hne (by cases e; rfl))
  have hle : Le κ κ Im Im w w' := ⟨fun _ _ e => e, fun _ e => e, fun b hb => hset b (him b hb).1 (fun e => hDg.2.2.1 (e ▸ hb))⟩
  refine ⟨⟨⟨D, ?_, ?_, h3⟩, ?_, ?_, hkeep, ?_, by omega, hk0, ht.os.trans hos, ht.tape.trans htape, ht.output.trans hout⟩, hle⟩
  · intro i x hi
    by_cases e : i = id
    · subst e
      simp only [List.getElem?_set_self hlt, Option.some.injEq] at hi
      subst hi
      have : D i = fun b => b = g := funext fun b => propext (hD b)
      rw [this]
      exact hnew hle
    · rw [List.getElem?_set_ne (fun h => e h.symm)] at hi
      exact AObj.holds_mono hle (fun b hb => hset b (h2 i b hb).2.1 (fun eb => by subst eb; exact e (h3 i id b hb ((hD b).2 rfl)))) x (h1 i x hi)
  · intro i b hb
    obtain ⟨a1, a2, a3, a4⟩ := h2 i b hb
    exact ⟨by simpa using a1, by omega, a3, a4⟩
  · intro i hi
    exact hfresh i (by simpa using hi)
  · intro b hb
    obtain ⟨a1, a2⟩ := him b hb
    exact ⟨by omega, a2⟩
  · intro b hb hM
    refine (hset b (by omega) (fun e => ?_)).trans (hframe b hb hM)
    subst e
    rcases hDg.2.2.2 with h | h
    · exact hM h
    · omega

/-- An object is given up: its block stays as it is from here on. -/
theorem St.seal {c κ Im w H} (h : St c κ Im w H) {id : Nat} {o : AObj} (hid : H[id]? = some o) {g : Nat} (hold : ∀ D, o.holds κ Im w (κ id) D → ∀ x, D x ↔ x = g) :
    ∃ Im', St c κ Im' w (H.set id .dead) ∧ Le κ κ Im Im' w w ∧ Im' g := by
  have hlt : id < H.length := (List.getElem?_eq_some_iff.1 hid).1
  obtain ⟨⟨D, h1, h2, h3⟩, hfresh, him, hkeep, hframe, hsize, hk0, hos, htape, hout⟩ := h
  have hD := hold _ (h1 id _ hid)
  have hDg := h2 id g ((hD g).2 rfl)
  have hle : Le κ κ Im (fun b => Im b ∨ b = g) w w := ⟨fun _ _ e => e, fun _ e => .inl e, fun _ _ => rfl⟩
  refine ⟨fun b => Im b ∨ b = g, ⟨⟨fun i b => i ≠ id ∧ D i b, ?_, ?_, ?_⟩, ?_, ?_, ?_, hframe, hsize, hk0, hos, htape, hout⟩, hle, .inr rfl⟩
  · intro i x hi
    by_cases e : i = id
    · subst e
      simp only [List.getElem?_set_self hlt, Option.some.injEq] at hi
      subst hi
      exact fun b hb => hb.1 rfl
    · rw [List.getElem?_set_ne (fun h => e h.symm)] at hi
      have : (fun b => i ≠ id ∧ D i b) = D i := funext fun b => propext ⟨fun h => h.2, fun h => ⟨e, h⟩⟩
      rw [show ((fun i b => i ≠ id ∧ D i b) i) = D i from this]
      exact AObj.holds_mono hle (fun b hb => rfl) x (h1 i x hi)
  · intro i b ⟨hne, hb⟩
    obtain ⟨a1, a2, a3, a4⟩ := h2 i b hb
    exact ⟨by simpa using a1, a2, fun h => h.elim a3 (fun e => by subst e; exact hne (h3 i id b hb ((hD b).2 rfl))), a4⟩
  · intro i j b hi hj
    exact h3 i j b hi.2 hj.2
  · intro i hi
    exact hfresh i (by simpa using hi)
  · rintro b (hb | rfl)
    · exact him b hb
    · exact ⟨hDg.2.1, .inr hDg.2.2.2⟩
  · intro b hb
    exact .inl (hkeep b hb)

/-- An object without a block is given up. -/
theorem St.drop {c κ Im w H} (h : St c κ Im w H) {id : Nat} {o : AObj} (hid : H[id]? = some o) : St c κ Im w (H.set id .dead) := by
  have hlt : id < H.length := (List.getElem?_eq_some_iff.1 hid).1
  obtain ⟨⟨D, h1, h2, h3⟩, hfresh, him, hkeep, hframe, hsize, hk0, hos, htape, hout⟩ := h
  refine ⟨⟨fun i b => i ≠ id ∧ D i b, ?_, ?_, ?_⟩, ?_, him, hkeep, hframe, hsize, hk0, hos, htape, hout⟩
  · intro i x hi
    by_cases e : i = id
    · subst e
      simp only [List.getElem?_set_self hlt, Option.some.injEq] at hi
      subst hi
      exact fun b hb => hb.1 rfl
    · rw [List.getElem?_set_ne (fun h => e h.symm)] at hi
      have : (fun b => i ≠ id ∧ D i b) = D i := funext fun b => propext ⟨fun h => h.2, fun h => ⟨e, h⟩⟩
      rw [show ((fun i b => i ≠ id ∧ D i b) i) = D i from this]
      exact h1 i x hi
  · intro i b ⟨hne, hb⟩
    obtain ⟨a1, a2, a3, a4⟩ := h2 i b hb
    exact ⟨by simpa using a1, a2, a3, a4⟩
  · intro i j b hi hj
    exact h3 i j b hi.2 hj.2
  · intro i hi
    exact hfresh i (by simpa using hi)

end Go.X
