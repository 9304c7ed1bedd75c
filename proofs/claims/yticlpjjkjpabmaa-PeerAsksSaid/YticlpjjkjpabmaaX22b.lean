/- Parts of the walks: X21 X22 X22b -/
import Derived.Test.YticlpjjkjpabmaaX20
import Derived.RangeFuncLeaves

/- A region that draws its order: the walk in the written order serves, where what is not ordered does not meet. -/
namespace Go.X
open Go

theorem updH_set_comm : ∀ (u : List (Nat × AObj)) (H : List AObj) (i : Nat) (o : AObj), i ∉ u.map (·.1) → updH (H.set i o) u = (updH H u).set i o
  | [], _, _, _, _ => rfl
  | (j, p) :: u, H, i, o, h => by
    simp only [List.map_cons, List.mem_cons, not_or] at h
    show updH ((H.set i o).set j p) u = _
    rw [List.set_comm _ _ h.1, updH_set_comm u _ i o h.2]
    rfl

theorem updH_comm : ∀ (u v : List (Nat × AObj)) (H : List AObj), (∀ i ∈ u.map (·.1), i ∉ v.map (·.1)) → updH (updH H u) v = updH (updH H v) u
  | [], v, H, _ => rfl
  | (i, o) :: u, v, H, h => by
    show updH (updH (H.set i o) u) v = updH ((updH H v).set i o) u
    rw [updH_comm u v _ fun j hj => h j (by simp [hj]), updH_set_comm v H i o (h i (by simp))]

theorem updH_get : ∀ (u : List (Nat × AObj)) (H : List AObj) (i : Nat), i ∉ u.map (·.1) → (updH H u)[i]? = H[i]?
  | [], _, _, _ => rfl
  | (j, p) :: u, H, i, h => by
    simp only [List.map_cons, List.mem_cons, not_or] at h
    show (updH (H.set j p) u)[i]? = _
    rw [updH_get u _ i h.2, List.getElem?_set_ne (fun e => h.1 e.symm)]

theorem putT_comm (T : List AV) {x y : Option Nat} (r s : AV) (h : ∀ d, x = some d → y ≠ some d) : putT (putT T x r) y s = putT (putT T y s) x r := by
  cases x with
  | none => rfl
  | some d => cases y with
    | none => rfl
    | some e =>
      have hne : d ≠ e := fun he => h d rfl (he ▸ rfl)
      exact List.set_comm _ _ hne

/-- What an operation looked at, and what it turned. -/
abbrev FP := List Nat × List Nat
def meets (l m : List Nat) : Bool := l.any fun i => m.any fun j => Nat.beq i j
def disj (x y : FP) : Bool := !(meets x.2 y.1 || meets x.2 y.2 || meets y.2 x.1)

theorem meets_spec {l m : List Nat} (h : meets l m = false) : ∀ i ∈ l, i ∉ m := by
  intro i hi hm
  simp only [meets, List.any_eq_false] at h
  have := h i hi
  simp only [Bool.not_eq_true, List.any_eq_false] at this
  have h3 := this i hm
  simp at h3
theorem disj_spec {x y : FP} (h : disj x y = true) : (∀ i ∈ x.2, i ∉ y.1) ∧ (∀ i ∈ x.2, i ∉ y.2) ∧ (∀ i ∈ y.2, i ∉ x.1) := by
  simp only [disj, Bool.not_eq_true', Bool.or_eq_false_iff] at h
  exact ⟨meets_spec h.1.1, meets_spec h.1.2, meets_spec h.2⟩

section
variable (E : Env) (ops : Array Oper) (ids : Nat → Nat) (F : Nat → FP)

def AnyD (K : List AV → List AObj → Prop) : Nat → Array Bool → List AV → List AObj → Prop
  | 0, listed, T, H => Region.ready .any ops listed = [] ∧ K T H
  | fuel + 1, listed, T, H => (Region.ready .any ops listed = [] → K T H) ∧ ∀ i ∈ Region.ready .any ops listed, ∃ o q r u, ops[i]? = some o ∧
      dStep E ops o (ids i) T H = some (q, r, u) ∧ q ∧ F i = (dRd E o (ids i) T H, u.map (·.1)) ∧ AnyD K fuel (listed.setIfInBounds i true) (putT T o.dst r) (updH H u)

/-- i comes before j, by a chain of orders. -/
inductive Behind (i : Nat) : Nat → Prop
  | base {j : Nat} {o : Oper} {e : _root_.Go.Edge} : ops[j]? = some o → e ∈ o.after → Region.binds .any e = true → e.on = i → Behind i j
  | step {j : Nat} {o : Oper} {e : _root_.Go.Edge} : ops[j]? = some o → e ∈ o.after → Region.binds .any e = true → Behind i e.on → Behind i j

def Closed (listed : Array Bool) : Prop := ∀ (j : Nat) o, ops[j]? = some o → listed.getD j true = true → ∀ e ∈ o.after, Region.binds .any e = true → listed.getD e.on false = true

variable {E ops ids F} {K : List AV → List AObj → Prop}

theorem getD_true {l : Array Bool} {j : Nat} (h : l.getD j false = true) : l.getD j true = true ∧ j < l.size := by
  rcases Nat.lt_or_ge j l.size with h' | h'
  · simp [h'] at h ⊢; exact h
  · simp [Array.getElem?_eq_none h'] at h

theorem behind_false {listed : Array Bool} (hc : Closed ops listed) {i : Nat} (hi : listed.getD i true = false) {j : Nat} (hb : Behind ops i j) :
    (∀ o, ops[j]? = some o → ∀ e ∈ o.after, Region.binds .any e = true → listed.getD e.on false = true) → False := by
  induction hb with
  | base ho he hb heq =>
    intro h
    have hl := getD_true (h _ ho _ he hb)
    rw [heq, hi] at hl; cases hl.1
  | step ho he hb _ ih =>
    intro h
    exact ih fun o' ho' => hc _ o' ho' (getD_true (h _ ho _ he hb)).1

theorem Closed.add {listed : Array Bool} (hc : Closed ops listed) {j : Nat} (hj : j ∈ Region.ready .any ops listed) : Closed ops (listed.setIfInBounds j true) := by
  intro k o ho hk e he hb
  by_cases hkj : k = j
  · subst hkj
    obtain ⟨_, o', ho', hall⟩ := mem_ready.1 hj
    rw [ho] at ho'
    cases ho'
    exact getD_set_true (hall e he hb)
  · rw [getD_set_ne true (Ne.symm hkj)] at hk
    exact getD_set_true (hc k o ho hk e he hb)

theorem AnyD_first (hE : LocOk E) {i : Nat} {oi : Oper} {q : Prop} {r : AV} {u : List (Nat × AObj)}
    (hi : ops[i]? = some oi) (hq : q) : ∀ (fuel : Nat) (listed : Array Bool) (T : List AV) (H : List AObj), Closed ops listed →
      (∀ j oj, ops[j]? = some oj → j ≠ i → listed.getD j true = false → Behind ops i j ∨ (oi.apart ops oj = true ∧ disj (F i) (F j) = true)) →
      i ∈ Region.ready .any ops listed → dStep E ops oi (ids i) T H = some (q, r, u) → F i = (dRd E oi (ids i) T H, u.map (·.1)) →
      AnyD E ops ids F K fuel (listed.setIfInBounds i true) (putT T oi.dst r) (updH H u) → AnyD E ops ids F K (fuel + 1) listed T H := by
  intro fuel
  induction fuel with
  | zero =>
    intro listed T H _ _ hr hs hF h
    refine ⟨fun h => (by rw [h] at hr; cases hr), fun j hj => ?_⟩
    by_cases hji : j = i
    · subst hji; exact ⟨oi, q, r, u, hi, hs, hq, hF, h⟩
    · have := ready_mono hj hji
      rw [h.1] at this
      cases this
  | succ fuel ih =>
    intro listed T H hc hfree hr hs hF h
    refine ⟨fun h => (by rw [h] at hr; cases hr), fun j hj => ?_⟩
    by_cases hji : j = i
    · subst hji; exact ⟨oi, q, r, u, hi, hs, hq, hF, h⟩
    · obtain ⟨oj, qj, rj, uj, hoj, hsj, hqj, hFj, hrest⟩ := h.2 j (ready_mono hj hji)
      obtain ⟨hjun, oj', hoj', hall⟩ := mem_ready.1 hj
      rw [hoj] at hoj'; cases hoj'
      have hun := (mem_ready.1 hr).1
      have hnb : ¬ Behind ops i j := fun hb => behind_false hc hun hb fun o ho => by rw [hoj] at ho; cases ho; exact hall
      obtain ⟨hap, hdj⟩ := (hfree j oj hoj hji hjun).resolve_left hnb
      obtain ⟨a1, a2, a3⟩ := Oper.apart_spec hap
      obtain ⟨d1, d2, d3⟩ := disj_spec hdj
      rw [hF, hFj] at d1 d2 d3
      simp only at d1 d2 d3
      have hput := dStep_put (E := E) (ops := ops) (o := oj) (id := ids j) (T := T) (H := updH H u) (dst := oi.dst) (r := r) a1
      rw [hput.2] at d1 hFj
      rw [hput.1] at hsj
      -- what j looks at is as it was ahead of i
      obtain ⟨hsj', hrj⟩ := dStep_upd hE (H' := H) hsj fun k hk => (updH_get u H k fun hku => d1 k hku hk).symm
      rw [← hrj] at d1 hFj
      refine ⟨oj, qj, rj, uj, hoj, hsj', hqj, hFj, ?_⟩
      obtain ⟨hsi', hri⟩ := dStep_upd hE (H' := updH H uj) hs fun k hk => updH_get uj H k fun hku => d3 k hku hk
      have hput' := dStep_put (E := E) (ops := ops) (o := oi) (id := ids i) (T := T) (H := updH H uj) (dst := oj.dst) (r := rj) a3
      refine ih (listed.setIfInBounds j true) (putT T oj.dst rj) (updH H uj) (hc.add hj) ?_ (ready_mono hr (Ne.symm hji)) ?_ ?_ ?_
      · intro k ok hk hki hkun
        refine hfree k ok hk hki ?_
        by_cases hjk : j = k
        · subst hjk; exact hjun
        · rw [getD_set_ne true hjk] at hkun; exact hkun
      · rw [hput'.1]; exact hsi'
      · rw [hput'.2, hri]; exact hF
      · rw [Array.setIfInBounds_comm _ _ hji, ← putT_comm T r rj a2, ← updH_comm u uj H d2]
        exact hrest

/-! ### The walk in the written order -/
def hasBit (m i : Nat) : Bool := Nat.beq (Nat.land 1 (Nat.shiftRight m i)) 1
def maskOf (M : List Nat) : List _root_.Go.Edge → Nat
  | [] => 0
  | e :: l => match Region.binds .any e with
    | true => Nat.lor (Nat.lor (Nat.shiftLeft 1 e.on) (M.getD e.on 0)) (maskOf M l)
    | false => maskOf M l
def pairOK (ops : Array Oper) (m i j : Nat) (x y : FP) : Bool := hasBit m i || (disj x y && match ops[i]?, ops[j]? with | some oi, some oj => oi.apart ops oj | _, _ => false)
def rowOK (ops : Array Oper) (M : List Nat) (i : Nat) (x : FP) : Nat → List FP → Bool
  | _, [] => true
  | j, y :: l => pairOK ops (M.getD j 0) i j x y && rowOK ops M i x (j + 1) l
def pairsOK (ops : Array Oper) (M : List Nat) : Nat → List FP → Bool
  | _, [] => true
  | i, x :: l => rowOK ops M i x (i + 1) l && pairsOK ops M (i + 1) l
def afterOK (i : Nat) : List Oper → Bool
  | [] => true
  | o :: l => o.after.all (fun e => !Region.binds .any e || Nat.blt e.on i) && afterOK (i + 1) l

theorem hasBit_eq (m i : Nat) : hasBit m i = m.testBit i := by
  unfold hasBit Nat.testBit
  show Nat.beq (1 &&& (m >>> i)) 1 = (1 &&& (m >>> i) != 0)
  have h1 : 1 &&& (m >>> i) = (m >>> i) % 2 := by rw [Nat.and_comm]; exact Nat.and_one_is_mod _
  have : (m >>> i) % 2 = 0 ∨ (m >>> i) % 2 = 1 := by omega
  rcases this with h | h <;> rw [h1, h] <;> rfl

theorem maskOf_spec {M : List Nat} {i : Nat} : ∀ (l : List _root_.Go.Edge), (maskOf M l).testBit i = true → ∃ e ∈ l, Region.binds .any e = true ∧ (e.on = i ∨ (M.getD e.on 0).testBit i = true)
  | [], h => by simp [maskOf] at h
  | e :: l, h => by
    unfold maskOf at h
    split at h
    · rename_i hb
      rw [show ∀ a b : Nat, Nat.lor a b = a ||| b from fun _ _ => rfl, show ∀ a b : Nat, Nat.lor a b = a ||| b from fun _ _ => rfl, Nat.testBit_or, Nat.testBit_or, Bool.or_eq_true, Bool.or_eq_true] at h
      rcases h with (h | h) | h
      · have h' : (2 ^ e.on).testBit i = true := by rw [← Nat.one_shiftLeft]; exact h
        rw [Nat.testBit_two_pow] at h'
        exact ⟨e, by simp, hb, .inl (by simpa using h')⟩
      · exact ⟨e, by simp, hb, .inr h⟩
      · obtain ⟨e', h1, h2⟩ := maskOf_spec l h
        exact ⟨e', by simp [h1], h2⟩
    · obtain ⟨e', h1, h2⟩ := maskOf_spec l h
      exact ⟨e', by simp [h1], h2⟩

theorem rowOK_spec {M : List Nat} {i : Nat} {x : FP} : ∀ (l : List FP) (j : Nat), rowOK ops M i x j l = true → ∀ k y, l[k]? = some y → pairOK ops (M.getD (j + k) 0) i (j + k) x y = true
  | [], _, _, k, y, h => by simp at h
  | z :: l, j, h, k, y, hk => by
    simp only [rowOK, Bool.and_eq_true] at h
    cases k with
    | zero => cases hk; exact h.1
    | succ k => have := rowOK_spec l (j + 1) h.2 k y (by simpa using hk); rw [show j + (k + 1) = j + 1 + k from by omega]; exact this

theorem afterOK_spec : ∀ (l : List Oper) (i : Nat), afterOK i l = true → ∀ k o, l[k]? = some o → ∀ e ∈ o.after, Region.binds .any e = true → e.on < i + k
  | [], _, _, k, o, h => by simp at h
  | p :: l, i, h, k, o, hk => by
    simp only [afterOK, Bool.and_eq_true, Array.all_eq_true_iff_forall_mem, Bool.or_eq_true, Bool.not_eq_true', Nat.blt_eq] at h
    cases k with
    | zero => cases hk; intro e he hb; have := h.1 e he; rw [hb] at this; simpa using this
    | succ k => intro e he hb; have := afterOK_spec l (i + 1) h.2 k o (by simpa using hk) e he hb; omega

def forceNs : List Nat → (List Nat → Prop) → Prop
  | [], k => k []
  | n :: l, k => forceN n fun n => forceNs l fun l => k (n :: l)
theorem forceNs_eq : ∀ (l : List Nat) (k : List Nat → Prop), forceNs l k = k l
  | [], k => rfl
  | n :: l, k => by simp only [forceNs, forceN_eq, forceNs_eq l]

/-- One operation, as the walk sees it. -/
def dPart (E : Env) (ops : Array Oper) (o : Oper) (id : Nat) (T : List AV) (H : List AObj) : Option (Bool × Option Prop × AV × List (Nat × AObj)) :=
  match freeAt (H[·]?) id (newOp E o.op) with
  | false => none
  | true => match guardOf ops T o with
    | .bad => none
    | .none => match effOp E o.op (dVs T o.op) id (H.getD · .dead) with
      | .ok r u => some (true, none, r, u)
      | .req q r u => some (true, some q, r, u)
      | _ => none
    | .cond t _ => match effOp E o.op (dVs T o.op) id (H.getD · .dead) with
      | .ok r [] => some (t, none, .gd 0 true t r, [])
      | .req q r [] => some (t, some (t = true → q), .gd 0 true t r, [])
      | _ => none

def okOpt : Option Prop → Prop → Prop
  | none, k => k
  | some q, k => Ok q ∧ k
def gdOp (t : Bool) (T : List AV) (op : Op) (k : Prop) : Prop := gdAnd t (pq op (evs T op)) k

theorem dPart_spec {E : Env} {ops : Array Oper} {o : Oper} {id : Nat} {T : List AV} {H : List AObj} {t : Bool} {q : Option Prop} {r : AV} {u : List (Nat × AObj)} {k : Prop}
    (h : dPart E ops o id T H = some (t, q, r, u)) (hk : gdOp t T o.op (okOpt q k)) : ∃ q', dStep E ops o id T H = some (q', r, u) ∧ q' ∧ k := by
  have hk' : dQ t T o.op ∧ okOpt q k := (gdAnd_iff _ _ _).1 hk
  obtain ⟨h1, h2⟩ := hk'
  unfold dPart at h
  unfold dStep
  cases hfr : freeAt (H[·]?) id (newOp E o.op) with
  | false => rw [hfr] at h; cases h
  | true =>
    rw [hfr] at h
    cases hg : guardOf ops T o with
    | bad => rw [hg] at h; cases h
    | none =>
      rw [hg] at h
      simp only at h ⊢
      generalize effOp E o.op (dVs T o.op) id (H.getD · .dead) = e at *
      cases e with
      | ok r u => cases h; exact ⟨_, rfl, ⟨h1, trivial⟩, h2⟩
      | req q r u => cases h; exact ⟨_, rfl, ⟨h1, h2.1.out⟩, h2.2⟩
      | _ => cases h
    | cond t' fx =>
      rw [hg] at h
      simp only at h ⊢
      generalize effOp E o.op (dVs T o.op) id (H.getD · .dead) = e at *
      unfold dPure
      split at h
      · cases h; exact ⟨_, rfl, h1, h2⟩
      · cases h; exact ⟨_, rfl, ⟨h1, h2.1.out⟩, h2.2⟩
      · cases h

/-- The walk, with what each looked at and turned. -/
def xD (E : Env) (ops : Array Oper) : List Oper → Nat → List Nat → List FP → List AV → List AObj → (List AV → List AObj → Prop) → Prop
  | [], _, M, F, T, H, K => match pairsOK ops M 0 F.reverse with | true => K T H | false => False
  | o :: l, id, M, F, T, H, K => match dPart E ops o id T H with
    | none => False
    | some (t, q, r, u) => gdOp t T o.op (okOpt q (forceNs (dRd E o id T H) fun rd => forceNs (u.map (·.1)) fun wr => forceN (id + newOp E o.op) fun id' => forceN (maskOf M o.after.toList) fun m => forceNs (M ++ [m]) fun M' =>
        putF T o.dst r fun T' => updF (id + newOp E o.op) H u fun H' => xD E ops l id' M' ((rd, wr) :: F) T' H' K))

def idAt (E : Env) (base : Nat) (l : List Oper) (j : Nat) : Nat := base + ((l.take j).map fun o => newOp E o.op).sum

theorem pairsOK_spec {M : List Nat} : ∀ (l : List FP) (i : Nat), pairsOK ops M i l = true → ∀ k j x y, l[k]? = some x → l[j]? = some y → k < j → pairOK ops (M.getD (i + j) 0) (i + k) (i + j) x y = true
  | [], _, _, k, _, _, _, h, _, _ => by simp at h
  | z :: l, i, h, k, j, x, y, hk, hj, hlt => by
    simp only [pairsOK, Bool.and_eq_true] at h
    cases j with
    | zero => omega
    | succ j => cases k with
      | zero => cases hk; have := rowOK_spec l (i + 1) h.1 j y (by simpa using hj); rw [show i + (j + 1) = i + 1 + j from by omega]; exact this
      | succ k =>
        have := pairsOK_spec l (i + 1) h.2 k j x y (by simpa using hk) (by simpa using hj) (by omega)
        rw [show i + (k + 1) = i + 1 + k from by omega, show i + (j + 1) = i + 1 + j from by omega]; exact this

/-- What the masks say. -/
def MaskOk (ops : Array Oper) (M : List Nat) : Prop := ∀ j i, (M.getD j 0).testBit i = true → Behind ops i j

theorem MaskOk.add {M : List Nat} (h : MaskOk ops M) {o : Oper} (ho : ops[M.length]? = some o) : MaskOk ops (M ++ [maskOf M o.after.toList]) := by
  intro j i hb
  by_cases hj : j < M.length
  · refine h j i ?_
    rw [List.getD, List.getElem?_append_left hj] at hb
    exact hb
  · by_cases he : j = M.length
    · subst he
      rw [List.getD, List.getElem?_append_right (Nat.le_refl _)] at hb
      simp only [Nat.sub_self, List.getElem?_cons_zero, Option.getD_some] at hb
      obtain ⟨e, h1, h2, h3⟩ := maskOf_spec _ hb
      rcases h3 with h3 | h3
      · exact .base ho (by simpa using h1) h2 h3
      · exact .step ho (by simpa using h1) h2 (h _ _ h3)
    · rw [List.getD, List.getElem?_eq_none (by simp; omega)] at hb
      simp at hb

def upTo (ops : Array Oper) (k : Nat) (listed : Array Bool) : Prop := listed.size = ops.size ∧ ∀ j, j < ops.size → listed[j]? = some (decide (j < k))

theorem upTo.getD {k : Nat} {listed : Array Bool} (h : upTo ops k listed) {j : Nat} (hj : j < ops.size) (d : Bool) : listed.getD j d = decide (j < k) := by
  have := h.2 j hj
  rw [Array.getD_eq_getD_getElem?, this]; rfl

theorem upTo.add {k : Nat} {listed : Array Bool} (h : upTo ops k listed) : upTo ops (k + 1) (listed.setIfInBounds k true) := by
  refine ⟨by simpa using h.1, fun j hj => ?_⟩
  by_cases e : k = j
  · subst e
    rw [Array.getElem?_setIfInBounds_self_of_lt (by rw [h.1]; exact hj)]
    simp
  · rw [Array.getElem?_setIfInBounds_ne e, h.2 j hj]
    have : (j < k) ↔ (j < k + 1) := by omega
    simp only [this]

theorem xD_any (hE : LocOk E) {base : Nat} (hafter : afterOK 0 ops.toList = true) :
    ∀ (l : List Oper) (k : Nat) (M : List Nat) (Fr : List FP) (T : List AV) (H : List AObj) (listed : Array Bool), (∀ j, l[j]? = ops[k + j]?) → k + l.length = ops.size → Fr.length = k → M.length = k → MaskOk ops M → upTo ops k listed →
      xD E ops l (idAt E base ops.toList k) M Fr T H K → ∃ (Fs : List FP) (M' : List Nat), Fs.length = ops.size ∧ Fs.take k = Fr.reverse ∧ MaskOk ops M' ∧ pairsOK ops M' 0 Fs = true ∧
        AnyD E ops (idAt E base ops.toList) (fun i => Fs.getD i ([], [])) K l.length listed T H
  | [], k, M, Fr, T, H, listed, hl, hk, hF, hM, hMo, hu, h => by
    simp only [xD] at h
    split at h
    · rename_i hp
      simp only [List.length_nil, Nat.add_zero] at hk
      refine ⟨Fr.reverse, M, by simp [hF, hk], by rw [List.take_of_length_le (by simp [hF])], hMo, hp, ?_, h⟩
      rw [List.eq_nil_iff_forall_not_mem]
      intro j hj
      obtain ⟨h0, o, ho, _⟩ := mem_ready.1 hj
      have hlt := (Array.getElem?_eq_some_iff.1 ho).1
      rw [hu.getD hlt] at h0
      simp at h0
      omega
    · exact h.elim
  | o :: l, k, M, Fr, T, H, listed, hl, hk, hF, hM, hMo, hu, h => by
    simp only [xD] at h
    have h0 : ops[k]? = some o := by simpa using (hl 0).symm
    have hlt : k < ops.size := (Array.getElem?_eq_some_iff.1 h0).1
    have hsum : idAt E base ops.toList (k + 1) = idAt E base ops.toList k + newOp E o.op := by
      unfold idAt
      rw [List.take_succ_eq_append_getElem (by simpa using hlt)]
      have : ops.toList[k]'(by simpa using hlt) = o := by have := (Array.getElem?_eq_some_iff.1 h0).2; simpa using this
      simp [this, Nat.add_assoc]
    split at h
    · exact h.elim
    · rename_i t q0 r u hs0
      obtain ⟨q, hs, hq, h⟩ := dPart_spec hs0 h
      simp only [forceNs_eq, forceN_eq] at h
      rw [putF_eq] at h
      have h' := (updF_spec _ _ _ _ h).1
      rw [← hsum] at h'
      obtain ⟨Fs, M', hlen, htake, hM', hp, hany⟩ := xD_any hE hafter l (k + 1) _ _ _ _ (listed.setIfInBounds k true) (fun j => by have := hl (j + 1); simpa [Nat.add_assoc, Nat.add_comm 1 j] using this)
        (by simp only [List.length_cons] at hk; omega) (by simp [hF]) (by simp [hM]) (hMo.add (by rw [hM]; exact h0)) hu.add h'
      have hFk : Fs[k]? = some (dRd E o (idAt E base ops.toList k) T H, u.map (·.1)) := by
        have : (Fs.take (k + 1))[k]? = Fs[k]? := by rw [List.getElem?_take_of_lt (by omega)]
        rw [← this, htake]
        simp [hF]
      refine ⟨Fs, M', hlen, ?_, hM', hp, ?_⟩
      · have : (Fs.take (k + 1)).take k = Fs.take k := by rw [List.take_take, Nat.min_eq_left (by omega)]
        rw [← this, htake, List.reverse_cons, List.take_append_of_le_length (by simp [hF]), List.take_of_length_le (by simp [hF])]
      have hready : k ∈ Region.ready .any ops listed := by
        refine mem_ready.2 ⟨by rw [hu.getD hlt]; simp, o, h0, fun e he hb => ?_⟩
        have := afterOK_spec ops.toList 0 hafter k o (by simpa using h0) e he hb
        rw [hu.getD (by omega)]
        simp; omega
      have hclosed : Closed ops listed := by
        intro j oj hoj hj e he hb
        have hjlt := (Array.getElem?_eq_some_iff.1 hoj).1
        rw [hu.getD hjlt] at hj
        simp at hj
        have := afterOK_spec ops.toList 0 hafter j oj (by simpa using hoj) e he hb
        rw [hu.getD (by omega)]
        simp; omega
      refine AnyD_first hE h0 hq l.length listed T H hclosed ?_ hready hs (by simp [List.getD, hFk]) hany
      intro j oj hoj hjk hun
      have hjlt := (Array.getElem?_eq_some_iff.1 hoj).1
      rw [hu.getD hjlt] at hun
      simp at hun
      obtain ⟨y, hy⟩ : ∃ y, Fs[j]? = some y := ⟨Fs[j]'(by omega), List.getElem?_eq_getElem (by omega)⟩
      have := pairsOK_spec Fs 0 hp k j _ y hFk hy (by omega)
      simp only [Nat.zero_add, pairOK, h0, hoj, Bool.or_eq_true, Bool.and_eq_true] at this
      rcases this with h1 | ⟨h1, h2⟩
      · rw [hasBit_eq] at h1; exact .inl (hM' _ _ h1)
      · refine .inr ⟨h2, ?_⟩
        simp only [List.getD, hFk, hy, Option.getD_some]
        exact h1

theorem AnyD_wp (hE : EnvOk E) {ro : Option Nat} {n : Nat} {c : Ctx} (hW : ∀ (i : Nat) o, ops[i]? = some o → ∀ s, o.dst = some s → c.W s = true) {Q : Exit → Act → World → Prop} (hk : ∀ T H κ Im a w, K T H → Fits c T H κ Im a w → Q .normal a w) :
    ∀ (fuel : Nat) (listed : Array Bool) (T : List AV) (H : List AObj) (κ : Kap) (Im : Nat → Prop) (a : Act) (w : World), Fits c T H κ Im a w → AnyD E ops ids F K fuel listed T H → wpAnyIn (FR ro) n E.P .any ops Q fuel listed a w
  | 0, listed, T, H, κ, Im, a, w, hf, h => ⟨h.1, hk _ _ _ _ _ _ h.2 hf⟩
  | fuel + 1, listed, T, H, κ, Im, a, w, hf, h => by
    refine ⟨fun h0 => hk _ _ _ _ _ _ (h.1 h0) hf, fun i hi => ?_⟩
    obtain ⟨o, q, r, u, ho, hs, hq, _, hrest⟩ := h.2 i hi
    unfold wpOpIn
    simp only [ho]
    have := dStep_sound hE (ro := ro) (n := n) (hW i o ho) (ops := ops) (Q := Q) hf hs hq (next := wpAnyIn (FR ro) n E.P .any ops Q fuel (listed.setIfInBounds i true)) fun κ' Im' a' w' hf' => AnyD_wp hE hW hk fuel _ _ _ κ' Im' a' w' hf' hrest
    split
    · rename_i hw; rw [if_pos hw] at this; exact this
    · rename_i hw; rw [if_neg hw] at this; exact ⟨fun _ _ => trivial, this⟩

end
end Go.X

/- Code, walked. -/
namespace Go.X
open Go

theorem St.more {c : Ctx} {κ : Kap} {Im : Nat → Prop} {w : World} {H : List AObj} (h : St c κ Im w H) (n : Nat) : St c κ Im w (H ++ List.replicate n .free) := by
  obtain ⟨⟨D, h1, h2, h3⟩, hfresh, r⟩ := h
  refine ⟨⟨D, ?_, fun i b hd => ?_, h3⟩, fun i hi => hfresh i (by simp at hi; omega), ‹_›, ‹_›, ‹_›, ‹_›, ‹_›, ‹_›, ‹_›, ‹_›⟩
  · intro i o ho
    rcases Nat.lt_or_ge i H.length with hi | hi
    · rw [List.getElem?_append_left hi] at ho; exact h1 i o ho
    · rw [List.getElem?_append_right hi] at ho
      have : o = .free := by
        rw [List.getElem?_replicate] at ho
        split at ho
        · cases ho; rfl
        · cases ho
      subst this
      refine ⟨hfresh i hi, fun b hb => ?_⟩
      have := (h2 i b hb).1
      omega
  · obtain ⟨a1, a2⟩ := h2 i b hd
    exact ⟨by simp; omega, a2⟩

def repF : Nat → (List AObj → Prop) → Prop
  | 0, k => k []
  | n + 1, k => repF n fun l => k (.free :: l)
theorem repF_eq : ∀ (n : Nat) (k : List AObj → Prop), repF n k = k (List.replicate n .free)
  | 0, k => rfl
  | n + 1, k => by simp only [repF, repF_eq n]; rfl
def extF : List AObj → Nat → (List AObj → Prop) → Prop
  | [], n, k => repF n k
  | o :: l, n, k => extF l n fun l => k (o :: l)
theorem extF_eq : ∀ (l : List AObj) (n : Nat) (k : List AObj → Prop), extF l n k = k (l ++ List.replicate n .free)
  | [], n, k => repF_eq n k
  | o :: l, n, k => by simp only [extF, extF_eq l]; rfl

def newAll (E : Env) : List Oper → Nat
  | [] => 0
  | o :: l => newOp E o.op + newAll E l

def dstsIn (W : Nat → Bool) (l : List Oper) : Bool := l.all fun o => match o.dst with | some s => W s | none => true
theorem dstsIn_spec {W : Nat → Bool} {l : List Oper} (h : dstsIn W l = true) {o : Oper} (ho : o ∈ l) : ∀ s, o.dst = some s → W s = true := by
  intro s hs
  have := List.all_eq_true.1 h o ho
  rw [hs] at this; exact this

/-! ### Code -/
inductive XE where
  | n
  | x (id : Nat)
  | r
def XE.exit : XE → Exit
  | .n => .normal
  | .x i => .exit i
  | .r => .ret

abbrev XK := XE → List AV → List AObj → Prop
abbrev XT := List AV → List AObj → XK → Prop

/-- The slots that a code writes are among some. -/
def wrIn (W : Nat → Bool) : Code → Bool
  | .region _ ops _ => dstsIn W ops.toList
  | .seq a b => wrIn W a && wrIn W b
  | .cond _ a b => wrIn W a && wrIn W b
  | .block _ b => wrIn W b
  | .loop b => wrIn W b
  | _ => true


/-- Where the rounds Rd are under way (r: within a round), the code does what x says. -/
def AbsSound (P : Program) (Rd : List RD) (r : Bool) (x : XT) (code : Code) : Prop :=
  ∀ (ro : Option Nat) (n : Nat) (c : Ctx) (T : List AV) (H : List AObj) (κ : Kap) (Im : Nat → Prop) (a : Act) (w : World) (K : XK) (Q : Exit → Act → World → Prop), (r = false → ro = none) → (∀ d ∈ Rd, d ∈ c.R) → wrIn c.W code = true → Fits c T H κ Im a w → x T H K →
    (∀ e T' H' κ' Im' a' w', K e T' H' → Fits c T' H' κ' Im' a' w' → Q e.exit a' w') → code.wpIn (FR ro) n P Q a w

theorem AbsSound.mono {P : Program} {Rd Rd' : List RD} {r : Bool} {x : XT} {code : Code} (h : AbsSound P Rd r x code) (hs : ∀ d ∈ Rd, d ∈ Rd') : AbsSound P Rd' r x code :=
  fun ro n c T H κ Im a w K Q h1 h2 => h ro n c T H κ Im a w K Q h1 fun d hd => h2 d (hs d hd)

theorem wrIn_true (code : Code) : wrIn (fun _ => true) code = true := by
  induction code with
  | region id ops d => simp only [wrIn, dstsIn, List.all_eq_true]; intro o _; split <;> rfl
  | seq a b iha ihb => simp only [wrIn, iha, ihb, Bool.and_self]
  | cond o a b iha ihb => simp only [wrIn, iha, ihb, Bool.and_self]
  | block id b ih => simpa only [wrIn] using ih
  | loop b ih => simpa only [wrIn] using ih
  | _ => rfl

/-! ### A frame within -/
section
variable {c : Ctx} {κ κ1 : Kap} {Im Im1 : Nat → Prop} {w w1 : World} {H H1 : List AObj}

def OwnD (c : Ctx) (Im : Nat → Prop) (w : World) (H : List AObj) (D : Nat → Nat → Prop) : Prop := ∀ i b, D i b → i < H.length ∧ b < w.heap.size ∧ ¬ Im b ∧ (c.M b ∨ c.w.heap.size ≤ b)

theorem St.inner (h : St c κ Im w H) : ∃ D, OwnD c Im w H D ∧ ∀ t0 W m0 R, St ⟨w, κ, fun b => ∃ i, D i b, Im, t0, W, m0, R⟩ κ Im w H := by
  obtain ⟨D, d1, d2, d3⟩ := h.objs
  exact ⟨D, d2, fun t0 W m0 R => ⟨⟨D, d1, fun i b hb => ⟨(d2 i b hb).1, (d2 i b hb).2.1, (d2 i b hb).2.2.1, .inl ⟨i, hb⟩⟩, d3⟩, h.fresh, fun b hb => ⟨(h.im b hb).1, .inl hb⟩, fun _ h => h, fun _ _ _ => rfl, Nat.le_refl _, fun _ _ h => h, rfl, rfl, Outs.refl _⟩⟩

theorem St.outer {D : Nat → Nat → Prop} {t0 : Array Value} {W : Nat → Bool} {m0 : Nat} {R : List RD} (hst : St c κ Im w H) (hD : OwnD c Im w H D) (h : St ⟨w, κ, fun b => ∃ i, D i b, Im, t0, W, m0, R⟩ κ1 Im1 w1 H1) :
    St c κ1 Im1 w1 H1 ∧ Le κ κ1 Im Im1 w w1 := by
  obtain ⟨⟨D1, d1, d2, d3⟩, hfresh, him, hkp, hframe, hsize, hk0, hos, htape, hout⟩ := h
  simp only at d2 him hkp hframe hsize hk0 hos htape hout
  have hM : ∀ b, (∃ i, D i b) → c.M b ∨ c.w.heap.size ≤ b := fun b ⟨i, hb⟩ => (hD i b hb).2.2.2
  refine ⟨⟨⟨D1, d1, fun i b hb => ?_, d3⟩, hfresh, fun b hb => ?_, fun b hb => hkp b (hst.keep b hb), fun b hb hcM => ?_, Nat.le_trans hst.size hsize, fun i v hi => hk0 i v (hst.k0 i v hi), hos.trans hst.os, htape.trans hst.tape, hout.trans hst.output⟩,
    hk0, hkp, fun b hb => hframe b (hst.im b hb).1 fun ⟨i, h⟩ => (hD i b h).2.2.1 hb, hout.2.2⟩
  · obtain ⟨q1, q2, q3, q4⟩ := d2 i b hb
    refine ⟨q1, q2, q3, ?_⟩
    rcases q4 with q4 | q4
    · exact hM b q4
    · exact .inr (Nat.le_trans hst.size q4)
  · obtain ⟨q1, q2⟩ := him b hb
    refine ⟨q1, ?_⟩
    rcases q2 with h | h | h
    · exact (hst.im b h).2
    · exact .inr (hM b h)
    · exact .inr (.inr (Nat.le_trans hst.size h))
  · refine (hframe b (Nat.lt_of_lt_of_le hb hst.size) fun h => ?_).trans (hst.frame b hb hcM)
    rcases hM b h with h | h
    · exact hcM h
    · omega

theorem St.ctx {t0 : Array Value} {W : Nat → Bool} {m0 : Nat} {R : List RD} (h : St c κ Im w H) : St ⟨c.w, c.κ, c.M, c.Im, t0, W, m0, R⟩ κ Im w H :=
  ⟨h.objs, h.fresh, h.im, h.keep, h.frame, h.size, h.k0, h.os, h.tape, h.output⟩
end

/-! ### A round -/
/-- A range over a function under way, and what its rounds do. -/
structure RA where
  d : RD
  xa : XT
  xb : XT

def RsOk (P : Program) (Rs : List RA) : Prop := ∀ ra ∈ Rs, AbsSound P (Rs.map (·.d)) true ra.xa ra.d.ca ∧ AbsSound P (Rs.map (·.d)) true ra.xb ra.d.cb

def loopAt (H : List AObj) (j : Nat) : Option LSt := match H.getD j .dead with | .loop s => some s | _ => none
theorem loopAt_some {H : List AObj} {j : Nat} {s : LSt} (h : loopAt H j = some s) : H[j]? = some (.loop s) := by
  unfold loopAt at h
  split at h
  · rename_i s' hs
    cases h
    exact getD_dead (by simp) hs
  · cases h

def setPs : List (Nat × AV) → List AV → (List AV → Prop) → Prop
  | [], T, k => k T
  | (i, v) :: l, T, k => setF T i v fun T => setPs l T k

def runY (ra : RA) (args : List AV) (H : List AObj) (K : AV → List AObj → Prop) : Prop :=
  match Nat.beq args.length ra.d.ps.size, loopAt H ra.d.j with
  | true, some .ready => setPs (ra.d.ps.toList.zip args) ra.d.T fun T1 => ra.xa T1 H fun e T2 H2 =>
      match e, loopAt H2 ra.d.j with
      | .n, some .ready => setF H2 ra.d.j (.loop .busy) fun H3 => ra.xb T2 H3 fun e _ H4 =>
          match loopAt H4 ra.d.j with
          | some .busy => match e with
            | .n => setF H4 ra.d.j (.loop .ready) fun H5 => K (.v (.bool true)) H5
            | .r => setF H4 ra.d.j (.loop .ret) fun H5 => K (.v (.bool false)) H5
            | .x i => setF H4 ra.d.j (.loop (.exit i)) fun H5 => K (.v (.bool false)) H5
          | _ => False
      | _, _ => False
  | _, _ => False

section
variable {c : Ctx} {κ : Kap} {Im : Nat → Prop} {w : World} {H : List AObj}

theorem setPs_rel : ∀ (ps : List Nat) (args : List AV) (ys : List Value) (T : List AV) (tmps : Array Value) (k : List AV → Prop), AV.rels κ Im w args ys → AV.rels κ Im w T tmps.toList → setPs (ps.zip args) T k →
    ∃ T', k T' ∧ AV.rels κ Im w T' ((ps.zip ys).foldl (fun tmps (t, a) => tmps.setIfInBounds t a) tmps).toList
  | [], _, _, T, tmps, k, _, hT, h => ⟨T, h, hT⟩
  | _ :: _, [], ys, T, tmps, k, ha, hT, h => by
    simp only [AV.rels] at ha; subst ha
    exact ⟨T, h, hT⟩
  | p :: ps, v :: args, ys, T, tmps, k, ha, hT, h => by
    simp only [AV.rels] at ha
    obtain ⟨y, ys, rfl, h1, h2⟩ := ha
    simp only [List.zip_cons_cons, setPs, setF_eq] at h
    have := putT_rel (a := { tmps := tmps, defers := [] }) (d := some p) (y := y) hT h1
    exact setPs_rel ps args ys (T.set p v) (tmps.setIfInBounds p y) k h2 (by simpa [putT, Act.put] using this) h

theorem putLoop_turn {l : Nat} {r r' : Loop} (h : w.heap[l]? = some (.loop r)) (hs : lstat (some (.loop r')) = lstat (some (.loop r))) : Turn (some l) w (w.putObj l (.loop r')) ∧ (w.putObj l (.loop r')).heap[l]? = some (.loop r') := by
  have hlt := (Array.getElem?_eq_some_iff.1 h).1
  have hsame := World.putObj_heap_same (w := w) (o := .loop r') hlt
  refine ⟨⟨rfl, rfl, ⟨rfl, Nat.le_refl _, fun b s hb => ?_⟩, by simp, fun b _ hne => World.putObj_heap_other (fun e => hne (by rw [e]))⟩, hsame⟩
  by_cases e : b = l
  · subst e; rw [hsame, hs]; rw [h] at hb; exact hb
  · rw [World.putObj_heap_other e]; exact hb

/-- The record is turned. -/
theorem Fits.loop {T : List AV} {a : Act} (hf : Fits c T H κ Im a w) {j l : Nat} {s : LSt} (hj : H[j]? = some (.loop s)) (hk : κ j = some (.func (.yield l) #[] #[])) :
    ∃ r, w.heap[l]? = some (.loop r) ∧ stOk s r ∧ ∀ (s' : LSt) (r' : Loop), lstat (some (.loop r')) = lstat (some (.loop r)) → stOk s' r' →
      Fits c T (H.set j (.loop s')) κ Im a (w.putObj l (.loop r')) ∧ Le κ κ Im Im w (w.putObj l (.loop r')) := by
  obtain ⟨D, l', r, h1, h2, h3, h4⟩ := hf.st.obj hj
  rw [hk] at h1; cases h1
  refine ⟨r, h2, h3, fun s' r' hr' hs' => ?_⟩
  obtain ⟨t1, t2⟩ := putLoop_turn h2 hr'
  obtain ⟨s1, s2⟩ := hf.st.turn hj t1 (o' := .loop s') (fun D hD x => by
    obtain ⟨l2, _, e1, _, _, e2⟩ := hD
    rw [hk] at e1; cases e1
    exact e2 x) (fun hle => ⟨l, r', hk, t2, hs', fun _ => Iff.rfl⟩)
  exact ⟨hf.to s2 s1, s2⟩

theorem runY_sound {P : Program} {Rs : List RA} (hR : RsOk P Rs) {ra : RA} (hra : ra ∈ Rs) (hc : ∀ d ∈ Rs.map (·.d), d ∈ c.R) {n : Nat} {T : List AV} {a : Act} (hf : Fits c T H κ Im a w) {args : List AV} {ys : Array Value} (hargs : AV.rels κ Im w args ys.toList)
    {y : Value} (hy : AV.rel κ Im w (.hd ra.d.j) y) {K : AV → List AObj → Prop} (h : runY ra args H K) {R : Ending → World → Prop}
    (hk : ∀ v H' κ' Im' b w', K v H' → Le κ κ' Im Im' w w' → St c κ' Im' w' H' → AV.rel κ' Im' w' v b → R (.returned b) w') :
    ∃ l fn tmps, y = .func (.yield l) #[] #[] ∧ (Instr.yield l ys).run P w = .ok (.round l fn tmps ra.d.ca ra.d.cb) w ∧ RoundIn (FR none) n P l fn tmps ra.d.ca ra.d.cb w R ∧ ∀ ro, RoundIn (FR ro) n P l fn tmps ra.d.ca ra.d.cb w R := by
  unfold runY at h
  split at h
  case h_2 => exact h.elim
  rename_i hlen hj
  have hj := loopAt_some hj
  obtain ⟨l, tmps0, r1, r2, r3⟩ := hf.rounds _ (hc ra.d (List.mem_map.2 ⟨ra, hra, rfl⟩))
  obtain rfl : y = .func (.yield l) #[] #[] := by
    simp only [AV.rel] at hy
    rw [r1] at hy; cases hy.1; rfl
  obtain ⟨r, l1, l2, _⟩ := hf.loop hj r1
  rw [l1] at r2
  simp only [lstat, Option.some.injEq, Prod.mk.injEq] at r2
  obtain ⟨p1, p2, p3, p4⟩ := r2
  have hsz : ys.size = ra.d.ps.size := by
    have := rels_length _ _ hargs
    have h2 := Nat.eq_of_beq_eq_true hlen
    simp only [Array.length_toList] at this
    omega
  obtain ⟨T1, hT1, hT1r⟩ := setPs_rel ra.d.ps.toList args ys.toList ra.d.T tmps0 _ hargs r3 h
  have hrun := run_yield (P := P) (args := ys) l1 (by rw [p1]; exact hsz)
  rw [p1, p2, p3, p4] at hrun
  have htm : ((ra.d.ps.zip ys).foldl (fun tmps (x : Tmp × Value) => match x with | (t, a) => tmps.setIfInBounds t a) tmps0) = ((ra.d.ps.toList.zip ys.toList).foldl (fun tmps (x : Tmp × Value) => match x with | (t, a) => tmps.setIfInBounds t a) tmps0) := by
    rw [← Array.foldl_toList, Array.toList_zip]
  obtain ⟨D, hD, hin⟩ := hf.st.inner
  have key : ∀ ro, RoundIn (FR ro) n P l r.fn ((ra.d.ps.zip ys).foldl (fun tmps (t, a) => tmps.setIfInBounds t a) tmps0) ra.d.ca ra.d.cb w R := fun ro => by
    refine roundIn_of_wpIn trivial ?_
    rw [htm]
    obtain ⟨t1, ht1⟩ : ∃ t1, (ra.d.ps.toList.zip ys.toList).foldl (fun tmps (x : Tmp × Value) => match x with | (t, a) => tmps.setIfInBounds t a) tmps0 = t1 := ⟨_, rfl⟩
    rw [ht1]
    rw [ht1] at hT1r
    have hf1 : Fits ⟨w, κ, fun b => ∃ i, D i b, Im, t1, fun _ => true, c.m0, c.R⟩ T1 H κ Im { tmps := t1, defers := [] } w :=
      ⟨hin _ _ _ _, hT1r, ⟨[], rfl, by simp, fun _ h => by cases h⟩, ⟨rfl, fun _ h => by cases h⟩, hf.rounds, Nat.le_trans hf.m0le hf.st.size⟩
    refine (hR ra hra).1 (some l) n ⟨w, κ, fun b => ∃ i, D i b, Im, t1, fun _ => true, c.m0, c.R⟩ T1 H κ Im _ w _ _ (fun h => by cases h) hc (wrIn_true _) hf1 hT1 ?_
    intro e T2 H2 κ2 Im2 a2 w2 hK2 hf2
    split at hK2
    case h_2 => exact hK2.elim
    rename_i hj2
    have hj2 := loopAt_some hj2
    have hk2 : κ2 ra.d.j = some (.func (.yield l) #[] #[]) := hf2.st.k0 _ _ r1
    obtain ⟨r2, m1, m2, m3⟩ := hf2.loop hj2 hk2
    rw [setF_eq] at hK2
    obtain ⟨hf3, _⟩ := m3 .busy { r2 with state := .busy } rfl rfl
    refine ⟨_, run_beginRound m1 m2.1, ?_⟩
    refine (hR ra hra).2 (some l) n ⟨w, κ, fun b => ∃ i, D i b, Im, t1, fun _ => true, c.m0, c.R⟩ T2 _ κ2 Im2 _ _ _ _ (fun h => by cases h) hc (wrIn_true _) hf3 hK2 ?_
    intro e T4 H4 κ4 Im4 a4 w4 hK4 hf4
    split at hK4
    case h_2 => exact hK4.elim
    rename_i hj4
    have hj4 := loopAt_some hj4
    have hk4 : κ4 ra.d.j = some (.func (.yield l) #[] #[]) := hf4.st.k0 _ _ r1
    obtain ⟨r4, q1, q2, q3⟩ := hf4.loop hj4 hk4
    cases e with
    | n =>
      simp only [setF_eq] at hK4
      obtain ⟨hf5, _⟩ := q3 .ready { r4 with state := .ready, pending := none } rfl ⟨rfl, rfl⟩
      obtain ⟨s1, s2⟩ := hf.st.outer hD hf5.st
      exact ⟨_, _, run_endRound none q1, hk _ _ _ _ _ _ hK4 s2 s1 (by simp [AV.rel])⟩
    | r =>
      simp only [setF_eq] at hK4
      obtain ⟨hf5, _⟩ := q3 .ret { r4 with state := .done, pending := some .ret } rfl ⟨rfl, rfl⟩
      obtain ⟨s1, s2⟩ := hf.st.outer hD hf5.st
      exact ⟨_, _, run_endRound (some .ret) q1, hk _ _ _ _ _ _ hK4 s2 s1 (by simp [AV.rel])⟩
    | x i =>
      simp only [setF_eq] at hK4
      obtain ⟨hf5, _⟩ := q3 (.exit i) { r4 with state := .done, pending := some (.exit i) } rfl ⟨rfl, rfl⟩
      obtain ⟨s1, s2⟩ := hf.st.outer hD hf5.st
      exact ⟨_, _, run_endRound (some (.exit i)) q1, hk _ _ _ _ _ _ hK4 s2 s1 (by simp [AV.rel])⟩
  exact ⟨l, _, _, rfl, hrun, key none, key⟩
end

theorem St.garbIm {c κ Im Im' w w' H} (h : St c κ Im w H) (ht : Turn none w w') (h1 : ∀ b, Im b → Im' b) (h2 : ∀ b, Im' b → b < w'.heap.size ∧ (Im b ∨ w.heap.size ≤ b)) : St c κ Im' w' H ∧ Le κ κ Im Im' w w' := by
  have hb : ∀ b, b < w.heap.size → w'.heap[b]? = w.heap[b]? := fun b hb => ht.block b hb (by simp)
  have hle : Le κ κ Im Im' w w' := ⟨fun _ _ e => e, h1, fun b h' => hb b (h.im b h').1, ht.output.2.2⟩
  obtain ⟨⟨D, d1, d2, d3⟩, hfresh, him, hkeep, hframe, hsize, hk0, hos, htape, hout⟩ := h
  have hs := ht.size
  refine ⟨⟨⟨D, fun i o ho => AObj.holds_mono hle (fun b hd => hb b (d2 i b hd).2.1) o (d1 i o ho), fun i b hd => ?_, d3⟩, hfresh, fun b hI => ⟨(h2 b hI).1, ?_⟩, fun b hc => h1 b (hkeep b hc),
    fun b hlt hM => (hb b (by omega)).trans (hframe b hlt hM), by omega, hk0, ht.os.trans hos, ht.tape.trans htape, ht.output.trans hout⟩, hle⟩
  · obtain ⟨a1, a2, a3, a4⟩ := d2 i b hd
    exact ⟨a1, by omega, fun hI => (h2 b hI).2.elim a3 (fun h => by omega), a4⟩
  · rcases (h2 b hI).2 with h' | h'
    · exact (him b h').2
    · exact .inr (.inr (by omega))


def startT : Nat → List AV → List AV
  | n, [] => List.replicate n (.v undef)
  | 0, a :: l => a :: l
  | n + 1, a :: l => a :: startT n l
theorem startT_eq : ∀ (n : Nat) (l : List AV), startT n l = l ++ List.replicate (n - l.length) (.v undef)
  | n, [] => by simp [startT]
  | 0, a :: l => by simp [startT]
  | n + 1, a :: l => by simp [startT, startT_eq n l]
end Go.X

/- A function's walk, from its first operation to its end: the marks of ranges over functions are taken off. -/
namespace Go.X
open Go

section
variable {κ : Kap} {Im Im' : Nat → Prop} {w w' : World}
mutual
theorem AV.rel_cells (h : ∀ b arr T fz, Im b → w.heap[b]? = some (.cells arr T fz) → Im' b ∧ w'.heap[b]? = some (.cells arr T fz)) : ∀ (a : AV) (y : Value), AV.rel κ Im w a y → AV.rel κ Im' w' a y
  | .v _, _, e => by simpa only [AV.rel] using e
  | .any, _, _ => by simp only [AV.rel]
  | .gd _ _ _ a, y, e => by
    simp only [AV.rel] at e ⊢
    exact ⟨fun ht => AV.rel_cells h a y (e.1 ht), e.2⟩
  | .ptr _ _, _, e => by simpa only [AV.rel] using e
  | .agg l, _, e => by
    simp only [AV.rel] at e ⊢
    obtain ⟨ys, h1, h2⟩ := e
    exact ⟨ys, h1, AV.rels_cells h l _ h2⟩
  | .tup l, _, e => by
    simp only [AV.rel] at e ⊢
    obtain ⟨ys, h1, h2⟩ := e
    exact ⟨ys, h1, AV.rels_cells h l _ h2⟩
  | .fn _ caps, _, e => by
    simp only [AV.rel] at e ⊢
    obtain ⟨ys, h1, h2⟩ := e
    exact ⟨ys, h1, AV.rels_cells h caps _ h2⟩
  | .rs c xs, _, e => by
    simp only [AV.rel] at e ⊢
    obtain ⟨a, cap, h1, h0, h2⟩ := e
    refine ⟨a, cap, h1, h0, fun hx => ?_⟩
    obtain ⟨b, o, h3, h4, arr, T, fz, h5, h6⟩ := h2 hx
    obtain ⟨h7, h8⟩ := h b arr T fz h4 h5
    exact ⟨b, o, h3, h7, arr, T, fz, h8, fun i hi => AV.rels_cells h (c.enc xs[i]) _ (h6 i hi)⟩
  | .ep c xs n off, _, e => by
    simp only [AV.rel] at e ⊢
    obtain ⟨h0, b, o, h3, h4, arr, T, fz, h5, h6⟩ := e
    obtain ⟨h7, h8⟩ := h b arr T fz h4 h5
    exact ⟨h0, b, o, h3, h7, arr, T, fz, h8, fun i hi => AV.rels_cells h (c.enc xs[i]) _ (h6 i hi)⟩
  | .hd _, _, e => by simpa only [AV.rel] using e
  | .vw _ _ _ _, _, e => by simpa only [AV.rel] using e
  | .rp _ _ _ _, _, e => by simpa only [AV.rel] using e
termination_by a => a.ms
decreasing_by all_goals (simp only [AV.ms]; first | omega | (have := TC.enc_ms _ xs[i]; omega))
theorem AV.rels_cells (h : ∀ b arr T fz, Im b → w.heap[b]? = some (.cells arr T fz) → Im' b ∧ w'.heap[b]? = some (.cells arr T fz)) : ∀ (l : List AV) (ys : List Value), AV.rels κ Im w l ys → AV.rels κ Im' w' l ys
  | [], _, e => by simpa only [AV.rels] using e
  | a :: l, _, e => by
    simp only [AV.rels] at e ⊢
    obtain ⟨y, r, h1, h2, h3⟩ := e
    exact ⟨y, r, h1, AV.rel_cells h a y h2, AV.rels_cells h l r h3⟩
termination_by l => AV.mss l
decreasing_by all_goals (simp only [AV.mss]; have h1 := AV.ms_pos a; have h2 := AV.mss_pos l; omega)
end

theorem ents_cells {ck cv : TC} (h : ∀ b arr T fz, Im b → w.heap[b]? = some (.cells arr T fz) → Im' b ∧ w'.heap[b]? = some (.cells arr T fz)) : ∀ (m : List (ck.den × cv.den)) (es : List MapEntry), entsRel κ Im w ck cv m es → entsRel κ Im' w' ck cv m es
  | [], [], e => e
  | [], _ :: _, e => e.elim
  | _ :: _, [], e => e.elim
  | _ :: m, _ :: es, e => ⟨AV.rel_cells h _ _ e.1, AV.rel_cells h _ _ e.2.1, ents_cells h m es e.2.2⟩

theorem seen_cells {ck : TC} {es : List MapEntry} (h : ∀ b arr T fz, Im b → w.heap[b]? = some (.cells arr T fz) → Im' b ∧ w'.heap[b]? = some (.cells arr T fz)) : ∀ (ks : List ck.den) (ns : List Nat), seenRel κ Im w ck es ks ns → seenRel κ Im' w' ck es ks ns
  | [], [], e => e
  | [], _ :: _, e => e.elim
  | _ :: _, [], e => e.elim
  | _ :: ks, _ :: ns, e => ⟨let ⟨x, h1, h2, h3⟩ := e.1; ⟨x, h1, h2, AV.rel_cells h _ _ h3⟩, seen_cells h ks ns e.2⟩

theorem AObj.holds_cells {v : Option Value} {D : Nat → Prop} (h : ∀ b arr T fz, Im b → w.heap[b]? = some (.cells arr T fz) → Im' b ∧ w'.heap[b]? = some (.cells arr T fz)) (hd : ∀ b, D b → w'.heap[b]? = w.heap[b]?) :
    ∀ o : AObj, o.holds κ Im w v D → o.holds κ Im' w' v D
  | .free, e => e
  | .dead, e => e
  | .cells cs E, e => by
    obtain ⟨b, arr, h1, h2, h3, h4⟩ := e
    exact ⟨b, arr, h1, (hd b ((h4 b).2 rfl)).trans h2, AV.rels_cells h _ _ h3, h4⟩
  | .row E c xs, e => by
    obtain ⟨a, cap, h1, h2⟩ := e
    refine ⟨a, cap, h1, ?_⟩
    rcases h2 with h2 | ⟨g, arr, h3, h4, h5, h6, h6', h7, h8⟩
    · exact .inl h2
    · exact .inr ⟨g, arr, h3, (hd g ((h8 g).2 rfl)).trans h4, h5, h6, h6', fun i hi => AV.rels_cells h _ _ (h7 i hi), h8⟩
  | .map ck cv m, e => by
    obtain ⟨b, es, clock, h1, h2, ⟨m', h3, h3'⟩, h4, h5, h6, h7⟩ := e
    exact ⟨b, es, clock, h1, (hd b ((h7 b).2 rfl)).trans h2, ⟨m', h3, ents_cells h _ _ h3'⟩, h4, h5, h6, h7⟩
  | .lent, e => e
  | .rng i ck cv m seen cur, e => by
    obtain ⟨r, b, es, clock, sb, h1, h2, h3, h3', ⟨m', h4, h4'⟩, h5, h6, h7, h8, h9⟩ := e
    exact ⟨r, b, es, clock, sb, h1, h2, (hd b ((h9 b).2 (.inl rfl))).trans h3, (hd r ((h9 r).2 (.inr rfl))).trans h3', ⟨m', h4, ents_cells h _ _ h4'⟩, h5, h6, h7, seen_cells h _ _ h8, h9⟩
  | .loop st, e => by
    obtain ⟨l, r, h1, h2, h3, h4⟩ := e
    exact ⟨l, r, h1, (hd l ((h4 l).2 rfl)).trans h2, h3, h4⟩
end

theorem run_take {P : Program} {w : World} {b : Nat} (h : w.heap[b]? = some (.deferred (some []))) : (Instr.takeDeferred b).run P w = .ok [] (putB w b (.deferred none)) := run_takeDeferred h

section
variable {P : Program} {c : Ctx} {κ : Kap}

/-- One mark's block is shut: it stays no more as it is. -/
theorem St.shut {Im : Nat → Prop} {w : World} {H : List AObj} (h : St c κ Im w H) (hc : ∀ b, c.Im b → b < c.w.heap.size) {b : Nat} (hb : Im b) (hn : c.w.heap.size ≤ b) (hd : w.heap[b]? = some (.deferred (some []))) :
    St c κ (fun x => Im x ∧ x ≠ b) (putB w b (.deferred none)) H ∧ (∀ (l : List AV) ys, AV.rels κ Im w l ys → AV.rels κ (fun x => Im x ∧ x ≠ b) (putB w b (.deferred none)) l ys) ∧
      ∀ x, x ≠ b → (putB w b (.deferred none)).heap[x]? = w.heap[x]? := by
  have hlt := (Array.getElem?_eq_some_iff.1 hd).1
  obtain ⟨t1, _⟩ := putB_turn (w := w) hlt (by rw [hd]; rfl) (.deferred none)
  have hsame : ∀ x, x ≠ b → (putB w b (.deferred none)).heap[x]? = w.heap[x]? := fun x hx => by simp [putB, Array.getElem?_setIfInBounds, Ne.symm hx]
  have hcell : ∀ x arr T fz, Im x → w.heap[x]? = some (.cells arr T fz) → (Im x ∧ x ≠ b) ∧ (putB w b (.deferred none)).heap[x]? = some (.cells arr T fz) := fun x arr T fz hx he => by
    have hne : x ≠ b := fun e => by subst e; rw [hd] at he; cases he
    exact ⟨⟨hx, hne⟩, (hsame x hne).trans he⟩
  obtain ⟨⟨D, d1, d2, d3⟩, hfresh, him, hkeep, hframe, hsize, hk0, hos, htape, hout⟩ := h
  refine ⟨⟨⟨D, fun i o ho => AObj.holds_cells hcell (fun x hx => hsame x fun e => (d2 i x hx).2.2.1 (e ▸ hb)) o (d1 i o ho), fun i x hx => ?_, d3⟩, hfresh, fun x hx => ?_, fun x hx => ⟨hkeep x hx, fun e => ?_⟩, fun x hx hM => ?_, ?_, hk0, ?_, ?_, ?_⟩, fun l ys hr => AV.rels_cells hcell l ys hr, hsame⟩
  · obtain ⟨a1, a2, a3, a4⟩ := d2 i x hx
    exact ⟨a1, by have := t1.size; omega, fun hx => a3 hx.1, a4⟩
  · have := him x hx.1
    exact ⟨by have := t1.size; omega, this.2⟩
  · have := hc x hx; omega
  · exact (hsame x (by omega)).trans (hframe x hx hM)
  · have := t1.size; omega
  · exact hos
  · exact htape
  · exact t1.output.trans hout

theorem leaves_marks {fn : Func} {tmps : Array Value} {R : Ending → World → Prop} {n : Nat} {H : List AObj} {T : List AV} (hc : ∀ b, c.Im b → b < c.w.heap.size)
    (hend : ∀ (Im : Nat → Prop) (w : World), St c κ Im w H → AV.rels κ Im w T tmps.toList → ∃ v, (results fn tmps).run P w = .ok v w ∧ R (.returned v) w) :
    ∀ (L : List Nat) (Im : Nat → Prop) (w : World), St c κ Im w H → AV.rels κ Im w T tmps.toList → L.Nodup → (∀ b ∈ L, Im b ∧ c.w.heap.size ≤ b ∧ w.heap[b]? = some (.deferred (some []))) →
      LeavesInM (FR none) n P fn tmps R (L.map markOf) .returning w
  | [], Im, w, hst, hT, _, _ => by
    simp only [List.map_nil, LeavesInM, LeavesIn]
    exact hend Im w hst hT
  | b :: L, Im, w, hst, hT, hn, hL => by
    obtain ⟨h1, h2, h3⟩ := hL b (by simp)
    rw [List.nodup_cons] at hn
    obtain ⟨s1, s2, s3⟩ := hst.shut hc h1 h2 h3
    simp only [List.map_cons, LeavesInM]
    refine ⟨by simp, .inl ⟨b, _, rfl, run_take h3, ?_⟩⟩
    refine leaves_marks hc hend L _ _ s1 (s2 _ _ hT) hn.2 fun x hx => ?_
    have hne : x ≠ b := fun e => hn.1 (e ▸ hx)
    obtain ⟨q1, q2, q3⟩ := hL x (by simp [hx])
    exact ⟨⟨q1, hne⟩, q2, (s3 x hne).trans q3⟩

end
end Go.X

