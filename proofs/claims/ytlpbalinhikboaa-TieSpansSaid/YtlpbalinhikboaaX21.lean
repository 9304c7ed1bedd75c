/- A region that draws its order: the walk in the written order serves, where what is not ordered does not meet. -/
import Derived.Test.YtlpbalinhikboaaX20
namespace Go.X
open Go

theorem updH_set_comm : ∀ (u : List (Nat × AObj)) (H : List AObj) (i : Nat) (o : AObj), i ∉ u.map (·.1) → updH (H.set i o) u = (updH H u).set i o
  | [], _, _, _, _ => rfl
  | (j, p) :: u, H, i, o, h => by
    simp only [List.map_cons, List.mem_cons, not_or] at h
    show updH ((H.set i o).set j p) u = _
    rw [List.set_comm _ _ h.1, updH_set_comm u _ i o h.2]
    rfl

theorem updH_comm : ∀ (u v : List (Nat × AObj)) (H : List AObj), (∀ i ∈ u.map (·.1), i ∉ v.map (·.1)) → updH (updH H u) v = updH (updH H v) u
  | [], v, H, _ => rfl
  | (i, o) :: u, v, H, h => by
    show updH (updH (H.set i o) u) v = updH ((updH H v).set i o) u
    rw [updH_comm u v _ fun j hj => h j (by simp [hj]), updH_set_comm v H i o (h i (by simp))]

theorem updH_get : ∀ (u : List (Nat × AObj)) (H : List AObj) (i : Nat), i ∉ u.map (·.1) → (updH H u)[i]? = H[i]?
  | [], _, _, _ => rfl
  | (j, p) :: u, H, i, h => by
    simp only [List.map_cons, List.mem_cons, not_or] at h
    show (updH (H.set j p) u)[i]? = _
    rw [updH_get u _ i h.2, List.getElem?_set_ne (fun e => h.1 e.symm)]

theorem putT_comm (T : List AV) {x y : Option Nat} (r s : AV) (h : ∀ d, x = some d → y ≠ some d) : putT (putT T x r) y s = putT (putT T y s) x r := by
  cases x with
  | none => rfl
  | some d => cases y with
    | none => rfl
    | some e =>
      have hne : d ≠ e := fun he => h d rfl (he ▸ rfl)
      exact List.set_comm _ _ hne

/-- What an operation looked at, and what it turned. -/
abbrev FP := List Nat × List Nat
def meets (l m : List Nat) : Bool := l.any fun i => m.any fun j => Nat.beq i j
def disj (x y : FP) : Bool := !(meets x.2 y.1 || meets x.2 y.2 || meets y.2 x.1)

theorem meets_spec {l m : List Nat} (h : meets l m = false) : ∀ i ∈ l, i ∉ m := by
  intro i hi hm
  simp only [meets, List.any_eq_false] at h
  have := h i hi
  simp only [Bool.not_eq_true, List.any_eq_false] at this
  have h3 := this i hm
  simp at h3
theorem disj_spec {x y : FP} (h : disj x y = true) : (∀ i ∈ x.2, i ∉ y.1) ∧ (∀ i ∈ x.2, i ∉ y.2) ∧ (∀ i ∈ y.2, i ∉ x.1) := by
  simp only [disj, Bool.not_eq_true', Bool.or_eq_false_iff] at h
  exact ⟨meets_spec h.1.1, meets_spec h.1.2, meets_spec h.2⟩

section
variable (E : Env) (ops : Array Oper) (ids : Nat → Nat) (F : Nat → FP)

def AnyD (K : List AV → List AObj → Prop) : Nat → Array Bool → List AV → List AObj → Prop
  | 0, listed, T, H => Region.ready .any ops listed = [] ∧ K T H
  | fuel + 1, listed, T, H => (Region.ready .any ops listed = [] → K T H) ∧ ∀ i ∈ Region.ready .any ops listed, ∃ o q r u, ops[i]? = some o ∧
      dStep E ops o (ids i) T H = some (q, r, u) ∧ q ∧ F i = (dRd E o (ids i) T, u.map (·.1)) ∧ AnyD K fuel (listed.setIfInBounds i true) (putT T o.dst r) (updH H u)

/-- i comes before j, by a chain of orders. -/
inductive Behind (i : Nat) : Nat → Prop
  | base {j : Nat} {o : Oper} {e : _root_.Go.Edge} : ops[j]? = some o → e ∈ o.after → Region.binds .any e = true → e.on = i → Behind i j
  | step {j : Nat} {o : Oper} {e : _root_.Go.Edge} : ops[j]? = some o → e ∈ o.after → Region.binds .any e = true → Behind i e.on → Behind i j

def Closed (listed : Array Bool) : Prop := ∀ (j : Nat) o, ops[j]? = some o → listed.getD j true = true → ∀ e ∈ o.after, Region.binds .any e = true → listed.getD e.on false = true

variable {E ops ids F} {K : List AV → List AObj → Prop}

theorem getD_true {l : Array Bool} {j : Nat} (h : l.getD j false = true) : l.getD j true = true ∧ j < l.size := by
  rcases Nat.lt_or_ge j l.size with h' | h'
  · simp [h'] at h ⊢; exact h
  · simp [Array.getElem?_eq_none h'] at h

theorem behind_false {listed : Array Bool} (hc : Closed ops listed) {i : Nat} (hi : listed.getD i true = false) {j : Nat} (hb : Behind ops i j) :
    (∀ o, ops[j]? = some o → ∀ e ∈ o.after, Region.binds .any e = true → listed.getD e.on false = true) → False := by
  induction hb with
  | base ho he hb heq =>
    intro h
    have hl := getD_true (h _ ho _ he hb)
    rw [heq, hi] at hl; cases hl.1
  | step ho he hb _ ih =>
    intro h
    exact ih fun o' ho' => hc _ o' ho' (getD_true (h _ ho _ he hb)).1

theorem Closed.add {listed : Array Bool} (hc : Closed ops listed) {j : Nat} (hj : j ∈ Region.ready .any ops listed) : Closed ops (listed.setIfInBounds j true) := by
  intro k o ho hk e he hb
  by_cases hkj : k = j
  · subst hkj
    obtain ⟨_, o', ho', hall⟩ := mem_ready.1 hj
    rw [ho] at ho'
    cases ho'
    exact getD_set_true (hall e he hb)
  · rw [getD_set_ne true (Ne.symm hkj)] at hk
    exact getD_set_true (hc k o ho hk e he hb)

theorem AnyD_first (hE : ∀ f s, E.C f = some s → ∀ args id o o', localOn (s.rd args) o o' → s.eff args id o = s.eff args id o') {i : Nat} {oi : Oper} {q : Prop} {r : AV} {u : List (Nat × AObj)}
    (hi : ops[i]? = some oi) (hq : q) : ∀ (fuel : Nat) (listed : Array Bool) (T : List AV) (H : List AObj), Closed ops listed →
      (∀ j oj, ops[j]? = some oj → j ≠ i → listed.getD j true = false → Behind ops i j ∨ (oi.apart ops oj = true ∧ disj (F i) (F j) = true)) →
      i ∈ Region.ready .any ops listed → dStep E ops oi (ids i) T H = some (q, r, u) → F i = (dRd E oi (ids i) T, u.map (·.1)) →
      AnyD E ops ids F K fuel (listed.setIfInBounds i true) (putT T oi.dst r) (updH H u) → AnyD E ops ids F K (fuel + 1) listed T H := by
  intro fuel
  induction fuel with
  | zero =>
    intro listed T H _ _ hr hs hF h
    refine ⟨fun h => (by rw [h] at hr; cases hr), fun j hj => ?_⟩
    by_cases hji : j = i
    · subst hji; exact ⟨oi, q, r, u, hi, hs, hq, hF, h⟩
    · have := ready_mono hj hji
      rw [h.1] at this
      cases this
  | succ fuel ih =>
    intro listed T H hc hfree hr hs hF h
    refine ⟨fun h => (by rw [h] at hr; cases hr), fun j hj => ?_⟩
    by_cases hji : j = i
    · subst hji; exact ⟨oi, q, r, u, hi, hs, hq, hF, h⟩
    · obtain ⟨oj, qj, rj, uj, hoj, hsj, hqj, hFj, hrest⟩ := h.2 j (ready_mono hj hji)
      obtain ⟨hjun, oj', hoj', hall⟩ := mem_ready.1 hj
      rw [hoj] at hoj'; cases hoj'
      have hun := (mem_ready.1 hr).1
      have hnb : ¬ Behind ops i j := fun hb => behind_false hc hun hb fun o ho => by rw [hoj] at ho; cases ho; exact hall
      obtain ⟨hap, hdj⟩ := (hfree j oj hoj hji hjun).resolve_left hnb
      obtain ⟨a1, a2, a3⟩ := Oper.apart_spec hap
      obtain ⟨d1, d2, d3⟩ := disj_spec hdj
      rw [hF, hFj] at d1 d2 d3
      simp only at d1 d2 d3
      have hput := dStep_put (E := E) (ops := ops) (o := oj) (id := ids j) (T := T) (H := updH H u) (dst := oi.dst) (r := r) a1
      rw [hput.2] at d1 hFj
      rw [hput.1, dStep_upd hE fun k hk => updH_get u H k fun hku => d1 k hku hk] at hsj
      refine ⟨oj, qj, rj, uj, hoj, hsj, hqj, hFj, ?_⟩
      have hput' := dStep_put (E := E) (ops := ops) (o := oi) (id := ids i) (T := T) (H := updH H uj) (dst := oj.dst) (r := rj) a3
      refine ih (listed.setIfInBounds j true) (putT T oj.dst rj) (updH H uj) (hc.add hj) ?_ (ready_mono hr (Ne.symm hji)) ?_ ?_ ?_
      · intro k ok hk hki hkun
        refine hfree k ok hk hki ?_
        by_cases hjk : j = k
        · subst hjk; exact hjun
        · rw [getD_set_ne true hjk] at hkun; exact hkun
      · rw [hput'.1, dStep_upd hE fun k hk => updH_get uj H k fun hku => d3 k hku hk]; exact hs
      · rw [hput'.2]; exact hF
      · rw [Array.setIfInBounds_comm _ _ hji, ← putT_comm T r rj a2, ← updH_comm u uj H d2]
        exact hrest

/-! ### The walk in the written order -/
def hasBit (m i : Nat) : Bool := Nat.beq (Nat.land 1 (Nat.shiftRight m i)) 1
def maskOf (M : List Nat) : List _root_.Go.Edge → Nat
  | [] => 0
  | e :: l => match Region.binds .any e with
    | true => Nat.lor (Nat.lor (Nat.shiftLeft 1 e.on) (M.getD e.on 0)) (maskOf M l)
    | false => maskOf M l
def pairOK (ops : Array Oper) (m i j : Nat) (x y : FP) : Bool := hasBit m i || (disj x y && match ops[i]?, ops[j]? with | some oi, some oj => oi.apart ops oj | _, _ => false)
def rowOK (ops : Array Oper) (M : List Nat) (i : Nat) (x : FP) : Nat → List FP → Bool
  | _, [] => true
  | j, y :: l => pairOK ops (M.getD j 0) i j x y && rowOK ops M i x (j + 1) l
def pairsOK (ops : Array Oper) (M : List Nat) : Nat → List FP → Bool
  | _, [] => true
  | i, x :: l => rowOK ops M i x (i + 1) l && pairsOK ops M (i + 1) l
def afterOK (i : Nat) : List Oper → Bool
  | [] => true
  | o :: l => o.after.all (fun e => !Region.binds .any e || Nat.blt e.on i) && afterOK (i + 1) l

theorem hasBit_eq (m i : Nat) : hasBit m i = m.testBit i := by
  unfold hasBit Nat.testBit
  show Nat.beq (1 &&& (m >>> i)) 1 = (1 &&& (m >>> i) != 0)
  have h1 : 1 &&& (m >>> i) = (m >>> i) % 2 := by rw [Nat.and_comm]; exact Nat.and_one_is_mod _
  have : (m >>> i) % 2 = 0 ∨ (m >>> i) % 2 = 1 := by omega
  rcases this with h | h <;> rw [h1, h] <;> rfl

theorem maskOf_spec {M : List Nat} {i : Nat} : ∀ (l : List _root_.Go.Edge), (maskOf M l).testBit i = true → ∃ e ∈ l, Region.binds .any e = true ∧ (e.on = i ∨ (M.getD e.on 0).testBit i = true)
  | [], h => by simp [maskOf] at h
  | e :: l, h => by
    unfold maskOf at h
    split at h
    · rename_i hb
      rw [show ∀ a b : Nat, Nat.lor a b = a ||| b from fun _ _ => rfl, show ∀ a b : Nat, Nat.lor a b = a ||| b from fun _ _ => rfl, Nat.testBit_or, Nat.testBit_or, Bool.or_eq_true, Bool.or_eq_true] at h
      rcases h with (h | h) | h
      · have h' : (2 ^ e.on).testBit i = true := by rw [← Nat.one_shiftLeft]; exact h
        rw [Nat.testBit_two_pow] at h'
        exact ⟨e, by simp, hb, .inl (by simpa using h')⟩
      · exact ⟨e, by simp, hb, .inr h⟩
      · obtain ⟨e', h1, h2⟩ := maskOf_spec l h
        exact ⟨e', by simp [h1], h2⟩
    · obtain ⟨e', h1, h2⟩ := maskOf_spec l h
      exact ⟨e', by simp [h1], h2⟩

theorem rowOK_spec {M : List Nat} {i : Nat} {x : FP} : ∀ (l : List FP) (j : Nat), rowOK ops M i x j l = true → ∀ k y, l[k]? = some y → pairOK ops (M.getD (j + k) 0) i (j + k) x y = true
  | [], _, _, k, y, h => by simp at h
  | z :: l, j, h, k, y, hk => by
    simp only [rowOK, Bool.and_eq_true] at h
    cases k with
    | zero => cases hk; exact h.1
    | succ k => have := rowOK_spec l (j + 1) h.2 k y (by simpa using hk); rw [show j + (k + 1) = j + 1 + k from by omega]; exact this

theorem afterOK_spec : ∀ (l : List Oper) (i : Nat), afterOK i l = true → ∀ k o, l[k]? = some o → ∀ e ∈ o.after, Region.binds .any e = true → e.on < i + k
  | [], _, _, k, o, h => by simp at h
  | p :: l, i, h, k, o, hk => by
    simp only [afterOK, Bool.and_eq_true, Array.all_eq_true_iff_forall_mem, Bool.or_eq_true, Bool.not_eq_true', Nat.blt_eq] at h
    cases k with
    | zero => cases hk; intro e he hb; have := h.1 e he; rw [hb] at this; simpa using this
    | succ k => intro e he hb; have := afterOK_spec l (i + 1) h.2 k o (by simpa using hk) e he hb; omega

def forceNs : List Nat → (List Nat → Prop) → Prop
  | [], k => k []
  | n :: l, k => forceN n fun n => forceNs l fun l => k (n :: l)
theorem forceNs_eq : ∀ (l : List Nat) (k : List Nat → Prop), forceNs l k = k l
  | [], k => rfl
  | n :: l, k => by simp only [forceNs, forceN_eq, forceNs_eq l]

/-- One operation, as the walk sees it. -/
def dPart (E : Env) (ops : Array Oper) (o : Oper) (id : Nat) (T : List AV) (H : List AObj) : Option (Bool × Option Prop × AV × List (Nat × AObj)) :=
  match freeAt (H[·]?) id (newOp E o.op) with
  | false => none
  | true => match guardOf ops T o with
    | .bad => none
    | .none => match effOp E o.op (dVs T o.op) id (H.getD · .dead) with
      | .ok r u => some (true, none, r, u)
      | .req q r u => some (true, some q, r, u)
      | _ => none
    | .cond t => match effOp E o.op (dVs T o.op) id (H.getD · .dead) with
      | .ok r [] => some (t, none, .gd 0 true t r, [])
      | .req q r [] => some (t, some (t = true → q), .gd 0 true t r, [])
      | _ => none

def okOpt : Option Prop → Prop → Prop
  | none, k => k
  | some q, k => Ok q ∧ k
def gdOp (t : Bool) (T : List AV) (op : Op) (k : Prop) : Prop := gdAnd t (pq op (evs T op)) k

theorem dPart_spec {E : Env} {ops : Array Oper} {o : Oper} {id : Nat} {T : List AV} {H : List AObj} {t : Bool} {q : Option Prop} {r : AV} {u : List (Nat × AObj)} {k : Prop}
    (h : dPart E ops o id T H = some (t, q, r, u)) (hk : gdOp t T o.op (okOpt q k)) : ∃ q', dStep E ops o id T H = some (q', r, u) ∧ q' ∧ k := by
  have hk' : dQ t T o.op ∧ okOpt q k := (gdAnd_iff _ _ _).1 hk
  obtain ⟨h1, h2⟩ := hk'
  unfold dPart at h
  unfold dStep
  cases hfr : freeAt (H[·]?) id (newOp E o.op) with
  | false => rw [hfr] at h; cases h
  | true =>
    rw [hfr] at h
    cases hg : guardOf ops T o with
    | bad => rw [hg] at h; cases h
    | none =>
      rw [hg] at h
      simp only at h ⊢
      generalize effOp E o.op (dVs T o.op) id (H.getD · .dead) = e at *
      cases e with
      | ok r u => cases h; exact ⟨_, rfl, ⟨h1, trivial⟩, h2⟩
      | req q r u => cases h; exact ⟨_, rfl, ⟨h1, h2.1.out⟩, h2.2⟩
      | _ => cases h
    | cond t' =>
      rw [hg] at h
      simp only at h ⊢
      generalize effOp E o.op (dVs T o.op) id (H.getD · .dead) = e at *
      unfold dPure
      split at h
      · cases h; exact ⟨_, rfl, h1, h2⟩
      · cases h; exact ⟨_, rfl, ⟨h1, h2.1.out⟩, h2.2⟩
      · cases h

/-- The walk, with what each looked at and turned. -/
def xD (E : Env) (ops : Array Oper) : List Oper → Nat → List Nat → List FP → List AV → List AObj → (List AV → List AObj → Prop) → Prop
  | [], _, M, F, T, H, K => match pairsOK ops M 0 F.reverse with | true => K T H | false => False
  | o :: l, id, M, F, T, H, K => match dPart E ops o id T H with
    | none => False
    | some (t, q, r, u) => gdOp t T o.op (okOpt q (forceNs (dRd E o id T) fun rd => forceNs (u.map (·.1)) fun wr => forceN (id + newOp E o.op) fun id' => forceN (maskOf M o.after.toList) fun m => forceNs (M ++ [m]) fun M' =>
        putF T o.dst r fun T' => updF (id + newOp E o.op) H u fun H' => xD E ops l id' M' ((rd, wr) :: F) T' H' K))

def idAt (E : Env) (base : Nat) (l : List Oper) (j : Nat) : Nat := base + ((l.take j).map fun o => newOp E o.op).sum

theorem pairsOK_spec {M : List Nat} : ∀ (l : List FP) (i : Nat), pairsOK ops M i l = true → ∀ k j x y, l[k]? = some x → l[j]? = some y → k < j → pairOK ops (M.getD (i + j) 0) (i + k) (i + j) x y = true
  | [], _, _, k, _, _, _, h, _, _ => by simp at h
  | z :: l, i, h, k, j, x, y, hk, hj, hlt => by
    simp only [pairsOK, Bool.and_eq_true] at h
    cases j with
    | zero => omega
    | succ j => cases k with
      | zero => cases hk; have := rowOK_spec l (i + 1) h.1 j y (by simpa using hj); rw [show i + (j + 1) = i + 1 + j from by omega]; exact this
      | succ k =>
        have := pairsOK_spec l (i + 1) h.2 k j x y (by simpa using hk) (by simpa using hj) (by omega)
        rw [show i + (k + 1) = i + 1 + k from by omega, show i + (j + 1) = i + 1 + j from by omega]; exact this

/-- What the masks say. -/
def MaskOk (ops : Array Oper) (M : List Nat) : Prop := ∀ j i, (M.getD j 0).testBit i = true → Behind ops i j

theorem MaskOk.add {M : List Nat} (h : MaskOk ops M) {o : Oper} (ho : ops[M.length]? = some o) : MaskOk ops (M ++ [maskOf M o.after.toList]) := by
  intro j i hb
  by_cases hj : j < M.length
  · refine h j i ?_
    rw [List.getD, List.getElem?_append_left hj] at hb
    exact hb
  · by_cases he : j = M.length
    · subst he
      rw [List.getD, List.getElem?_append_right (Nat.le_refl _)] at hb
      simp only [Nat.sub_self, List.getElem?_cons_zero, Option.getD_some] at hb
      obtain ⟨e, h1, h2, h3⟩ := maskOf_spec _ hb
      rcases h3 with h3 | h3
      · exact .base ho (by simpa using h1) h2 h3
      · exact .step ho (by simpa using h1) h2 (h _ _ h3)
    · rw [List.getD, List.getElem?_eq_none (by simp; omega)] at hb
      simp at hb

def upTo (ops : Array Oper) (k : Nat) (listed : Array Bool) : Prop := listed.size = ops.size ∧ ∀ j, j < ops.size → listed[j]? = some (decide (j < k))

theorem upTo.getD {k : Nat} {listed : Array Bool} (h : upTo ops k listed) {j : Nat} (hj : j < ops.size) (d : Bool) : listed.getD j d = decide (j < k) := by
  have := h.2 j hj
  rw [Array.getD_eq_getD_getElem?, this]; rfl

theorem upTo.add {k : Nat} {listed : Array Bool} (h : upTo ops k listed) : upTo ops (k + 1) (listed.setIfInBounds k true) := by
  refine ⟨by simpa using h.1, fun j hj => ?_⟩
  by_cases e : k = j
  · subst e
    rw [Array.getElem?_setIfInBounds_self_of_lt (by rw [h.1]; exact hj)]
    simp
  · rw [Array.getElem?_setIfInBounds_ne e, h.2 j hj]
    have : (j < k) ↔ (j < k + 1) := by omega
    simp only [this]

theorem xD_any (hE : ∀ f s, E.C f = some s → ∀ args id o o', localOn (s.rd args) o o' → s.eff args id o = s.eff args id o') {base : Nat} (hafter : afterOK 0 ops.toList = true) :
    ∀ (l : List Oper) (k : Nat) (M : List Nat) (Fr : List FP) (T : List AV) (H : List AObj) (listed : Array Bool), (∀ j, l[j]? = ops[k + j]?) → k + l.length = ops.size → Fr.length = k → M.length = k → MaskOk ops M → upTo ops k listed →
      xD E ops l (idAt E base ops.toList k) M Fr T H K → ∃ (Fs : List FP) (M' : List Nat), Fs.length = ops.size ∧ Fs.take k = Fr.reverse ∧ MaskOk ops M' ∧ pairsOK ops M' 0 Fs = true ∧
        AnyD E ops (idAt E base ops.toList) (fun i => Fs.getD i ([], [])) K l.length listed T H
  | [], k, M, Fr, T, H, listed, hl, hk, hF, hM, hMo, hu, h => by
    simp only [xD] at h
    split at h
    · rename_i hp
      simp only [List.length_nil, Nat.add_zero] at hk
      refine ⟨Fr.reverse, M, by simp [hF, hk], by rw [List.take_of_length_le (by simp [hF])], hMo, hp, ?_, h⟩
      rw [List.eq_nil_iff_forall_not_mem]
      intro j hj
      obtain ⟨h0, o, ho, _⟩ := mem_ready.1 hj
      have hlt := (Array.getElem?_eq_some_iff.1 ho).1
      rw [hu.getD hlt] at h0
      simp at h0
      omega
    · exact h.elim
  | o :: l, k, M, Fr, T, H, listed, hl, hk, hF, hM, hMo, hu, h => by
    simp only [xD] at h
    have h0 : ops[k]? = some o := by simpa using (hl 0).symm
    have hlt : k < ops.size := (Array.getElem?_eq_some_iff.1 h0).1
    have hsum : idAt E base ops.toList (k + 1) = idAt E base ops.toList k + newOp E o.op := by
      unfold idAt
      rw [List.take_succ_eq_append_getElem (by simpa using hlt)]
      have : ops.toList[k]'(by simpa using hlt) = o := by have := (Array.getElem?_eq_some_iff.1 h0).2; simpa using this
      simp [this, Nat.add_assoc]
    split at h
    · exact h.elim
    · rename_i t q0 r u hs0
      obtain ⟨q, hs, hq, h⟩ := dPart_spec hs0 h
      simp only [forceNs_eq, forceN_eq] at h
      rw [putF_eq] at h
      have h' := (updF_spec _ _ _ _ h).1
      rw [← hsum] at h'
      obtain ⟨Fs, M', hlen, htake, hM', hp, hany⟩ := xD_any hE hafter l (k + 1) _ _ _ _ (listed.setIfInBounds k true) (fun j => by have := hl (j + 1); simpa [Nat.add_assoc, Nat.add_comm 1 j] using this)
        (by simp only [List.length_cons] at hk; omega) (by simp [hF]) (by simp [hM]) (hMo.add (by rw [hM]; exact h0)) hu.add h'
      have hFk : Fs[k]? = some (dRd E o (idAt E base ops.toList k) T, u.map (·.1)) := by
        have : (Fs.take (k + 1))[k]? = Fs[k]? := by rw [List.getElem?_take_of_lt (by omega)]
        rw [← this, htake]
        simp [hF]
      refine ⟨Fs, M', hlen, ?_, hM', hp, ?_⟩
      · have : (Fs.take (k + 1)).take k = Fs.take k := by rw [List.take_take, Nat.min_eq_left (by omega)]
        rw [← this, htake, List.reverse_cons, List.take_append_of_le_length (by simp [hF]), List.take_of_length_le (by simp [hF])]
      have hready : k ∈ Region.ready .any ops listed := by
        refine mem_ready.2 ⟨by rw [hu.getD hlt]; simp, o, h0, fun e he hb => ?_⟩
        have := afterOK_spec ops.toList 0 hafter k o (by simpa using h0) e he hb
        rw [hu.getD (by omega)]
        simp; omega
      have hclosed : Closed ops listed := by
        intro j oj hoj hj e he hb
        have hjlt := (Array.getElem?_eq_some_iff.1 hoj).1
        rw [hu.getD hjlt] at hj
        simp at hj
        have := afterOK_spec ops.toList 0 hafter j oj (by simpa using hoj) e he hb
        rw [hu.getD (by omega)]
        simp; omega
      refine AnyD_first hE h0 hq l.length listed T H hclosed ?_ hready hs (by simp [List.getD, hFk]) hany
      intro j oj hoj hjk hun
      have hjlt := (Array.getElem?_eq_some_iff.1 hoj).1
      rw [hu.getD hjlt] at hun
      simp at hun
      obtain ⟨y, hy⟩ : ∃ y, Fs[j]? = some y := ⟨Fs[j]'(by omega), List.getElem?_eq_getElem (by omega)⟩
      have := pairsOK_spec Fs 0 hp k j _ y hFk hy (by omega)
      simp only [Nat.zero_add, pairOK, h0, hoj, Bool.or_eq_true, Bool.and_eq_true] at this
      rcases this with h1 | ⟨h1, h2⟩
      · rw [hasBit_eq] at h1; exact .inl (hM' _ _ h1)
      · refine .inr ⟨h2, ?_⟩
        simp only [List.getD, hFk, hy, Option.getD_some]
        exact h1

theorem AnyD_wp (hE : EnvOk E) {c : Ctx} {Q : Exit → Act → World → Prop} (hk : ∀ T H κ Im a w, K T H → Fits c T H κ Im a w → Q .normal a w) :
    ∀ (fuel : Nat) (listed : Array Bool) (T : List AV) (H : List AObj) (κ : Kap) (Im : Nat → Prop) (a : Act) (w : World), Fits c T H κ Im a w → AnyD E ops ids F K fuel listed T H → wpAny E.P .any ops Q fuel listed a w
  | 0, listed, T, H, κ, Im, a, w, hf, h => ⟨h.1, hk _ _ _ _ _ _ h.2 hf⟩
  | fuel + 1, listed, T, H, κ, Im, a, w, hf, h => by
    refine ⟨fun h0 => hk _ _ _ _ _ _ (h.1 h0) hf, fun i hi => ?_⟩
    obtain ⟨o, q, r, u, ho, hs, hq, _, hrest⟩ := h.2 i hi
    unfold wpOp
    simp only [ho]
    have := dStep_sound hE (ops := ops) (Q := Q) hf hs hq (next := wpAny E.P .any ops Q fuel (listed.setIfInBounds i true)) fun κ' Im' a' w' hf' => AnyD_wp hE hk fuel _ _ _ κ' Im' a' w' hf' hrest
    split
    · rename_i hw; rw [if_pos hw] at this; exact .inl this
    · rename_i hw; rw [if_neg hw] at this; exact this

end
end Go.X
