/- Parts of the walks: X22c X23 -/
import Derived.Test.YticlpjjkjpabmaaX22b

/- Code, walked: rounds of ranges over functions too. -/
namespace Go.X
open Go

/-! ### What a function gives -/
def resVal (P : Program) (T : List AV) (o : Nat → AObj) : ResultVar → Option AV
  | .tmp t => some (T.getD t .any)
  | .cell a t => match T.getD a .any with
    | .ptr i off => match o i with | .cells cs _ => partAV P t cs off | _ => none
    | _ => none
def resVals (P : Program) (T : List AV) (o : Nat → AObj) : List ResultVar → Option (List AV)
  | [] => some []
  | x :: l => match resVal P T o x, resVals P T o l with | some a, some r => some (a :: r) | _, _ => none

def pickR : List Value → Value
  | [y] => y
  | ys => .tuple ys.toArray

def resRun (tmps : Array Value) : ResultVar → Sem Value
  | .tmp t => pure (tmps.getD t undef)
  | .cell a t => do loadVar t (← asAddr (tmps.getD a undef))

theorem resVal_sound {P : Program} {c : Ctx} {κ Im w H T} {tmps : Array Value} (hst : St c κ Im w H) (hT : AV.rels κ Im w T tmps.toList) : ∀ (x : ResultVar) (a : AV), resVal P T (H.getD · .dead) x = some a →
    ∃ y, (resRun tmps x).run P w = .ok y w ∧ AV.rel κ Im w a y
  | .tmp t, a, h => by
    simp only [resVal, Option.some.injEq] at h
    subst h
    exact ⟨_, rfl, by have := rels_get hT t; simpa [List.getD, Array.getD_eq_getD_getElem?] using this⟩
  | .cell x t, a, h => by
    simp only [resVal] at h
    split at h
    · rename_i i off hx
      split at h
      · rename_i cs E ho
        have hr := rels_get hT x
        rw [hx] at hr
        simp only [AV.rel] at hr
        obtain ⟨b, hκ, hy⟩ := hr
        obtain ⟨D, b', arr, h1, h2, h3, h4⟩ := hst.obj (getD_dead (by simp) ho)
        rw [hκ] at h1
        cases h1
        obtain ⟨y, hy1, hy2⟩ := run_loadVar_seg (P := P) (w := w) (t := t) (s := 0) (m := arr.size) (κ := κ) (Im := Im) (cs := cs) (off := off) h2 (by rw [List.drop_zero, List.take_of_length_le (by simp)]; exact h3) h
        refine ⟨y, ?_, hy2⟩
        have hy' : tmps.getD x undef = .pointer (some ⟨b, off, none⟩) := by simpa [List.getD, Array.getD_eq_getD_getElem?] using hy
        simp only [resRun, hy', asAddr]
        simpa using hy1
      · cases h
    · cases h

theorem resVals_sound {P : Program} {c : Ctx} {κ Im w H T} {tmps : Array Value} (hst : St c κ Im w H) (hT : AV.rels κ Im w T tmps.toList) : ∀ (l : List ResultVar) (as : List AV), resVals P T (H.getD · .dead) l = some as →
    ∃ ys, AV.rels κ Im w as ys ∧ l.length = ys.length ∧ ∀ (i : Nat) x, l[i]? = some x → ∃ y, ys[i]? = some y ∧ (resRun tmps x).run P w = .ok y w
  | [], as, h => by cases h; exact ⟨[], by simp [AV.rels], rfl, fun i x h => by simp at h⟩
  | x :: l, as, h => by
    simp only [resVals] at h
    split at h
    · rename_i a r ha hr
      cases h
      obtain ⟨y, h1, h2⟩ := resVal_sound hst hT x a ha
      obtain ⟨ys, h3, h4, h5⟩ := resVals_sound hst hT l r hr
      refine ⟨y :: ys, by simp only [AV.rels]; exact ⟨y, ys, rfl, h2, h3⟩, by simp [h4], fun i z hz => ?_⟩
      cases i with
      | zero => cases hz; exact ⟨y, rfl, h1⟩
      | succ i => exact h5 i z (by simpa using hz)
    · cases h

theorem results_run {P : Program} {fn : Func} {tmps : Array Value} {w : World} (ys : List Value) (hl : ys.length ≤ 4) (hlen : fn.results.toList.length = ys.length)
    (h : ∀ (i : Nat) x, fn.results.toList[i]? = some x → ∃ y, ys[i]? = some y ∧ (resRun tmps x).run P w = .ok y w) :
    (results fn tmps).run P w = .ok (pickR ys) w := by
  have h0 : results fn tmps = (do let vs ← fn.results.mapM (resRun tmps); pure (if h : vs.size = 1 then vs[0] else .tuple vs)) := by
    unfold results
    have : (fun x : ResultVar => match x with | .tmp t => (pure (tmps.getD t undef) : Sem Value) | .cell a t => do loadVar t (← asAddr (tmps.getD a undef))) = resRun tmps := by
      funext x; cases x <;> rfl
    rw [← this]
    rfl
  rw [h0]
  have hr : fn.results = fn.results.toList.toArray := by simp
  rw [hr]
  generalize fn.results.toList = rs at h hlen
  match rs, ys, hlen, hl with
  | [], [], _, _ => simp [pickR]
  | [a], [x], _, _ =>
    obtain ⟨_, e, h1⟩ := h 0 a rfl; cases e
    simp [pickR, h1]
  | [a, b], [x, y], _, _ =>
    obtain ⟨_, e, h1⟩ := h 0 a rfl; cases e
    obtain ⟨_, e, h2⟩ := h 1 b rfl; cases e
    simp [pickR, h1, h2]
  | [a, b, c], [x, y, z], _, _ =>
    obtain ⟨_, e, h1⟩ := h 0 a rfl; cases e
    obtain ⟨_, e, h2⟩ := h 1 b rfl; cases e
    obtain ⟨_, e, h3⟩ := h 2 c rfl; cases e
    simp [pickR, h1, h2, h3]
  | [a, b, c, d], [x, y, z, u], _, _ =>
    obtain ⟨_, e, h1⟩ := h 0 a rfl; cases e
    obtain ⟨_, e, h2⟩ := h 1 b rfl; cases e
    obtain ⟨_, e, h3⟩ := h 2 c rfl; cases e
    obtain ⟨_, e, h4⟩ := h 3 d rfl; cases e
    simp [pickR, h1, h2, h3, h4]
  | _, _ :: _ :: _ :: _ :: _ :: _, _, hl => simp at hl
  | _ :: _ :: _ :: _ :: _ :: _, [_, _, _, _], hlen, _ => simp at hlen

/-- The results as one value. -/
def packR : List AV → AV
  | [a] => a
  | l => .tup l
theorem packR_rel {κ : Kap} {Im : Nat → Prop} {w : World} : ∀ (l : List AV) (ys : List Value), AV.rels κ Im w l ys → AV.rel κ Im w (packR l) (pickR ys)
  | [a], ys, h => by
    simp only [AV.rels] at h
    obtain ⟨y, r, rfl, h1, rfl⟩ := h
    exact h1
  | [], ys, h => by
    simp only [AV.rels] at h
    subst h
    simp only [packR, pickR, AV.rel, AV.rels]
    exact ⟨_, rfl, rfl⟩
  | a :: b :: l, ys, h => by
    have h0 := h
    simp only [AV.rels] at h
    obtain ⟨y, r, rfl, _, z, r', rfl, _, _⟩ := h
    simp only [packR, pickR, AV.rel]
    exact ⟨_, rfl, by simpa using h0⟩

/-- Functions that are walked where they are called. -/
structure SubF where
  has : FuncId → Bool
  run : List RA → FuncId → List AV → List AObj → (AV → List AObj → Prop) → Prop
def SubF.none : SubF := ⟨fun _ => false, fun _ _ _ _ _ => False⟩

def SubSound (P : Program) (sub : SubF) : Prop :=
  ∀ Rs f args H K, sub.run Rs f args H K → RsOk P Rs → ∀ (n : Nat) (c : Ctx) (κ : Kap) (Im : Nat → Prop) (w : World) (ys : Array Value), St c κ Im w H → AV.rels κ Im w args ys.toList → (∀ d ∈ Rs.map (·.d), d ∈ c.R) → (∀ d ∈ c.R, rdOk κ Im w d) →
    (callFunc f ys).run P w = .ok (.enter f ys) w ∧ ∀ R : Ending → World → Prop, (∀ v H' κ' Im' w' y, K v H' → Le κ κ' Im Im' w w' → St c κ' Im' w' H' → AV.rel κ' Im' w' v y → R (.returned y) w') → CallsIn (FR none) n P f ys w R
theorem subNone {P : Program} : SubSound P .none := fun _ _ _ _ _ h => h.elim

/-! ### Regions -/
def findRA (j : Nat) : List RA → Option RA
  | [] => none
  | ra :: l => match Nat.beq ra.d.j j with | true => some ra | false => findRA j l
theorem findRA_spec {j : Nat} {ra : RA} : ∀ {l : List RA}, findRA j l = some ra → ra ∈ l ∧ ra.d.j = j
  | [], h => by cases h
  | x :: l, h => by
    simp only [findRA] at h
    split at h
    · rename_i e; cases h; exact ⟨by simp, Nat.eq_of_beq_eq_true e⟩
    · obtain ⟨h1, h2⟩ := findRA_spec h; exact ⟨by simp [h1], h2⟩

/-- What a call is: a round; a function that is walked. -/
inductive CK where
  | none
  | y (ra : RA) (args : List AV)
  | f (f : FuncId) (args : List AV)
def callK (sub : SubF) (Rs : List RA) (op : Op) (vs : List AV) : CK := match op with
  | .call c => match c.callee with
    | .value _ => match vs with
      | .hd j :: args => match findRA j Rs with | some ra => .y ra args | none => .none
      | .fn f caps :: args => match sub.has f with | true => .f f (args ++ caps) | false => .none
      | _ => .none
    | _ => .none
  | _ => .none
def runC (sub : SubF) (Rs : List RA) : CK → List AObj → (AV → List AObj → Prop) → Prop
  | .none, _, _ => False
  | .y ra args, H, K => runY ra args H K
  | .f f args, H, K => sub.run Rs f args H K

def xYld (sub : SubF) (Rs : List RA) (ops : Array Oper) (o : Oper) (ck : CK) (T : List AV) (H : List AObj) (K : List AV → List AObj → Prop) : Prop :=
  match guardOf ops T o with
  | .bad => False
  | .none => gdAnd true (pq o.op (evs T o.op)) (runC sub Rs ck H fun v H => putF T o.dst v fun T => K T H)
  | .cond t fx => gdAnd t (pq o.op (evs T o.op)) (cnd t (fixT fx true T fun T => runC sub Rs ck H fun v H => putF T o.dst v fun T => K T H) (fixT fx false T fun T => putF T o.dst (.v undef) fun T => K T H))

section
variable {c : Ctx} {κ : Kap} {Im : Nat → Prop} {w : World} {H : List AObj}

theorem yld_wp {P : Program} {sub : SubF} (hsub : SubSound P sub) {Rs : List RA} (hR : RsOk P Rs) (hc : ∀ d ∈ Rs.map (·.d), d ∈ c.R) {ro : Option Nat} {n : Nat} {o : Oper} (hW : ∀ s, o.dst = some s → c.W s = true) {T : List AV} {a : Act} (hf : Fits c T H κ Im a w) {vs : List AV} {ck : CK}
    (hy : callK sub Rs o.op vs = ck) (hv : AV.rels κ Im w vs (o.op.operands.toList.map a.eval)) {K : List AV → List AObj → Prop} (hs : runC sub Rs ck H fun v H => putF T o.dst v fun T => K T H) {next : Act → World → Prop} {Q : Exit → Act → World → Prop}
    (hk : ∀ T' H' κ' Im' a' w', K T' H' → Fits c T' H' κ' Im' a' w' → next a' w') : o.wpIn (FR ro) n P a w next Q := by
  obtain ⟨dst, op, type, pos, after, guard⟩ := o
  simp only at hW hy hv hs
  have fin : ∀ v H' κ' Im' b w', putF T dst v (fun T => K T H') → Le κ κ' Im Im' w w' → St c κ' Im' w' H' → AV.rel κ' Im' w' v b → next (a.put dst b) w' := fun v H' κ' Im' b w' hK hle hst hb => by
    rw [putF_eq] at hK
    exact hk _ _ κ' Im' _ w' hK (hf.put hle hst (putT_rel (AV.rels_mono hle _ _ hf.tmps) hb) hW)
  cases op <;> simp only [callK] at hy <;> try (subst hy; exact hs.elim)
  rename_i cl
  obtain ⟨callee, as_, ats⟩ := cl
  cases callee <;> simp only at hy <;> try (subst hy; exact hs.elim)
  rename_i f
  split at hy
  · rename_i j args
    split at hy
    case h_2 => subst hy; exact hs.elim
    rename_i ra hra
    subst hy
    obtain ⟨h1, rfl⟩ := findRA_spec hra
    have hs : runY ra args H fun v H => putF T dst v fun T => K T H := hs
    have h0 : AV.rels κ Im w (.hd ra.d.j :: args) (a.eval f :: as_.toList.map a.eval) := by simpa [Op.operands, Call.operands] using hv
    simp only [AV.rels] at h0
    obtain ⟨y, ys, e, hr, hvs⟩ := h0
    simp only [List.cons.injEq] at e
    obtain ⟨e1, e2⟩ := e
    obtain ⟨l, fn, tmps, q1, q2, _, q3⟩ := runY_sound (P := P) hR h1 hc (n := n - 1) hf (args := args) (ys := as_.map a.eval) (by simpa [e2] using hvs) hr hs
      (R := fun e w'' => match e with | .returned v => next (a.put dst v) w'' | .panicked chain => Q (.panic chain) a w'' | .outgrown => LetsOut Q) fin
    refine ⟨fun _ _ => trivial, ?_⟩
    rw [Oper.semAt_eq _ _ _ (by intro c h; cases h)]
    have hrun : (execOp a.eval ⟨dst, .call ⟨.value f, as_, ats⟩, type, pos, after, guard⟩).run P w = .ok (.round l fn tmps ra.d.ca ra.d.cb) w := by
      simp [execOp, resolve, e1, q1, Deferred.ofValue, invoke, q2]
    rw [hrun, Oper.uponIn_round]
    refine ⟨fun hd => (by cases hd), RoundIn.mono (q3 ro) ?_⟩
    intro e w' he
    cases e <;> exact he
  · rename_i g caps args
    split at hy
    case h_2 => subst hy; exact hs.elim
    subst hy
    have h0 : AV.rels κ Im w (.fn g caps :: args) (a.eval f :: as_.toList.map a.eval) := by simpa [Op.operands, Call.operands] using hv
    simp only [AV.rels] at h0
    obtain ⟨y, ys, e, hr, hvs⟩ := h0
    simp only [List.cons.injEq] at e
    obtain ⟨e1, e2⟩ := e
    simp only [AV.rel] at hr
    obtain ⟨cs, rfl, hcs⟩ := hr
    have hall : AV.rels κ Im w (args ++ caps) ((as_.map a.eval) ++ cs).toList := by
      rw [Array.toList_append, rels_append]
      exact ⟨_, _, rfl, by simpa [e2] using hvs, hcs⟩
    obtain ⟨henter, hcall⟩ := hsub _ _ _ _ _ hs hR (n - 1) c κ Im w _ hf.st hall hc hf.rounds
    refine ⟨fun _ _ => trivial, ?_⟩
    rw [Oper.semAt_eq _ _ _ (by intro c h; cases h)]
    have hrun : (execOp a.eval ⟨dst, .call ⟨.value f, as_, ats⟩, type, pos, after, guard⟩).run P w = .ok (.enter g ((as_.map a.eval) ++ cs)) w := by
      simp [execOp, resolve, e1, Deferred.ofValue, invoke, henter]
    rw [hrun, Oper.uponIn_enter]
    have := hcall (fun e w'' => match e with | .returned v => next (a.put dst v) w'' | .panicked chain => Q (.panic chain) a w'' | .outgrown => LetsOut Q) (fun v H' κ' Im' w' y hK hle hst hb => fin v H' κ' Im' y w' hK hle hst hb)
    refine ⟨fun hd => (by cases hd), ?_⟩
    have this2 : CallsIn (FR ro) (n - 1) P g ((as_.map a.eval) ++ cs) w (fun e w'' => match e with | .returned v => next (a.put dst v) w'' | .panicked chain => Q (.panic chain) a w'' | .outgrown => LetsOut Q) := by
      cases ro with
      | none => exact this
      | some l => exact CallsIn.inRound l this
    refine CallsIn.mono this2 ?_
    intro e w' he
    cases e <;> exact he
  · subst hy; exact hs.elim

theorem xYld_sound {P : Program} {sub : SubF} (hsub : SubSound P sub) {Rs : List RA} (hR : RsOk P Rs) (hc : ∀ d ∈ Rs.map (·.d), d ∈ c.R) {ro : Option Nat} {n : Nat} {ops : Array Oper} {o : Oper} (hW : ∀ s, o.dst = some s → c.W s = true) {T : List AV} {a : Act} (hf : Fits c T H κ Im a w) {ck : CK}
    (hy : callK sub Rs o.op (pvs o.op (evs T o.op)) = ck) {K : List AV → List AObj → Prop} (hs : xYld sub Rs ops o ck T H K) {next : Act → World → Prop} {Q : Exit → Act → World → Prop}
    (hk : ∀ T' H' κ' Im' a' w', K T' H' → Fits c T' H' κ' Im' a' w' → next a' w') :
    if Region.wanted o (yielded ops a.tmps) then o.wpIn (FR ro) n P a w next Q else next (a.put o.dst undef) w := by
  have hg := guard_sound (ops := ops) (o := o) hf.tmps
  have hv := evs_rel hf.tmps o.op
  unfold xYld at hs
  split at hs
  · exact hs.elim
  · rename_i h
    rw [hg.1 h, if_pos rfl]
    rw [gdAnd_iff] at hs
    exact yld_wp hsub hR hc hW hf hy (pvs_rel true rfl _ hs.1 hv) hs.2 hk
  · rename_i t fx h
    rw [gdAnd_iff, cnd_iff] at hs
    rw [hg.2 t fx h]
    cases t with
    | true =>
      have := hs.2.1 rfl
      rw [fix_eq h rfl] at this
      exact yld_wp hsub hR hc hW hf hy (pvs_rel true rfl _ hs.1 hv) this hk
    | false =>
      have := hs.2.2 rfl
      rw [fix_eq h rfl, putF_eq] at this
      exact hk _ _ κ Im _ w this (hf.put' (putT_rel hf.tmps (by simp only [AV.rel])) hW)
end

/-- A region in its one order. -/
def xS (E : Env) (sub : SubF) (Rs : List RA) (ops : Array Oper) : List Oper → Nat → List AV → List AObj → (List AV → List AObj → Prop) → Prop
  | [], _, T, H, K => K T H
  | o :: l, id, T, H, K => forceN (id + newOp E o.op) fun id' => match callK sub Rs o.op (pvs o.op (evs T o.op)) with
    | .none => xOp E ops o id T H fun T H => xS E sub Rs ops l id' T H K
    | ck => match Nat.beq (newAll E l) 0 with
      | true => xYld sub Rs ops o ck T H fun T H => xS E sub Rs ops l id' T H K
      | false => False

def xReg (E : Env) (sub : SubF) (Rs : List RA) (ops : Array Oper) (draw : Bool) (T : List AV) (H : List AObj) (K : List AV → List AObj → Prop) : Prop :=
  forceN H.length fun id => extF H (newAll E ops.toList) fun H =>
    match draw with
    | false => xS E sub Rs ops ops.toList id T H K
    | true => match afterOK 0 ops.toList with
      | true => xD E ops ops.toList id [] [] T H K
      | false => False

theorem xS_sound {E : Env} (hE : EnvOk E) {sub : SubF} (hsub : SubSound E.P sub) {Rs : List RA} (hR : RsOk E.P Rs) {ro : Option Nat} {n : Nat} {c : Ctx} (hc : ∀ d ∈ Rs.map (·.d), d ∈ c.R) {ops : Array Oper} {Q : Exit → Act → World → Prop} {K : List AV → List AObj → Prop} (hk : ∀ T H κ Im a w, K T H → Fits c T H κ Im a w → Q .normal a w) :
    ∀ (l : List Oper) (id : Nat) (T : List AV) (H : List AObj) (κ : Kap) (Im : Nat → Prop) (a : Act) (w : World), (∀ o ∈ l, ∀ s, o.dst = some s → c.W s = true) → Fits c T H κ Im a w → (∀ j, j < newAll E l → H[id + j]? = some .free) → xS E sub Rs ops l id T H K → wpListIn (FR ro) n E.P ops Q l a w
  | [], id, T, H, κ, Im, a, w, _, hf, _, h => hk _ _ _ _ _ _ h hf
  | o :: l, id, T, H, κ, Im, a, w, hW, hf, hid, h => by
    simp only [xS, forceN_eq] at h
    simp only [newAll] at hid
    have : if Region.wanted o (yielded ops a.tmps) then o.wpIn (FR ro) n E.P a w (wpListIn (FR ro) n E.P ops Q l) Q else wpListIn (FR ro) n E.P ops Q l (a.put o.dst undef) w := by
      split at h
      · exact xOp_sound hE (ro := ro) (n := n) (hW o (by simp)) (ops := ops) (o := o) (id := id) (Q := Q) hf (fun j hj => hid j (by omega)) h (next := wpListIn (FR ro) n E.P ops Q l) fun T' H' κ' Im' a' w' hK hsame hf' =>
          xS_sound hE hsub hR hc hk l _ T' H' κ' Im' a' w' (fun o ho => hW o (by simp [ho])) hf' (fun j hj => by rw [hsame _ (by omega), Nat.add_assoc]; exact hid _ (by omega)) hK
      · rename_i hne
        split at h
        · rename_i h0
          have h0 := Nat.eq_of_beq_eq_true h0
          exact xYld_sound hsub hR hc (hW o (by simp)) hf rfl h fun T' H' κ' Im' a' w' hK hf' => xS_sound hE hsub hR hc hk l _ T' H' κ' Im' a' w' (fun o ho => hW o (by simp [ho])) hf' (fun j hj => by omega) hK
        · exact h.elim
    unfold wpListIn
    split
    · rename_i hw; rw [if_pos hw] at this; exact this
    · rename_i hw; rw [if_neg hw] at this; exact ⟨fun _ _ => trivial, this⟩

theorem idAt_zero (E : Env) (base : Nat) (l : List Oper) : idAt E base l 0 = base := by simp [idAt]

theorem Fits.more {c : Ctx} {T : List AV} {H : List AObj} {κ : Kap} {Im : Nat → Prop} {a : Act} {w : World} (hf : Fits c T H κ Im a w) (n : Nat) : Fits c T (H ++ List.replicate n .free) κ Im a w := hf.to (Le.refl _ _ _) (hf.st.more n)
theorem le_drew {κ : Kap} {Im : Nat → Prop} {w : World} : Le κ κ Im Im w { w with drawn := w.drawn + 1 } := ⟨fun _ _ e => e, fun _ e => e, fun _ _ => rfl, Recs.refl _⟩

theorem xReg_sound {E : Env} (hE : EnvOk E) {sub : SubF} (hsub : SubSound E.P sub) {Rs : List RA} (hR : RsOk E.P Rs) {ro : Option Nat} {n : Nat} {c : Ctx} (hc : ∀ d ∈ Rs.map (·.d), d ∈ c.R) {id : Nat} {ops : Array Oper} {draw : Bool} (hW : ∀ o ∈ ops.toList, ∀ s, o.dst = some s → c.W s = true) {Q : Exit → Act → World → Prop} {K : List AV → List AObj → Prop} (hk : ∀ T H κ Im a w, K T H → Fits c T H κ Im a w → Q .normal a w)
    {T : List AV} {H : List AObj} {κ : Kap} {Im : Nat → Prop} {a : Act} {w : World} (hf : Fits c T H κ Im a w) (h : xReg E sub Rs ops draw T H K) : (Code.region id ops draw).wpIn (FR ro) n E.P Q a w := by
  unfold xReg at h
  rw [forceN_eq, extF_eq] at h
  have hf' := hf.more (newAll E ops.toList)
  split at h
  · refine wpIn_region_list (xS_sound hE hsub hR hc hk ops.toList _ T _ κ Im a w hW hf' (fun j hj => ?_) h)
    rw [List.getElem?_append_right (by omega), Nat.add_sub_cancel_left, List.getElem?_replicate, if_pos hj]
  · split at h
    · rename_i ha
      rw [← idAt_zero E H.length ops.toList] at h
      obtain ⟨Fs, _, _, _, _, _, hany⟩ := xD_any hE.loc ha ops.toList 0 [] [] T _ (Array.replicate ops.size false) (by simp) (by simp) rfl rfl (fun j i h => by simp at h) ⟨by simp, fun j hj => by simp [hj]⟩ h
      refine wpIn_region_any hE.mixed ?_
      exact AnyD_wp hE (fun i o ho => hW o (by rw [Array.mem_toList_iff]; exact Array.mem_of_getElem? ho)) hk _ _ T _ κ Im a _ (hf'.to le_drew hf'.st.drew) (by simpa using hany)
    · exact h.elim

/-! ### Loops -/
/-- A loop's rule. -/
structure LSpec (P : Program) where
  run : Code → XT → XT
  ok : ∀ Rd r x code, AbsSound P Rd r x code → AbsSound P Rd r (run code x) (.loop code)

/-- Round by round, as often as it takes. -/
def unroll (x : XT) (K : XK) : Nat → List AV → List AObj → Prop
  | 0, _, _ => False
  | n + 1, T, H => x T H fun e T H => match e with
    | .n => unroll x K n T H
    | .x i => K (.x i) T H
    | .r => K .r T H

def keyOf : Code → Nat
  | .region id _ _ => id
  | .seq a _ => keyOf a
  | .block _ b => keyOf b
  | .loop b => keyOf b
  | .scope b => keyOf b
  | _ => 0

/-- A loop, from its body's head on. -/
def loopW (F : Fence) (n : Nat) (P : Program) (c : Code) (Q : Exit → Act → World → Prop) (a : Act) (w : World) : Prop :=
  ∀ (b : Frame) (k : List Item) (cs : List Frame), b.roundOf = F.round → F.fn b.fn → F.room (cs.length + 1 + n) →
    ∃ e a' w', Q e a' w' ∧ ArrivesIn (Machine.fenced P F) P (lone (b.atR a (.code c :: .inLoop c :: k)) cs w) b k cs e a' w'
theorem loopW_wp {F : Fence} {n : Nat} {P : Program} {c : Code} {Q : Exit → Act → World → Prop} {a : Act} {w : World} (h : loopW F n P c Q a w) : (Code.loop c).wpIn F n P Q a w := by
  intro b k cs hro hb hr
  obtain ⟨e, a', w', hq, harr⟩ := h b k cs hro hb hr
  exact ⟨e, a', w', hq, .of_steps (.one (fenced_calm hb hr rfl) stepR_loop) harr⟩
theorem loopW_round {F : Fence} {n : Nat} {P : Program} {c : Code} {Q : Exit → Act → World → Prop} {a : Act} {w : World} (h : c.wpIn F n P (Exit.then (loopW F n P c Q) Q) a w) : loopW F n P c Q a w := by
  intro b k cs hro hb hr
  obtain ⟨e, a₁, w₁, hq, harr⟩ := h b (.inLoop c :: k) cs hro hb hr
  cases e with
  | normal =>
    obtain ⟨e₂, a₂, w₂, hq₂, harr₂⟩ := hq b k cs hro hb hr
    exact ⟨e₂, a₂, w₂, hq₂, .of_steps (StepsIn.trans harr (.one (fenced_calm hb hr rfl) stepR_inLoop)) harr₂⟩
  | exit id => exact ⟨_, a₁, w₁, hq, .pass (x := .inLoop c) rfl (fun _ _ => .inl (by simp)) harr⟩
  | goto l => exact ⟨_, a₁, w₁, hq, .pass (x := .inLoop c) rfl (fun _ _ => .inl (by simp)) harr⟩
  | ret => exact ⟨_, a₁, w₁, hq, .pass (x := .inLoop c) rfl (fun _ _ => .inl (by simp)) harr⟩
  | panic ch => exact ⟨_, a₁, w₁, hq, .pass (x := .inLoop c) rfl (fun _ _ => .inl (by simp)) harr⟩
  | outgrown => exact ⟨_, a₁, w₁, hq, .pass (x := .inLoop c) rfl (fun _ _ => .inl (by simp)) harr⟩

theorem unroll_sound {P : Program} {Rd : List RD} {r : Bool} {x : XT} {code : Code} (hx : AbsSound P Rd r x code) {ro : Option Nat} {m : Nat} {c : Ctx} (hro : r = false → ro = none) (hc : ∀ d ∈ Rd, d ∈ c.R) (hW : wrIn c.W code = true) {K : XK} {Q : Exit → Act → World → Prop} (hk : ∀ e T' H' κ' Im' a' w', K e T' H' → Fits c T' H' κ' Im' a' w' → Q e.exit a' w') :
    ∀ (n : Nat) {T : List AV} {H : List AObj} {κ : Kap} {Im : Nat → Prop} {a : Act} {w : World}, Fits c T H κ Im a w → unroll x K n T H → loopW (FR ro) m P code Q a w
  | 0, _, _, _, _, _, _, _, h => h.elim
  | n + 1, T, H, κ, Im, a, w, hf, h => by
    refine loopW_round (hx ro m c T H κ Im a w _ _ hro hc hW hf h ?_)
    intro e T' H' κ' Im' a' w' hK hf'
    cases e with
    | n => exact unroll_sound hx hro hc hW hk n hf' hK
    | x i => exact hk _ _ _ _ _ _ _ hK hf'
    | r => exact hk _ _ _ _ _ _ _ hK hf'

/-! ### Code -/
def snocF : List AObj → AObj → (List AObj → Prop) → Prop
  | [], o, k => k [o]
  | x :: l, o, k => snocF l o fun l => k (x :: l)
theorem snocF_eq : ∀ (l : List AObj) (o : AObj) (k : List AObj → Prop), snocF l o k = k (l ++ [o])
  | [], o, k => rfl
  | x :: l, o, k => by simp only [snocF, snocF_eq l]; rfl

def execB (E : Env) (L : Nat → Option (LSpec E.P)) (sub : SubF) (fuel : Nat) (r : Bool) (Rs : List RA) : Code → XT
  | .skip, T, H, K => K .n T H
  | .region _ ops draw, T, H, K => xReg E sub Rs ops draw T H fun T H => K .n T H
  | .seq a b, T, H, K => execB E L sub fuel r Rs a T H fun e T H => match e with
    | .n => execB E L sub fuel r Rs b T H K
    | .x i => K (.x i) T H
    | .r => K .r T H
  | .cond c a b, T, H, K => match ev T c with
    | .v (.bool t) => cnd t (execB E L sub fuel r Rs a T H K) (execB E L sub fuel r Rs b T H K)
    | _ => False
  | .block id b, T, H, K => execB E L sub fuel r Rs b T H fun e T H => match e with
    | .n => K .n T H
    | .x i => cnd (Nat.beq i id) (K .n T H) (K (.x i) T H)
    | .r => K .r T H
  | .loop b, T, H, K => match L (keyOf b) with
    | some s => s.run b (execB E L sub fuel r Rs b) T H K
    | none => unroll (execB E L sub fuel r Rs b) K fuel T H
  | .exit id, T, H, K => K (.x id) T H
  | .label _, T, H, K => K .n T H
  | .ret, T, H, K => K .r T H
  | .rangeFunc g ps ca cb, T, H, K => match r, ev T g with
    | false, .fn f caps => forceN H.length fun id => snocF H (.loop .ready) fun H =>
        sub.run (⟨⟨id, T, ps, ca, cb⟩, execB E L sub fuel true Rs ca, execB E L sub fuel true Rs cb⟩ :: Rs) f (.hd id :: caps) H fun _ H => match loopAt H id with
          | some .ready => setF H id .dead fun H => K .n T H
          | some .ret => setF H id .dead fun H => K .r T H
          | some (.exit i) => setF H id .dead fun H => K (.x i) T H
          | _ => False
    | _, _ => False
  | _, _, _, _ => False

theorem rangeFunc_sound {P : Program} {sub : SubF} (hsub : SubSound P sub) {Rs : List RA} (hR : RsOk P Rs) {xa xb : XT} {g : Operand} {ps : Array Tmp} {ca cb : Code} (ha : AbsSound P (Rs.map (·.d)) true xa ca) (hb : AbsSound P (Rs.map (·.d)) true xb cb) {n : Nat} {c : Ctx} {T : List AV} {H : List AObj} {κ : Kap} {Im : Nat → Prop} {a : Act} {w : World}
    {K : XK} {Q : Exit → Act → World → Prop} (hc : ∀ d ∈ Rs.map (·.d), d ∈ c.R) (hf : Fits c T H κ Im a w) {f : FuncId} {caps : List AV} (hg : ev T g = .fn f caps)
    (h : sub.run (⟨⟨H.length, T, ps, ca, cb⟩, xa, xb⟩ :: Rs) f (.hd H.length :: caps) (H ++ [.loop .ready]) fun _ H' => match loopAt H' H.length with
          | some .ready => setF H' H.length .dead fun H => K .n T H
          | some .ret => setF H' H.length .dead fun H => K .r T H
          | some (.exit i) => setF H' H.length .dead fun H => K (.x i) T H
          | _ => False)
    (hk : ∀ e T' H' κ' Im' a' w', K e T' H' → Fits c T' H' κ' Im' a' w' → Q e.exit a' w') : (Code.rangeFunc g ps ca cb).wpIn (FR none) n P Q a w := by
  refine wpIn_rangeFunc fun fn _ => ?_
  obtain ⟨w1, hw1⟩ : ∃ w1, w.alloc (.deferred (some [])) = w1 := ⟨_, rfl⟩
  have hb1 : w1.heap[w.heap.size]? = some (.deferred (some [])) := by rw [← hw1]; exact World.alloc_heap_new w _
  have hs1 : w1.heap.size = w.heap.size + 1 := by rw [← hw1]; simp
  -- the mark's block stays as it is from here on
  obtain ⟨s1, le1⟩ := hf.st.garbIm (Im' := fun b => Im b ∨ b = w.heap.size) (hw1 ▸ Turn.alloc w _) (fun _ h => .inl h) (fun b hb => by
    rcases hb with hb | rfl
    · have := (hf.st.im b hb).1; exact ⟨by omega, .inl hb⟩
    · exact ⟨by omega, .inr (Nat.le_refl _)⟩)
  let rec0 : Loop := { state := .ready, pending := none, fn, tmps := a.tmps, params := ps, assign := ca, body := cb, defers := w.heap.size }
  obtain ⟨w2, hw2⟩ : ∃ w2, w1.alloc (.loop rec0) = w2 := ⟨_, rfl⟩
  have hl2 : w2.heap[w1.heap.size]? = some (.loop rec0) := by rw [← hw2]; exact World.alloc_heap_new w1 _
  have hs2 : w2.heap.size = w1.heap.size + 1 := by rw [← hw2]; simp
  obtain ⟨s2, le2⟩ := (s1.more 1).lay (id := H.length) (by simp) (hw2 ▸ Turn.alloc w1 _) w1.heap.size (Nat.le_refl _) (by omega) (.loop .ready) (.func (.yield w1.heap.size) #[] #[]) (fun κ' _ _ => ⟨_, rec0, rfl, hl2, ⟨rfl, rfl⟩, fun _ => Iff.rfl⟩)
  have hH : (H ++ List.replicate 1 AObj.free).set H.length (.loop .ready) = H ++ [.loop .ready] := by simp
  rw [hH] at s2
  have hle := le1.trans le2
  obtain ⟨κ2, hκ2⟩ : ∃ κ2, setK κ H.length (.func (.yield w1.heap.size) #[] #[]) = κ2 := ⟨_, rfl⟩
  have hκl : κ2 H.length = some (.func (.yield w1.heap.size) #[] #[]) := by rw [← hκ2]; exact setK_same _ _ _
  rw [hκ2] at s2 le2 hle
  obtain ⟨L, d1, d2, d3⟩ := hf.defers
  have hf2 : Fits c T (H ++ [.loop .ready]) κ2 (fun b => Im b ∨ b = w.heap.size) { a with defers := [markOf w.heap.size] ++ a.defers } w2 := by
    refine ⟨s2, AV.rels_mono hle _ _ hf.tmps, ⟨w.heap.size :: L, by simp [d1], ?_, fun b hb => ?_⟩, hf.slots, fun d hd => rdOk_mono hle (hf.rounds d hd), hf.m0le⟩
    · rw [List.nodup_cons]
      refine ⟨fun hm => ?_, d2⟩
      have := (hf.st.im _ (d3 _ hm).1).1
      omega
    · rcases List.mem_cons.1 hb with rfl | hb
      · exact ⟨.inr rfl, Nat.le_trans hf.m0le hf.st.size, (le2.heap _ (.inr rfl)).trans hb1⟩
      · obtain ⟨q1, q2, q3⟩ := d3 b hb
        exact ⟨.inl q1, q2, (hle.heap b q1).trans q3⟩
  have hcaps := ev_rel hf2.tmps g
  rw [hg] at hcaps
  simp only [AV.rel] at hcaps
  obtain ⟨cs, e1, hcs⟩ := hcaps
  have he1 : a.eval g = .func (.func f) #[] cs := e1
  have hd0 : rdOk κ2 (fun b => Im b ∨ b = w.heap.size) w2 ⟨H.length, T, ps, ca, cb⟩ := ⟨_, a.tmps, hκl, by rw [hl2]; rfl, AV.rels_mono hle _ _ hf.tmps⟩
  obtain ⟨henter, hcall⟩ := hsub _ _ _ _ _ h (fun ra hra => by
      rcases List.mem_cons.1 hra with rfl | hra
      · exact ⟨ha.mono fun d hd => by simp only [List.map_cons]; exact List.mem_cons_of_mem _ hd, hb.mono fun d hd => by simp only [List.map_cons]; exact List.mem_cons_of_mem _ hd⟩
      · exact ⟨(hR ra hra).1.mono fun d hd => by simp only [List.map_cons]; exact List.mem_cons_of_mem _ hd, (hR ra hra).2.mono fun d hd => by simp only [List.map_cons]; exact List.mem_cons_of_mem _ hd⟩)
    (n - 1) ⟨c.w, c.κ, c.M, c.Im, c.t0, c.W, c.m0, ⟨H.length, T, ps, ca, cb⟩ :: c.R⟩ κ2 _ w2 (#[.func (.yield w1.heap.size) #[] #[]] ++ cs) s2.ctx (by
      rw [Array.toList_append]
      show AV.rels κ2 _ w2 (.hd H.length :: caps) (Value.func (.yield w1.heap.size) #[] #[] :: cs.toList)
      simp only [AV.rels]
      exact ⟨_, _, rfl, by simp only [AV.rel]; exact ⟨hκl, rfl⟩, hcs⟩)
    (fun d hd => by
      simp only [List.map_cons] at hd
      rcases List.mem_cons.1 hd with rfl | hd
      · simp
      · exact List.mem_cons_of_mem _ (hc d hd))
    (fun d hd => by
      rcases List.mem_cons.1 hd with rfl | hd
      · exact hd0
      · exact hf2.rounds d hd)
  refine ⟨w1.heap.size, [markOf w.heap.size], w2, { target := .fn (.func f) cs, args := #[.func (.yield w1.heap.size) #[] #[]] }, w2, f, _, w2, ?_, ?_, fun _ _ => trivial, ?_, fun h => (by cases h), hcall _ ?_⟩
  · have := run_enterLoop_outer (P := P) (w := w) fn a.tmps ps ca cb
    rw [hw1] at this
    show (Instr.enterLoop fn a.tmps ps ca cb none).run P w = _
    rw [this, hs1, ← hw2]
    rfl
  · simp [resolve, he1, Deferred.ofValue, rangeCall]
    rfl
  · simpa [invoke] using henter
  · intro v H3 κ3 Im3 w3 y hK hle3 hst3 _
    have hf3 : Fits c T H3 κ3 Im3 { a with defers := [markOf w.heap.size] ++ a.defers } w3 := hf2.to hle3 hst3.ctx
    have hk3 := hle3.k _ _ hκl
    have step : ∀ (s : LSt), loopAt H3 H.length = some s → ∃ r, w3.heap[w1.heap.size]? = some (.loop r) ∧ stOk s r ∧ Fits c T (H3.set H.length .dead) κ3 Im3 { a with defers := [markOf w.heap.size] ++ a.defers } (w3.putObj w1.heap.size (.loop { r with state := .exhausted })) := fun s hs => by
      have hj := loopAt_some hs
      obtain ⟨r, r1, r2, r3⟩ := hf3.loop hj hk3
      obtain ⟨hf4, _⟩ := r3 .exh { r with state := .exhausted } rfl trivial
      refine ⟨r, r1, r2, ?_⟩
      have hlt := (List.getElem?_eq_some_iff.1 hj).1
      have := hf4.st.drop (id := H.length) (o := .loop .exh) (by rw [List.getElem?_set_self hlt])
      rw [List.set_set] at this
      exact hf4.to (Le.refl _ _ _) this
    split at hK
    · rename_i hs
      obtain ⟨⟨st, pend, _, _, _, _, _, _⟩, r1, r2, hf4⟩ := step _ hs
      obtain ⟨q1, q2⟩ : st = .ready ∧ pend = none := r2
      subst q1; subst q2
      rw [setF_eq] at hK
      exact ⟨_, _, run_endLoop r1 (by simp), hk .n _ _ _ _ _ _ hK hf4⟩
    · rename_i hs
      obtain ⟨⟨st, pend, _, _, _, _, _, _⟩, r1, r2, hf4⟩ := step _ hs
      obtain ⟨q1, q2⟩ : st = .done ∧ pend = some .ret := r2
      subst q1; subst q2
      rw [setF_eq] at hK
      exact ⟨_, _, run_endLoop r1 (by simp), wpIn_ret (hk .r _ _ _ _ _ _ hK hf4)⟩
    · rename_i i hs
      obtain ⟨⟨st, pend, _, _, _, _, _, _⟩, r1, r2, hf4⟩ := step _ hs
      obtain ⟨q1, q2⟩ : st = .done ∧ pend = some (.exit i) := r2
      subst q1; subst q2
      rw [setF_eq] at hK
      exact ⟨_, _, run_endLoop r1 (by simp), wpIn_exit (hk (.x i) _ _ _ _ _ _ hK hf4)⟩
    · exact hK.elim

theorem execB_sound {E : Env} (hE : EnvOk E) (L : Nat → Option (LSpec E.P)) {sub : SubF} (hsub : SubSound E.P sub) (fuel : Nat) : ∀ (code : Code) (r : Bool) (Rs : List RA), RsOk E.P Rs → AbsSound E.P (Rs.map (·.d)) r (execB E L sub fuel r Rs code) code
  | .skip => fun r Rs hR ro n c T H κ Im a w K Q hro hc _ hf h hk => wpIn_skip (hk .n _ _ _ _ _ _ h hf)
  | .region id ops draw => fun r Rs hR ro n c T H κ Im a w K Q hro hc hW hf h hk => xReg_sound hE hsub hR hc (fun o ho => dstsIn_spec hW ho) (fun T H κ Im a w hK hf => hk .n _ _ _ _ _ _ hK hf) hf h
  | .seq x y => fun r Rs hR ro n c T H κ Im a w K Q hro hc hW hf h hk => by
    simp only [wrIn, Bool.and_eq_true] at hW
    refine wpIn_seq (execB_sound hE L hsub fuel x r Rs hR ro n c T H κ Im a w _ _ hro hc hW.1 hf h ?_)
    intro e T' H' κ' Im' a' w' hK hf'
    cases e with
    | n => exact execB_sound hE L hsub fuel y r Rs hR ro n c T' H' κ' Im' a' w' _ _ hro hc hW.2 hf' hK hk
    | x i => exact hk _ _ _ _ _ _ _ hK hf'
    | r => exact hk _ _ _ _ _ _ _ hK hf'
  | .cond o x y => fun r Rs hR ro n c T H κ Im a w K Q hro hc hW hf h hk => by
    simp only [execB] at h
    simp only [wrIn, Bool.and_eq_true] at hW
    have hr := ev_rel hf.tmps o
    split at h
    · rename_i t ht
      rw [ht] at hr
      simp only [AV.rel] at hr
      rw [cnd_iff] at h
      exact wpIn_cond_split hr (fun ht => execB_sound hE L hsub fuel x r Rs hR ro n c T H κ Im a w _ _ hro hc hW.1 hf (h.1 ht) hk) (fun ht => execB_sound hE L hsub fuel y r Rs hR ro n c T H κ Im a w _ _ hro hc hW.2 hf (h.2 ht) hk)
    · exact h.elim
  | .block id b => fun r Rs hR ro n c T H κ Im a w K Q hro hc hW hf h hk => by
    refine wpIn_block (execB_sound hE L hsub fuel b r Rs hR ro n c T H κ Im a w _ _ hro hc hW hf h ?_)
    intro e T' H' κ' Im' a' w' hK hf'
    cases e with
    | n => exact hk .n _ _ _ _ _ _ hK hf'
    | x i =>
      simp only [cnd_iff] at hK
      simp only [XE.exit, Exit.inBlock]
      split
      · rename_i e; exact hk .n _ _ _ _ _ _ (hK.1 (by simp [e])) hf'
      · rename_i e; exact hk (.x i) _ _ _ _ _ _ (hK.2 (by rw [Bool.eq_false_iff]; simpa using e)) hf'
    | r => exact hk .r _ _ _ _ _ _ hK hf'
  | .loop b => fun r Rs hR ro n c T H κ Im a w K Q hro hc hW hf h hk => by
    simp only [execB] at h
    split at h
    · rename_i s hs
      exact s.ok _ r _ b (execB_sound hE L hsub fuel b r Rs hR) ro n c T H κ Im a w K Q hro hc hW hf h hk
    · exact loopW_wp (unroll_sound (execB_sound hE L hsub fuel b r Rs hR) hro hc hW hk fuel hf h)
  | .exit id => fun r Rs hR ro n c T H κ Im a w K Q hro hc _ hf h hk => wpIn_exit (hk (.x id) _ _ _ _ _ _ h hf)
  | .label l => fun r Rs hR ro n c T H κ Im a w K Q hro hc _ hf h hk => wpIn_label (hk .n _ _ _ _ _ _ h hf)
  | .ret => fun r Rs hR ro n c T H κ Im a w K Q hro hc _ hf h hk => wpIn_ret (hk .r _ _ _ _ _ _ h hf)
  | .rangeFunc g ps ca cb => fun r Rs hR ro n c T H κ Im a w K Q hro hc _ hf h hk => by
    simp only [execB] at h
    split at h
    · rename_i f caps hg
      rw [forceN_eq, snocF_eq] at h
      rw [hro rfl]
      exact rangeFunc_sound hsub hR (execB_sound hE L hsub fuel ca true Rs hR) (execB_sound hE L hsub fuel cb true Rs hR) hc hf hg h hk
    · exact h.elim
  | .scope _ => fun r Rs hR ro n c T H κ Im a w K Q hro hc _ hf h hk => h.elim
  | .goto _ => fun r Rs hR ro n c T H κ Im a w K Q hro hc _ hf h hk => h.elim
  | .refuse _ => fun r Rs hR ro n c T H κ Im a w K Q hro hc _ hf h hk => h.elim

/-! ### Functions that are ranged over -/
theorem rels_undef {κ Im w} (n : Nat) : AV.rels κ Im w (List.replicate n (.v undef)) (List.replicate n undef) := by
  induction n with
  | zero => simp [AV.rels]
  | succ n ih => simp only [List.replicate_succ, AV.rels]; exact ⟨_, _, rfl, by simp [AV.rel], ih⟩
theorem rels_len {κ Im w} : ∀ {l : List AV} {ys : List Value}, AV.rels κ Im w l ys → l.length = ys.length
  | [], ys, h => by simp only [AV.rels] at h; subst h; rfl
  | a :: l, ys, h => by
    simp only [AV.rels] at h
    obtain ⟨y, r, rfl, _, h3⟩ := h
    simp [rels_len h3]

structure ItS (P : Program) where
  code : Code
  nt : Nat
  rvs : List ResultVar
  L : Nat → Option (LSpec P)

def ItOk (P : Program) (It : FuncId → Option (ItS P)) : Prop :=
  ∀ f it, It f = some it → (∀ args w, (callFunc f args).run P w = .ok (.enter f args) w) ∧ ∃ fn, P.funcs[f]? = some fn ∧ fn.body = some it.code ∧ fn.ntmps = it.nt ∧ fn.results.toList = it.rvs ∧ it.rvs.length ≤ 4

/-- What a walk goes by: loops' rules; the functions that are ranged over, and how deep these lie. -/
structure LT (P : Program) where
  L : Nat → Option (LSpec P)
  It : FuncId → Option (ItS P)
  d : Nat
  ok : ItOk P It

def undF : Nat → (List AV → Prop) → Prop
  | 0, k => k []
  | n + 1, k => undF n fun l => k (.v undef :: l)
theorem undF_eq : ∀ (n : Nat) (k : List AV → Prop), undF n k = k (List.replicate n (.v undef))
  | 0, k => rfl
  | n + 1, k => by simp only [undF, undF_eq n]; rfl
def startF : Nat → List AV → (List AV → Prop) → Prop
  | n, [], k => undF n k
  | 0, a :: l, k => k (a :: l)
  | n + 1, a :: l, k => startF n l fun l => k (a :: l)
theorem startF_eq : ∀ (n : Nat) (l : List AV) (k : List AV → Prop), startF n l k = k (startT n l)
  | n, [], k => by cases n <;> simp only [startF, startT, undF_eq]
  | 0, a :: l, k => rfl
  | n + 1, a :: l, k => by simp only [startF, startF_eq n l]; rfl

def optB {α : Type} : Option α → Bool
  | some _ => true
  | none => false
def execN (E : Env) (It : FuncId → Option (ItS E.P)) (fuel : Nat) : Nat → (Nat → Option (LSpec E.P)) → Bool → List RA → Code → XT
  | 0, L, r, Rs, code => execB E L .none fuel r Rs code
  | d + 1, L, r, Rs, code => execB E L ⟨fun f => optB (It f), fun Rs f args H K => match It f with
      | some it => startF it.nt args fun T => execN E It fuel d it.L false Rs it.code T H fun e T H => match e with
        | .x _ => False
        | _ => match resVals E.P T (H.getD · .dead) it.rvs with
          | some l => K (packR l) H
          | none => False
      | none => False⟩ fuel r Rs code

theorem execN_sound {E : Env} (hE : EnvOk E) {It : FuncId → Option (ItS E.P)} (hI : ItOk E.P It) (fuel : Nat) : ∀ (d : Nat) (L : Nat → Option (LSpec E.P)) (r : Bool) (Rs : List RA) (code : Code), RsOk E.P Rs → AbsSound E.P (Rs.map (·.d)) r (execN E It fuel d L r Rs code) code
  | 0, L, r, Rs, code, hR => execB_sound hE L subNone fuel code r Rs hR
  | d + 1, L, r, Rs, code, hR => by
    refine execB_sound hE L ?_ fuel code r Rs hR
    intro Rs f args H K h hR n c κ Im w ys hst hargs hc hrd
    simp only at h
    split at h
    case h_2 => exact h.elim
    rename_i it hit
    obtain ⟨henter, fn, hf, hb, hn, hres, hle4⟩ := hI f it hit
    refine ⟨henter ys w, fun R hRR => callsIn_of_wp_marks hf hb trivial ?_ rfl⟩
    obtain ⟨D, hD, hin⟩ := hst.inner
    rw [startF_eq] at h
    have hf0 : Fits ⟨w, κ, fun b => ∃ i, D i b, Im, ys ++ Array.replicate (fn.ntmps - ys.size) undef, fun _ => true, w.heap.size, c.R⟩ (startT it.nt args) H κ Im { tmps := ys ++ Array.replicate (fn.ntmps - ys.size) undef, defers := [] } w := by
      refine ⟨hin _ _ _ _, ?_, ⟨[], rfl, by simp, fun _ h => by cases h⟩, ⟨rfl, fun _ h => by cases h⟩, hrd, Nat.le_refl _⟩
      rw [startT_eq, Array.toList_append, rels_append]
      refine ⟨_, _, rfl, hargs, ?_⟩
      have := rels_length _ _ hargs
      simp only [Array.length_toList] at this
      rw [hn, ← this]
      simpa using rels_undef _
    refine execN_sound hE hI fuel d it.L false Rs it.code hR none n ⟨w, κ, fun b => ∃ i, D i b, Im, ys ++ Array.replicate (fn.ntmps - ys.size) undef, fun _ => true, w.heap.size, c.R⟩ _ H κ Im _ w _ _ (fun _ => rfl) hc (wrIn_true _) hf0 h ?_
    intro e T' H' κ' Im' a' w' hK hf'
    obtain ⟨Lm, e1, e2, e3⟩ := hf'.defers
    have key : (match resVals E.P T' (H'.getD · .dead) it.rvs with | some l => K (packR l) H' | none => False) → LeavesInM (FR none) n E.P fn a'.tmps R a'.defers .returning w' := fun hK => by
      rw [e1]
      split at hK
      case h_2 => exact hK.elim
      rename_i l hl
      refine leaves_marks (c := ⟨w, κ, fun b => ∃ i, D i b, Im, ys ++ Array.replicate (fn.ntmps - ys.size) undef, fun _ => true, w.heap.size, c.R⟩) (T := T') (fun b hb => (hst.im b hb).1) (fun Im w hs hr => ?_) Lm Im' w' hf'.st hf'.tmps e2 e3
      obtain ⟨vs, v1, v2, v3⟩ := resVals_sound (P := E.P) hs hr it.rvs l hl
      obtain ⟨s1, s2⟩ := hst.outer hD hs
      exact ⟨_, results_run vs (by omega) (by rw [hres]; exact v2) (by rw [hres]; exact v3), hRR _ H' κ' Im w _ hK s2 s1 (packR_rel _ _ v1)⟩
    cases e with
    | x i => exact hK.elim
    | n => exact key hK
    | r => exact key hK

def exec (E : Env) (L : LT E.P) (fuel : Nat) (code : Code) : XT := execN E L.It fuel L.d L.L false [] code
theorem exec_sound {E : Env} (hE : EnvOk E) (L : LT E.P) (fuel : Nat) (code : Code) : AbsSound E.P [] false (exec E L fuel code) code := execN_sound hE L.ok fuel L.d L.L false [] code fun _ h => by cases h

def LT.plain {P : Program} (L : Nat → Option (LSpec P)) : LT P := ⟨L, fun _ => none, 0, fun _ _ h => by cases h⟩
/-- One more function that is ranged over. -/
def LT.iter {P : Program} (t : LT P) (f : FuncId) (it : ItS P) (h : (∀ args w, (callFunc f args).run P w = .ok (.enter f args) w) ∧ ∃ fn, P.funcs[f]? = some fn ∧ fn.body = some it.code ∧ fn.ntmps = it.nt ∧ fn.results.toList = it.rvs ∧ it.rvs.length ≤ 4) : LT P :=
  ⟨t.L, fun g => match Nat.beq g f with | true => some it | false => t.It g, t.d + 1, fun g it' hg => by
    simp only at hg
    split at hg
    · rename_i e
      cases hg
      obtain rfl := Nat.eq_of_beq_eq_true e
      exact h
    · exact t.ok g it' hg⟩

section
variable {P : Program} {c : Ctx} {κ : Kap}
/-- A function's contract, off its walk. -/
theorem exec_calls {E : Env} (hE : EnvOk E) {L : LT E.P} {fuel : Nat} {f : FuncId} {fn : Func} {code : Code} (hf : E.P.funcs[f]? = some fn) (hb : fn.body = some code) {M : Nat → Prop} {Im : Nat → Prop} {w : World} {κ0 : Kap} {kc : Kap} {H : List AObj} {ys : Array Value} {T : List AV} {K : XK}
    {R : Ending → World → Prop} (hc : ∀ b, Im b → b < w.heap.size)
    (hst : ∀ t0 W m0, St ⟨w, kc, M, Im, t0, W, m0, []⟩ κ0 Im w H) (hT : AV.rels κ0 Im w T (ys ++ Array.replicate (fn.ntmps - ys.size) undef).toList) (hx : exec E L fuel code T H K)
    (hend : ∀ t0 W m0 T' H' κ' Im' (tmps : Array Value) w', K .n T' H' ∨ K .r T' H' → St ⟨w, kc, M, Im, t0, W, m0, []⟩ κ' Im' w' H' → AV.rels κ' Im' w' T' tmps.toList → ∃ v, (results fn tmps).run E.P w' = .ok v w' ∧ R (.returned v) w')
    (hno : ∀ i T' H', ¬ K (.x i) T' H') : Calls E.P f ys w R := by
  refine (callsIn_wide (n := 0)).1 (callsIn_of_wp_marks hf hb trivial ?_ rfl)
  let c : Ctx := ⟨w, kc, M, Im, ys ++ Array.replicate (fn.ntmps - ys.size) undef, fun _ => true, w.heap.size, []⟩
  refine exec_sound hE L fuel code none 0 c T H κ0 Im _ w K _ (fun _ => rfl) (fun _ h => by cases h) (wrIn_true code) ⟨hst _ _ _, hT, ⟨[], rfl, by simp, fun _ h => by cases h⟩, ⟨rfl, fun s h => by cases h⟩, (fun _ h => by cases h), Nat.le_refl _⟩ hx ?_
  intro e T' H' κ' Im' a' w' hK hf'
  obtain ⟨Lm, e1, e2, e3⟩ := hf'.defers
  have key : K .n T' H' ∨ K .r T' H' → LeavesInM (FR none) 0 E.P fn a'.tmps R a'.defers .returning w' := fun h => by
    rw [e1]
    exact leaves_marks (c := c) hc (fun Im w hs hr => hend _ _ _ T' H' κ' Im _ w h hs hr) Lm Im' w' hf'.st hf'.tmps e2 e3
  cases e with
  | x i => exact absurd hK (hno i _ _)
  | n => exact key (.inl hK)
  | r => exact key (.inr hK)
end
end Go.X

/- Functions of data: what they are given stays, what they give is new, or stays. -/
namespace Go.X
open Go

/-! ### Without handles -/
mutual
def AV.hf : AV → Bool
  | .ptr _ _ | .hd _ | .vw _ _ _ _ | .rp _ _ _ _ => false
  | .gd _ _ _ a => a.hf
  | .agg l | .tup l | .fn _ l => AV.hfs l
  | .v _ | .any | .rs _ _ | .ep _ _ _ _ => true
def AV.hfs : List AV → Bool
  | [] => true
  | a :: l => a.hf && AV.hfs l
end
mutual
def AV.flat : AV → Bool
  | .v _ => true
  | .agg l | .tup l => AV.flats l
  | _ => false
def AV.flats : List AV → Bool
  | [] => true
  | a :: l => a.flat && AV.flats l
end

theorem TC.enc_hf (c : TC) (x : c.den) : AV.hfs (c.enc x) = true := by
  cases c <;> simp [TC.enc, encId, encHead, encEdge, encPrefix, encReach, encTie, encPacket, encParent, encHop, encPath, encNot, encStep12, encStep20, encJob, encPiece, encEntId, encEntHead, encWait, encArr4, encOwn, AV.hfs, AV.hf]

def TC.flat : TC → Bool
  | .tie | .packet | .parent | .hop | .path | .step12 | .piece | .own => false
  | _ => true
theorem TC.enc_flat (c : TC) (h : c.flat = true) (x : c.den) : AV.flats (c.enc x) = true := by
  cases c <;> simp [TC.flat] at h <;> simp [TC.enc, encId, encHead, encEdge, encPrefix, encReach, encNot, encStep20, encJob, encEntId, encEntHead, encWait, encArr4, AV.flats, AV.flat]

def κ0 : Kap := fun _ => none

section
variable {κ κ' : Kap} {Im Im' : Nat → Prop} {w w' : World}
mutual
theorem AV.rel_hf : ∀ (a : AV) (y : Value), a.hf = true → AV.rel κ Im w a y → AV.rel κ' Im w a y
  | .v _, _, _, e => by simpa only [AV.rel] using e
  | .any, _, _, _ => by simp only [AV.rel]
  | .gd _ _ _ a, y, h, e => by
    simp only [AV.rel] at e ⊢
    exact ⟨fun ht => AV.rel_hf a y (by simpa [AV.hf] using h) (e.1 ht), e.2⟩
  | .ptr _ _, _, h, _ => by simp [AV.hf] at h
  | .hd _, _, h, _ => by simp [AV.hf] at h
  | .vw _ _ _ _, _, h, _ => by simp [AV.hf] at h
  | .rp _ _ _ _, _, h, _ => by simp [AV.hf] at h
  | .agg l, _, h, e => by
    simp only [AV.rel] at e ⊢
    obtain ⟨ys, h1, h2⟩ := e
    exact ⟨ys, h1, AV.rels_hf l _ (by simpa [AV.hf] using h) h2⟩
  | .tup l, _, h, e => by
    simp only [AV.rel] at e ⊢
    obtain ⟨ys, h1, h2⟩ := e
    exact ⟨ys, h1, AV.rels_hf l _ (by simpa [AV.hf] using h) h2⟩
  | .fn _ l, _, h, e => by
    simp only [AV.rel] at e ⊢
    obtain ⟨ys, h1, h2⟩ := e
    exact ⟨ys, h1, AV.rels_hf l _ (by simpa [AV.hf] using h) h2⟩
  | .rs c xs, _, _, e => by
    simp only [AV.rel] at e ⊢
    obtain ⟨a, cap, h1, h0, h2⟩ := e
    refine ⟨a, cap, h1, h0, fun hx => ?_⟩
    obtain ⟨b, o, h3, h4, arr, T, fz, h5, h6⟩ := h2 hx
    exact ⟨b, o, h3, h4, arr, T, fz, h5, fun i hi => AV.rels_hf (c.enc xs[i]) _ (TC.enc_hf _ _) (h6 i hi)⟩
  | .ep c xs n off, _, _, e => by
    simp only [AV.rel] at e ⊢
    obtain ⟨h0, b, o, h3, h4, arr, T, fz, h5, h6⟩ := e
    exact ⟨h0, b, o, h3, h4, arr, T, fz, h5, fun i hi => AV.rels_hf (c.enc xs[i]) _ (TC.enc_hf _ _) (h6 i hi)⟩
termination_by a => a.ms
decreasing_by all_goals (simp only [AV.ms]; first | omega | (have := TC.enc_ms _ xs[i]; omega))
theorem AV.rels_hf : ∀ (l : List AV) (ys : List Value), AV.hfs l = true → AV.rels κ Im w l ys → AV.rels κ' Im w l ys
  | [], _, _, e => by simpa only [AV.rels] using e
  | a :: l, _, h, e => by
    simp only [AV.hfs, Bool.and_eq_true] at h
    simp only [AV.rels] at e ⊢
    obtain ⟨y, r, h1, h2, h3⟩ := e
    exact ⟨y, r, h1, AV.rel_hf a y h.1 h2, AV.rels_hf l r h.2 h3⟩
termination_by l => AV.mss l
decreasing_by all_goals (simp only [AV.mss]; have h1 := AV.ms_pos a; have h2 := AV.mss_pos l; omega)
end
mutual
theorem AV.rel_flat : ∀ (a : AV) (y : Value), a.flat = true → AV.rel κ Im w a y → AV.rel κ' Im' w' a y
  | .v _, _, _, e => by simpa only [AV.rel] using e
  | .agg l, _, h, e => by
    simp only [AV.rel] at e ⊢
    obtain ⟨ys, h1, h2⟩ := e
    exact ⟨ys, h1, AV.rels_flat l _ (by simpa [AV.flat] using h) h2⟩
  | .tup l, _, h, e => by
    simp only [AV.rel] at e ⊢
    obtain ⟨ys, h1, h2⟩ := e
    exact ⟨ys, h1, AV.rels_flat l _ (by simpa [AV.flat] using h) h2⟩
  | .any, _, h, _ | .gd _ _ _ _, _, h, _ | .ptr _ _, _, h, _ | .hd _, _, h, _ | .vw _ _ _ _, _, h, _ | .rp _ _ _ _, _, h, _ | .fn _ _, _, h, _ | .rs _ _, _, h, _ | .ep _ _ _ _, _, h, _ => by simp [AV.flat] at h
termination_by a => a.ms
decreasing_by all_goals (simp only [AV.ms]; omega)
theorem AV.rels_flat : ∀ (l : List AV) (ys : List Value), AV.flats l = true → AV.rels κ Im w l ys → AV.rels κ' Im' w' l ys
  | [], _, _, e => by simpa only [AV.rels] using e
  | a :: l, _, h, e => by
    simp only [AV.flats, Bool.and_eq_true] at h
    simp only [AV.rels] at e ⊢
    obtain ⟨y, r, h1, h2, h3⟩ := e
    exact ⟨y, r, h1, AV.rel_flat a y h.1 h2, AV.rels_flat l r h.2 h3⟩
termination_by l => AV.mss l
decreasing_by all_goals (simp only [AV.mss]; have h1 := AV.ms_pos a; have h2 := AV.mss_pos l; omega)
end
end

/-! ### What goes in and out -/
inductive AT where
  | tc (c : TC)
  | sl (c : TC)
@[reducible] def AT.den : AT → Type
  | .tc c => c.den
  | .sl c => List c.den
def AT.av : (t : AT) → t.den → AV
  | .tc c, x => c.av x
  | .sl c, xs => .rs c xs
def AT.flat : AT → Bool
  | .tc c => c.flat
  | .sl _ => false
@[reducible] def Dat : List AT → Type
  | [] => Unit
  | t :: l => t.den × Dat l
def avs : (l : List AT) → Dat l → List AV
  | [], _ => []
  | t :: l, d => t.av d.1 :: avs l d.2
def readI (c : TC) : AV → Option (List c.den)
  | .rs c' xs => castL c c' xs
  | .v (.slice none 0 0) => some []
  | _ => none
def AT.read : (t : AT) → AV → Option t.den
  | .tc c, a => match c.isAgg with
    | true => match a with | .agg l => c.dec l | _ => none
    | false => c.dec [a]
  | .sl c, a => readI c a
def readAll : (l : List AT) → List AV → Option (Dat l)
  | [], [] => some ()
  | t :: l, a :: r => match t.read a, readAll l r with
    | some x, some y => some (x, y)
    | _, _ => none
  | _, _ => none

theorem TC.av_hf (c : TC) (x : c.den) : (c.av x).hf = true := by
  have := c.enc_hf x
  cases c <;> first | rfl | (simpa [TC.av, TC.isAgg, AV.hf] using this)
theorem TC.av_flat (c : TC) (h : c.flat = true) (x : c.den) : (c.av x).flat = true := by
  have := c.enc_flat h x
  cases c <;> first | rfl | (simpa [TC.av, TC.isAgg, AV.flat] using this)
theorem AT.av_hf (t : AT) (x : t.den) : (t.av x).hf = true := by
  cases t with
  | tc c => exact c.av_hf x
  | sl c => simp [AT.av, AV.hf]
theorem avs_hf : ∀ (l : List AT) (d : Dat l), AV.hfs (avs l d) = true
  | [], _ => rfl
  | t :: l, d => by simp only [avs, AV.hfs, t.av_hf, avs_hf l, Bool.and_self]
theorem avs_flat : ∀ (l : List AT) (d : Dat l), l.all AT.flat = true → AV.flats (avs l d) = true
  | [], _, _ => rfl
  | t :: l, d, h => by
    simp only [List.all_cons, Bool.and_eq_true] at h
    have : (t.av d.1).flat = true := by
      cases t with
      | tc c => exact c.av_flat h.1 d.1
      | sl c => simp [AT.flat] at h
    simp only [avs, AV.flats, this, avs_flat l d.2 h.2, Bool.and_self]
theorem avs_len : ∀ (l : List AT) (d : Dat l), (avs l d).length = l.length
  | [], _ => rfl
  | t :: l, d => by simp [avs, avs_len l d.2]

theorem AT.read_law {t : AT} {a : AV} {x : t.den} (h : t.read a = some x) : Ref a (t.av x) := by
  intro κ Im w y hr
  cases t with
  | tc c =>
    simp only [AT.read] at h
    split at h
    · rename_i hc
      split at h
      · rename_i l
        simp only [AV.rel] at hr
        obtain ⟨ys, rfl, h2⟩ := hr
        simp only [AT.av, TC.av, hc, if_true, AV.rel]
        exact ⟨ys, rfl, TC.dec_law h κ Im w _ h2⟩
      · cases h
    · rename_i hc
      have h2 := TC.dec_law h κ Im w [y] (by simp only [AV.rels]; exact ⟨y, [], rfl, hr, rfl⟩)
      cases c <;> first | cases hc | skip
      all_goals
        simp only [TC.enc, AV.rels] at h2
        obtain ⟨y', r, e, h3, _⟩ := h2
        cases e
        exact h3
  | sl c =>
    simp only [AT.read] at h
    unfold readI at h
    split at h
    · obtain ⟨rfl, rfl⟩ := castL_spec h
      exact hr
    · cases h
      simp only [AV.rel] at hr
      subst hr
      simp only [AT.av, AV.rel]
      exact ⟨none, 0, rfl, by simp, fun h => absurd rfl h⟩
    · cases h

theorem readAll_law : ∀ {l : List AT} {r : List AV} {d : Dat l}, readAll l r = some d → RefL r (avs l d)
  | [], [], _, _ => RefL.refl _
  | [], _ :: _, _, h => by simp [readAll] at h
  | _ :: _, [], _, h => by simp [readAll] at h
  | t :: l, a :: r, d, h => by
    simp only [readAll] at h
    split at h
    · cases h
      exact .cons (AT.read_law ‹_›) (readAll_law ‹_›)
    · cases h

/-! ### Sealing, a level deep -/
section
variable {κ : Kap} {Im : Nat → Prop} {w : World} {H : List AObj}
theorem sealDs_rel {l : List AV} {ys : List Value} (hr : AV.rels κ Im w l ys) (hs : ∀ i ∈ l.flatMap sealDIds, Sealed κ Im w H i) : AV.rels κ Im w (l.map (sealD (H.getD · .dead))) ys := by
  induction l generalizing ys with
  | nil => exact hr
  | cons a l ih =>
    simp only [AV.rels, List.map_cons] at hr ⊢
    obtain ⟨y, r, h1, h2, h3⟩ := hr
    exact ⟨y, r, h1, sealD_rel h2 (fun i hi => hs i (by simp [hi])), ih h3 (fun i hi => hs i (by rw [List.flatMap_cons]; exact List.mem_append_right _ hi))⟩
end
/-! ### The contract -/
def resAV : (rts : List AT) → Dat rts → AV
  | [t], d => t.av d.1
  | [], _ => .tup []
  | t :: u :: l, d => .tup (avs (t :: u :: l) d)
theorem resAV_hf : ∀ (rts : List AT) (d : Dat rts), (resAV rts d).hf = true
  | [t], d => t.av_hf d.1
  | [], _ => rfl
  | t :: u :: l, d => by simp only [resAV, AV.hf]; exact avs_hf _ _
theorem resAV_flat : ∀ (rts : List AT) (d : Dat rts) (_ : rts.all AT.flat = true), (resAV rts d).flat = true
  | [t], d, h => by have := avs_flat _ d h; simp only [avs, AV.flats, Bool.and_true] at this; exact this
  | [], _, _ => rfl
  | t :: u :: l, d, h => by simp only [resAV, AV.flat]; exact avs_flat _ _ h

def PureOk (P : Program) (f : FuncId) (ats : List AT) (pre : Dat ats → Prop) (rts : List AT) (out : Dat ats → Dat rts) : Prop :=
  ∀ (Im : Nat → Prop) (w : World) (ys : Array Value) (d : Dat ats), (∀ b, Im b → b < w.heap.size) → AV.rels κ0 Im w (avs ats d) ys.toList → pre d →
    Calls P f ys w fun e w' => ∃ v Im', e = .returned v ∧ Turn none w w' ∧ (∀ b, Im b → Im' b) ∧ (∀ b, Im' b → b < w'.heap.size ∧ (Im b ∨ w.heap.size ≤ b)) ∧ AV.rel κ0 Im' w' (resAV rts (out d)) v

def pureSpec (ats : List AT) (pre : Dat ats → Prop) (rts : List AT) (out : Dat ats → Dat rts) : CSpec where
  rd args _ := args.flatMap sealDIds
  n := 0
  eff args _ o := match readAll ats (args.map (sealD o)) with
    | none => .bad
    | some d => .req (pre d) (resAV rts (out d)) (match rts.all AT.flat with | true => [] | false => deadAll (args.flatMap sealDIds))

theorem pureSpec_loc {ats pre rts out} (args : List AV) (id : Nat) (o o' : Nat → AObj) (_ : (pureSpec ats pre rts out).eff args id o ≠ .bad) (h : localOn ((pureSpec ats pre rts out).rd args o) o o') :
    (pureSpec ats pre rts out).eff args id o' = (pureSpec ats pre rts out).eff args id o ∧ (pureSpec ats pre rts out).rd args o' = (pureSpec ats pre rts out).rd args o := by
  have : args.map (sealD o) = args.map (sealD o') := List.map_congr_left fun a ha => sealD_local fun i hi => h i (List.mem_flatMap.2 ⟨a, ha, hi⟩)
  exact ⟨by simp only [pureSpec, this], rfl⟩

theorem pureSpec_sound {P : Program} {f : FuncId} {ats pre rts out} (h : PureOk P f ats pre rts out) : CSound P f (pureSpec ats pre rts out) := by
  intro c κ Im w H args ys id K k hst hv hid hs hk
  simp only [pureSpec] at hs
  split at hs
  · exact hs.elim
  · rename_i d hd
    obtain ⟨⟨hpre⟩, hs⟩ := hs
    obtain ⟨Im1, s1, s2, s3⟩ := seal_all (args.flatMap sealDIds) hst
    have hv1 := sealDs_rel (AV.rels_mono s2 _ _ hv) s3
    have hv2 := AV.rels_hf (κ' := κ0) _ _ (avs_hf _ _) (readAll_law hd κ Im1 w _ hv1)
    refine Calls.mono (h Im1 w ys d (fun b hb => (s1.im b hb).1) hv2 hpre) ?_
    rintro e w' ⟨v, Im', rfl, ht, h1, h2, hr⟩
    refine ⟨v, rfl, ?_⟩
    have hr' := AV.rel_hf (κ' := κ) _ _ (resAV_hf rts (out d)) hr
    split at hs
    · rename_i hflat
      obtain ⟨g1, g2⟩ := hst.garb ht
      exact hk _ _ κ Im w' v hs g2 g1 (AV.rel_flat _ _ (resAV_flat rts _ hflat) hr')
    · obtain ⟨g1, g2⟩ := s1.garbIm ht h1 h2
      exact hk _ _ κ Im' w' v hs (s2.trans g2) g1 hr'

/-! ### A function's walk -/
def retK (P : Program) (rvs : List ResultVar) (rts : List AT) (o : Dat rts) : XK := fun e T H => match e with
  | .x _ => False
  | _ => match resVals P T (H.getD · .dead) rvs with
    | none => False
    | some l => match readAll rts (l.map (sealD (H.getD · .dead))) with
      | some r => Ok (r = o)
      | none => False



theorem readAll_len : ∀ {l : List AT} {r : List AV} {d : Dat l}, readAll l r = some d → r.length = l.length
  | [], [], _, _ => rfl
  | [], _ :: _, _, h => by simp [readAll] at h
  | _ :: _, [], _, h => by simp [readAll] at h
  | t :: l, a :: r, d, h => by
    simp only [readAll] at h
    split at h
    · simp [readAll_len ‹readAll l r = _›]
    · cases h

theorem resAV_rel {κ Im w} : ∀ (rts : List AT) (r : Dat rts) (ys : List Value), AV.rels κ Im w (avs rts r) ys → AV.rel κ Im w (resAV rts r) (pickR ys)
  | [rt], r, ys, h => by
    simp only [avs, AV.rels] at h
    obtain ⟨y, l, rfl, h3, rfl⟩ := h
    exact h3
  | [], r, ys, h => by
    simp only [avs, AV.rels] at h
    subst h
    simp only [resAV, AV.rel, pickR]; exact ⟨_, rfl, by simp [AV.rels]⟩
  | a :: b :: rts, r, ys, h => by
    have hl := rels_len h
    match ys, h, hl with
    | [], _, hl => simp [avs] at hl
    | [_], _, hl => simp [avs] at hl
    | y :: z :: ys, h, _ => simp only [resAV, AV.rel, pickR]; exact ⟨_, rfl, by simpa using h⟩

theorem pure_of_exec {E : Env} (hE : EnvOk E) {L : LT E.P} {fuel : Nat} {f : FuncId} {fn : Func} {code : Code} (hf : E.P.funcs[f]? = some fn) (hb : fn.body = some code) {n : Nat} (hn : fn.ntmps = n) {rvs : List ResultVar} (hrv : fn.results.toList = rvs) (hl : Nat.ble rvs.length 4 = true)
    {ats : List AT} {pre : Dat ats → Prop} {rts : List AT} {out : Dat ats → Dat rts} (h : ∀ d, pre d → exec E L fuel code (startT n (avs ats d)) [] (retK E.P rvs rts (out d))) : PureOk E.P f ats pre rts out := by
  intro Im w ys d hIm hv hpre
  have hx := h d hpre
  rw [startT_eq, ← hn] at hx
  have hst : ∀ t0 W m0, St ⟨w, κ0, fun _ => False, Im, t0, W, m0, []⟩ κ0 Im w [] := fun t0 W m0 => ⟨⟨fun _ _ => False, fun i o h => by simp at h, fun _ _ h => h.elim, fun _ _ _ h => h.elim⟩, fun _ _ => rfl, fun b hb => ⟨hIm b hb, .inl hb⟩, fun _ h => h, fun _ _ _ => rfl, Nat.le_refl _,
    fun _ _ e => by simp [κ0] at e, rfl, rfl, Outs.refl _⟩
  refine exec_calls hE hf hb hIm hst ?_ hx ?_ (fun i T' H' h => h)
  · have e1 : (avs ats d).length = ys.size := by rw [rels_len hv]; simp
    rw [Array.toList_append, rels_append]
    exact ⟨_, _, rfl, hv, by rw [e1]; simpa using rels_undef _⟩
  · intro t0 W m0 T' H' κ' Im' tmps w' hK hf' hT'
    have hK : (match resVals E.P T' (H'.getD · .dead) rvs with
      | none => False
      | some l => match readAll rts (l.map (sealD (H'.getD · .dead))) with | some r => Ok (r = out d) | none => False) := by rcases hK with h | h <;> exact h
    split at hK
    · exact hK.elim
    · rename_i l hlv
      split at hK
      · rename_i r hr
        obtain ⟨rfl⟩ := hK
        obtain ⟨vs, hrs, hlen, hrun⟩ := resVals_sound (P := E.P) hf' hT' rvs l hlv
        obtain ⟨Im1, s1, s2, s3⟩ := seal_all (l.flatMap sealDIds) hf'
        have h1 := sealDs_rel (AV.rels_mono s2 _ _ hrs) s3
        have h2 := AV.rels_hf (κ' := κ0) _ _ (avs_hf _ _) (readAll_law hr κ' Im1 w' _ h1)
        have hl4 : rvs.length ≤ 4 := by simpa using hl
        refine ⟨_, results_run vs (by omega) (by rw [hrv]; exact hlen) (by rw [hrv]; exact hrun), _, Im1, rfl, ⟨s1.os, s1.tape, s1.output, s1.size, fun b hb _ => s1.frame b hb (fun h => h)⟩, fun b hb => s1.keep b hb, fun b hb => ⟨(s1.im b hb).1, ?_⟩, ?_⟩
        · rcases (s1.im b hb).2 with h | h | h
          · exact .inl h
          · exact h.elim
          · exact .inr h
        · exact resAV_rel rts _ vs h2
      · exact hK.elim
end Go.X

