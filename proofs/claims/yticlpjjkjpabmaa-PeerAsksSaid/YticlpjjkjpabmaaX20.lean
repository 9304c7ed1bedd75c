/- Parts of the walks: X18 X19 X20 -/
import Derived.Test.YticlpjjkjpabmaaX17r
import Derived.Still

/- Every operation is what its effect says. -/
namespace Go.X
open Go

/-- A contract holds: whatever world fits, the call gives what its effect says. -/
def CSound (P : Program) (f : FuncId) (s : CSpec) : Prop :=
  ∀ (c : Ctx) (κ : Kap) (Im : Nat → Prop) (w : World) (H : List AObj) (args : List AV) (ys : Array Value) (id : Nat) (K : AV → List (Nat × AObj) → Prop) (k : Value → World → Prop),
    St c κ Im w H → AV.rels κ Im w args ys.toList → (∀ j, j < s.n → H[id + j]? = some .free) → (s.eff args id (H.getD · .dead)).sat K → Cont c κ Im w H K k →
    Calls P f ys w fun e w' => ∃ v, e = .returned v ∧ k v w'

/-- What an effect hangs on. -/
def localOn (rd : List Nat) (o o' : Nat → AObj) : Prop := ∀ i ∈ rd, o i = o' i

structure EnvOk (E : Env) : Prop where
  mixed : E.P.follows .mixedOrders = true
  loc : ∀ f s, E.C f = some s → ∀ args id o o', s.eff args id o ≠ .bad → localOn (s.rd args o) o o' → s.eff args id o' = s.eff args id o ∧ s.rd args o' = s.rd args o
  enters : ∀ f s, E.C f = some s → ∀ args w, (callFunc f args).run E.P w = .ok (.enter f args) w
  sound : ∀ f s, E.C f = some s → CSound E.P f s

section
variable {P : Program} {c : Ctx} {κ : Kap} {Im : Nat → Prop} {w : World} {H : List AObj} {K : AV → List (Nat × AObj) → Prop} {k : Value → World → Prop}

theorem rels1 {a : AV} {ys : List Value} (h : AV.rels κ Im w [a] ys) : ∃ y, ys = [y] ∧ AV.rel κ Im w a y := by
  simp only [AV.rels] at h
  obtain ⟨y, r, rfl, h2, h3⟩ := h
  exact ⟨y, by rw [h3], h2⟩
theorem rels2 {a b : AV} {ys : List Value} (h : AV.rels κ Im w [a, b] ys) : ∃ y z, ys = [y, z] ∧ AV.rel κ Im w a y ∧ AV.rel κ Im w b z := by
  simp only [AV.rels] at h
  obtain ⟨y, r, rfl, h2, z, r', rfl, h3, h4⟩ := h
  exact ⟨y, z, by rw [h4], h2, h3⟩
theorem rels3 {a b d : AV} {ys : List Value} (h : AV.rels κ Im w [a, b, d] ys) : ∃ y z u, ys = [y, z, u] ∧ AV.rel κ Im w a y ∧ AV.rel κ Im w b z ∧ AV.rel κ Im w d u := by
  simp only [AV.rels] at h
  obtain ⟨y, r, rfl, h2, z, r', rfl, h3, u, r'', rfl, h4, h5⟩ := h
  exact ⟨y, z, u, by rw [h5], h2, h3, h4⟩

theorem rels_one {vs : List AV} {y : Value} (h : AV.rels κ Im w vs [y]) : ∃ v, vs = [v] ∧ AV.rel κ Im w v y := by
  cases vs with
  | nil => simp [AV.rels] at h
  | cons v vs =>
    simp only [AV.rels] at h
    obtain ⟨y', r, e, h2, h3⟩ := h
    cases e
    cases vs with
    | nil => exact ⟨v, rfl, h2⟩
    | cons _ _ => simp [AV.rels] at h3
theorem rels_cons {vs : List AV} {y : Value} {ys : List Value} (h : AV.rels κ Im w vs (y :: ys)) : ∃ v vs', vs = v :: vs' ∧ AV.rel κ Im w v y ∧ AV.rels κ Im w vs' ys := by
  cases vs with
  | nil => simp [AV.rels] at h
  | cons v vs =>
    simp only [AV.rels] at h
    obtain ⟨y', r, e, h2, h3⟩ := h
    cases e
    exact ⟨v, vs, rfl, h2, h3⟩
theorem rels_two {vs : List AV} {y z : Value} (h : AV.rels κ Im w vs [y, z]) : ∃ v u, vs = [v, u] ∧ AV.rel κ Im w v y ∧ AV.rel κ Im w u z := by
  obtain ⟨v, vs', rfl, h1, h2⟩ := rels_cons h
  obtain ⟨u, rfl, h3⟩ := rels_one h2
  exact ⟨v, u, rfl, h1, h3⟩
theorem rels_three {vs : List AV} {y z x : Value} (h : AV.rels κ Im w vs [y, z, x]) : ∃ v u t, vs = [v, u, t] ∧ AV.rel κ Im w v y ∧ AV.rel κ Im w u z ∧ AV.rel κ Im w t x := by
  obtain ⟨v, vs', rfl, h1, h2⟩ := rels_cons h
  obtain ⟨u, t, rfl, h3, h4⟩ := rels_two h2
  exact ⟨v, u, t, rfl, h1, h3, h4⟩

theorem parts_rel (ρ : Operand → Value) : ∀ (ps : List (Nat × Operand)) (vs : List AV), AV.rels κ Im w vs (ps.map fun p => ρ p.2) → partsRel κ Im w ((ps.map (·.1)).zip vs) (ps.map fun p => (p.1, ρ p.2))
  | [], vs, h => by simp [partsRel]
  | (i, x) :: ps, vs, h => by
    cases vs with
    | nil => simp [AV.rels] at h
    | cons v vs =>
      simp only [List.map_cons, AV.rels] at h
      obtain ⟨y, r, e, h2, h3⟩ := h
      simp only [List.cons.injEq] at e
      obtain ⟨rfl, rfl⟩ := e
      simp only [List.map_cons, List.zip_cons_cons, partsRel]
      exact ⟨trivial, h2, parts_rel ρ ps vs h3⟩

theorem op_sound {E : Env} (hE : EnvOk E) {o : Oper} {a : Act} {vs : List AV} {id : Nat} (hst : St c κ Im w H) (hv : AV.rels κ Im w vs (o.op.operands.toList.map a.eval))
    (hid : ∀ j, j < newOp E o.op → H[id + j]? = some .free) (hs : (effOp E o.op vs id (H.getD · .dead)).sat K) (hk : Cont c κ Im w H K k) : Gives E.P (execOp a.eval o) w k := by
  obtain ⟨dst, op, type, pos, after, guard⟩ := o
  simp only at hv hid hs
  have hid0 : 0 < newOp E op → H[id]? = some .free := fun h => by simpa using hid 0 h
  cases op <;> simp only [effOp] at hs <;> try exact hs.elim
  case move x =>
    split at hs
    · obtain ⟨y, e, hr⟩ := rels1 hv
      simp [Op.operands] at e
      exact gives_value (y := y) (w' := w) (by simp [execOp, e]) (hk.same hst hs hr)
    · exact hs.elim
  case assign x =>
    split at hs
    · obtain ⟨y, e, hr⟩ := rels1 hv
      simp [Op.operands] at e
      exact gives_value (y := y) (w' := w) (by simp [execOp, e]) (hk.same hst hs hr)
    · exact hs.elim
  case pick x y z =>
    split at hs
    · obtain ⟨y1, y2, y3, e, h1, h2, h3⟩ := rels3 hv
      simp [Op.operands] at e
      obtain ⟨rfl, rfl, rfl⟩ := e
      exact pick_sound hst h1 h2 h3 hs hk
    · exact hs.elim
  case alloc e =>
    split at hs
    · rename_i z hz
      exact alloc_sound hst (hid0 (by simp [newOp])) hz hs hk
    · exact hs.elim
  case box e x =>
    split at hs
    · split at hs
      · rename_i l hl
        obtain ⟨y, e', hr⟩ := rels1 hv
        simp [Op.operands] at e'
        subst e'
        exact box_sound hst (hid0 (by simp [newOp])) hr hl hs hk
      · exact hs.elim
    · exact hs.elim
  case build t ps =>
    have hp := parts_rel (κ := κ) (Im := Im) (w := w) a.eval ps.toList vs (by simpa [Op.operands, Function.comp_def] using hv)
    have := build_sound (P := E.P) (vs := ps.map fun (i, x) => (i, a.eval x)) hst (by simpa using hp) hs hk
    exact this
  case buildSlice t n ps =>
    have hp := parts_rel (κ := κ) (Im := Im) (w := w) a.eval ps.toList vs (by simpa [Op.operands, Function.comp_def] using hv)
    have := buildSlice_sound (E := E) (vs := ps.map fun (i, x) => (i, a.eval x)) hst (hid0 (by simp [newOp])) (by simpa using hp) hs hk
    exact this
  case makeMap t r =>
    cases r with
    | some _ => exact hs.elim
    | none =>
      exact makeMap_sound hst (hid0 (by simp [newOp])) hs hk
  case range t m =>
    split at hs
    · obtain ⟨y1, e', h1⟩ := rels1 hv
      simp [Op.operands] at e'
      obtain rfl := e'
      exact range_sound hst (hid0 (by simp [newOp])) h1 hs hk
    · exact hs.elim
  case next m str =>
    cases str with
    | true => exact hs.elim
    | false =>
      have hs : (match vs with | [it] => effNext it (H.getD · .dead) | _ => .bad).sat K := hs
      split at hs
      · obtain ⟨y1, e', h1⟩ := rels1 hv
        simp [Op.operands] at e'
        obtain rfl := e'
        exact next_sound hst h1 hs hk
      · exact hs.elim
  case entry m =>
    split at hs
    · obtain ⟨y1, e', h1⟩ := rels1 hv
      simp [Op.operands] at e'
      obtain rfl := e'
      exact entry_sound hst h1 hs hk
    · exact hs.elim
  case lookup t m kk ok =>
    split at hs
    · obtain ⟨y1, y2, e', h1, h2⟩ := rels2 hv
      simp [Op.operands] at e'
      obtain ⟨rfl, rfl⟩ := e'
      exact lookup_sound hst h1 h2 hs hk
    · exact hs.elim
  case mapUpdate t m kk v =>
    split at hs
    · obtain ⟨y1, y2, y3, e', h1, h2, h3⟩ := rels3 hv
      simp [Op.operands] at e'
      obtain ⟨rfl, rfl, rfl⟩ := e'
      exact mapUpdate_sound hst h1 h2 h3 hs hk
    · exact hs.elim
  case load t x =>
    split at hs
    · obtain ⟨y, e', hr⟩ := rels1 hv
      simp [Op.operands] at e'
      subst e'
      exact load_sound hst hr hs hk
    · exact hs.elim
  case store t x y =>
    split at hs
    · obtain ⟨y1, y2, e', h1, h2⟩ := rels2 hv
      simp [Op.operands] at e'
      obtain ⟨rfl, rfl⟩ := e'
      exact store_sound hst h1 h2 hs hk
    · exact hs.elim
  case nilCheck x =>
    have key : ∀ y, a.eval x = y → (∃ ad, y = .pointer (some ad)) → (k y w) → Gives E.P (execOp a.eval ⟨dst, .nilCheck x, type, pos, after, guard⟩) w k := by
      rintro y e ⟨ad, rfl⟩ hkk
      refine gives_value (y := .pointer (some ad)) (w' := w) ?_ hkk
      simp [execOp, e]
    split at hs
    · obtain ⟨y, e', hr⟩ := rels1 hv
      simp [Op.operands] at e'
      exact key y e' (by simp only [AV.rel] at hr; obtain ⟨b, _, h⟩ := hr; exact ⟨_, h⟩) (hk.same hst hs hr)
    · obtain ⟨y, e', hr⟩ := rels1 hv
      simp [Op.operands] at e'
      exact key y e' (by simp only [AV.rel] at hr; obtain ⟨_, b, o, h, _⟩ := hr; exact ⟨_, h⟩) (hk.same hst hs hr)
    · obtain ⟨y, e', hr⟩ := rels1 hv
      simp [Op.operands] at e'
      exact key y e' (by simp only [AV.rel] at hr; obtain ⟨b, _, _, _, _, h⟩ := hr; exact ⟨_, h⟩) (hk.same hst hs hr)
    · exact hs.elim
  case binOp b t x y t2 =>
    split at hs
    · obtain ⟨y1, y2, e', h1, h2⟩ := rels2 hv
      simp [Op.operands] at e'
      obtain ⟨rfl, rfl⟩ := e'
      exact bin_sound hst h1 h2 hs hk
    · exact hs.elim
  case unOp u t x =>
    split at hs
    · obtain ⟨y, e', hr⟩ := rels1 hv
      simp [Op.operands] at e'
      subst e'
      exact un_sound hst hr hs hk
    · exact hs.elim
  case convert s d x =>
    split at hs
    · obtain ⟨y, e', hr⟩ := rels1 hv
      simp [Op.operands] at e'
      subst e'
      exact conv_sound hst hr hs hk
    · exact hs.elim
  case makeFunc fn first captured =>
    cases fn with
    | func f =>
      simp only at hs
      split at hs
      · rename_i he
        have hf : first = #[] := by simpa using he
        subst hf
        refine gives_value (y := .func (.func f) #[] (captured.map a.eval)) (w' := w) (by simp [execOp, Instr.makeFunc]) (hk.same hst hs ?_)
        simp only [AV.rel]
        exact ⟨_, rfl, by simpa [Op.operands] using hv⟩
      · exact hs.elim
    | _ => exact hs.elim
  case slice t x lo hi mx =>
    cases mx with
    | some _ => exact hs.elim
    | none =>
      simp only [Op.operands] at hv
      cases lo with
      | none => cases hi with
        | none =>
          obtain ⟨v1, rfl, hr⟩ := rels_one (by simpa using hv)
          exact slice_sound (lo := none) (hi := none) (ylo := none) (yhi := none) hst hr trivial trivial hs hk
        | some h =>
          obtain ⟨v1, v2, rfl, hr, h2⟩ := rels_two (by simpa using hv)
          exact slice_sound (lo := none) (hi := some v2) (ylo := none) (yhi := some (a.eval h)) hst hr trivial h2 hs hk
      | some l => cases hi with
        | none =>
          obtain ⟨v1, v2, rfl, hr, h2⟩ := rels_two (by simpa using hv)
          exact slice_sound (lo := some v2) (hi := none) (ylo := some (a.eval l)) (yhi := none) hst hr h2 trivial hs hk
        | some h =>
          obtain ⟨v1, v2, v3, rfl, hr, h2, h3⟩ := rels_three (by simpa using hv)
          exact slice_sound (lo := some v2) (hi := some v3) (ylo := some (a.eval l)) (yhi := some (a.eval h)) hst hr h2 h3 hs hk
  case fieldAddr s x f =>
    split at hs
    · obtain ⟨y, e', hr⟩ := rels1 hv
      simp [Op.operands] at e'
      subst e'
      exact fieldAddr_sound hst hr hs hk
    · exact hs.elim
  case field s x f =>
    split at hs
    · obtain ⟨y, e', hr⟩ := rels1 hv
      simp [Op.operands] at e'
      subst e'
      exact field_sound hst hr hs hk
    · exact hs.elim
  case indexAddr t x i =>
    split at hs
    · obtain ⟨y1, y2, e', h1, h2⟩ := rels2 hv
      simp [Op.operands] at e'
      obtain ⟨rfl, rfl⟩ := e'
      exact indexAddr_sound hst h1 h2 hs hk
    · exact hs.elim
  case index t x i =>
    split at hs
    · obtain ⟨y1, y2, e', h1, h2⟩ := rels2 hv
      simp [Op.operands] at e'
      obtain ⟨rfl, rfl⟩ := e'
      exact index_sound hst h1 h2 hs hk
    · exact hs.elim
  case extract x n =>
    split at hs
    · split at hs
      · rename_i l r hl
        obtain ⟨y, e', hr⟩ := rels1 hv
        simp [Op.operands] at e'
        simp only [AV.rel] at hr
        obtain ⟨ys, rfl, h2⟩ := hr
        obtain ⟨z, hz, hrz⟩ := rels_getElem h2 hl
        refine gives_value (y := z) (w' := w) ?_ (hk.same hst hs hrz)
        rw [Array.getElem?_toList] at hz
        simp [execOp, e', Instr.extract, hz]
      · exact hs.elim
    · exact hs.elim
  case call cl =>
    obtain ⟨callee, args, ats⟩ := cl
    cases callee with
    | invoke r m => exact hs.elim
    | builtin b =>
      simp only at hs
      have hvs : AV.rels κ Im w vs (args.toList.map a.eval) := by simpa [Op.operands, Call.operands] using hv
      have hex : execOp a.eval ⟨dst, .call ⟨.builtin b, args, ats⟩, type, pos, after, guard⟩ = (do let d ← resolve a.eval ⟨.builtin b, args, ats⟩ type; invoke d.target d.args) := rfl
      unfold effBuiltin at hs
      split at hs
      · rename_i s x
        obtain ⟨y1, y2, e, h1, h2⟩ := rels2 hvs
        have hargs : args.map a.eval = #[y1, y2] := by apply Array.ext'; simpa using e
        have := append_sound (E := E) (ats := ats) (ty := type) hst (hid0 (by simp [newOp])) h1 h2 hs hk
        rw [hex]
        simp only [resolve, hargs]
        exact this
      · rename_i x
        obtain ⟨y1, e, h1⟩ := rels1 hvs
        have hargs : args.map a.eval = #[y1] := by apply Array.ext'; simpa using e
        have := len_sound (P := E.P) (ats := ats) (ty := type) hst h1 hs hk
        rw [hex]
        simp only [resolve, hargs]
        exact this
      · rename_i m kk
        obtain ⟨y1, y2, e, h1, h2⟩ := rels2 hvs
        have hargs : args.map a.eval = #[y1, y2] := by apply Array.ext'; simpa using e
        have := delete_sound (E := E) (ats := ats) (ty := type) hst h1 h2 hs hk
        rw [hex]
        simp only [resolve, hargs]
        exact this
      · split at hs
        · rename_i r hr
          unfold minmax at hr
          split at hr
          · rename_i kd x l
            obtain ⟨y1, ys, e, h1, h2⟩ : ∃ y1 ys, args.toList.map a.eval = y1 :: ys ∧ y1 = .int kd x ∧ AV.rels κ Im w l ys := by
              simp only [AV.rels, AV.rel] at hvs
              exact hvs
            subst h1
            obtain ⟨m, rfl, hm⟩ := mmAcc_sound (P := E.P) true kd l ys x r hr h2
            refine hk.val hst hs ?_
            rw [hex]
            have hargs : (args.map a.eval).toList = .int kd x :: ys := by simpa using e
            simp only [resolve, Sem.run_bind, Sem.run_pure, Result.andThen_ok, invoke, builtin, Builtin.max_, hargs]
            simp only [if_true] at hm
            rw [hm]
            rfl
          · cases hr
        · exact hs.elim
      · split at hs
        · rename_i r hr
          unfold minmax at hr
          split at hr
          · rename_i kd x l
            obtain ⟨y1, ys, e, h1, h2⟩ : ∃ y1 ys, args.toList.map a.eval = y1 :: ys ∧ y1 = .int kd x ∧ AV.rels κ Im w l ys := by
              simp only [AV.rels, AV.rel] at hvs
              exact hvs
            subst h1
            obtain ⟨m, rfl, hm⟩ := mmAcc_sound (P := E.P) false kd l ys x r hr h2
            refine hk.val hst hs ?_
            rw [hex]
            have hargs : (args.map a.eval).toList = .int kd x :: ys := by simpa using e
            simp only [resolve, Sem.run_bind, Sem.run_pure, Result.andThen_ok, invoke, builtin, Builtin.min_, hargs]
            simp only [Bool.false_eq_true, if_false] at hm
            rw [hm]
            rfl
          · cases hr
        · exact hs.elim
      · exact hs.elim
    | value f =>
      simp only at hs
      split at hs
      · rename_i g caps avs
        split at hs
        · rename_i s hC
          split at hs
          · rename_i hn
            obtain ⟨y, ys, e, hr, hvs⟩ : ∃ y ys, a.eval f :: args.toList.map a.eval = y :: ys ∧ AV.rel κ Im w (.fn g caps) y ∧ AV.rels κ Im w avs ys := by
              have h0 : AV.rels κ Im w (.fn g caps :: avs) (a.eval f :: args.toList.map a.eval) := by simpa [Op.operands, Call.operands] using hv
              simp only [AV.rels] at h0
              exact h0
            simp only [List.cons.injEq] at e
            obtain ⟨e1, e2⟩ := e
            simp only [AV.rel] at hr
            obtain ⟨cs, rfl, hcs⟩ := hr
            have hall : AV.rels κ Im w (avs ++ caps) ((args.map a.eval) ++ cs).toList := by
              rw [Array.toList_append, rels_append]
              exact ⟨_, _, rfl, by simpa [e2] using hvs, hcs⟩
            have hcall := hE.sound g s hC c κ Im w H (avs ++ caps) ((args.map a.eval) ++ cs) id K k hst hall (fun j hj => hid j (by omega)) hs hk
            have hrun : (execOp a.eval ⟨dst, .call ⟨.value f, args, ats⟩, type, pos, after, guard⟩).run E.P w = .ok (.enter g ((args.map a.eval) ++ cs)) w := by
              simp [execOp, resolve, e1, Deferred.ofValue, invoke, hE.enters g s hC]
            unfold Gives
            rw [hrun]
            exact hcall
          · exact hs.elim
        · exact hs.elim
      · exact hs.elim
end
end Go.X

/- A region, operation by operation. -/
namespace Go.X
open Go

/-! ### Forcing: the kernel is to see plain constructors -/
def forceN (n : Nat) (k : Nat → Prop) : Prop := match n + 1 with | 0 => k n | m + 1 => k m
theorem forceN_eq (n : Nat) (k : Nat → Prop) : forceN n k = k n := rfl
def forceV (x : Value) (k : Value → Prop) : Prop :=
  match x with
  | .int a n => k (.int a n)
  | .bool b => k (.bool b)
  | .pointer a => k (.pointer a)
  | .slice a n c => k (.slice a n c)
  | x => k x
theorem forceV_eq (x : Value) (k : Value → Prop) : forceV x k = k x := by cases x <;> rfl

mutual
def forceAV : AV → (AV → Prop) → Prop
  | .v x, k => forceV x fun x => k (.v x)
  | .any, k => k .any
  | .gd j p t a, k => forceAV a fun a => k (.gd j p t a)
  | .ptr i o, k => forceN i fun i => forceN o fun o => k (.ptr i o)
  | .agg l, k => forceL l fun l => k (.agg l)
  | .tup l, k => forceL l fun l => k (.tup l)
  | .fn f l, k => forceL l fun l => k (.fn f l)
  | .rs c xs, k => k (.rs c xs)
  | .ep c xs n o, k => k (.ep c xs n o)
  | .hd i, k => forceN i fun i => k (.hd i)
  | .vw i a b d, k => k (.vw i a b d)
  | .rp i a b d, k => k (.rp i a b d)
def forceL : List AV → (List AV → Prop) → Prop
  | [], k => k []
  | a :: l, k => forceAV a fun a => forceL l fun l => k (a :: l)
end
mutual
theorem forceAV_eq : ∀ (a : AV) (k : AV → Prop), forceAV a k = k a
  | .v x, k => by simp only [forceAV, forceV_eq]
  | .any, k => by simp only [forceAV]
  | .gd j p t a, k => by simp only [forceAV, forceAV_eq a]
  | .ptr i o, k => by simp only [forceAV, forceN_eq]
  | .agg l, k => by simp only [forceAV, forceL_eq l]
  | .tup l, k => by simp only [forceAV, forceL_eq l]
  | .fn f l, k => by simp only [forceAV, forceL_eq l]
  | .rs c xs, k => by simp only [forceAV]
  | .ep c xs n o, k => by simp only [forceAV]
  | .hd i, k => by simp only [forceAV, forceN_eq]
  | .vw i a b d, k => by simp only [forceAV]
  | .rp i a b d, k => by simp only [forceAV]
theorem forceL_eq : ∀ (l : List AV) (k : List AV → Prop), forceL l k = k l
  | [], k => by simp only [forceL]
  | a :: l, k => by simp only [forceL, forceAV_eq a, forceL_eq l]
end

def forceOpt {α : Type} : Option α → (Option α → Prop) → Prop
  | none, k => k none
  | some x, k => k (some x)
theorem forceOpt_eq {α : Type} (x : Option α) (k : Option α → Prop) : forceOpt x k = k x := by cases x <;> rfl
def forceO (o : AObj) (k : AObj → Prop) : Prop :=
  match o with
  | .free => k .free
  | .dead => k .dead
  | .cells cs E => forceL cs fun cs => k (.cells cs E)
  | .row E c xs => k (.row E c xs)
  | .map a b m => k (.map a b m)
  | .lent => k .lent
  | .rng i ck cv m s cur => forceN i fun i => forceOpt cur fun cur => k (.rng i ck cv m s cur)
  | .loop st => k (.loop st)
theorem forceO_eq (o : AObj) (k : AObj → Prop) : forceO o k = k o := by cases o <;> simp only [forceO, forceL_eq, forceN_eq, forceOpt_eq]

def setF {α : Type} : List α → Nat → α → (List α → Prop) → Prop
  | [], _, _, k => k []
  | x :: l, n, a, k => match n with
    | 0 => k (a :: l)
    | n + 1 => setF l n a fun l => k (x :: l)
theorem setF_eq {α : Type} : ∀ (l : List α) (n : Nat) (a : α) (k : List α → Prop), setF l n a k = k (l.set n a)
  | [], n, a, k => rfl
  | x :: l, 0, a, k => rfl
  | x :: l, n + 1, a, k => by simp only [setF, setF_eq l]; rfl

/-- Updates below a number alone. -/
def updF (lim : Nat) (H : List AObj) : List (Nat × AObj) → (List AObj → Prop) → Prop
  | [], k => k H
  | (i, o) :: r, k => match Nat.blt i lim with
    | true => forceO o fun o => setF H i o fun H => updF lim H r k
    | false => False
theorem updF_spec (lim : Nat) : ∀ (u : List (Nat × AObj)) (H : List AObj) (k : List AObj → Prop), updF lim H u k → k (updH H u) ∧ ∀ j, lim ≤ j → (updH H u)[j]? = H[j]?
  | [], H, k, h => ⟨h, fun _ _ => rfl⟩
  | (i, o) :: r, H, k, h => by
    simp only [updF] at h
    split at h
    · rename_i hlt
      simp only [forceO_eq, setF_eq] at h
      obtain ⟨h1, h2⟩ := updF_spec lim r _ k h
      have hi : i < lim := by simpa using hlt
      exact ⟨h1, fun j hj => by rw [show updH H ((i, o) :: r) = updH (H.set i o) r from rfl, h2 j hj, List.getElem?_set_ne (by omega)]⟩
    · exact h.elim

def putT (T : List AV) (d : Option Nat) (a : AV) : List AV := match d with | some i => T.set i a | none => T
def putF (T : List AV) (d : Option Nat) (a : AV) (k : List AV → Prop) : Prop := match d with
  | some i => forceAV a fun a => setF T i a k
  | none => k T
theorem putF_eq (T : List AV) (d : Option Nat) (a : AV) (k : List AV → Prop) : putF T d a k = k (putT T d a) := by
  cases d <;> simp only [putF, putT, forceAV_eq, setF_eq]

/-- A case, by a bool that the walk may not know. -/
def cnd (t : Bool) (a b : Prop) : Prop := match t with | true => a | false => b
theorem cnd_iff (t : Bool) (a b : Prop) : cnd t a b ↔ (t = true → a) ∧ (t = false → b) := by cases t <;> simp [cnd]

/-! ### Guards -/
inductive Grd where
  | none
  | cond (t : Bool) (fx : Option (Nat × Bool))
  | bad

def guardOf (ops : Array Oper) (T : List AV) (o : Oper) : Grd :=
  match o.guard with
  | none => .none
  | some (j, p) => match (ops[j]?).bind (·.dst) with
    | none => .bad
    | some d => match T.getD d .any with
      | .v (.bool g) => .cond (match p with | true => g | false => !g) (some (d, p))
      | .gd _ _ t (.v (.bool g)) => .cond (t && (match p with | true => g | false => !g)) none
      | _ => .bad

def stripAV : AV → AV
  | .gd _ _ _ a => a
  | a => a
def gdReq (t : Bool) : List AV → Prop
  | [] => True
  | .gd _ _ g _ :: l => Ok (t = true → g = true) ∧ gdReq t l
  | _ :: l => gdReq t l

def gdAnd (t : Bool) : List AV → Prop → Prop
  | [], k => k
  | .gd _ _ g _ :: l, k => Ok (t = true → g = true) ∧ gdAnd t l k
  | _ :: l, k => gdAnd t l k
theorem gdAnd_iff (t : Bool) : ∀ (l : List AV) (k : Prop), gdAnd t l k ↔ gdReq t l ∧ k
  | [], k => by simp [gdAnd, gdReq]
  | a :: l, k => by
    have := gdAnd_iff t l k
    cases a <;> simp only [gdAnd, gdReq, this, and_assoc]

def isPick : Op → Bool
  | .pick _ _ _ => true
  | _ => false

/-- The operands that must be there: of a choice the first alone. -/
def pq (op : Op) (l : List AV) : List AV := match isPick op with | true => l.take 1 | false => l
def strip1 : List AV → List AV
  | [] => []
  | a :: l => stripAV a :: l
def pvs (op : Op) (l : List AV) : List AV := match isPick op with | true => strip1 l | false => l.map stripAV

def evs (T : List AV) (op : Op) : List AV := op.operands.toList.map (ev T)

/-- The effect without a guard. -/
def runEff (lim : Nat) : Eff → List AV → List AObj → Option Nat → (List AV → List AObj → Prop) → Prop
  | .bad, _, _, _, _ => False
  | .ok r u, T, H, d, K => putF T d r fun T => updF lim H u fun H => K T H
  | .req q r u, T, H, d, K => Ok q ∧ putF T d r fun T => updF lim H u fun H => K T H
  | .nd ι q r u, T, H, d, K => ∀ x : ι, q x → putF T d (r x) fun T => updF lim H (u x) fun H => K T H
  | .alt a b, T, H, d, K => runEff lim a T H d K ∧ runEff lim b T H d K
  | .when p a, T, H, d, K => Ok p ∧ runEff lim a T H d K

/-- What a guard has said, laid down. -/
def fixT (fx : Option (Nat × Bool)) (b : Bool) (T : List AV) (k : List AV → Prop) : Prop := match fx with
  | none => k T
  | some (d, p) => setF T d (.v (.bool (match p with | true => b | false => !b))) k

/-- The effect under a guard. -/
def runGd (lim : Nat) (t : Bool) (fx : Option (Nat × Bool)) (e : Eff) (T : List AV) (H : List AObj) (d : Option Nat) (K : List AV → List AObj → Prop) : Prop :=
  match e with
  | .bad => cnd t False (fixT fx false T fun T => putF T d (.v undef) fun T => K T H)
  | .ok r [] => putF T d (.gd 0 true t r) fun T => K T H
  | .req q r [] => Ok (t = true → q) ∧ putF T d (.gd 0 true t r) fun T => K T H
  | e => cnd t (fixT fx true T fun T => runEff lim e T H d K) (fixT fx false T fun T => putF T d (.v undef) fun T => K T H)

def xOp (E : Env) (ops : Array Oper) (o : Oper) (id : Nat) (T : List AV) (H : List AObj) (K : List AV → List AObj → Prop) : Prop :=
  match guardOf ops T o with
  | .bad => False
  | .none => gdAnd true (pq o.op (evs T o.op)) (runEff (id + newOp E o.op) (effOp E o.op (pvs o.op (evs T o.op)) id (H.getD · .dead)) T H o.dst K)
  | .cond t fx => gdAnd t (pq o.op (evs T o.op)) (runGd (id + newOp E o.op) t fx (effOp E o.op (pvs o.op (evs T o.op)) id (H.getD · .dead)) T H o.dst K)

theorem fix_eq {ops : Array Oper} {T : List AV} {o : Oper} {t : Bool} {fx : Option (Nat × Bool)} (h : guardOf ops T o = .cond t fx) {b : Bool} (hb : t = b) (k : List AV → Prop) : fixT fx b T k = k T := by
  unfold guardOf at h
  split at h
  · cases h
  · rename_i j p hg
    split at h
    · cases h
    · rename_i d hd
      split at h
      · rename_i g hT
        cases h
        subst hb
        have hfin : T.set d (.v (.bool g)) = T := by
          rw [← hT]
          rcases Nat.lt_or_ge d T.length with hlt | hge
          · rw [getD_getElem _ hlt, List.set_getElem_self]
          · rw [List.set_eq_of_length_le hge]
        cases p <;> cases g <;> simp only [fixT, setF_eq, Bool.not_true, Bool.not_false] <;> rw [hfin]
      · cases h; rfl
      · cases h

/-! ### Soundness -/
section
variable {c : Ctx} {κ : Kap} {Im : Nat → Prop} {w : World} {H : List AObj}

theorem rels_get {T : List AV} {ys : List Value} (h : AV.rels κ Im w T ys) (i : Nat) : AV.rel κ Im w (T.getD i .any) (ys.getD i undef) := by
  simp only [List.getD]
  cases hi : T[i]? with
  | none => simp only [Option.getD_none, AV.rel]
  | some a =>
    obtain ⟨y, h1, h2⟩ := rels_getElem h hi
    rw [h1]; exact h2

theorem ev_rel {T : List AV} {a : Act} (h : AV.rels κ Im w T a.tmps.toList) (x : Operand) : AV.rel κ Im w (ev T x) (a.eval x) := by
  cases x with
  | tmp i =>
    have := rels_get h i
    simp only [ev, Act.eval]
    rw [show a.tmps.getD i undef = a.tmps.toList.getD i undef from by simp [List.getD, Array.getD_eq_getD_getElem?]]
    exact this
  | const v => exact toAV_rel v
  | global g => simp only [ev, Act.eval, AV.rel]
  | func f => simp only [ev, Act.eval, AV.rel]; exact ⟨#[], rfl, by simp [AV.rels]⟩

theorem evs_rel {T : List AV} {a : Act} (h : AV.rels κ Im w T a.tmps.toList) (op : Op) : AV.rels κ Im w (evs T op) (op.operands.toList.map a.eval) := by
  unfold evs
  generalize op.operands.toList = l
  induction l with
  | nil => simp [AV.rels]
  | cons x l ih => simp only [List.map_cons, AV.rels]; exact ⟨_, _, rfl, ev_rel h x, ih⟩

theorem strip_rel (t : Bool) (ht : t = true) : ∀ (l : List AV) (ys : List Value), gdReq t l → AV.rels κ Im w l ys → AV.rels κ Im w (l.map stripAV) ys
  | [], ys, _, h => h
  | a :: l, ys, hq, h => by
    simp only [AV.rels, List.map_cons] at h ⊢
    obtain ⟨y, r, rfl, h2, h3⟩ := h
    cases a with
    | gd j p g a =>
      simp only [gdReq] at hq
      simp only [AV.rel] at h2
      exact ⟨y, r, rfl, h2.1 (hq.1.out ht), strip_rel t ht l r hq.2 h3⟩
    | _ => exact ⟨y, r, rfl, h2, strip_rel t ht l r hq h3⟩

theorem pvs_rel (t : Bool) (ht : t = true) (op : Op) {l : List AV} {ys : List Value} (hq : gdReq t (pq op l)) (h : AV.rels κ Im w l ys) : AV.rels κ Im w (pvs op l) ys := by
  unfold pq at hq
  unfold pvs
  cases hp : isPick op with
  | false => rw [hp] at hq; exact strip_rel t ht l ys hq h
  | true =>
    rw [hp] at hq
    cases l with
    | nil => exact h
    | cons a l =>
      simp only [AV.rels] at h
      obtain ⟨y, r, rfl, h2, h3⟩ := h
      have := strip_rel (κ := κ) (Im := Im) (w := w) t ht [a] [y] (by simpa using hq) (by simp only [AV.rels]; exact ⟨y, [], rfl, h2, rfl⟩)
      simp only [List.map_cons, List.map_nil, AV.rels] at this
      obtain ⟨y', r', e, h4, _⟩ := this
      cases e
      simp only [strip1, AV.rels]
      exact ⟨y, r, rfl, h4, h3⟩

theorem putT_rel {T : List AV} {a : Act} {d : Option Nat} {r : AV} {y : Value} (h : AV.rels κ Im w T a.tmps.toList) (hr : AV.rel κ Im w r y) : AV.rels κ Im w (putT T d r) (a.put d y).tmps.toList := by
  cases d with
  | none => exact h
  | some i =>
    simp only [putT, Act.put, Array.toList_setIfInBounds]
    generalize a.tmps.toList = ys at h
    induction T generalizing ys i with
    | nil => simp only [AV.rels] at h; subst h; simp [AV.rels]
    | cons b T ih =>
      simp only [AV.rels] at h
      obtain ⟨z, s, rfl, h2, h3⟩ := h
      cases i with
      | zero => simp only [List.set_cons_zero, AV.rels]; exact ⟨y, s, rfl, hr, h3⟩
      | succ i => simp only [List.set_cons_succ, AV.rels]; exact ⟨z, _, rfl, h2, ih i s h3⟩

/-- A frame that fits. -/
def markOf (b : Nat) : Deferred := { target := .collected b, args := #[] }
def rdOk (κ : Kap) (Im : Nat → Prop) (w : World) (d : RD) : Prop :=
  ∃ l tmps, κ d.j = some (.func (.yield l) #[] #[]) ∧ lstat w.heap[l]? = some (d.ps, d.ca, d.cb, tmps) ∧ AV.rels κ Im w d.T tmps.toList
theorem rdOk_mono {κ κ' : Kap} {Im Im' : Nat → Prop} {w w' : World} {d : RD} (hl : Le κ κ' Im Im' w w') (h : rdOk κ Im w d) : rdOk κ' Im' w' d := by
  obtain ⟨l, t, h1, h2, h3⟩ := h
  exact ⟨l, t, hl.k _ _ h1, hl.recs _ _ h2, AV.rels_mono hl _ _ h3⟩

structure Fits (c : Ctx) (T : List AV) (H : List AObj) (κ : Kap) (Im : Nat → Prop) (a : Act) (w : World) : Prop where
  st : St c κ Im w H
  tmps : AV.rels κ Im w T a.tmps.toList
  defers : ∃ L : List Nat, a.defers = L.map markOf ∧ L.Nodup ∧ ∀ b ∈ L, Im b ∧ c.m0 ≤ b ∧ w.heap[b]? = some (.deferred (some []))
  slots : a.tmps.size = c.t0.size ∧ ∀ s, c.W s = false → a.tmps[s]? = c.t0[s]?
  rounds : ∀ d ∈ c.R, rdOk κ Im w d
  m0le : c.m0 ≤ c.w.heap.size

theorem Fits.put {T T' : List AV} {H' : List AObj} {κ' : Kap} {Im' : Nat → Prop} {w' : World} {a : Act} {d : Option Nat} {y : Value} (h : Fits c T H κ Im a w) (hle : Le κ κ' Im Im' w w') (hst : St c κ' Im' w' H') (hT : AV.rels κ' Im' w' T' (a.put d y).tmps.toList)
    (hW : ∀ s, d = some s → c.W s = true) : Fits c T' H' κ' Im' (a.put d y) w' := by
  refine ⟨hst, hT, ?_, ?_, fun d hd => rdOk_mono hle (h.rounds d hd), h.m0le⟩
  · obtain ⟨L, h1, h2, h3⟩ := h.defers
    refine ⟨L, ?_, h2, fun b hb => ⟨hle.im b (h3 b hb).1, (h3 b hb).2.1, (hle.heap b (h3 b hb).1).trans (h3 b hb).2.2⟩⟩
    cases d <;> exact h1
  · cases d with
    | none => exact h.slots
    | some s =>
      refine ⟨by simpa [Act.put] using h.slots.1, fun s' hs' => ?_⟩
      have hne : s ≠ s' := fun e => by rw [e] at hW; rw [hW s' rfl] at hs'; cases hs'
      simp only [Act.put, Array.getElem?_setIfInBounds, hne, if_false]
      exact h.slots.2 s' hs'
theorem Fits.to {T : List AV} {H' : List AObj} {κ' : Kap} {Im' : Nat → Prop} {w' : World} {a : Act} (h : Fits c T H κ Im a w) (hle : Le κ κ' Im Im' w w') (hst : St c κ' Im' w' H') : Fits c T H' κ' Im' a w' := by
  have := h.put (d := none) (y := undef) hle hst (AV.rels_mono hle _ _ h.tmps) (fun _ e => by cases e)
  exact this
theorem Fits.put' {T' : List AV} {a : Act} {d : Option Nat} {y : Value} {T : List AV} (h : Fits c T H κ Im a w) (hT : AV.rels κ Im w T' (a.put d y).tmps.toList) (hW : ∀ s, d = some s → c.W s = true) : Fits c T' H κ Im (a.put d y) w :=
  h.put (Le.refl _ _ _) h.st hT hW

theorem runEff_sound {E : Env} (hE : EnvOk E) {ro : Option Nat} {n : Nat} {o : Oper} (hW : ∀ s, o.dst = some s → c.W s = true) {id : Nat} {T : List AV} {a : Act} {vs : List AV} {K : List AV → List AObj → Prop} (hf : Fits c T H κ Im a w)
    (hv : AV.rels κ Im w vs (o.op.operands.toList.map a.eval)) (hid : ∀ j, j < newOp E o.op → H[id + j]? = some .free)
    (hs : runEff (id + newOp E o.op) (effOp E o.op vs id (H.getD · .dead)) T H o.dst K) {next : Act → World → Prop} {Q : Exit → Act → World → Prop}
    (hk : ∀ T' H' κ' Im' a' w', K T' H' → (∀ j, id + newOp E o.op ≤ j → H'[j]? = H[j]?) → Fits c T' H' κ' Im' a' w' → next a' w') : o.wpIn (FR ro) n E.P a w next Q := by
  have hsat : (effOp E o.op vs id (H.getD · .dead)).sat fun r u => K (putT T o.dst r) (updH H u) ∧ ∀ j, id + newOp E o.op ≤ j → (updH H u)[j]? = H[j]? := ?_
  refine Gives.wpIn (effOp_nd hsat) (op_sound hE hf.st hv hid hsat ?_)
  rotate_left
  · generalize effOp E o.op vs id (H.getD · .dead) = e at hs ⊢
    induction e with
    | bad => exact hs
    | ok r u => simp only [runEff, Eff.sat, putF_eq] at hs ⊢; exact updF_spec _ _ _ _ hs
    | req q r u => simp only [runEff, Eff.sat, putF_eq] at hs ⊢; exact ⟨hs.1, updF_spec _ _ _ _ hs.2⟩
    | nd ι q r u => simp only [runEff, Eff.sat, putF_eq] at hs ⊢; exact fun x hx => updF_spec _ _ _ _ (hs x hx)
    | alt a b iha ihb => simp only [runEff, Eff.sat] at hs ⊢; exact ⟨iha hs.1, ihb hs.2⟩
    | when p a ih => simp only [runEff, Eff.sat] at hs ⊢; exact ⟨hs.1, ih hs.2⟩
  · intro r u κ' Im' w' y hK hle hst hr
    exact hk _ _ κ' Im' _ w' hK.1 hK.2 (hf.put hle hst (putT_rel (AV.rels_mono hle _ _ hf.tmps) hr) hW)

theorem runGd_sound {E : Env} (hE : EnvOk E) {ro : Option Nat} {n : Nat} {ops : Array Oper} {o : Oper} (hW : ∀ s, o.dst = some s → c.W s = true) {id : Nat} {T : List AV} {a : Act} {vs : List AV} {t : Bool} {K : List AV → List AObj → Prop} (hf : Fits c T H κ Im a w)
    {fx : Option (Nat × Bool)} (hg : guardOf ops T o = .cond t fx) (hw : Region.wanted o (yielded ops a.tmps) = t) (hv : t = true → AV.rels κ Im w vs (o.op.operands.toList.map a.eval)) (hid : ∀ j, j < newOp E o.op → H[id + j]? = some .free)
    (hs : runGd (id + newOp E o.op) t fx (effOp E o.op vs id (H.getD · .dead)) T H o.dst K) {next : Act → World → Prop} {Q : Exit → Act → World → Prop}
    (hk : ∀ T' H' κ' Im' a' w', K T' H' → (∀ j, id + newOp E o.op ≤ j → H'[j]? = H[j]?) → Fits c T' H' κ' Im' a' w' → next a' w') :
    if Region.wanted o (yielded ops a.tmps) then o.wpIn (FR ro) n E.P a w next Q else next (a.put o.dst undef) w := by
  rw [hw]
  have skip : ∀ r, AV.rel κ Im w r undef → K (putT T o.dst r) H → next (a.put o.dst undef) w := fun r hr hK =>
    hk _ _ κ Im _ w hK (fun _ _ => rfl) (hf.put' (putT_rel hf.tmps hr) hW)
  unfold runGd at hs
  split at hs
  · rw [cnd_iff] at hs
    cases t with
    | true => exact (hs.1 rfl).elim
    | false =>
      simp only [Bool.false_eq_true, if_false]
      have := hs.2 rfl
      rw [fix_eq hg rfl, putF_eq] at this
      exact skip _ (by simp only [AV.rel]) this
  · rename_i r he
    rw [putF_eq] at hs
    cases t with
    | false => simp only [Bool.false_eq_true, if_false]; exact skip _ (by simp [AV.rel]) hs
    | true =>
      simp only [if_true]
      have hsat : (effOp E o.op vs id (H.getD · .dead)).sat fun r' u => r' = r ∧ u = [] := by rw [he]; exact ⟨rfl, rfl⟩
      refine Gives.wpIn (effOp_nd hsat) (op_sound hE hf.st (hv rfl) hid hsat ?_)
      rintro r' u κ' Im' w' y ⟨rfl, rfl⟩ hle hst hr
      exact hk _ _ κ' Im' _ w' hs (fun _ _ => rfl) (hf.put hle hst (putT_rel (AV.rels_mono hle _ _ hf.tmps) (by simp only [AV.rel]; exact ⟨fun _ => hr, fun h => by cases h⟩)) hW)
  · rename_i q r he
    obtain ⟨⟨hq⟩, hs⟩ := hs
    rw [putF_eq] at hs
    cases t with
    | false => simp only [Bool.false_eq_true, if_false]; exact skip _ (by simp [AV.rel]) hs
    | true =>
      simp only [if_true]
      have hsat : (effOp E o.op vs id (H.getD · .dead)).sat fun r' u => r' = r ∧ u = [] := by rw [he]; exact ⟨⟨hq rfl⟩, rfl, rfl⟩
      refine Gives.wpIn (effOp_nd hsat) (op_sound hE hf.st (hv rfl) hid hsat ?_)
      rintro r' u κ' Im' w' y ⟨rfl, rfl⟩ hle hst hr
      exact hk _ _ κ' Im' _ w' hs (fun _ _ => rfl) (hf.put hle hst (putT_rel (AV.rels_mono hle _ _ hf.tmps) (by simp only [AV.rel]; exact ⟨fun _ => hr, fun h => by cases h⟩)) hW)
  · rw [cnd_iff] at hs
    cases t with
    | false =>
      simp only [Bool.false_eq_true, if_false]
      have := hs.2 rfl
      rw [fix_eq hg rfl, putF_eq] at this
      exact skip _ (by simp only [AV.rel]) this
    | true =>
      simp only [if_true]
      have := hs.1 rfl
      rw [fix_eq hg rfl] at this
      exact runEff_sound hE hW hf (hv rfl) hid this hk

theorem guard_sound {ops : Array Oper} {o : Oper} {T : List AV} {a : Act} (h : AV.rels κ Im w T a.tmps.toList) :
    (guardOf ops T o = .none → Region.wanted o (yielded ops a.tmps) = true) ∧ (∀ t fx, guardOf ops T o = .cond t fx → Region.wanted o (yielded ops a.tmps) = t) := by
  unfold guardOf Region.wanted
  split
  · rename_i hg; simp [hg]
  · rename_i j p hg
    split
    · simp
    · rename_i d hd
      have hr := rels_get h d
      have hy : yielded ops a.tmps j = match a.tmps.toList.getD d undef with | .bool b => some b | _ => none := by
        unfold yielded
        rw [hd, Option.bind_some]
        simp only [List.getD, Array.getElem?_toList]
        cases a.tmps[d]? with
        | none => rfl
        | some v => cases v <;> rfl
      split
      · rename_i g hT
        rw [hT] at hr
        simp only [AV.rel] at hr
        rw [hr] at hy
        simp only [hg, hy]
        refine ⟨by simp, fun t fx ht => ?_⟩
        cases ht
        cases p <;> cases g <;> rfl
      · rename_i t1 g hT
        rw [hT] at hr
        simp only [AV.rel] at hr
        simp only [hg]
        refine ⟨by simp, fun t fx ht => ?_⟩
        cases ht
        cases t1 with
        | false =>
          rw [hr.2 rfl] at hy
          simp only [undef] at hy
          rw [hy]; rfl
        | true =>
          rw [hr.1 rfl] at hy
          rw [hy]
          cases p <;> cases g <;> rfl
      · simp

/-- One operation of a region. -/
theorem xOp_sound {E : Env} (hE : EnvOk E) {ro : Option Nat} {n : Nat} {ops : Array Oper} {o : Oper} (hW : ∀ s, o.dst = some s → c.W s = true) {id : Nat} {T : List AV} {a : Act} {K : List AV → List AObj → Prop} (hf : Fits c T H κ Im a w)
    (hid : ∀ j, j < newOp E o.op → H[id + j]? = some .free) (hs : xOp E ops o id T H K) {next : Act → World → Prop} {Q : Exit → Act → World → Prop}
    (hk : ∀ T' H' κ' Im' a' w', K T' H' → (∀ j, id + newOp E o.op ≤ j → H'[j]? = H[j]?) → Fits c T' H' κ' Im' a' w' → next a' w') :
    if Region.wanted o (yielded ops a.tmps) then o.wpIn (FR ro) n E.P a w next Q else next (a.put o.dst undef) w := by
  have hg := guard_sound (ops := ops) (o := o) hf.tmps
  have hv := evs_rel hf.tmps o.op
  unfold xOp at hs
  split at hs
  · exact hs.elim
  · rename_i h
    rw [hg.1 h, if_pos rfl]
    rw [gdAnd_iff] at hs
    exact runEff_sound hE hW hf (pvs_rel true rfl _ hs.1 hv) hid hs.2 hk
  · rename_i t fx h
    rw [gdAnd_iff] at hs
    exact runGd_sound hE hW hf h (hg.2 t fx h) (fun ht => pvs_rel t ht _ hs.1 hv) hid hs.2 hk
end
end Go.X

/- A region that draws its order: the lexical walk serves, where what is not ordered does not meet. -/
namespace Go.X
open Go

/-! ### What an effect hangs on -/
theorem mapOf_local {ck cv : TC} {o o' : Nat → AObj} {a : AV} (h : localOn (ptrIds a) o o') : mapOf ck cv o a = mapOf ck cv o' a := by
  unfold mapOf
  split
  · rw [h _ (by simp [ptrIds])]
  · rfl
  · rfl


theorem lhd {o o' : Nat → AObj} {j : Nat} (h : localOn (ptrIds (.hd j)) o o') : o j = o' j := h j (by simp [ptrIds])
theorem lvw {o o' : Nat → AObj} {j a b d : Nat} (h : localOn (ptrIds (.vw j a b d)) o o') : o j = o' j := h j (by simp [ptrIds])

theorem sealAV_local {o o' : Nat → AObj} {a : AV} (h : localOn (sealIds a) o o') : sealAV o a = sealAV o' a := by
  cases a with
  | hd i => simp only [sealAV, h i (by simp [sealIds])]
  | vw i kk lo n => simp only [sealAV, h i (by simp [sealIds])]
  | _ => rfl

theorem sealD_local {o o' : Nat → AObj} {a : AV} (h : localOn (sealDIds a) o o') : sealD o a = sealD o' a := by
  by_cases hl : ∃ l, a = .agg l
  · obtain ⟨l, rfl⟩ := hl
    simp only [sealD]
    have : ∀ x ∈ l, sealAV o x = sealAV o' x := fun x hx => sealAV_local fun i hi => h i (by simp only [sealDIds]; exact List.mem_flatMap.2 ⟨x, hx, hi⟩)
    rw [List.map_congr_left this]
  · have e1 : sealDIds a = sealIds a := by cases a <;> first | rfl | exact absurd ⟨_, rfl⟩ hl
    have e2 : ∀ o, sealD o a = sealAV o a := fun o => by cases a <;> first | rfl | exact absurd ⟨_, rfl⟩ hl
    rw [e2, e2]
    exact sealAV_local (e1 ▸ h)


theorem fillAV_ids (place : Nat → Option (Nat × Nat)) : ∀ (ps : List (Nat × AV)) (cs l : List AV), fillAV place cs ps = some l → ∀ i ∈ l.flatMap sealIds, i ∈ cs.flatMap sealIds ∨ i ∈ ps.flatMap fun p => sealIdsOf p.2
  | [], cs, l, h, i, hi => by simp [fillAV] at h; subst h; exact .inl hi
  | (j, x) :: r, cs, l, h, i, hi => by
    simp only [fillAV] at h
    split at h
    · rename_i off size lx hp hl
      split at h
      · rcases fillAV_ids place r _ l h i hi with h1 | h1
        · unfold spliceAV at h1
          simp only [List.flatMap_append, List.mem_append, List.mem_flatMap] at h1
          rcases h1 with (⟨a, ha, hia⟩ | ⟨a, ha, hia⟩) | ⟨a, ha, hia⟩
          · exact .inl (List.mem_flatMap.2 ⟨a, List.mem_of_mem_take ha, hia⟩)
          · refine .inr ?_
            rw [List.flatMap_cons, List.mem_append]
            refine .inl ?_
            simp only [sealIdsOf, hl]
            exact List.mem_flatMap.2 ⟨a, ha, hia⟩
          · exact .inl (List.mem_flatMap.2 ⟨a, List.mem_of_mem_drop ha, hia⟩)
        · exact .inr (by rw [List.flatMap_cons, List.mem_append]; exact .inr h1)
      · cases h
    · cases h

def LocOk (E : Env) : Prop := ∀ f s, E.C f = some s → ∀ args id o o', s.eff args id o ≠ .bad → localOn (s.rd args o) o o' → s.eff args id o' = s.eff args id o ∧ s.rd args o' = s.rd args o

theorem effOp_local {E : Env} (hE : LocOk E) {op : Op} {vs : List AV} {id : Nat} {o o' : Nat → AObj}
    (hnb : effOp E op vs id o ≠ .bad) (h : localOn (rdOp E op vs o) o o') : effOp E op vs id o = effOp E op vs id o' := by
  cases op <;> simp only [effOp]
  case load t x =>
    split
    · rename_i a
      have ha : localOn (ptrIds a) o o' := by simpa [rdOp] using h
      unfold effLoad
      cases a with
      | ptr i d => simp only [ha i (by simp [ptrIds])]
      | rp i kk n d => simp only [ha i (by simp [ptrIds])]
      | _ => rfl
    · rfl
  case store t x y =>
    split
    · rename_i a b
      have ha : localOn (ptrIds a) o o' := by simpa [rdOp] using h
      unfold effStore
      cases a with
      | ptr i d => simp only [ha i (by simp [ptrIds])]
      | rp i kk n d => simp only [ha i (by simp [ptrIds])]
      | _ => rfl
    · rfl
  case indexAddr t x y =>
    split
    · rename_i a b
      have ha : localOn (ptrIds a) o o' := by simpa [rdOp] using h
      unfold effIndexAddr
      split
      · split
        · rfl
        · simp only [lhd ha]
        · rfl
      · rfl
      · rfl
    · rfl
  case buildSlice t n ps =>
    unfold effBuildSlice
    split
    · rfl
    · rename_i e cc _
      split
      · split
        · rename_i l hl
          have : l.map (sealAV o) = l.map (sealAV o') := by
            apply List.map_congr_left
            intro a ha
            apply sealAV_local
            intro i hi
            apply h
            rcases fillAV_ids _ _ _ _ hl i (List.mem_flatMap.2 ⟨a, ha, hi⟩) with h1 | h1
            · exfalso
              simp only [List.mem_flatMap] at h1
              obtain ⟨b, hb, hib⟩ := h1
              rw [(List.mem_replicate.1 hb).2] at hib
              simp [sealIds] at hib
            · simp only [List.mem_flatMap] at h1
              obtain ⟨p, hp, hip⟩ := h1
              simp only [rdOp, List.mem_flatMap]
              exact ⟨p.2, (List.of_mem_zip hp).2, hip⟩
          rw [this]
        · rfl
      · rfl
  case slice t x lo hi mx =>
    cases mx with
    | some _ => rfl
    | none =>
      have key : ∀ (x : AV) (l hh : Option AV), localOn (ptrIds x) o o' → effSlice E t x l hh o = effSlice E t x l hh o' := by
        intro x l hh ha
        unfold effSlice
        split
        · split
          · rfl
          · cases x with
            | hd i => simp only [ha i (by simp [ptrIds])]
            | _ => rfl
        · rfl
      simp only [effSliceOp]
      split <;> first | rfl | exact key _ _ _ (by simpa [rdOp] using h)
  case makeMap t r => cases r <;> rfl
  case range t m =>
    split
    · rename_i a
      have ha : localOn (ptrIds a) o o' := by simpa [rdOp] using h
      unfold effRange
      have : ∀ ck cv i, a = .hd i → mapOf ck cv o (.hd i) = mapOf ck cv o' (.hd i) := fun ck cv i e => by subst e; exact mapOf_local ha
      cases hE : E.mapT t with
      | none => rfl
      | some x =>
        obtain ⟨_, _, ck, cv⟩ := x
        cases a with
        | hd i => simp only [this ck cv i rfl]
        | _ => rfl
    · rfl
  case next m str =>
    cases str with
    | true => rfl
    | false =>
      rcases vs with _ | ⟨a, _ | ⟨b, l⟩⟩
      · rfl
      · have ha : localOn (rngIds o a) o o' := by simpa [rdOp] using h
        show effNext a o = effNext a o'
        cases a with
        | ptr j off =>
          have h0 : o j = o' j := by
            refine ha j ?_
            simp only [rngIds]
            split <;> simp
          unfold effNext
          simp only [← h0]
          split
          · rename_i i ck cv m seen cur _ ho
            have h1 : o i = o' i := ha i (by simp [rngIds, ho])
            rw [h1]
          · rfl
        | _ => rfl
      · rfl
  case entry m =>
    split
    · rename_i a
      have ha : localOn (ptrIds a) o o' := by simpa [rdOp] using h
      cases a with
      | ptr j off =>
        unfold effEntry
        simp only [ha j (by simp [ptrIds])]
      | _ => rfl
    · rfl
  case lookup t m kk ok =>
    split
    · rename_i a b
      have ha : localOn (ptrIds a) o o' := by simpa [rdOp] using h
      unfold effLookup
      have : ∀ ck cv, mapOf ck cv o a = mapOf ck cv o' a := fun ck cv => mapOf_local ha
      simp only [this]
    · rfl
  case mapUpdate t m kk v =>
    split
    · rename_i a b v
      have ha : localOn (ptrIds a) o o' := fun i hi => h i (by simp [rdOp, hi])
      have hv : localOn (sealDIds v) o o' := fun i hi => h i (by simp [rdOp, hi])
      unfold effMapUpdate
      have : ∀ ck cv, mapOf ck cv o a = mapOf ck cv o' a := fun ck cv => mapOf_local ha
      simp only [sealD_local hv]
      split
      · split
        · rename_i x y i hx hy
          simp only [this]
        · rfl
      · rfl
    · rfl
  case makeFunc fn first captured => cases fn <;> rfl
  case call cl =>
    obtain ⟨callee, args, ats⟩ := cl
    cases callee with
    | invoke r m => rfl
    | builtin b =>
      simp only
      have h' : localOn (vs.flatMap ptrIds) o o' := by simpa [rdOp] using h
      unfold effBuiltin
      split
      · rename_i s x
        have hs : localOn (ptrIds s) o o' := fun i hi => h' i (by simp [hi])
        have hx : localOn (ptrIds x) o o' := fun i hi => h' i (by simp [hi])
        have hread : ∀ cc, readSl cc o x = readSl cc o' x := by
          intro cc
          unfold readSl
          split
          · rfl
          · simp only [lhd hx]
          · simp only [lvw hx]
          · rfl
          · rfl
        unfold effAppend
        simp only [hread]
        split
        · split
          · split
            · split
              · rfl
              · split
                · rfl
                · simp only [lhd hs]
                · rfl
            · rfl
          · rfl
        · rfl
      · rename_i x
        have hx : localOn (ptrIds x) o o' := fun i hi => h' i (by simp [hi])
        unfold effLen
        have e1 : lenSl o x = lenSl o' x := by
          unfold lenSl
          split
          · rfl
          · rfl
          · simp only [lhd hx]
          · rfl
          · rfl
        have e2 : lenMp o x = lenMp o' x := by
          unfold lenMp
          split
          · simp only [lhd hx]
          · rfl
          · rfl
        rw [e1, e2]
      · rename_i m kk
        have hm : localOn (ptrIds m) o o' := fun i hi => h' i (by simp [hi])
        unfold effDelete
        have : ∀ ck cv, mapOf ck cv o m = mapOf ck cv o' m := fun ck cv => mapOf_local hm
        split
        · rfl
        · split
          · split
            · simp only [this]
            · rfl
          · rfl
      · rfl
      · rfl
      · rfl
    | value f =>
      simp only
      split
      · rename_i g caps avs
        split
        · rename_i s hC
          split
          · rename_i hn
            refine (hE g s hC _ _ _ _ ?_ ?_).1.symm
            · simpa [effOp, hC, hn] using hnb
            · simpa [rdOp, hC] using h
          · rfl
        · rfl
      · rfl

theorem rdOp_local {E : Env} (hE : LocOk E) {op : Op} {vs : List AV} {id : Nat} {o o' : Nat → AObj} (hnb : effOp E op vs id o ≠ .bad) (h : localOn (rdOp E op vs o) o o') : rdOp E op vs o' = rdOp E op vs o := by
  cases op <;> try rfl
  case next m str =>
    simp only [rdOp] at h ⊢
    generalize vs.headD .any = a at h ⊢
    cases a with
    | ptr j off =>
      have h0 : o j = o' j := by
        refine h j ?_
        simp only [rngIds]
        split <;> simp
      simp only [rngIds, ← h0]
    | _ => rfl
  case call cl =>
    obtain ⟨callee, args, ats⟩ := cl
    cases callee with
    | invoke r m => rfl
    | builtin b => rfl
    | value f =>
      simp only [rdOp]
      split
      · rename_i g caps avs
        split
        · rename_i s hC
          refine (hE g s hC (avs ++ caps) id _ _ ?_ ?_).2
          · simp only [effOp, hC] at hnb
            split at hnb
            · exact hnb
            · exact absurd rfl hnb
          · simpa [rdOp, hC] using h
        · rfl
      · rfl

/-! ### One operation, where its effect is one -/
abbrev DS := Prop × AV × List (Nat × AObj)

def dEff : Eff → Option DS
  | .ok r u => some (True, r, u)
  | .req q r u => some (q, r, u)
  | _ => none

def isFree (a : Option AObj) : Bool := match a with | some .free => true | _ => false
def freeAt (H : Nat → Option AObj) (id : Nat) : Nat → Bool
  | 0 => true
  | n + 1 => isFree (H (id + n)) && freeAt H id n

def dPure (t : Bool) (q0 : Prop) : Eff → Option DS
  | .ok r [] => some (q0, .gd 0 true t r, [])
  | .req q r [] => some (q0 ∧ (t = true → q), .gd 0 true t r, [])
  | _ => none

def dVs (T : List AV) (op : Op) : List AV := pvs op (evs T op)
def dQ (t : Bool) (T : List AV) (op : Op) : Prop := gdReq t (pq op (evs T op))
def andQ (q0 : Prop) : Option DS → Option DS
  | some (q, r, u) => some (q0 ∧ q, r, u)
  | none => none

def dStep (E : Env) (ops : Array Oper) (o : Oper) (id : Nat) (T : List AV) (H : List AObj) : Option DS :=
  match freeAt (H[·]?) id (newOp E o.op) with
  | false => none
  | true => match guardOf ops T o with
    | .bad => none
    | .none => andQ (dQ true T o.op) (dEff (effOp E o.op (dVs T o.op) id (H.getD · .dead)))
    | .cond t _ => dPure t (dQ t T o.op) (effOp E o.op (dVs T o.op) id (H.getD · .dead))

def dRd (E : Env) (o : Oper) (id : Nat) (T : List AV) (H : List AObj) : List Nat := rdOp E o.op (dVs T o.op) (H.getD · .dead) ++ List.range' id (newOp E o.op)

theorem freeAt_congr {H H' : Nat → Option AObj} {id : Nat} : ∀ (n : Nat), (∀ j, id ≤ j → j < id + n → H j = H' j) → freeAt H id n = freeAt H' id n
  | 0, _ => rfl
  | n + 1, h => by simp only [freeAt, h (id + n) (by omega) (by omega), freeAt_congr n fun j h1 h2 => h j h1 (by omega)]
theorem freeAt_spec {H : List AObj} {id : Nat} : ∀ (n : Nat), freeAt (H[·]?) id n = true → ∀ j, j < n → H[id + j]? = some .free
  | 0, _, j, hj => by omega
  | n + 1, h, j, hj => by
    simp only [freeAt, Bool.and_eq_true] at h
    by_cases e : j = n
    · subst e
      have := h.1
      unfold isFree at this
      split at this
      · assumption
      · cases this
    · exact freeAt_spec n h.2 j (by omega)

theorem dStep_nb {E : Env} {ops : Array Oper} {o : Oper} {id : Nat} {T : List AV} {H : List AObj} {x : DS} (h : dStep E ops o id T H = some x) : effOp E o.op (dVs T o.op) id (H.getD · .dead) ≠ .bad := by
  intro hb
  unfold dStep at h
  rw [hb] at h
  split at h
  · cases h
  · split at h
    · cases h
    · simp [dEff, andQ] at h
    · simp [dPure] at h

theorem dStep_upd {E : Env} (hE : LocOk E) {ops : Array Oper} {o : Oper} {id : Nat} {T : List AV} {H H' : List AObj} {x : DS} (hs : dStep E ops o id T H = some x)
    (h : ∀ i ∈ dRd E o id T H, H'[i]? = H[i]?) : dStep E ops o id T H' = some x ∧ dRd E o id T H' = dRd E o id T H := by
  have hl : localOn (rdOp E o.op (dVs T o.op) (H.getD · .dead)) (H.getD · .dead) (H'.getD · .dead) := fun i hi => by simp only [List.getD, h i (List.mem_append_left _ hi)]
  have hnb := dStep_nb hs
  refine ⟨?_, ?_⟩
  · rw [← hs]
    unfold dStep
    rw [freeAt_congr (H := (H'[·]?)) (H' := (H[·]?)) (newOp E o.op) fun j h1 h2 => h j (by unfold dRd; exact List.mem_append_right _ (List.mem_range'.2 ⟨j - id, by omega, by omega⟩))]
    rw [effOp_local hE hnb hl]
  · unfold dRd
    rw [rdOp_local hE hnb hl]

theorem ev_put {T : List AV} {x : Operand} {dst : Option Nat} {r : AV} (h : ∀ d, dst = some d → x ≠ .tmp d) : ev (putT T dst r) x = ev T x := by
  cases dst with
  | none => rfl
  | some d =>
    cases x with
    | tmp t =>
      have hne : d ≠ t := fun e => h d rfl (e ▸ rfl)
      simp [ev, putT, List.getD, List.getElem?_set_ne hne]
    | _ => rfl

theorem evs_put {ops : Array Oper} {T : List AV} {o : Oper} {dst : Option Nat} {r : AV} (h : ∀ d, dst = some d → d ∉ o.looksAt ops) : evs (putT T dst r) o.op = evs T o.op := by
  unfold evs
  refine List.map_congr_left fun x hx => ev_put fun d hd hxd => h d hd ?_
  subst hxd
  exact List.mem_append_left _ (List.mem_filterMap.2 ⟨.tmp d, by simpa using hx, rfl⟩)

theorem guardOf_put {ops : Array Oper} {T : List AV} {o : Oper} {dst : Option Nat} {r : AV} (h : ∀ d, dst = some d → d ∉ o.looksAt ops) : guardOf ops (putT T dst r) o = guardOf ops T o := by
  cases dst with
  | none => rfl
  | some d =>
    unfold guardOf
    cases hg : o.guard with
    | none => rfl
    | some gw =>
      obtain ⟨g, want⟩ := gw
      simp only
      cases ht : (ops[g]?).bind (·.dst) with
      | none => rfl
      | some t =>
        have hne : d ≠ t := fun e => h d rfl (by subst e; simp [Oper.looksAt, hg, ht])
        have : (putT T (some d) r).getD t .any = T.getD t .any := by simp [putT, List.getD, List.getElem?_set_ne hne]
        simp only [this]

theorem dStep_put {E : Env} {ops : Array Oper} {o : Oper} {id : Nat} {T : List AV} {H : List AObj} {dst : Option Nat} {r : AV} (h : ∀ d, dst = some d → d ∉ o.looksAt ops) :
    dStep E ops o id (putT T dst r) H = dStep E ops o id T H ∧ dRd E o id (putT T dst r) H = dRd E o id T H := by
  unfold dStep dRd dVs dQ
  rw [evs_put h, guardOf_put h]
  exact ⟨rfl, rfl⟩

section
variable {c : Ctx} {κ : Kap} {Im : Nat → Prop} {w : World}
theorem dStep_sound {E : Env} (hE : EnvOk E) {ro : Option Nat} {n : Nat} {ops : Array Oper} {o : Oper} (hW : ∀ s, o.dst = some s → c.W s = true) {id : Nat} {T : List AV} {H : List AObj} {a : Act} {q : Prop} {r : AV} {u : List (Nat × AObj)} (hf : Fits c T H κ Im a w)
    (hs : dStep E ops o id T H = some (q, r, u)) (hq : q) {next : Act → World → Prop} {Q : Exit → Act → World → Prop}
    (hk : ∀ κ' Im' a' w', Fits c (putT T o.dst r) (updH H u) κ' Im' a' w' → next a' w') :
    if Region.wanted o (yielded ops a.tmps) then o.wpIn (FR ro) n E.P a w next Q else next (a.put o.dst undef) w := by
  have hg := guard_sound (ops := ops) (o := o) hf.tmps
  have hv := evs_rel hf.tmps o.op
  unfold dStep at hs
  split at hs
  · cases hs
  · rename_i hfree
    have hid := freeAt_spec _ hfree
    have hvs : ∀ t, t = true → dQ t T o.op → AV.rels κ Im w (dVs T o.op) (o.op.operands.toList.map a.eval) := by
      intro t ht hqq
      exact pvs_rel t ht _ hqq hv
    have go : ∀ r u, (effOp E o.op (dVs T o.op) id (H.getD · .dead)).sat (fun r' u' => r' = r ∧ u' = u) → dQ true T o.op → (∀ κ' Im' a' w', Fits c (putT T o.dst r) (updH H u) κ' Im' a' w' → next a' w') → o.wpIn (FR ro) n E.P a w next Q := by
      intro r u hsat hqq hk
      refine Gives.wpIn (effOp_nd hsat) (op_sound hE hf.st (hvs true rfl hqq) hid hsat ?_)
      rintro r' u' κ' Im' w' y ⟨rfl, rfl⟩ hle hst hr
      exact hk κ' Im' _ w' (hf.put hle hst (putT_rel (AV.rels_mono hle _ _ hf.tmps) hr) hW)
    split at hs
    · cases hs
    · rename_i h
      rw [hg.1 h, if_pos rfl]
      generalize he : effOp E o.op (dVs T o.op) id (H.getD · .dead) = e at hs go
      cases e with
      | ok r0 u0 => simp only [dEff, andQ, Option.some.injEq, Prod.mk.injEq] at hs; obtain ⟨rfl, rfl, rfl⟩ := hs; exact go _ _ ⟨rfl, rfl⟩ hq.1 hk
      | req q0 r0 u0 => simp only [dEff, andQ, Option.some.injEq, Prod.mk.injEq] at hs; obtain ⟨rfl, rfl, rfl⟩ := hs; exact go _ _ ⟨⟨hq.2⟩, rfl, rfl⟩ hq.1 hk
      | _ => cases hs
    · rename_i t fx h
      rw [hg.2 t fx h]
      have skip : ∀ r, AV.rel κ Im w r undef → (∀ κ' Im' a' w', Fits c (putT T o.dst r) H κ' Im' a' w' → next a' w') → next (a.put o.dst undef) w := fun r hr hk =>
        hk κ Im _ w (hf.put' (putT_rel hf.tmps hr) hW)
      have go' : ∀ r, (effOp E o.op (dVs T o.op) id (H.getD · .dead)).sat (fun r' u' => r' = r ∧ u' = []) → t = true → dQ t T o.op →
          (∀ κ' Im' a' w', Fits c (putT T o.dst (.gd 0 true t r)) H κ' Im' a' w' → next a' w') → o.wpIn (FR ro) n E.P a w next Q := by
        intro r hsat ht hqq hk
        refine Gives.wpIn (effOp_nd hsat) (op_sound hE hf.st (hvs t ht hqq) hid hsat ?_)
        rintro r' u' κ' Im' w' y ⟨rfl, rfl⟩ hle hst hr
        exact hk κ' Im' _ w' (hf.put hle hst (putT_rel (AV.rels_mono hle _ _ hf.tmps) (by simp only [AV.rel]; exact ⟨fun _ => hr, fun h => by rw [ht] at h; cases h⟩)) hW)
      generalize he : effOp E o.op (dVs T o.op) id (H.getD · .dead) = e at hs go'
      unfold dPure at hs
      split at hs
      · simp only [Option.some.injEq, Prod.mk.injEq] at hs
        obtain ⟨rfl, rfl, rfl⟩ := hs
        cases t with
        | false => simp only [Bool.false_eq_true, if_false]; exact skip _ (by simp [AV.rel]) hk
        | true => simp only [if_true]; exact go' _ ⟨rfl, rfl⟩ rfl hq hk
      · simp only [Option.some.injEq, Prod.mk.injEq] at hs
        obtain ⟨rfl, rfl, rfl⟩ := hs
        cases t with
        | false => simp only [Bool.false_eq_true, if_false]; exact skip _ (by simp [AV.rel]) hk
        | true => simp only [if_true]; exact go' _ ⟨⟨hq.2 rfl⟩, rfl, rfl⟩ rfl hq.1 hk
      · cases hs
end

end Go.X

