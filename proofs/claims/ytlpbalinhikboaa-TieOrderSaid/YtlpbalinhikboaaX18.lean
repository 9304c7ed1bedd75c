/- Every operation is what its effect says. -/
import Derived.Test.YtlpbalinhikboaaX17
namespace Go.X
open Go

/-- A contract holds: whatever world fits, the call gives what its effect says. -/
def CSound (P : Program) (f : FuncId) (s : CSpec) : Prop :=
  ∀ (c : Ctx) (κ : Kap) (Im : Nat → Prop) (w : World) (H : List AObj) (args : List AV) (ys : Array Value) (id : Nat) (K : AV → List (Nat × AObj) → Prop) (k : Value → World → Prop),
    St c κ Im w H → AV.rels κ Im w args ys.toList → (∀ j, j < s.n → H[id + j]? = some .free) → (s.eff args id (H.getD · .dead)).sat K → Cont c κ Im w H K k →
    Calls P f ys w fun e w' => ∃ v, e = .returned v ∧ k v w'

/-- What an effect hangs on. -/
def localOn (rd : List Nat) (o o' : Nat → AObj) : Prop := ∀ i ∈ rd, o i = o' i

structure EnvOk (E : Env) : Prop where
  mixed : E.P.follows .mixedOrders = true
  loc : ∀ f s, E.C f = some s → ∀ args id o o', localOn (s.rd args) o o' → s.eff args id o = s.eff args id o'
  enters : ∀ f s, E.C f = some s → ∀ args w, (callFunc f args).run E.P w = .ok (.enter f args) w
  sound : ∀ f s, E.C f = some s → CSound E.P f s

section
variable {P : Program} {c : Ctx} {κ : Kap} {Im : Nat → Prop} {w : World} {H : List AObj} {K : AV → List (Nat × AObj) → Prop} {k : Value → World → Prop}

theorem rels1 {a : AV} {ys : List Value} (h : AV.rels κ Im w [a] ys) : ∃ y, ys = [y] ∧ AV.rel κ Im w a y := by
  simp only [AV.rels] at h
  obtain ⟨y, r, rfl, h2, h3⟩ := h
  exact ⟨y, by rw [h3], h2⟩
theorem rels2 {a b : AV} {ys : List Value} (h : AV.rels κ Im w [a, b] ys) : ∃ y z, ys = [y, z] ∧ AV.rel κ Im w a y ∧ AV.rel κ Im w b z := by
  simp only [AV.rels] at h
  obtain ⟨y, r, rfl, h2, z, r', rfl, h3, h4⟩ := h
  exact ⟨y, z, by rw [h4], h2, h3⟩
theorem rels3 {a b d : AV} {ys : List Value} (h : AV.rels κ Im w [a, b, d] ys) : ∃ y z u, ys = [y, z, u] ∧ AV.rel κ Im w a y ∧ AV.rel κ Im w b z ∧ AV.rel κ Im w d u := by
  simp only [AV.rels] at h
  obtain ⟨y, r, rfl, h2, z, r', rfl, h3, u, r'', rfl, h4, h5⟩ := h
  exact ⟨y, z, u, by rw [h5], h2, h3, h4⟩

theorem rels_one {vs : List AV} {y : Value} (h : AV.rels κ Im w vs [y]) : ∃ v, vs = [v] ∧ AV.rel κ Im w v y := by
  cases vs with
  | nil => simp [AV.rels] at h
  | cons v vs =>
    simp only [AV.rels] at h
    obtain ⟨y', r, e, h2, h3⟩ := h
    cases e
    cases vs with
    | nil => exact ⟨v, rfl, h2⟩
    | cons _ _ => simp [AV.rels] at h3
theorem rels_cons {vs : List AV} {y : Value} {ys : List Value} (h : AV.rels κ Im w vs (y :: ys)) : ∃ v vs', vs = v :: vs' ∧ AV.rel κ Im w v y ∧ AV.rels κ Im w vs' ys := by
  cases vs with
  | nil => simp [AV.rels] at h
  | cons v vs =>
    simp only [AV.rels] at h
    obtain ⟨y', r, e, h2, h3⟩ := h
    cases e
    exact ⟨v, vs, rfl, h2, h3⟩
theorem rels_two {vs : List AV} {y z : Value} (h : AV.rels κ Im w vs [y, z]) : ∃ v u, vs = [v, u] ∧ AV.rel κ Im w v y ∧ AV.rel κ Im w u z := by
  obtain ⟨v, vs', rfl, h1, h2⟩ := rels_cons h
  obtain ⟨u, rfl, h3⟩ := rels_one h2
  exact ⟨v, u, rfl, h1, h3⟩
theorem rels_three {vs : List AV} {y z x : Value} (h : AV.rels κ Im w vs [y, z, x]) : ∃ v u t, vs = [v, u, t] ∧ AV.rel κ Im w v y ∧ AV.rel κ Im w u z ∧ AV.rel κ Im w t x := by
  obtain ⟨v, vs', rfl, h1, h2⟩ := rels_cons h
  obtain ⟨u, t, rfl, h3, h4⟩ := rels_two h2
  exact ⟨v, u, t, rfl, h1, h3, h4⟩

theorem parts_rel (ρ : Operand → Value) : ∀ (ps : List (Nat × Operand)) (vs : List AV), AV.rels κ Im w vs (ps.map fun p => ρ p.2) → partsRel κ Im w ((ps.map (·.1)).zip vs) (ps.map fun p => (p.1, ρ p.2))
  | [], vs, h => by simp [partsRel]
  | (i, x) :: ps, vs, h => by
    cases vs with
    | nil => simp [AV.rels] at h
    | cons v vs =>
      simp only [List.map_cons, AV.rels] at h
      obtain ⟨y, r, e, h2, h3⟩ := h
      simp only [List.cons.injEq] at e
      obtain ⟨rfl, rfl⟩ := e
      simp only [List.map_cons, List.zip_cons_cons, partsRel]
      exact ⟨trivial, h2, parts_rel ρ ps vs h3⟩

theorem op_sound {E : Env} (hE : EnvOk E) {o : Oper} {a : Act} {vs : List AV} {id : Nat} (hst : St c κ Im w H) (hv : AV.rels κ Im w vs (o.op.operands.toList.map a.eval))
    (hid : ∀ j, j < newOp E o.op → H[id + j]? = some .free) (hs : (effOp E o.op vs id (H.getD · .dead)).sat K) (hk : Cont c κ Im w H K k) : Gives E.P (execOp a.eval o) w k := by
  obtain ⟨dst, op, type, pos, after, guard⟩ := o
  simp only at hv hid hs
  have hid0 : 0 < newOp E op → H[id]? = some .free := fun h => by simpa using hid 0 h
  cases op <;> simp only [effOp] at hs <;> try exact hs.elim
  case move x =>
    split at hs
    · obtain ⟨y, e, hr⟩ := rels1 hv
      simp [Op.operands] at e
      exact gives_value (y := y) (w' := w) (by simp [execOp, e]) (hk.same hst hs hr)
    · exact hs.elim
  case assign x =>
    split at hs
    · obtain ⟨y, e, hr⟩ := rels1 hv
      simp [Op.operands] at e
      exact gives_value (y := y) (w' := w) (by simp [execOp, e]) (hk.same hst hs hr)
    · exact hs.elim
  case pick x y z =>
    split at hs
    · obtain ⟨y1, y2, y3, e, h1, h2, h3⟩ := rels3 hv
      simp [Op.operands] at e
      obtain ⟨rfl, rfl, rfl⟩ := e
      exact pick_sound hst h1 h2 h3 hs hk
    · exact hs.elim
  case alloc e =>
    split at hs
    · rename_i z hz
      exact alloc_sound hst (hid0 (by simp [newOp])) hz hs hk
    · exact hs.elim
  case box e x =>
    split at hs
    · split at hs
      · rename_i l hl
        obtain ⟨y, e', hr⟩ := rels1 hv
        simp [Op.operands] at e'
        subst e'
        exact box_sound hst (hid0 (by simp [newOp])) hr hl hs hk
      · exact hs.elim
    · exact hs.elim
  case build t ps =>
    have hp := parts_rel (κ := κ) (Im := Im) (w := w) a.eval ps.toList vs (by simpa [Op.operands, Function.comp_def] using hv)
    have := build_sound (P := E.P) (vs := ps.map fun (i, x) => (i, a.eval x)) hst (by simpa using hp) hs hk
    exact this
  case buildSlice t n ps =>
    have hp := parts_rel (κ := κ) (Im := Im) (w := w) a.eval ps.toList vs (by simpa [Op.operands, Function.comp_def] using hv)
    have := buildSlice_sound (E := E) (vs := ps.map fun (i, x) => (i, a.eval x)) hst (hid0 (by simp [newOp])) (by simpa using hp) hs hk
    exact this
  case load t x =>
    split at hs
    · obtain ⟨y, e', hr⟩ := rels1 hv
      simp [Op.operands] at e'
      subst e'
      exact load_sound hst hr hs hk
    · exact hs.elim
  case store t x y =>
    split at hs
    · obtain ⟨y1, y2, e', h1, h2⟩ := rels2 hv
      simp [Op.operands] at e'
      obtain ⟨rfl, rfl⟩ := e'
      exact store_sound hst h1 h2 hs hk
    · exact hs.elim
  case nilCheck x =>
    have key : ∀ y, a.eval x = y → (∃ ad, y = .pointer (some ad)) → (k y w) → Gives E.P (execOp a.eval ⟨dst, .nilCheck x, type, pos, after, guard⟩) w k := by
      rintro y e ⟨ad, rfl⟩ hkk
      refine gives_value (y := .pointer (some ad)) (w' := w) ?_ hkk
      simp [execOp, e]
    split at hs
    · obtain ⟨y, e', hr⟩ := rels1 hv
      simp [Op.operands] at e'
      exact key y e' (by simp only [AV.rel] at hr; obtain ⟨b, _, h⟩ := hr; exact ⟨_, h⟩) (hk.same hst hs hr)
    · obtain ⟨y, e', hr⟩ := rels1 hv
      simp [Op.operands] at e'
      exact key y e' (by simp only [AV.rel] at hr; obtain ⟨_, b, o, h, _⟩ := hr; exact ⟨_, h⟩) (hk.same hst hs hr)
    · obtain ⟨y, e', hr⟩ := rels1 hv
      simp [Op.operands] at e'
      exact key y e' (by simp only [AV.rel] at hr; obtain ⟨b, _, _, _, _, h⟩ := hr; exact ⟨_, h⟩) (hk.same hst hs hr)
    · exact hs.elim
  case binOp b t x y t2 =>
    split at hs
    · obtain ⟨y1, y2, e', h1, h2⟩ := rels2 hv
      simp [Op.operands] at e'
      obtain ⟨rfl, rfl⟩ := e'
      exact bin_sound hst h1 h2 hs hk
    · exact hs.elim
  case unOp u t x =>
    split at hs
    · obtain ⟨y, e', hr⟩ := rels1 hv
      simp [Op.operands] at e'
      subst e'
      exact un_sound hst hr hs hk
    · exact hs.elim
  case convert s d x =>
    split at hs
    · obtain ⟨y, e', hr⟩ := rels1 hv
      simp [Op.operands] at e'
      subst e'
      exact conv_sound hst hr hs hk
    · exact hs.elim
  case makeFunc fn first captured =>
    cases fn with
    | func f =>
      simp only at hs
      split at hs
      · rename_i he
        have hf : first = #[] := by simpa using he
        subst hf
        refine gives_value (y := .func (.func f) #[] (captured.map a.eval)) (w' := w) (by simp [execOp, Instr.makeFunc]) (hk.same hst hs ?_)
        simp only [AV.rel]
        exact ⟨_, rfl, by simpa [Op.operands] using hv⟩
      · exact hs.elim
    | _ => exact hs.elim
  case slice t x lo hi mx =>
    cases mx with
    | some _ => exact hs.elim
    | none =>
      simp only [Op.operands] at hv
      cases lo with
      | none => cases hi with
        | none =>
          obtain ⟨v1, rfl, hr⟩ := rels_one (by simpa using hv)
          exact slice_sound (lo := none) (hi := none) (ylo := none) (yhi := none) hst hr trivial trivial hs hk
        | some h =>
          obtain ⟨v1, v2, rfl, hr, h2⟩ := rels_two (by simpa using hv)
          exact slice_sound (lo := none) (hi := some v2) (ylo := none) (yhi := some (a.eval h)) hst hr trivial h2 hs hk
      | some l => cases hi with
        | none =>
          obtain ⟨v1, v2, rfl, hr, h2⟩ := rels_two (by simpa using hv)
          exact slice_sound (lo := some v2) (hi := none) (ylo := some (a.eval l)) (yhi := none) hst hr h2 trivial hs hk
        | some h =>
          obtain ⟨v1, v2, v3, rfl, hr, h2, h3⟩ := rels_three (by simpa using hv)
          exact slice_sound (lo := some v2) (hi := some v3) (ylo := some (a.eval l)) (yhi := some (a.eval h)) hst hr h2 h3 hs hk
  case fieldAddr s x f =>
    split at hs
    · obtain ⟨y, e', hr⟩ := rels1 hv
      simp [Op.operands] at e'
      subst e'
      exact fieldAddr_sound hst hr hs hk
    · exact hs.elim
  case field s x f =>
    split at hs
    · obtain ⟨y, e', hr⟩ := rels1 hv
      simp [Op.operands] at e'
      subst e'
      exact field_sound hst hr hs hk
    · exact hs.elim
  case indexAddr t x i =>
    split at hs
    · obtain ⟨y1, y2, e', h1, h2⟩ := rels2 hv
      simp [Op.operands] at e'
      obtain ⟨rfl, rfl⟩ := e'
      exact indexAddr_sound hst h1 h2 hs hk
    · exact hs.elim
  case index t x i =>
    split at hs
    · obtain ⟨y1, y2, e', h1, h2⟩ := rels2 hv
      simp [Op.operands] at e'
      obtain ⟨rfl, rfl⟩ := e'
      exact index_sound hst h1 h2 hs hk
    · exact hs.elim
  case extract x n =>
    split at hs
    · split at hs
      · rename_i l r hl
        obtain ⟨y, e', hr⟩ := rels1 hv
        simp [Op.operands] at e'
        simp only [AV.rel] at hr
        obtain ⟨ys, rfl, h2⟩ := hr
        obtain ⟨z, hz, hrz⟩ := rels_getElem h2 hl
        refine gives_value (y := z) (w' := w) ?_ (hk.same hst hs hrz)
        rw [Array.getElem?_toList] at hz
        simp [execOp, e', Instr.extract, hz]
      · exact hs.elim
    · exact hs.elim
  case call cl =>
    obtain ⟨callee, args, ats⟩ := cl
    cases callee with
    | invoke r m => exact hs.elim
    | builtin b =>
      simp only at hs
      have hvs : AV.rels κ Im w vs (args.toList.map a.eval) := by simpa [Op.operands, Call.operands] using hv
      have hex : execOp a.eval ⟨dst, .call ⟨.builtin b, args, ats⟩, type, pos, after, guard⟩ = (do let d ← resolve a.eval ⟨.builtin b, args, ats⟩ type; invoke d.target d.args) := rfl
      unfold effBuiltin at hs
      split at hs
      · rename_i s x
        obtain ⟨y1, y2, e, h1, h2⟩ := rels2 hvs
        have hargs : args.map a.eval = #[y1, y2] := by apply Array.ext'; simpa using e
        have := append_sound (E := E) (ats := ats) (ty := type) hst (hid0 (by simp [newOp])) h1 h2 hs hk
        rw [hex]
        simp only [resolve, hargs]
        exact this
      · rename_i x
        obtain ⟨y1, e, h1⟩ := rels1 hvs
        have hargs : args.map a.eval = #[y1] := by apply Array.ext'; simpa using e
        have := len_sound (P := E.P) (ats := ats) (ty := type) hst h1 hs hk
        rw [hex]
        simp only [resolve, hargs]
        exact this
      · split at hs
        · rename_i r hr
          unfold minmax at hr
          split at hr
          · rename_i kd x l
            obtain ⟨y1, ys, e, h1, h2⟩ : ∃ y1 ys, args.toList.map a.eval = y1 :: ys ∧ y1 = .int kd x ∧ AV.rels κ Im w l ys := by
              simp only [AV.rels, AV.rel] at hvs
              exact hvs
            subst h1
            obtain ⟨m, rfl, hm⟩ := mmAcc_sound (P := E.P) true kd l ys x r hr h2
            refine hk.val hst hs ?_
            rw [hex]
            have hargs : (args.map a.eval).toList = .int kd x :: ys := by simpa using e
            simp only [resolve, Sem.run_bind, Sem.run_pure, Result.andThen_ok, invoke, builtin, Builtin.max_, hargs]
            simp only [if_true] at hm
            rw [hm]
            rfl
          · cases hr
        · exact hs.elim
      · split at hs
        · rename_i r hr
          unfold minmax at hr
          split at hr
          · rename_i kd x l
            obtain ⟨y1, ys, e, h1, h2⟩ : ∃ y1 ys, args.toList.map a.eval = y1 :: ys ∧ y1 = .int kd x ∧ AV.rels κ Im w l ys := by
              simp only [AV.rels, AV.rel] at hvs
              exact hvs
            subst h1
            obtain ⟨m, rfl, hm⟩ := mmAcc_sound (P := E.P) false kd l ys x r hr h2
            refine hk.val hst hs ?_
            rw [hex]
            have hargs : (args.map a.eval).toList = .int kd x :: ys := by simpa using e
            simp only [resolve, Sem.run_bind, Sem.run_pure, Result.andThen_ok, invoke, builtin, Builtin.min_, hargs]
            simp only [Bool.false_eq_true, if_false] at hm
            rw [hm]
            rfl
          · cases hr
        · exact hs.elim
      · exact hs.elim
    | value f =>
      simp only at hs
      split at hs
      · rename_i g caps avs
        split at hs
        · rename_i s hC
          split at hs
          · rename_i hn
            obtain ⟨y, ys, e, hr, hvs⟩ : ∃ y ys, a.eval f :: args.toList.map a.eval = y :: ys ∧ AV.rel κ Im w (.fn g caps) y ∧ AV.rels κ Im w avs ys := by
              have h0 : AV.rels κ Im w (.fn g caps :: avs) (a.eval f :: args.toList.map a.eval) := by simpa [Op.operands, Call.operands] using hv
              simp only [AV.rels] at h0
              exact h0
            simp only [List.cons.injEq] at e
            obtain ⟨e1, e2⟩ := e
            simp only [AV.rel] at hr
            obtain ⟨cs, rfl, hcs⟩ := hr
            have hall : AV.rels κ Im w (avs ++ caps) ((args.map a.eval) ++ cs).toList := by
              rw [Array.toList_append, rels_append]
              exact ⟨_, _, rfl, by simpa [e2] using hvs, hcs⟩
            have hcall := hE.sound g s hC c κ Im w H (avs ++ caps) ((args.map a.eval) ++ cs) id K k hst hall (fun j hj => hid j (by omega)) hs hk
            have hrun : (execOp a.eval ⟨dst, .call ⟨.value f, args, ats⟩, type, pos, after, guard⟩).run E.P w = .ok (.enter g ((args.map a.eval) ++ cs)) w := by
              simp [execOp, resolve, e1, Deferred.ofValue, invoke, hE.enters g s hC]
            unfold Gives
            rw [hrun]
            exact hcall
          · exact hs.elim
        · exact hs.elim
      · exact hs.elim
end
end Go.X
