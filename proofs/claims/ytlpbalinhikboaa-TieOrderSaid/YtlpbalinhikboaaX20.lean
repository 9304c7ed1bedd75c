/- A region that draws its order: the lexical walk serves, where what is not ordered does not meet. -/
import Derived.Test.YtlpbalinhikboaaX19
import Derived.Still
namespace Go.X
open Go

/-! ### What an effect hangs on -/

theorem lhd {o o' : Nat → AObj} {j : Nat} (h : localOn (ptrIds (.hd j)) o o') : o j = o' j := h j (by simp [ptrIds])
theorem lvw {o o' : Nat → AObj} {j a b d : Nat} (h : localOn (ptrIds (.vw j a b d)) o o') : o j = o' j := h j (by simp [ptrIds])

theorem sealAV_local {o o' : Nat → AObj} {a : AV} (h : localOn (sealIds a) o o') : sealAV o a = sealAV o' a := by
  cases a with
  | hd i => simp only [sealAV, h i (by simp [sealIds])]
  | vw i kk lo n => simp only [sealAV, h i (by simp [sealIds])]
  | _ => rfl

theorem fillAV_ids (place : Nat → Option (Nat × Nat)) : ∀ (ps : List (Nat × AV)) (cs l : List AV), fillAV place cs ps = some l → ∀ i ∈ l.flatMap sealIds, i ∈ cs.flatMap sealIds ∨ i ∈ ps.flatMap fun p => sealIdsOf p.2
  | [], cs, l, h, i, hi => by simp [fillAV] at h; subst h; exact .inl hi
  | (j, x) :: r, cs, l, h, i, hi => by
    simp only [fillAV] at h
    split at h
    · rename_i off size lx hp hl
      split at h
      · rcases fillAV_ids place r _ l h i hi with h1 | h1
        · unfold spliceAV at h1
          simp only [List.flatMap_append, List.mem_append, List.mem_flatMap] at h1
          rcases h1 with (⟨a, ha, hia⟩ | ⟨a, ha, hia⟩) | ⟨a, ha, hia⟩
          · exact .inl (List.mem_flatMap.2 ⟨a, List.mem_of_mem_take ha, hia⟩)
          · refine .inr ?_
            rw [List.flatMap_cons, List.mem_append]
            refine .inl ?_
            simp only [sealIdsOf, hl]
            exact List.mem_flatMap.2 ⟨a, ha, hia⟩
          · exact .inl (List.mem_flatMap.2 ⟨a, List.mem_of_mem_drop ha, hia⟩)
        · exact .inr (by rw [List.flatMap_cons, List.mem_append]; exact .inr h1)
      · cases h
    · cases h

theorem effOp_local {E : Env} (hE : ∀ f s, E.C f = some s → ∀ args id o o', localOn (s.rd args) o o' → s.eff args id o = s.eff args id o') {op : Op} {vs : List AV} {id : Nat} {o o' : Nat → AObj}
    (h : localOn (rdOp E op vs) o o') : effOp E op vs id o = effOp E op vs id o' := by
  cases op <;> simp only [effOp]
  case load t x =>
    split
    · rename_i a
      have ha : localOn (ptrIds a) o o' := by simpa [rdOp] using h
      unfold effLoad
      cases a with
      | ptr i d => simp only [ha i (by simp [ptrIds])]
      | rp i kk n d => simp only [ha i (by simp [ptrIds])]
      | _ => rfl
    · rfl
  case store t x y =>
    split
    · rename_i a b
      have ha : localOn (ptrIds a) o o' := by simpa [rdOp] using h
      unfold effStore
      cases a with
      | ptr i d => simp only [ha i (by simp [ptrIds])]
      | rp i kk n d => simp only [ha i (by simp [ptrIds])]
      | _ => rfl
    · rfl
  case indexAddr t x y =>
    split
    · rename_i a b
      have ha : localOn (ptrIds a) o o' := by simpa [rdOp] using h
      unfold effIndexAddr
      split
      · split
        · rfl
        · simp only [lhd ha]
        · rfl
      · rfl
      · rfl
    · rfl
  case buildSlice t n ps =>
    unfold effBuildSlice
    split
    · rfl
    · rename_i e cc _
      split
      · split
        · rename_i l hl
          have : l.map (sealAV o) = l.map (sealAV o') := by
            apply List.map_congr_left
            intro a ha
            apply sealAV_local
            intro i hi
            apply h
            rcases fillAV_ids _ _ _ _ hl i (List.mem_flatMap.2 ⟨a, ha, hi⟩) with h1 | h1
            · exfalso
              simp only [List.mem_flatMap] at h1
              obtain ⟨b, hb, hib⟩ := h1
              rw [(List.mem_replicate.1 hb).2] at hib
              simp [sealIds] at hib
            · simp only [List.mem_flatMap] at h1
              obtain ⟨p, hp, hip⟩ := h1
              simp only [rdOp, List.mem_flatMap]
              exact ⟨p.2, (List.of_mem_zip hp).2, hip⟩
          rw [this]
        · rfl
      · rfl
  case slice t x lo hi mx =>
    cases mx with
    | some _ => rfl
    | none =>
      have key : ∀ (x : AV) (l hh : Option AV), localOn (ptrIds x) o o' → effSlice E t x l hh o = effSlice E t x l hh o' := by
        intro x l hh ha
        unfold effSlice
        split
        · split
          · rfl
          · cases x with
            | hd i => simp only [ha i (by simp [ptrIds])]
            | _ => rfl
        · rfl
      simp only [effSliceOp]
      split <;> first | rfl | exact key _ _ _ (by simpa [rdOp] using h)
  case makeFunc fn first captured => cases fn <;> rfl
  case call cl =>
    obtain ⟨callee, args, ats⟩ := cl
    cases callee with
    | invoke r m => rfl
    | builtin b =>
      simp only
      have h' : localOn (vs.flatMap ptrIds) o o' := by simpa [rdOp] using h
      unfold effBuiltin
      split
      · rename_i s x
        have hs : localOn (ptrIds s) o o' := fun i hi => h' i (by simp [hi])
        have hx : localOn (ptrIds x) o o' := fun i hi => h' i (by simp [hi])
        have hread : ∀ cc, readSl cc o x = readSl cc o' x := by
          intro cc
          unfold readSl
          split
          · rfl
          · simp only [lhd hx]
          · simp only [lvw hx]
          · rfl
          · rfl
        unfold effAppend
        simp only [hread]
        split
        · split
          · split
            · split
              · rfl
              · split
                · rfl
                · simp only [lhd hs]
                · rfl
            · rfl
          · rfl
        · rfl
      · rename_i x
        have hx : localOn (ptrIds x) o o' := fun i hi => h' i (by simp [hi])
        unfold effLen
        have e1 : lenSl o x = lenSl o' x := by
          unfold lenSl
          split
          · rfl
          · rfl
          · simp only [lhd hx]
          · rfl
          · rfl
        have e2 : lenMp o x = lenMp o' x := by
          unfold lenMp
          split
          · simp only [lhd hx]
          · rfl
          · rfl
        rw [e1, e2]
      · rfl
      · rfl
      · rfl
    | value f =>
      simp only
      split
      · rename_i g caps avs
        split
        · rename_i s hC
          split
          · refine hE g s hC _ _ _ _ ?_
            simpa [rdOp, hC] using h
          · rfl
        · rfl
      · rfl

/-! ### One operation, where its effect is one -/
abbrev DS := Prop × AV × List (Nat × AObj)

def dEff : Eff → Option DS
  | .ok r u => some (True, r, u)
  | .req q r u => some (q, r, u)
  | _ => none

def isFree (a : Option AObj) : Bool := match a with | some .free => true | _ => false
def freeAt (H : Nat → Option AObj) (id : Nat) : Nat → Bool
  | 0 => true
  | n + 1 => isFree (H (id + n)) && freeAt H id n

def dPure (t : Bool) (q0 : Prop) : Eff → Option DS
  | .ok r [] => some (q0, .gd 0 true t r, [])
  | .req q r [] => some (q0 ∧ (t = true → q), .gd 0 true t r, [])
  | _ => none

def dVs (T : List AV) (op : Op) : List AV := pvs op (evs T op)
def dQ (t : Bool) (T : List AV) (op : Op) : Prop := gdReq t (pq op (evs T op))
def andQ (q0 : Prop) : Option DS → Option DS
  | some (q, r, u) => some (q0 ∧ q, r, u)
  | none => none

def dStep (E : Env) (ops : Array Oper) (o : Oper) (id : Nat) (T : List AV) (H : List AObj) : Option DS :=
  match freeAt (H[·]?) id (newOp E o.op) with
  | false => none
  | true => match guardOf ops T o with
    | .bad => none
    | .none => andQ (dQ true T o.op) (dEff (effOp E o.op (dVs T o.op) id (H.getD · .dead)))
    | .cond t => dPure t (dQ t T o.op) (effOp E o.op (dVs T o.op) id (H.getD · .dead))

def dRd (E : Env) (o : Oper) (id : Nat) (T : List AV) : List Nat := rdOp E o.op (dVs T o.op) ++ List.range' id (newOp E o.op)

theorem freeAt_congr {H H' : Nat → Option AObj} {id : Nat} : ∀ (n : Nat), (∀ j, id ≤ j → j < id + n → H j = H' j) → freeAt H id n = freeAt H' id n
  | 0, _ => rfl
  | n + 1, h => by simp only [freeAt, h (id + n) (by omega) (by omega), freeAt_congr n fun j h1 h2 => h j h1 (by omega)]
theorem freeAt_spec {H : List AObj} {id : Nat} : ∀ (n : Nat), freeAt (H[·]?) id n = true → ∀ j, j < n → H[id + j]? = some .free
  | 0, _, j, hj => by omega
  | n + 1, h, j, hj => by
    simp only [freeAt, Bool.and_eq_true] at h
    by_cases e : j = n
    · subst e
      have := h.1
      unfold isFree at this
      split at this
      · assumption
      · cases this
    · exact freeAt_spec n h.2 j (by omega)

theorem dStep_upd {E : Env} (hE : ∀ f s, E.C f = some s → ∀ args id o o', localOn (s.rd args) o o' → s.eff args id o = s.eff args id o') {ops : Array Oper} {o : Oper} {id : Nat} {T : List AV} {H H' : List AObj}
    (h : ∀ i ∈ dRd E o id T, H'[i]? = H[i]?) : dStep E ops o id T H' = dStep E ops o id T H := by
  unfold dStep
  rw [freeAt_congr (H := (H'[·]?)) (H' := (H[·]?)) (newOp E o.op) fun j h1 h2 => h j (by unfold dRd; exact List.mem_append_right _ (List.mem_range'.2 ⟨j - id, by omega, by omega⟩))]
  rw [effOp_local hE (o' := (H.getD · .dead)) fun i hi => by simp only [List.getD, h i (List.mem_append_left _ hi)]]

theorem ev_put {T : List AV} {x : Operand} {dst : Option Nat} {r : AV} (h : ∀ d, dst = some d → x ≠ .tmp d) : ev (putT T dst r) x = ev T x := by
  cases dst with
  | none => rfl
  | some d =>
    cases x with
    | tmp t =>
      have hne : d ≠ t := fun e => h d rfl (e ▸ rfl)
      simp [ev, putT, List.getD, List.getElem?_set_ne hne]
    | _ => rfl

theorem evs_put {ops : Array Oper} {T : List AV} {o : Oper} {dst : Option Nat} {r : AV} (h : ∀ d, dst = some d → d ∉ o.looksAt ops) : evs (putT T dst r) o.op = evs T o.op := by
  unfold evs
  refine List.map_congr_left fun x hx => ev_put fun d hd hxd => h d hd ?_
  subst hxd
  exact List.mem_append_left _ (List.mem_filterMap.2 ⟨.tmp d, by simpa using hx, rfl⟩)

theorem guardOf_put {ops : Array Oper} {T : List AV} {o : Oper} {dst : Option Nat} {r : AV} (h : ∀ d, dst = some d → d ∉ o.looksAt ops) : guardOf ops (putT T dst r) o = guardOf ops T o := by
  cases dst with
  | none => rfl
  | some d =>
    unfold guardOf
    cases hg : o.guard with
    | none => rfl
    | some gw =>
      obtain ⟨g, want⟩ := gw
      simp only
      cases ht : (ops[g]?).bind (·.dst) with
      | none => rfl
      | some t =>
        have hne : d ≠ t := fun e => h d rfl (by subst e; simp [Oper.looksAt, hg, ht])
        have : (putT T (some d) r).getD t .any = T.getD t .any := by simp [putT, List.getD, List.getElem?_set_ne hne]
        simp only [this]

theorem dStep_put {E : Env} {ops : Array Oper} {o : Oper} {id : Nat} {T : List AV} {H : List AObj} {dst : Option Nat} {r : AV} (h : ∀ d, dst = some d → d ∉ o.looksAt ops) :
    dStep E ops o id (putT T dst r) H = dStep E ops o id T H ∧ dRd E o id (putT T dst r) = dRd E o id T := by
  unfold dStep dRd dVs dQ
  rw [evs_put h, guardOf_put h]
  exact ⟨rfl, rfl⟩

section
variable {c : Ctx} {κ : Kap} {Im : Nat → Prop} {w : World}
theorem dStep_sound {E : Env} (hE : EnvOk E) {ops : Array Oper} {o : Oper} {id : Nat} {T : List AV} {H : List AObj} {a : Act} {q : Prop} {r : AV} {u : List (Nat × AObj)} (hf : Fits c T H κ Im a w)
    (hs : dStep E ops o id T H = some (q, r, u)) (hq : q) {next : Act → World → Prop} {Q : Exit → Act → World → Prop}
    (hk : ∀ κ' Im' a' w', Fits c (putT T o.dst r) (updH H u) κ' Im' a' w' → next a' w') :
    if Region.wanted o (yielded ops a.tmps) then o.wp E.P a w next Q else next (a.put o.dst undef) w := by
  have hg := guard_sound (ops := ops) (o := o) hf.tmps
  have hv := evs_rel hf.tmps o.op
  unfold dStep at hs
  split at hs
  · cases hs
  · rename_i hfree
    have hid := freeAt_spec _ hfree
    have hvs : ∀ t, t = true → dQ t T o.op → AV.rels κ Im w (dVs T o.op) (o.op.operands.toList.map a.eval) := by
      intro t ht hqq
      exact pvs_rel t ht _ hqq hv
    have go : ∀ r u, (effOp E o.op (dVs T o.op) id (H.getD · .dead)).sat (fun r' u' => r' = r ∧ u' = u) → dQ true T o.op → (∀ κ' Im' a' w', Fits c (putT T o.dst r) (updH H u) κ' Im' a' w' → next a' w') → o.wp E.P a w next Q := by
      intro r u hsat hqq hk
      refine Gives.wp (op_sound hE hf.st (hvs true rfl hqq) hid hsat ?_)
      rintro r' u' κ' Im' w' y ⟨rfl, rfl⟩ hle hst hr
      refine hk κ' Im' _ w' ⟨hst, putT_rel (AV.rels_mono hle _ _ hf.tmps) hr, ?_⟩
      cases o.dst <;> exact hf.defers
    split at hs
    · cases hs
    · rename_i h
      rw [hg.1 h, if_pos rfl]
      generalize he : effOp E o.op (dVs T o.op) id (H.getD · .dead) = e at hs go
      cases e with
      | ok r0 u0 => simp only [dEff, andQ, Option.some.injEq, Prod.mk.injEq] at hs; obtain ⟨rfl, rfl, rfl⟩ := hs; exact go _ _ ⟨rfl, rfl⟩ hq.1 hk
      | req q0 r0 u0 => simp only [dEff, andQ, Option.some.injEq, Prod.mk.injEq] at hs; obtain ⟨rfl, rfl, rfl⟩ := hs; exact go _ _ ⟨⟨hq.2⟩, rfl, rfl⟩ hq.1 hk
      | _ => cases hs
    · rename_i t h
      rw [hg.2 t h]
      have skip : ∀ r, AV.rel κ Im w r undef → (∀ κ' Im' a' w', Fits c (putT T o.dst r) H κ' Im' a' w' → next a' w') → next (a.put o.dst undef) w := fun r hr hk =>
        hk κ Im _ w ⟨hf.st, putT_rel hf.tmps hr, by cases o.dst <;> exact hf.defers⟩
      have go' : ∀ r, (effOp E o.op (dVs T o.op) id (H.getD · .dead)).sat (fun r' u' => r' = r ∧ u' = []) → t = true → dQ t T o.op →
          (∀ κ' Im' a' w', Fits c (putT T o.dst (.gd 0 true t r)) H κ' Im' a' w' → next a' w') → o.wp E.P a w next Q := by
        intro r hsat ht hqq hk
        refine Gives.wp (op_sound hE hf.st (hvs t ht hqq) hid hsat ?_)
        rintro r' u' κ' Im' w' y ⟨rfl, rfl⟩ hle hst hr
        refine hk κ' Im' _ w' ⟨hst, putT_rel (AV.rels_mono hle _ _ hf.tmps) (by simp only [AV.rel]; exact ⟨fun _ => hr, fun h => by rw [ht] at h; cases h⟩), ?_⟩
        cases o.dst <;> exact hf.defers
      generalize he : effOp E o.op (dVs T o.op) id (H.getD · .dead) = e at hs go'
      unfold dPure at hs
      split at hs
      · simp only [Option.some.injEq, Prod.mk.injEq] at hs
        obtain ⟨rfl, rfl, rfl⟩ := hs
        cases t with
        | false => simp only [Bool.false_eq_true, if_false]; exact skip _ (by simp [AV.rel]) hk
        | true => simp only [if_true]; exact go' _ ⟨rfl, rfl⟩ rfl hq hk
      · simp only [Option.some.injEq, Prod.mk.injEq] at hs
        obtain ⟨rfl, rfl, rfl⟩ := hs
        cases t with
        | false => simp only [Bool.false_eq_true, if_false]; exact skip _ (by simp [AV.rel]) hk
        | true => simp only [if_true]; exact go' _ ⟨⟨hq.2 rfl⟩, rfl, rfl⟩ rfl hq.1 hk
      · cases hs
end

end Go.X
