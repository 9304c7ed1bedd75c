/- A region, operation by operation. -/
import Derived.Test.YtlpbalinhikboaaX18
namespace Go.X
open Go

/-! ### Forcing: the kernel is to see plain constructors -/
def forceN (n : Nat) (k : Nat → Prop) : Prop := match n + 1 with | 0 => k n | m + 1 => k m
theorem forceN_eq (n : Nat) (k : Nat → Prop) : forceN n k = k n := rfl
def forceV (x : Value) (k : Value → Prop) : Prop :=
  match x with
  | .int a n => k (.int a n)
  | .bool b => k (.bool b)
  | .pointer a => k (.pointer a)
  | .slice a n c => k (.slice a n c)
  | x => k x
theorem forceV_eq (x : Value) (k : Value → Prop) : forceV x k = k x := by cases x <;> rfl

mutual
def forceAV : AV → (AV → Prop) → Prop
  | .v x, k => forceV x fun x => k (.v x)
  | .any, k => k .any
  | .gd j p t a, k => forceAV a fun a => k (.gd j p t a)
  | .ptr i o, k => forceN i fun i => forceN o fun o => k (.ptr i o)
  | .agg l, k => forceL l fun l => k (.agg l)
  | .tup l, k => forceL l fun l => k (.tup l)
  | .fn f l, k => forceL l fun l => k (.fn f l)
  | .rs c xs, k => k (.rs c xs)
  | .ep c xs n o, k => k (.ep c xs n o)
  | .hd i, k => forceN i fun i => k (.hd i)
  | .vw i a b d, k => k (.vw i a b d)
  | .rp i a b d, k => k (.rp i a b d)
def forceL : List AV → (List AV → Prop) → Prop
  | [], k => k []
  | a :: l, k => forceAV a fun a => forceL l fun l => k (a :: l)
end
mutual
theorem forceAV_eq : ∀ (a : AV) (k : AV → Prop), forceAV a k = k a
  | .v x, k => by simp only [forceAV, forceV_eq]
  | .any, k => by simp only [forceAV]
  | .gd j p t a, k => by simp only [forceAV, forceAV_eq a]
  | .ptr i o, k => by simp only [forceAV, forceN_eq]
  | .agg l, k => by simp only [forceAV, forceL_eq l]
  | .tup l, k => by simp only [forceAV, forceL_eq l]
  | .fn f l, k => by simp only [forceAV, forceL_eq l]
  | .rs c xs, k => by simp only [forceAV]
  | .ep c xs n o, k => by simp only [forceAV]
  | .hd i, k => by simp only [forceAV, forceN_eq]
  | .vw i a b d, k => by simp only [forceAV]
  | .rp i a b d, k => by simp only [forceAV]
theorem forceL_eq : ∀ (l : List AV) (k : List AV → Prop), forceL l k = k l
  | [], k => by simp only [forceL]
  | a :: l, k => by simp only [forceL, forceAV_eq a, forceL_eq l]
end

def forceO (o : AObj) (k : AObj → Prop) : Prop :=
  match o with
  | .free => k .free
  | .dead => k .dead
  | .cells cs E => forceL cs fun cs => k (.cells cs E)
  | .row E c xs => k (.row E c xs)
  | .map a b m => k (.map a b m)
theorem forceO_eq (o : AObj) (k : AObj → Prop) : forceO o k = k o := by cases o <;> simp only [forceO, forceL_eq]

def setF {α : Type} : List α → Nat → α → (List α → Prop) → Prop
  | [], _, _, k => k []
  | x :: l, n, a, k => match n with
    | 0 => k (a :: l)
    | n + 1 => setF l n a fun l => k (x :: l)
theorem setF_eq {α : Type} : ∀ (l : List α) (n : Nat) (a : α) (k : List α → Prop), setF l n a k = k (l.set n a)
  | [], n, a, k => rfl
  | x :: l, 0, a, k => rfl
  | x :: l, n + 1, a, k => by simp only [setF, setF_eq l]; rfl

/-- Updates below a number alone. -/
def updF (lim : Nat) (H : List AObj) : List (Nat × AObj) → (List AObj → Prop) → Prop
  | [], k => k H
  | (i, o) :: r, k => match Nat.blt i lim with
    | true => forceO o fun o => setF H i o fun H => updF lim H r k
    | false => False
theorem updF_spec (lim : Nat) : ∀ (u : List (Nat × AObj)) (H : List AObj) (k : List AObj → Prop), updF lim H u k → k (updH H u) ∧ ∀ j, lim ≤ j → (updH H u)[j]? = H[j]?
  | [], H, k, h => ⟨h, fun _ _ => rfl⟩
  | (i, o) :: r, H, k, h => by
    simp only [updF] at h
    split at h
    · rename_i hlt
      simp only [forceO_eq, setF_eq] at h
      obtain ⟨h1, h2⟩ := updF_spec lim r _ k h
      have hi : i < lim := by simpa using hlt
      exact ⟨h1, fun j hj => by rw [show updH H ((i, o) :: r) = updH (H.set i o) r from rfl, h2 j hj, List.getElem?_set_ne (by omega)]⟩
    · exact h.elim

def putT (T : List AV) (d : Option Nat) (a : AV) : List AV := match d with | some i => T.set i a | none => T
def putF (T : List AV) (d : Option Nat) (a : AV) (k : List AV → Prop) : Prop := match d with
  | some i => forceAV a fun a => setF T i a k
  | none => k T
theorem putF_eq (T : List AV) (d : Option Nat) (a : AV) (k : List AV → Prop) : putF T d a k = k (putT T d a) := by
  cases d <;> simp only [putF, putT, forceAV_eq, setF_eq]

/-- A case, by a bool that the walk may not know. -/
def cnd (t : Bool) (a b : Prop) : Prop := match t with | true => a | false => b
theorem cnd_iff (t : Bool) (a b : Prop) : cnd t a b ↔ (t = true → a) ∧ (t = false → b) := by cases t <;> simp [cnd]

/-! ### Guards -/
inductive Grd where
  | none
  | cond (t : Bool)
  | bad

def guardOf (ops : Array Oper) (T : List AV) (o : Oper) : Grd :=
  match o.guard with
  | none => .none
  | some (j, p) => match (ops[j]?).bind (·.dst) with
    | none => .bad
    | some d => match T.getD d .any with
      | .v (.bool g) => .cond (match p with | true => g | false => !g)
      | .gd _ _ t (.v (.bool g)) => .cond (t && (match p with | true => g | false => !g))
      | _ => .bad

def stripAV : AV → AV
  | .gd _ _ _ a => a
  | a => a
def gdReq (t : Bool) : List AV → Prop
  | [] => True
  | .gd _ _ g _ :: l => Ok (t = true → g = true) ∧ gdReq t l
  | _ :: l => gdReq t l

def gdAnd (t : Bool) : List AV → Prop → Prop
  | [], k => k
  | .gd _ _ g _ :: l, k => Ok (t = true → g = true) ∧ gdAnd t l k
  | _ :: l, k => gdAnd t l k
theorem gdAnd_iff (t : Bool) : ∀ (l : List AV) (k : Prop), gdAnd t l k ↔ gdReq t l ∧ k
  | [], k => by simp [gdAnd, gdReq]
  | a :: l, k => by
    have := gdAnd_iff t l k
    cases a <;> simp only [gdAnd, gdReq, this, and_assoc]

def isPick : Op → Bool
  | .pick _ _ _ => true
  | _ => false

/-- The operands that must be there: of a choice the first alone. -/
def pq (op : Op) (l : List AV) : List AV := match isPick op with | true => l.take 1 | false => l
def strip1 : List AV → List AV
  | [] => []
  | a :: l => stripAV a :: l
def pvs (op : Op) (l : List AV) : List AV := match isPick op with | true => strip1 l | false => l.map stripAV

def evs (T : List AV) (op : Op) : List AV := op.operands.toList.map (ev T)

/-- The effect without a guard. -/
def runEff (lim : Nat) (e : Eff) (T : List AV) (H : List AObj) (d : Option Nat) (K : List AV → List AObj → Prop) : Prop :=
  match e with
  | .bad => False
  | .ok r u => putF T d r fun T => updF lim H u fun H => K T H
  | .req q r u => Ok q ∧ putF T d r fun T => updF lim H u fun H => K T H
  | .nd ι q r u => ∀ x : ι, q x → putF T d (r x) fun T => updF lim H (u x) fun H => K T H

/-- The effect under a guard. -/
def runGd (lim : Nat) (t : Bool) (e : Eff) (T : List AV) (H : List AObj) (d : Option Nat) (K : List AV → List AObj → Prop) : Prop :=
  match e with
  | .bad => False
  | .ok r [] => putF T d (.gd 0 true t r) fun T => K T H
  | .req q r [] => Ok (t = true → q) ∧ putF T d (.gd 0 true t r) fun T => K T H
  | e => cnd t (runEff lim e T H d K) (putF T d (.v undef) fun T => K T H)

def xOp (E : Env) (ops : Array Oper) (o : Oper) (id : Nat) (T : List AV) (H : List AObj) (K : List AV → List AObj → Prop) : Prop :=
  match guardOf ops T o with
  | .bad => False
  | .none => gdAnd true (pq o.op (evs T o.op)) (runEff (id + newOp E o.op) (effOp E o.op (pvs o.op (evs T o.op)) id (H.getD · .dead)) T H o.dst K)
  | .cond t => gdAnd t (pq o.op (evs T o.op)) (runGd (id + newOp E o.op) t (effOp E o.op (pvs o.op (evs T o.op)) id (H.getD · .dead)) T H o.dst K)

/-! ### Soundness -/
section
variable {c : Ctx} {κ : Kap} {Im : Nat → Prop} {w : World} {H : List AObj}

theorem toAV_rel (x : Value) : AV.rel κ Im w (toAV x) x := by
  unfold toAV
  split
  · simp only [AV.rel]; exact ⟨_, rfl, rels_map_v _⟩
  · split
    · rename_i f first caps h
      simp only [Bool.and_eq_true, Array.isEmpty_iff] at h
      obtain ⟨rfl, rfl⟩ := h
      simp only [AV.rel]; exact ⟨#[], rfl, by simp [AV.rels]⟩
    · simp only [AV.rel]
  · simp only [AV.rel]

theorem rels_get {T : List AV} {ys : List Value} (h : AV.rels κ Im w T ys) (i : Nat) : AV.rel κ Im w (T.getD i .any) (ys.getD i undef) := by
  simp only [List.getD]
  cases hi : T[i]? with
  | none => simp only [Option.getD_none, AV.rel]
  | some a =>
    obtain ⟨y, h1, h2⟩ := rels_getElem h hi
    rw [h1]; exact h2

theorem ev_rel {T : List AV} {a : Act} (h : AV.rels κ Im w T a.tmps.toList) (x : Operand) : AV.rel κ Im w (ev T x) (a.eval x) := by
  cases x with
  | tmp i =>
    have := rels_get h i
    simp only [ev, Act.eval]
    rw [show a.tmps.getD i undef = a.tmps.toList.getD i undef from by simp [List.getD, Array.getD_eq_getD_getElem?]]
    exact this
  | const v => exact toAV_rel v
  | global g => simp only [ev, Act.eval, AV.rel]
  | func f => simp only [ev, Act.eval, AV.rel]; exact ⟨#[], rfl, by simp [AV.rels]⟩

theorem evs_rel {T : List AV} {a : Act} (h : AV.rels κ Im w T a.tmps.toList) (op : Op) : AV.rels κ Im w (evs T op) (op.operands.toList.map a.eval) := by
  unfold evs
  generalize op.operands.toList = l
  induction l with
  | nil => simp [AV.rels]
  | cons x l ih => simp only [List.map_cons, AV.rels]; exact ⟨_, _, rfl, ev_rel h x, ih⟩

theorem strip_rel (t : Bool) (ht : t = true) : ∀ (l : List AV) (ys : List Value), gdReq t l → AV.rels κ Im w l ys → AV.rels κ Im w (l.map stripAV) ys
  | [], ys, _, h => h
  | a :: l, ys, hq, h => by
    simp only [AV.rels, List.map_cons] at h ⊢
    obtain ⟨y, r, rfl, h2, h3⟩ := h
    cases a with
    | gd j p g a =>
      simp only [gdReq] at hq
      simp only [AV.rel] at h2
      exact ⟨y, r, rfl, h2.1 (hq.1.out ht), strip_rel t ht l r hq.2 h3⟩
    | _ => exact ⟨y, r, rfl, h2, strip_rel t ht l r hq h3⟩

theorem pvs_rel (t : Bool) (ht : t = true) (op : Op) {l : List AV} {ys : List Value} (hq : gdReq t (pq op l)) (h : AV.rels κ Im w l ys) : AV.rels κ Im w (pvs op l) ys := by
  unfold pq at hq
  unfold pvs
  cases hp : isPick op with
  | false => rw [hp] at hq; exact strip_rel t ht l ys hq h
  | true =>
    rw [hp] at hq
    cases l with
    | nil => exact h
    | cons a l =>
      simp only [AV.rels] at h
      obtain ⟨y, r, rfl, h2, h3⟩ := h
      have := strip_rel (κ := κ) (Im := Im) (w := w) t ht [a] [y] (by simpa using hq) (by simp only [AV.rels]; exact ⟨y, [], rfl, h2, rfl⟩)
      simp only [List.map_cons, List.map_nil, AV.rels] at this
      obtain ⟨y', r', e, h4, _⟩ := this
      cases e
      simp only [strip1, AV.rels]
      exact ⟨y, r, rfl, h4, h3⟩

theorem putT_rel {T : List AV} {a : Act} {d : Option Nat} {r : AV} {y : Value} (h : AV.rels κ Im w T a.tmps.toList) (hr : AV.rel κ Im w r y) : AV.rels κ Im w (putT T d r) (a.put d y).tmps.toList := by
  cases d with
  | none => exact h
  | some i =>
    simp only [putT, Act.put, Array.toList_setIfInBounds]
    generalize a.tmps.toList = ys at h
    induction T generalizing ys i with
    | nil => simp only [AV.rels] at h; subst h; simp [AV.rels]
    | cons b T ih =>
      simp only [AV.rels] at h
      obtain ⟨z, s, rfl, h2, h3⟩ := h
      cases i with
      | zero => simp only [List.set_cons_zero, AV.rels]; exact ⟨y, s, rfl, hr, h3⟩
      | succ i => simp only [List.set_cons_succ, AV.rels]; exact ⟨z, _, rfl, h2, ih i s h3⟩

/-- A frame that fits. -/
structure Fits (c : Ctx) (T : List AV) (H : List AObj) (κ : Kap) (Im : Nat → Prop) (a : Act) (w : World) : Prop where
  st : St c κ Im w H
  tmps : AV.rels κ Im w T a.tmps.toList
  defers : a.defers = []

theorem runEff_sound {E : Env} (hE : EnvOk E) {o : Oper} {id : Nat} {T : List AV} {a : Act} {vs : List AV} {K : List AV → List AObj → Prop} (hf : Fits c T H κ Im a w)
    (hv : AV.rels κ Im w vs (o.op.operands.toList.map a.eval)) (hid : ∀ j, j < newOp E o.op → H[id + j]? = some .free)
    (hs : runEff (id + newOp E o.op) (effOp E o.op vs id (H.getD · .dead)) T H o.dst K) {next : Act → World → Prop} {Q : Exit → Act → World → Prop}
    (hk : ∀ T' H' κ' Im' a' w', K T' H' → (∀ j, id + newOp E o.op ≤ j → H'[j]? = H[j]?) → Fits c T' H' κ' Im' a' w' → next a' w') : o.wp E.P a w next Q := by
  refine Gives.wp (op_sound hE hf.st hv hid (K := fun r u => K (putT T o.dst r) (updH H u) ∧ ∀ j, id + newOp E o.op ≤ j → (updH H u)[j]? = H[j]?) ?_ ?_)
  · generalize effOp E o.op vs id (H.getD · .dead) = e at hs ⊢
    cases e with
    | bad => exact hs
    | ok r u => simp only [runEff, Eff.sat, putF_eq] at hs ⊢; exact updF_spec _ _ _ _ hs
    | req q r u => simp only [runEff, Eff.sat, putF_eq] at hs ⊢; exact ⟨hs.1, updF_spec _ _ _ _ hs.2⟩
    | nd ι q r u => simp only [runEff, Eff.sat, putF_eq] at hs ⊢; exact fun x hx => updF_spec _ _ _ _ (hs x hx)
  · intro r u κ' Im' w' y hK hle hst hr
    refine hk _ _ κ' Im' _ w' hK.1 hK.2 ⟨hst, putT_rel (AV.rels_mono hle _ _ hf.tmps) hr, ?_⟩
    cases o.dst <;> exact hf.defers

theorem runGd_sound {E : Env} (hE : EnvOk E) {ops : Array Oper} {o : Oper} {id : Nat} {T : List AV} {a : Act} {vs : List AV} {t : Bool} {K : List AV → List AObj → Prop} (hf : Fits c T H κ Im a w)
    (hw : Region.wanted o (yielded ops a.tmps) = t) (hv : t = true → AV.rels κ Im w vs (o.op.operands.toList.map a.eval)) (hid : ∀ j, j < newOp E o.op → H[id + j]? = some .free)
    (hs : runGd (id + newOp E o.op) t (effOp E o.op vs id (H.getD · .dead)) T H o.dst K) {next : Act → World → Prop} {Q : Exit → Act → World → Prop}
    (hk : ∀ T' H' κ' Im' a' w', K T' H' → (∀ j, id + newOp E o.op ≤ j → H'[j]? = H[j]?) → Fits c T' H' κ' Im' a' w' → next a' w') :
    if Region.wanted o (yielded ops a.tmps) then o.wp E.P a w next Q else next (a.put o.dst undef) w := by
  rw [hw]
  have skip : ∀ r, AV.rel κ Im w r undef → K (putT T o.dst r) H → next (a.put o.dst undef) w := fun r hr hK =>
    hk _ _ κ Im _ w hK (fun _ _ => rfl) ⟨hf.st, putT_rel hf.tmps hr, by cases o.dst <;> exact hf.defers⟩
  unfold runGd at hs
  split at hs
  · exact hs.elim
  · rename_i r he
    rw [putF_eq] at hs
    cases t with
    | false => simp only [Bool.false_eq_true, if_false]; exact skip _ (by simp [AV.rel]) hs
    | true =>
      simp only [if_true]
      refine Gives.wp (op_sound hE hf.st (hv rfl) hid (K := fun r' u => r' = r ∧ u = []) (by rw [he]; exact ⟨rfl, rfl⟩) ?_)
      rintro r' u κ' Im' w' y ⟨rfl, rfl⟩ hle hst hr
      exact hk _ _ κ' Im' _ w' hs (fun _ _ => rfl) ⟨hst, putT_rel (AV.rels_mono hle _ _ hf.tmps) (by simp only [AV.rel]; exact ⟨fun _ => hr, fun h => by cases h⟩), by cases o.dst <;> exact hf.defers⟩
  · rename_i q r he
    obtain ⟨⟨hq⟩, hs⟩ := hs
    rw [putF_eq] at hs
    cases t with
    | false => simp only [Bool.false_eq_true, if_false]; exact skip _ (by simp [AV.rel]) hs
    | true =>
      simp only [if_true]
      refine Gives.wp (op_sound hE hf.st (hv rfl) hid (K := fun r' u => r' = r ∧ u = []) (by rw [he]; exact ⟨⟨hq rfl⟩, rfl, rfl⟩) ?_)
      rintro r' u κ' Im' w' y ⟨rfl, rfl⟩ hle hst hr
      exact hk _ _ κ' Im' _ w' hs (fun _ _ => rfl) ⟨hst, putT_rel (AV.rels_mono hle _ _ hf.tmps) (by simp only [AV.rel]; exact ⟨fun _ => hr, fun h => by cases h⟩), by cases o.dst <;> exact hf.defers⟩
  · rw [cnd_iff] at hs
    cases t with
    | false =>
      simp only [Bool.false_eq_true, if_false]
      have := hs.2 rfl
      rw [putF_eq] at this
      exact skip _ (by simp only [AV.rel]) this
    | true =>
      simp only [if_true]
      exact runEff_sound hE hf (hv rfl) hid (hs.1 rfl) hk

theorem guard_sound {ops : Array Oper} {o : Oper} {T : List AV} {a : Act} (h : AV.rels κ Im w T a.tmps.toList) :
    (guardOf ops T o = .none → Region.wanted o (yielded ops a.tmps) = true) ∧ (∀ t, guardOf ops T o = .cond t → Region.wanted o (yielded ops a.tmps) = t) := by
  unfold guardOf Region.wanted
  split
  · rename_i hg; simp [hg]
  · rename_i j p hg
    split
    · simp
    · rename_i d hd
      have hr := rels_get h d
      have hy : yielded ops a.tmps j = match a.tmps.toList.getD d undef with | .bool b => some b | _ => none := by
        unfold yielded
        rw [hd, Option.bind_some]
        simp only [List.getD, Array.getElem?_toList]
        cases a.tmps[d]? with
        | none => rfl
        | some v => cases v <;> rfl
      split
      · rename_i g hT
        rw [hT] at hr
        simp only [AV.rel] at hr
        rw [hr] at hy
        simp only [hg, hy]
        refine ⟨by simp, fun t ht => ?_⟩
        cases ht
        cases p <;> cases g <;> rfl
      · rename_i t1 g hT
        rw [hT] at hr
        simp only [AV.rel] at hr
        simp only [hg]
        refine ⟨by simp, fun t ht => ?_⟩
        cases ht
        cases t1 with
        | false =>
          rw [hr.2 rfl] at hy
          simp only [undef] at hy
          rw [hy]; rfl
        | true =>
          rw [hr.1 rfl] at hy
          rw [hy]
          cases p <;> cases g <;> rfl
      · simp

/-- One operation of a region. -/
theorem xOp_sound {E : Env} (hE : EnvOk E) {ops : Array Oper} {o : Oper} {id : Nat} {T : List AV} {a : Act} {K : List AV → List AObj → Prop} (hf : Fits c T H κ Im a w)
    (hid : ∀ j, j < newOp E o.op → H[id + j]? = some .free) (hs : xOp E ops o id T H K) {next : Act → World → Prop} {Q : Exit → Act → World → Prop}
    (hk : ∀ T' H' κ' Im' a' w', K T' H' → (∀ j, id + newOp E o.op ≤ j → H'[j]? = H[j]?) → Fits c T' H' κ' Im' a' w' → next a' w') :
    if Region.wanted o (yielded ops a.tmps) then o.wp E.P a w next Q else next (a.put o.dst undef) w := by
  have hg := guard_sound (ops := ops) (o := o) hf.tmps
  have hv := evs_rel hf.tmps o.op
  unfold xOp at hs
  split at hs
  · exact hs.elim
  · rename_i h
    rw [hg.1 h, if_pos rfl]
    rw [gdAnd_iff] at hs
    exact runEff_sound hE hf (pvs_rel true rfl _ hs.1 hv) hid hs.2 hk
  · rename_i t h
    rw [gdAnd_iff] at hs
    exact runGd_sound hE hf (hg.2 t h) (fun ht => pvs_rel t ht _ hs.1 hv) hid hs.2 hk
end
end Go.X
