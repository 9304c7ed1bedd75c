/- Code, walked. -/
import Derived.Test.YtlpbalinhikboaaX21
namespace Go.X
open Go

theorem St.more {c : Ctx} {κ : Kap} {Im : Nat → Prop} {w : World} {H : List AObj} (h : St c κ Im w H) (n : Nat) : St c κ Im w (H ++ List.replicate n .free) := by
  obtain ⟨⟨D, h1, h2, h3⟩, hfresh, r⟩ := h
  refine ⟨⟨D, ?_, fun i b hd => ?_, h3⟩, fun i hi => hfresh i (by simp at hi; omega), ‹_›, ‹_›, ‹_›, ‹_›, ‹_›, ‹_›, ‹_›, ‹_›⟩
  · intro i o ho
    rcases Nat.lt_or_ge i H.length with hi | hi
    · rw [List.getElem?_append_left hi] at ho; exact h1 i o ho
    · rw [List.getElem?_append_right hi] at ho
      have : o = .free := by
        rw [List.getElem?_replicate] at ho
        split at ho
        · cases ho; rfl
        · cases ho
      subst this
      refine ⟨hfresh i hi, fun b hb => ?_⟩
      have := (h2 i b hb).1
      omega
  · obtain ⟨a1, a2⟩ := h2 i b hd
    exact ⟨by simp; omega, a2⟩

def repF : Nat → (List AObj → Prop) → Prop
  | 0, k => k []
  | n + 1, k => repF n fun l => k (.free :: l)
theorem repF_eq : ∀ (n : Nat) (k : List AObj → Prop), repF n k = k (List.replicate n .free)
  | 0, k => rfl
  | n + 1, k => by simp only [repF, repF_eq n]; rfl
def extF : List AObj → Nat → (List AObj → Prop) → Prop
  | [], n, k => repF n k
  | o :: l, n, k => extF l n fun l => k (o :: l)
theorem extF_eq : ∀ (l : List AObj) (n : Nat) (k : List AObj → Prop), extF l n k = k (l ++ List.replicate n .free)
  | [], n, k => repF_eq n k
  | o :: l, n, k => by simp only [extF, extF_eq l]; rfl

def newAll (E : Env) : List Oper → Nat
  | [] => 0
  | o :: l => newOp E o.op + newAll E l

/-- A region in its one order. -/
def xS (E : Env) (ops : Array Oper) : List Oper → Nat → List AV → List AObj → (List AV → List AObj → Prop) → Prop
  | [], _, T, H, K => K T H
  | o :: l, id, T, H, K => forceN (id + newOp E o.op) fun id' => xOp E ops o id T H fun T H => xS E ops l id' T H K

def xReg (E : Env) (ops : Array Oper) (draw : Bool) (T : List AV) (H : List AObj) (K : List AV → List AObj → Prop) : Prop :=
  forceN H.length fun id => extF H (newAll E ops.toList) fun H =>
    match draw with
    | false => xS E ops ops.toList id T H K
    | true => match afterOK 0 ops.toList with
      | true => xD E ops ops.toList id [] [] T H K
      | false => False

theorem xS_sound {E : Env} (hE : EnvOk E) {c : Ctx} {ops : Array Oper} {Q : Exit → Act → World → Prop} {K : List AV → List AObj → Prop} (hk : ∀ T H κ Im a w, K T H → Fits c T H κ Im a w → Q .normal a w) :
    ∀ (l : List Oper) (id : Nat) (T : List AV) (H : List AObj) (κ : Kap) (Im : Nat → Prop) (a : Act) (w : World), Fits c T H κ Im a w → (∀ j, j < newAll E l → H[id + j]? = some .free) → xS E ops l id T H K → wpList E.P ops Q l a w
  | [], id, T, H, κ, Im, a, w, hf, _, h => hk _ _ _ _ _ _ h hf
  | o :: l, id, T, H, κ, Im, a, w, hf, hid, h => by
    simp only [xS, forceN_eq] at h
    simp only [newAll] at hid
    have := xOp_sound hE (ops := ops) (o := o) (id := id) (Q := Q) hf (fun j hj => hid j (by omega)) h (next := wpList E.P ops Q l) fun T' H' κ' Im' a' w' hK hsame hf' =>
      xS_sound hE hk l _ T' H' κ' Im' a' w' hf' (fun j hj => by rw [hsame _ (by omega), Nat.add_assoc]; exact hid _ (by omega)) hK
    unfold wpList
    split
    · rename_i hw; rw [if_pos hw] at this; exact .inl this
    · rename_i hw; rw [if_neg hw] at this; exact this

theorem idAt_zero (E : Env) (base : Nat) (l : List Oper) : idAt E base l 0 = base := by simp [idAt]

theorem xReg_sound {E : Env} (hE : EnvOk E) {c : Ctx} {id : Nat} {ops : Array Oper} {draw : Bool} {Q : Exit → Act → World → Prop} {K : List AV → List AObj → Prop} (hk : ∀ T H κ Im a w, K T H → Fits c T H κ Im a w → Q .normal a w)
    {T : List AV} {H : List AObj} {κ : Kap} {Im : Nat → Prop} {a : Act} {w : World} (hf : Fits c T H κ Im a w) (h : xReg E ops draw T H K) : (Code.region id ops draw).wp E.P Q a w := by
  unfold xReg at h
  rw [forceN_eq, extF_eq] at h
  have hf' : Fits c T (H ++ List.replicate (newAll E ops.toList) .free) κ Im a w := ⟨hf.st.more _, hf.tmps, hf.defers⟩
  split at h
  · refine wp_region_list (xS_sound hE hk ops.toList _ T _ κ Im a w hf' (fun j hj => ?_) h)
    rw [List.getElem?_append_right (by omega), Nat.add_sub_cancel_left, List.getElem?_replicate, if_pos hj]
  · split at h
    · rename_i ha
      rw [← idAt_zero E H.length ops.toList] at h
      obtain ⟨Fs, _, _, _, _, _, hany⟩ := xD_any hE.loc ha ops.toList 0 [] [] T _ (Array.replicate ops.size false) (by simp) (by simp) rfl rfl (fun j i h => by simp at h) ⟨by simp, fun j hj => by simp [hj]⟩ h
      refine wp_region_any hE.mixed ?_
      refine AnyD_wp hE hk _ _ T _ κ Im a _ ⟨hf'.st.drew, AV.rels_mono (w := w) (w' := { w with drawn := w.drawn + 1 }) ⟨fun _ _ e => e, fun _ e => e, fun _ _ => rfl⟩ _ _ hf'.tmps, hf'.defers⟩ (by simpa using hany)
    · exact h.elim

/-! ### Code -/
inductive XE where
  | n
  | x (id : Nat)
  | r
def XE.exit : XE → Exit
  | .n => .normal
  | .x i => .exit i
  | .r => .ret

abbrev XK := XE → List AV → List AObj → Prop
abbrev XT := List AV → List AObj → XK → Prop

def AbsSound (P : Program) (x : XT) (code : Code) : Prop :=
  ∀ (c : Ctx) (T : List AV) (H : List AObj) (κ : Kap) (Im : Nat → Prop) (a : Act) (w : World) (K : XK) (Q : Exit → Act → World → Prop), Fits c T H κ Im a w → x T H K →
    (∀ e T' H' κ' Im' a' w', K e T' H' → Fits c T' H' κ' Im' a' w' → Q e.exit a' w') → code.wp P Q a w

/-- A loop's rule. -/
structure LSpec (P : Program) where
  run : XT → XT
  ok : ∀ x code, AbsSound P x code → AbsSound P (run x) (.loop code)

/-- Round by round, as often as it takes. -/
def unroll (x : XT) (K : XK) : Nat → List AV → List AObj → Prop
  | 0, _, _ => False
  | n + 1, T, H => x T H fun e T H => match e with
    | .n => unroll x K n T H
    | .x i => K (.x i) T H
    | .r => K .r T H

def keyOf : Code → Nat
  | .region id _ _ => id
  | .seq a _ => keyOf a
  | .block _ b => keyOf b
  | .loop b => keyOf b
  | .scope b => keyOf b
  | _ => 0

def exec (E : Env) (L : Nat → Option (LSpec E.P)) (fuel : Nat) : Code → XT
  | .skip, T, H, K => K .n T H
  | .region _ ops draw, T, H, K => xReg E ops draw T H fun T H => K .n T H
  | .seq a b, T, H, K => exec E L fuel a T H fun e T H => match e with
    | .n => exec E L fuel b T H K
    | .x i => K (.x i) T H
    | .r => K .r T H
  | .cond c a b, T, H, K => match ev T c with
    | .v (.bool t) => cnd t (exec E L fuel a T H K) (exec E L fuel b T H K)
    | _ => False
  | .block id b, T, H, K => exec E L fuel b T H fun e T H => match e with
    | .n => K .n T H
    | .x i => cnd (Nat.beq i id) (K .n T H) (K (.x i) T H)
    | .r => K .r T H
  | .loop b, T, H, K => match L (keyOf b) with
    | some s => s.run (exec E L fuel b) T H K
    | none => unroll (exec E L fuel b) K fuel T H
  | .exit id, T, H, K => K (.x id) T H
  | .label _, T, H, K => K .n T H
  | .ret, T, H, K => K .r T H
  | _, _, _, _ => False

theorem exMin {p : Nat → Prop} (h : ∃ n, p n) : ∃ n, p n ∧ ∀ m, p m → n ≤ m := by
  obtain ⟨n, hn⟩ := h
  induction n using Nat.strongRecOn with
  | _ n ih =>
    by_cases hm : ∃ m, m < n ∧ p m
    · obtain ⟨m, h1, h2⟩ := hm; exact ih m h1 h2
    · exact ⟨n, hn, fun m hpm => by
        rcases Nat.lt_or_ge m n with h | h
        · exact absurd ⟨m, h, hpm⟩ hm
        · exact h⟩

theorem unroll_sound {P : Program} {x : XT} {code : Code} (hx : AbsSound P x code) {c : Ctx} {K : XK} {Q : Exit → Act → World → Prop} (hk : ∀ e T' H' κ' Im' a' w', K e T' H' → Fits c T' H' κ' Im' a' w' → Q e.exit a' w')
    {n : Nat} {T : List AV} {H : List AObj} {κ : Kap} {Im : Nat → Prop} {a : Act} {w : World} (hf : Fits c T H κ Im a w) (h : unroll x K n T H) : (Code.loop code).wp P Q a w := by
  -- by the loop's rule: what is left is unrolled fewer times
  classical
  let I : Nat → Act → World → Prop := fun m a w => ∃ T H κ Im, Fits c T H κ Im a w ∧ unroll x K m T H
  have hI0 : ∃ m, I m a w := ⟨n, T, H, κ, Im, hf, h⟩
  refine wp_loop (fun a w => ∃ m, I m a w) (fun a w => if h : ∃ m, I m a w then Classical.choose (exMin h) else 0) hI0 ?_
  intro a w hI
  simp only [hI, dif_pos]
  obtain ⟨T, H, κ, Im, hf, h⟩ := (Classical.choose_spec (exMin hI)).1
  generalize Classical.choose (exMin hI) = m at *
  cases m with
  | zero => exact h.elim
  | succ m =>
    refine hx c T H κ Im a w _ _ hf h ?_
    intro e T' H' κ' Im' a' w' hK hf'
    cases e with
    | n =>
      have : ∃ m, I m a' w' := ⟨m, T', H', κ', Im', hf', hK⟩
      refine ⟨this, ?_⟩
      rw [dif_pos this]
      exact Nat.lt_succ_of_le ((Classical.choose_spec (exMin this)).2 m ⟨T', H', κ', Im', hf', hK⟩)
    | x i => exact hk _ _ _ _ _ _ _ hK hf'
    | r => exact hk _ _ _ _ _ _ _ hK hf'

theorem exec_sound {E : Env} (hE : EnvOk E) (L : Nat → Option (LSpec E.P)) (fuel : Nat) : ∀ code, AbsSound E.P (exec E L fuel code) code
  | .skip => fun c T H κ Im a w K Q hf h hk => wp_skip (hk .n _ _ _ _ _ _ h hf)
  | .region id ops draw => fun c T H κ Im a w K Q hf h hk => xReg_sound hE (fun T H κ Im a w hK hf => hk .n _ _ _ _ _ _ hK hf) hf h
  | .seq x y => fun c T H κ Im a w K Q hf h hk => by
    refine wp_seq (exec_sound hE L fuel x c T H κ Im a w _ _ hf h ?_)
    intro e T' H' κ' Im' a' w' hK hf'
    cases e with
    | n => exact exec_sound hE L fuel y c T' H' κ' Im' a' w' _ _ hf' hK hk
    | x i => exact hk _ _ _ _ _ _ _ hK hf'
    | r => exact hk _ _ _ _ _ _ _ hK hf'
  | .cond o x y => fun c T H κ Im a w K Q hf h hk => by
    simp only [exec] at h
    have hr := ev_rel hf.tmps o
    split at h
    · rename_i t ht
      rw [ht] at hr
      simp only [AV.rel] at hr
      rw [cnd_iff] at h
      exact wp_cond_split hr (fun ht => exec_sound hE L fuel x c T H κ Im a w _ _ hf (h.1 ht) hk) (fun ht => exec_sound hE L fuel y c T H κ Im a w _ _ hf (h.2 ht) hk)
    · exact h.elim
  | .block id b => fun c T H κ Im a w K Q hf h hk => by
    refine wp_block (exec_sound hE L fuel b c T H κ Im a w _ _ hf h ?_)
    intro e T' H' κ' Im' a' w' hK hf'
    cases e with
    | n => exact hk .n _ _ _ _ _ _ hK hf'
    | x i =>
      simp only [cnd_iff] at hK
      simp only [XE.exit, Exit.inBlock]
      split
      · rename_i e; exact hk .n _ _ _ _ _ _ (hK.1 (by simp [e])) hf'
      · rename_i e; exact hk (.x i) _ _ _ _ _ _ (hK.2 (by rw [Bool.eq_false_iff]; simpa using e)) hf'
    | r => exact hk .r _ _ _ _ _ _ hK hf'
  | .loop b => fun c T H κ Im a w K Q hf h hk => by
    simp only [exec] at h
    split at h
    · rename_i s hs
      exact s.ok _ b (exec_sound hE L fuel b) c T H κ Im a w K Q hf h hk
    · exact unroll_sound (exec_sound hE L fuel b) hk hf h
  | .exit id => fun c T H κ Im a w K Q hf h hk => wp_exit (hk (.x id) _ _ _ _ _ _ h hf)
  | .label l => fun c T H κ Im a w K Q hf h hk => wp_label (hk .n _ _ _ _ _ _ h hf)
  | .ret => fun c T H κ Im a w K Q hf h hk => wp_ret (hk .r _ _ _ _ _ _ h hf)
  | .rangeFunc _ _ _ _ => fun c T H κ Im a w K Q hf h hk => h.elim
  | .scope _ => fun c T H κ Im a w K Q hf h hk => h.elim
  | .goto _ => fun c T H κ Im a w K Q hf h hk => h.elim
  | .refuse _ => fun c T H κ Im a w K Q hf h hk => h.elim
  
end Go.X
