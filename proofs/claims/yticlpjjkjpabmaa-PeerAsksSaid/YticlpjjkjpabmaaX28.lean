/- Parts of the walks: X24 X27 X28 -/
import Derived.Test.YticlpjjkjpabmaaX23

/- A program's contracts, one by one. -/
namespace Go.X
open Go

structure Ctr (P : Program) where
  f : FuncId
  s : CSpec
  enters : ∀ args w, (callFunc f args).run P w = .ok (.enter f args) w
  loc : ∀ args id o o', s.eff args id o ≠ .bad → localOn (s.rd args o) o o' → s.eff args id o' = s.eff args id o ∧ s.rd args o' = s.rd args o
  sound : CSound P f s

def findC {P : Program} : List (Ctr P) → FuncId → Option CSpec
  | [], _ => none
  | c :: l, f => match Nat.beq c.f f with | true => some c.s | false => findC l f

theorem findC_spec {P : Program} : ∀ {l : List (Ctr P)} {f : FuncId} {s : CSpec}, findC l f = some s → ∃ c : Ctr P, c.f = f ∧ c.s = s
  | c :: l, f, s, h => by
    simp only [findC] at h
    split at h
    · rename_i e; exact ⟨c, by simpa using e, by cases h; rfl⟩
    · exact findC_spec h

def mkEnv (P : Program) (tc : TypeId → Option TC) (l : List (Ctr P)) : Env := { P := P, tc := tc, C := findC l }

theorem mkEnv_ok {P : Program} (hm : P.follows .mixedOrders = true) (tc : TypeId → Option TC) (l : List (Ctr P)) : EnvOk (mkEnv P tc l) where
  mixed := hm
  loc := fun f s h => by obtain ⟨c, rfl, rfl⟩ := findC_spec h; exact c.loc
  enters := fun f s h => by obtain ⟨c, rfl, rfl⟩ := findC_spec h; exact c.enters
  sound := fun f s h => by obtain ⟨c, rfl, rfl⟩ := findC_spec h; exact c.sound

def Ctr.pure {P : Program} {f : FuncId} {ats : List AT} {pre : Dat ats → Prop} {rts : List AT} {out : Dat ats → Dat rts} (h : PureOk P f ats pre rts out)
    (enters : ∀ args w, (callFunc f args).run P w = .ok (.enter f args) w) : Ctr P where
  f := f
  s := pureSpec ats pre rts out
  enters := enters
  loc := pureSpec_loc
  sound := pureSpec_sound h

end Go.X

/- Shapes of objects that belong together; what they hold, read off and laid anew. -/
namespace Go.X
open Go

inductive FS where
  | d (c : TC)
  | sl (c : TC)
  | hd (k : Nat)
  | ptr (k : Nat)
inductive OS where
  | cells (fs : List FS) (E : TypeId)
  | map (ck cv : TC)
  | row (c : TC) (E : TypeId)
  /-- What another object holds for a while; a range over a map under way, over what was object k. -/
  | lent
  | rng (k : Nat) (ck cv : TC)
inductive AS where
  | tc (c : TC)
  | sl (c : TC)
  | hd (k : Nat)
  | ptr (k : Nat)
  | fn (f : FuncId) (ks : List Nat)

@[reducible] def FDat : List FS → Type
  | [] => Unit
  | .d c :: l => c.den × FDat l
  | .sl c :: l => List c.den × FDat l
  | .hd _ :: l => FDat l
  | .ptr _ :: l => FDat l
@[reducible] def OS.den : OS → Type
  | .cells fs _ => FDat fs
  | .map ck cv => List (ck.den × cv.den)
  | .row c _ => List c.den
  | .lent => Unit
  | .rng _ ck cv => List (ck.den × cv.den) × List ck.den
@[reducible] def SDat : List OS → Type
  | [] => Unit
  | s :: l => s.den × SDat l
@[reducible] def ADat : List AS → Type
  | [] => Unit
  | .tc c :: l => c.den × ADat l
  | .sl c :: l => List c.den × ADat l
  | .hd _ :: l => ADat l
  | .ptr _ :: l => ADat l
  | .fn _ _ :: l => ADat l

/-! ### Laying -/
def fAV (σ : Nat → Nat) : (l : List FS) → FDat l → List AV
  | [], _ => []
  | .d c :: l, x => c.enc x.1 ++ fAV σ l x.2
  | .sl c :: l, x => .rs c x.1 :: fAV σ l x.2
  | .hd k :: l, x => .hd (σ k) :: fAV σ l x
  | .ptr k :: l, x => .ptr (σ k) 0 :: fAV σ l x
def OS.obj (σ : Nat → Nat) : (s : OS) → s.den → AObj
  | .cells fs E, x => .cells (fAV σ fs x) E
  | .map ck cv, x => .map ck cv x
  | .row c E, x => .row E c x
  | .lent, _ => .lent
  | .rng k ck cv, x => .rng (σ k) ck cv x.1 x.2 none
def olay (σ : Nat → Nat) : (S : List OS) → SDat S → List AObj
  | [], _ => []
  | s :: l, x => s.obj σ x.1 :: olay σ l x.2
def aAV (σ : Nat → Nat) : (l : List AS) → ADat l → List AV
  | [], _ => []
  | .tc c :: l, x => c.av x.1 :: aAV σ l x.2
  | .sl c :: l, x => .rs c x.1 :: aAV σ l x.2
  | .hd k :: l, x => .hd (σ k) :: aAV σ l x
  | .ptr k :: l, x => .ptr (σ k) 0 :: aAV σ l x
  | .fn f ks :: l, x => .fn f (ks.map fun k => .ptr (σ k) 0) :: aAV σ l x

/-! ### Reading -/
abbrev RT := List (Nat × Option Nat)
def lk : RT → Nat → Option (Option Nat)
  | [], _ => none
  | (i, s) :: l, k => match Nat.beq i k with | true => some s | false => lk l k
def sameS : Option Nat → Option Nat → Bool
  | some a, some b => Nat.beq a b
  | none, none => true
  | _, _ => false
def addR (τ : RT) (k : Nat) (s : Option Nat) : Option RT := match lk τ k with
  | none => some ((k, s) :: τ)
  | some s' => match sameS s s' with | true => some τ | false => none
def rdHd (τ : RT) (k : Nat) : AV → Option RT
  | .hd i => addR τ k (some i)
  | .v (.slice none 0 0) => addR τ k none
  | _ => none
def rdPtr (τ : RT) (k : Nat) : AV → Option RT
  | .ptr i off => match Nat.beq off 0 with | true => addR τ k (some i) | false => none
  | _ => none
def rdPtrs : RT → List Nat → List AV → Option RT
  | τ, [], [] => some τ
  | τ, k :: ks, a :: l => match rdPtr τ k a with | some τ' => rdPtrs τ' ks l | none => none
  | _, _, _ => none
def rdI (c : TC) : AV → Option (List c.den)
  | .rs c' xs => castL c c' xs
  | .v (.slice none 0 0) => some []
  | _ => none

def rdF (o : Nat → AObj) : (l : List FS) → RT → List AV → Option (RT × List Nat × FDat l)
  | [], τ, cs => match cs with | [] => some (τ, [], ()) | _ :: _ => none
  | .d c :: l, τ, cs => match c.dec ((cs.take c.k).map (sealAV o)), rdF o l τ (cs.drop c.k) with
    | some x, some (τ', ss, r) => some (τ', (cs.take c.k).flatMap sealIds ++ ss, (x, r))
    | _, _ => none
  | .sl c :: l, τ, cs => match cs with
    | [] => none
    | a :: cs => match rdI c (sealAV o a), rdF o l τ cs with
      | some x, some (τ', ss, r) => some (τ', sealIds a ++ ss, (x, r))
      | _, _ => none
  | .hd k :: l, τ, cs => match cs with
    | [] => none
    | a :: cs => match rdHd τ k a with
      | some τ' => rdF o l τ' cs
      | none => none
  | .ptr k :: l, τ, cs => match cs with
    | [] => none
    | a :: cs => match rdPtr τ k a with
      | some τ' => rdF o l τ' cs
      | none => none

def rdO (o : Nat → AObj) : (s : OS) → RT → Option Nat → Option (RT × List Nat × s.den)
  | .cells fs E, τ, some i => match o i with
    | .cells cs E' => (match Nat.beq E E' with | true => rdF o fs τ cs | false => none)
    | _ => none
  | .map ck cv, τ, some i => match o i with
    | .map ck' cv' m => (match castM ck cv ck' cv' m with | some l => some (τ, [], l) | none => none)
    | _ => none
  | .row c E, τ, some i => match o i with
    | .row E' c' xs => (match Nat.beq E E', castL c c' xs with | true, some ys => some (τ, [], ys) | _, _ => none)
    | _ => none
  | .row _ _, τ, none => some (τ, [], [])
  | .lent, τ, some i => match o i with
    | .lent => some (τ, [], ())
    | _ => none
  | .rng k ck cv, τ, some i => match o i with
    | .rng i' ck' cv' m seen cur => (match castM ck cv ck' cv' m, castL ck ck' (keyL seen cur), addR τ k (some i') with
      | some l, some ks, some τ' => some (τ', [], (l, ks))
      | _, _, _ => none)
    | _ => none
  | .lent, _, none => none
  | .rng _ _ _, _, none => none
  | .cells _ _, _, none => none
  | .map _ _, _, none => none

def rdS (o : Nat → AObj) : (S : List OS) → Nat → RT → Option (RT × List Nat × SDat S)
  | [], _, τ => some (τ, [], ())
  | s :: l, k, τ => match lk τ k with
    | none => none
    | some src => match rdO o s τ src with
      | none => none
      | some (τ1, ss, x) => match rdS o l (k + 1) τ1 with
        | none => none
        | some (τ2, ss2, y) => some (τ2, ss ++ ss2, (x, y))

def rdA (o : Nat → AObj) : (l : List AS) → RT → List AV → Option (RT × List Nat × ADat l)
  | [], τ, cs => match cs with | [] => some (τ, [], ()) | _ :: _ => none
  | .tc c :: l, τ, cs => match cs with
    | [] => none
    | a :: cs => match c.rd (sealD o a), rdA o l τ cs with
      | some x, some (τ', ss, r) => some (τ', sealDIds a ++ ss, (x, r))
      | _, _ => none
  | .sl c :: l, τ, cs => match cs with
    | [] => none
    | a :: cs => match rdI c (sealAV o a), rdA o l τ cs with
      | some x, some (τ', ss, r) => some (τ', sealIds a ++ ss, (x, r))
      | _, _ => none
  | .hd k :: l, τ, cs => match cs with
    | [] => none
    | a :: cs => match rdHd τ k a with
      | some τ' => rdA o l τ' cs
      | none => none
  | .ptr k :: l, τ, cs => match cs with
    | [] => none
    | a :: cs => match rdPtr τ k a with
      | some τ' => rdA o l τ' cs
      | none => none
  | .fn f ks :: l, τ, cs => match cs with
    | [] => none
    | a :: cs => match a with
      | .fn f' caps => (match Nat.beq f f', rdPtrs τ ks caps with
        | true, some τ' => rdA o l τ' cs
        | _, _ => none)
      | _ => none

/-! ### What is read is so -/
def nilS : Value := .slice none 0 0
def srcV (κ : Kap) : Option Nat → Option Value
  | some i => κ i
  | none => some nilS
/-- The names of the shape's own. -/
def Goes (κ κ' : Kap) (τ : RT) : Prop := ∀ k s, lk τ k = some s → κ' k = srcV κ s

theorem lk_cons (k : Nat) (s : Option Nat) (τ : RT) (j : Nat) : lk ((k, s) :: τ) j = if k = j then some s else lk τ j := by
  simp only [lk]
  by_cases h : k = j
  · subst h; simp
  · have : Nat.beq k j = false := by rw [Bool.eq_false_iff]; simpa using h
    rw [this, if_neg h]

/-- More is known. -/
def RT.le (τ τ' : RT) : Prop := ∀ k s, lk τ k = some s → lk τ' k = some s
theorem RT.le.refl (τ : RT) : τ.le τ := fun _ _ h => h
theorem RT.le.trans {a b c : RT} (h : a.le b) (h' : b.le c) : a.le c := fun k s e => h' k s (h k s e)
theorem Goes.of_le {κ κ' : Kap} {τ τ' : RT} (h : Goes κ κ' τ') (hl : τ.le τ') : Goes κ κ' τ := fun k s e => h k s (hl k s e)

theorem addR_spec {τ τ' : RT} {k : Nat} {s : Option Nat} (h : addR τ k s = some τ') : τ.le τ' ∧ lk τ' k = some s := by
  unfold addR at h
  split at h
  · rename_i hn
    cases h
    refine ⟨fun j s' e => ?_, by rw [lk_cons, if_pos rfl]⟩
    rw [lk_cons, if_neg, e]
    intro e'; subst e'; rw [hn] at e; cases e
  · rename_i s' hs
    split at h
    · rename_i he
      cases h
      refine ⟨RT.le.refl _, ?_⟩
      rw [hs]
      cases s <;> cases s' <;> simp [sameS] at he <;> simp [he]
    · cases h

section
variable {κ κ' : Kap} {Im : Nat → Prop} {w : World} {H : List AObj}

theorem rdHd_spec {τ τ' : RT} {k : Nat} {a : AV} (h : rdHd τ k a = some τ') : τ.le τ' ∧ (Goes κ κ' τ' → ∀ y, AV.rel κ Im w a y → AV.rel κ' Im w (.hd k) y) := by
  unfold rdHd at h
  split at h
  · rename_i i
    obtain ⟨h1, h2⟩ := addR_spec h
    refine ⟨h1, fun hg y hr => ?_⟩
    simp only [AV.rel] at hr ⊢
    rw [hg k _ h2]
    exact hr
  · obtain ⟨h1, h2⟩ := addR_spec h
    refine ⟨h1, fun hg y hr => ?_⟩
    simp only [AV.rel] at hr ⊢
    rw [hg k _ h2, hr]
    exact ⟨rfl, rfl⟩
  · cases h

theorem rdPtr_spec {τ τ' : RT} {k : Nat} {a : AV} (h : rdPtr τ k a = some τ') : τ.le τ' ∧ (Goes κ κ' τ' → ∀ y, AV.rel κ Im w a y → AV.rel κ' Im w (.ptr k 0) y) := by
  unfold rdPtr at h
  split at h
  · rename_i i off
    split at h
    · rename_i ho
      have ho : off = 0 := by simpa using ho
      subst ho
      obtain ⟨h1, h2⟩ := addR_spec h
      refine ⟨h1, fun hg y hr => ?_⟩
      simp only [AV.rel] at hr ⊢
      rw [hg k _ h2]
      exact hr
    · cases h
  · cases h

theorem rdPtrs_spec : ∀ {ks : List Nat} {τ τ' : RT} {l : List AV}, rdPtrs τ ks l = some τ' → τ.le τ' ∧ (Goes κ κ' τ' → ∀ ys, AV.rels κ Im w l ys → AV.rels κ' Im w (ks.map fun k => .ptr k 0) ys)
  | [], τ, τ', [], h => by cases h; exact ⟨RT.le.refl _, fun _ ys hr => by simpa only [AV.rels, List.map_nil] using hr⟩
  | [], _, _, _ :: _, h => by simp [rdPtrs] at h
  | _ :: _, _, _, [], h => by simp [rdPtrs] at h
  | k :: ks, τ, τ', a :: l, h => by
    simp only [rdPtrs] at h
    split at h
    · rename_i τ1 h1
      obtain ⟨p1, p2⟩ := rdPtr_spec (κ := κ) (κ' := κ') (Im := Im) (w := w) h1
      obtain ⟨q1, q2⟩ := rdPtrs_spec (ks := ks) h
      refine ⟨p1.trans q1, fun hg ys hr => ?_⟩
      simp only [AV.rels, List.map_cons] at hr ⊢
      obtain ⟨y, r, rfl, h2, h3⟩ := hr
      exact ⟨y, r, rfl, p2 (hg.of_le q1) y h2, q2 hg r h3⟩
    · cases h

theorem rdI_rel {c : TC} {a : AV} {x : List c.den} {y : Value} (h : rdI c a = some x) (hr : AV.rel κ Im w a y) : AV.rel κ Im w (.rs c x) y := by
  unfold rdI at h
  split at h
  · obtain ⟨rfl, rfl⟩ := castL_spec h
    exact hr
  · cases h
    simp only [AV.rel] at hr ⊢
    exact ⟨none, 0, hr, Nat.le_refl _, fun h => absurd rfl h⟩
  · cases h

theorem rdF_spec : ∀ {l : List FS} {τ : RT} {cs : List AV} {τ' : RT} {ss : List Nat} {x : FDat l}, rdF (H.getD · .dead) l τ cs = some (τ', ss, x) →
    τ.le τ' ∧ (Goes κ κ' τ' → (∀ i ∈ ss, Sealed κ Im w H i) → ∀ ys, AV.rels κ Im w cs ys → AV.rels κ' Im w (fAV id l x) ys)
  | [], τ, cs, τ', ss, x, h => by
    simp only [rdF] at h
    split at h
    · cases h; exact ⟨RT.le.refl _, fun _ _ ys hr => by simpa only [AV.rels, fAV] using hr⟩
    · cases h
  | .d c :: l, τ, cs, τ', ss, x, h => by
    simp only [rdF] at h
    split at h
    · rename_i x1 τ1 ss1 r h1 h2
      cases h
      obtain ⟨p1, p2⟩ := rdF_spec h2
      refine ⟨p1, fun hg hs ys hr => ?_⟩
      rw [← List.take_append_drop c.k cs] at hr
      obtain ⟨a, b, rfl, ha, hb⟩ := (rels_append _ _ _).1 hr
      refine (rels_append _ _ _).2 ⟨a, b, rfl, ?_, p2 hg (fun i hi => hs i (by simp [hi])) b hb⟩
      exact AV.rels_hf _ _ (c.enc_hf x1) (TC.dec_law h1 _ _ _ _ (sealAVs_rel ha fun i hi => hs i (List.mem_append_left _ hi)))
    · cases h
  | .sl c :: l, τ, cs, τ', ss, x, h => by
    simp only [rdF] at h
    split at h
    · cases h
    · split at h
      · rename_i a cs x1 τ1 ss1 r h1 h2
        cases h
        obtain ⟨p1, p2⟩ := rdF_spec h2
        refine ⟨p1, fun hg hs ys hr => ?_⟩
        simp only [AV.rels, fAV] at hr ⊢
        obtain ⟨y, rr, rfl, hy, hrr⟩ := hr
        refine ⟨y, rr, rfl, ?_, p2 hg (fun i hi => hs i (by simp [hi])) rr hrr⟩
        exact AV.rel_hf _ _ (by simp [AV.hf]) (rdI_rel h1 (sealAV_rel hy fun i hi => hs i (List.mem_append_left _ hi)))
      · cases h
  | .hd k :: l, τ, cs, τ', ss, x, h => by
    simp only [rdF] at h
    split at h
    · cases h
    · split at h
      · rename_i a cs τ1 h1
        obtain ⟨p1, p2⟩ := rdHd_spec (κ := κ) (κ' := κ') (Im := Im) (w := w) h1
        obtain ⟨q1, q2⟩ := rdF_spec h
        refine ⟨p1.trans q1, fun hg hs ys hr => ?_⟩
        simp only [AV.rels, fAV] at hr ⊢
        obtain ⟨y, rr, rfl, hy, hrr⟩ := hr
        exact ⟨y, rr, rfl, p2 (hg.of_le q1) y hy, q2 hg hs rr hrr⟩
      · cases h
  | .ptr k :: l, τ, cs, τ', ss, x, h => by
    simp only [rdF] at h
    split at h
    · cases h
    · split at h
      · rename_i a cs τ1 h1
        obtain ⟨p1, p2⟩ := rdPtr_spec (κ := κ) (κ' := κ') (Im := Im) (w := w) h1
        obtain ⟨q1, q2⟩ := rdF_spec h
        refine ⟨p1.trans q1, fun hg hs ys hr => ?_⟩
        simp only [AV.rels, fAV] at hr ⊢
        obtain ⟨y, rr, rfl, hy, hrr⟩ := hr
        exact ⟨y, rr, rfl, p2 (hg.of_le q1) y hy, q2 hg hs rr hrr⟩
      · cases h

theorem rdA_spec : ∀ {l : List AS} {τ : RT} {cs : List AV} {τ' : RT} {ss : List Nat} {x : ADat l}, rdA (H.getD · .dead) l τ cs = some (τ', ss, x) →
    τ.le τ' ∧ (Goes κ κ' τ' → (∀ i ∈ ss, Sealed κ Im w H i) → ∀ ys, AV.rels κ Im w cs ys → AV.rels κ' Im w (aAV id l x) ys)
  | [], τ, cs, τ', ss, x, h => by
    simp only [rdA] at h
    split at h
    · cases h; exact ⟨RT.le.refl _, fun _ _ ys hr => by simpa only [AV.rels, aAV] using hr⟩
    · cases h
  | .tc c :: l, τ, cs, τ', ss, x, h => by
    simp only [rdA] at h
    split at h
    · cases h
    · split at h
      · rename_i a cs x1 τ1 ss1 r h1 h2
        cases h
        obtain ⟨p1, p2⟩ := rdA_spec h2
        refine ⟨p1, fun hg hs ys hr => ?_⟩
        simp only [AV.rels, aAV] at hr ⊢
        obtain ⟨y, rr, rfl, hy, hrr⟩ := hr
        refine ⟨y, rr, rfl, ?_, p2 hg (fun i hi => hs i (by simp [hi])) rr hrr⟩
        exact AV.rel_hf _ _ (c.av_hf x1) (TC.rd_law h1 _ _ _ _ (sealD_rel hy fun i hi => hs i (List.mem_append_left _ hi)))
      · cases h
  | .sl c :: l, τ, cs, τ', ss, x, h => by
    simp only [rdA] at h
    split at h
    · cases h
    · split at h
      · rename_i a cs x1 τ1 ss1 r h1 h2
        cases h
        obtain ⟨p1, p2⟩ := rdA_spec h2
        refine ⟨p1, fun hg hs ys hr => ?_⟩
        simp only [AV.rels, aAV] at hr ⊢
        obtain ⟨y, rr, rfl, hy, hrr⟩ := hr
        refine ⟨y, rr, rfl, ?_, p2 hg (fun i hi => hs i (by simp [hi])) rr hrr⟩
        exact AV.rel_hf _ _ (by simp [AV.hf]) (rdI_rel h1 (sealAV_rel hy fun i hi => hs i (List.mem_append_left _ hi)))
      · cases h
  | .hd k :: l, τ, cs, τ', ss, x, h => by
    simp only [rdA] at h
    split at h
    · cases h
    · split at h
      · rename_i a cs τ1 h1
        obtain ⟨p1, p2⟩ := rdHd_spec (κ := κ) (κ' := κ') (Im := Im) (w := w) h1
        obtain ⟨q1, q2⟩ := rdA_spec h
        refine ⟨p1.trans q1, fun hg hs ys hr => ?_⟩
        simp only [AV.rels, aAV] at hr ⊢
        obtain ⟨y, rr, rfl, hy, hrr⟩ := hr
        exact ⟨y, rr, rfl, p2 (hg.of_le q1) y hy, q2 hg hs rr hrr⟩
      · cases h
  | .ptr k :: l, τ, cs, τ', ss, x, h => by
    simp only [rdA] at h
    split at h
    · cases h
    · split at h
      · rename_i a cs τ1 h1
        obtain ⟨p1, p2⟩ := rdPtr_spec (κ := κ) (κ' := κ') (Im := Im) (w := w) h1
        obtain ⟨q1, q2⟩ := rdA_spec h
        refine ⟨p1.trans q1, fun hg hs ys hr => ?_⟩
        simp only [AV.rels, aAV] at hr ⊢
        obtain ⟨y, rr, rfl, hy, hrr⟩ := hr
        exact ⟨y, rr, rfl, p2 (hg.of_le q1) y hy, q2 hg hs rr hrr⟩
      · cases h
  | .fn f ks :: l, τ, cs, τ', ss, x, h => by
    simp only [rdA] at h
    split at h
    · cases h
    · split at h
      · split at h
        · rename_i hf h1
          have hf := Nat.eq_of_beq_eq_true hf
          subst hf
          obtain ⟨p1, p2⟩ := rdPtrs_spec (κ := κ) (κ' := κ') (Im := Im) (w := w) h1
          obtain ⟨q1, q2⟩ := rdA_spec h
          refine ⟨p1.trans q1, fun hg hs ys hr => ?_⟩
          simp only [AV.rels, aAV] at hr ⊢
          obtain ⟨y, rr, rfl, hy, hrr⟩ := hr
          refine ⟨y, rr, rfl, ?_, q2 hg hs rr hrr⟩
          simp only [AV.rel] at hy ⊢
          obtain ⟨zs, e1, e2⟩ := hy
          exact ⟨zs, e1, p2 (hg.of_le q1) _ e2⟩
        · cases h
      · cases h

theorem ents_hf {ck cv : TC} : ∀ (m : List (ck.den × cv.den)) (es : List MapEntry), entsRel κ Im w ck cv m es → entsRel κ' Im w ck cv m es
  | [], [], e => e
  | [], _ :: _, e => e.elim
  | _ :: _, [], e => e.elim
  | p :: m, _ :: es, e => ⟨AV.rel_hf _ _ (ck.av_hf p.1) e.1, AV.rel_hf _ _ (cv.av_hf p.2) e.2.1, ents_hf m es e.2.2⟩
theorem seen_hf {ck : TC} {es : List MapEntry} : ∀ (ks : List ck.den) (ns : List Nat), seenRel κ Im w ck es ks ns → seenRel κ' Im w ck es ks ns
  | [], [], e => e
  | [], _ :: _, e => e.elim
  | _ :: _, [], e => e.elim
  | k :: ks, _ :: ns, e => ⟨let ⟨x, h1, h2, h3⟩ := e.1; ⟨x, h1, h2, AV.rel_hf _ _ (ck.av_hf k) h3⟩, seen_hf ks ns e.2⟩

/-- One object of a shape stands where it was read. -/
def Stands (κ κ' : Kap) (Im : Nat → Prop) (w : World) (H : List AObj) (src : Option Nat) (x : AObj) : Prop := match src with
  | some i => ∃ o, H[i]? = some o ∧ ∀ D, o.holds κ Im w (κ i) D → x.holds κ' Im w (κ i) D
  | none => x.holds κ' Im w (some nilS) fun _ => False

theorem rdO_spec {s : OS} {τ τ' : RT} {src : Option Nat} {ss : List Nat} {x : s.den} (h : rdO (H.getD · .dead) s τ src = some (τ', ss, x)) :
    τ.le τ' ∧ (Goes κ κ' τ' → (∀ i ∈ ss, Sealed κ Im w H i) → Stands κ κ' Im w H src (s.obj id x)) := by
  cases s with
  | cells fs E =>
    cases src with
    | none => simp [rdO] at h
    | some i =>
      simp only [rdO] at h
      split at h
      · rename_i cs E' ho
        split at h
        · rename_i hE
          have hE : E = E' := by simpa using hE
          subst hE
          obtain ⟨p1, p2⟩ := rdF_spec (κ := κ) (κ' := κ') (Im := Im) (w := w) h
          refine ⟨p1, fun hg hs => ⟨_, getD_dead (by simp) ho, fun D hD => ?_⟩⟩
          obtain ⟨b, arr, h1, h2, h3, h4⟩ := hD
          exact ⟨b, arr, h1, h2, p2 hg hs _ h3, h4⟩
        · cases h
      · cases h
  | map ck cv =>
    cases src with
    | none => simp [rdO] at h
    | some i =>
      simp only [rdO] at h
      split at h
      · rename_i ck' cv' m ho
        split at h
        · rename_i l hc
          cases h
          obtain ⟨rfl, rfl, rfl⟩ := castM_spec hc
          refine ⟨RT.le.refl _, fun hg hs => ⟨_, getD_dead (by simp) ho, fun D hD => ?_⟩⟩
          obtain ⟨b, es, clock, h1, h2, ⟨m', h3, h3'⟩, h4⟩ := hD
          exact ⟨b, es, clock, h1, h2, ⟨m', h3, ents_hf _ _ h3'⟩, h4⟩
        · cases h
      · cases h
  | lent =>
    cases src with
    | none => simp [rdO] at h
    | some i =>
      simp only [rdO] at h
      split at h
      · rename_i ho
        cases h
        exact ⟨RT.le.refl _, fun hg hs => ⟨_, getD_dead (by simp) ho, fun D hD => hD⟩⟩
      · cases h
  | rng k ck cv =>
    cases src with
    | none => simp [rdO] at h
    | some i =>
      simp only [rdO] at h
      split at h
      · rename_i i' ck' cv' m seen cur ho
        split at h
        · rename_i l ks τ1 hc hc2 ha
          cases h
          obtain ⟨rfl, rfl, rfl⟩ := castM_spec hc
          obtain ⟨_, rfl⟩ := castL_spec hc2
          obtain ⟨p1, p2⟩ := addR_spec ha
          refine ⟨p1, fun hg hs => ⟨_, getD_dead (by simp) ho, fun D hD => ?_⟩⟩
          obtain ⟨r, b, es, clock, sb, h1, h2, h3, h3', ⟨m', h4, h4'⟩, h5, h6, h7, h8, h9⟩ := hD
          exact ⟨r, b, es, clock, sb, h1, (hg k _ p2).trans h2, h3, h3', ⟨m', h4, ents_hf _ _ h4'⟩, h5, h6, h7, seen_hf _ _ h8, h9⟩
        · cases h
      · cases h
  | row c E =>
    cases src with
    | none =>
      simp only [rdO] at h
      cases h
      exact ⟨RT.le.refl _, fun _ _ => ⟨none, 0, rfl, .inl ⟨rfl, rfl, rfl, fun _ h => h⟩⟩⟩
    | some i =>
      simp only [rdO] at h
      split at h
      · rename_i E' c' xs ho
        split at h
        · rename_i ys hE hc
          cases h
          have hE : E = E' := by simpa using hE
          subst hE
          obtain ⟨rfl, rfl⟩ := castL_spec hc
          refine ⟨RT.le.refl _, fun hg hs => ⟨_, getD_dead (by simp) ho, fun D hD => ?_⟩⟩
          obtain ⟨a, cap, h1, h2⟩ := hD
          refine ⟨a, cap, h1, ?_⟩
          rcases h2 with h2 | ⟨g, arr, h3, h4, h5, h6, h6', h7, h8⟩
          · exact .inl h2
          · exact .inr ⟨g, arr, h3, h4, h5, h6, h6', fun j hj => AV.rels_hf _ _ (TC.enc_hf _ _) (h7 j hj), h8⟩
        · cases h
      · cases h

theorem rdS_spec : ∀ {S : List OS} {k : Nat} {τ τ' : RT} {ss : List Nat} {x : SDat S}, rdS (H.getD · .dead) S k τ = some (τ', ss, x) →
    τ.le τ' ∧ ∀ (j : Nat) o, (olay id S x)[j]? = some o → ∃ src, lk τ' (k + j) = some src ∧ (Goes κ κ' τ' → (∀ i ∈ ss, Sealed κ Im w H i) → Stands κ κ' Im w H src o)
  | [], k, τ, τ', ss, x, h => by
    simp only [rdS] at h
    cases h
    exact ⟨RT.le.refl _, fun j o ho => by simp [olay] at ho⟩
  | s :: S, k, τ, τ', ss, x, h => by
    simp only [rdS] at h
    split at h
    · cases h
    · rename_i src hsrc
      split at h
      · cases h
      · rename_i τ1 ss1 x1 h1
        split at h
        · cases h
        · rename_i τ2 ss2 y h2
          cases h
          obtain ⟨p1, p2⟩ := rdO_spec (κ := κ) (κ' := κ') (Im := Im) (w := w) h1
          obtain ⟨q1, q2⟩ := rdS_spec h2
          refine ⟨p1.trans q1, fun j o ho => ?_⟩
          cases j with
          | zero =>
            simp only [olay, List.getElem?_cons_zero, Option.some.injEq] at ho
            subst ho
            exact ⟨src, (p1.trans q1) k src hsrc, fun hg hs => p2 (hg.of_le q1) fun i hi => hs i (List.mem_append_left _ hi)⟩
          | succ j =>
            obtain ⟨src', e1, e2⟩ := q2 j o (by simpa [olay] using ho)
            exact ⟨src', by rw [show k + (j + 1) = k + 1 + j from by omega]; exact e1, fun hg hs => e2 hg fun i hi => hs i (List.mem_append_right _ hi)⟩
end
theorem olay_len (σ : Nat → Nat) : ∀ (S : List OS) (x : SDat S), (olay σ S x).length = S.length
  | [], _ => rfl
  | _ :: S, x => by simp [olay, olay_len σ S x.2]
end Go.X

/- Contracts of functions that turn objects. -/
namespace Go.X
open Go

def somes (τ : RT) : List Nat := τ.filterMap (·.2)
def memB (n : Nat) (l : List Nat) : Bool := l.any (Nat.beq n)
def nodupB : List Nat → Bool
  | [] => true
  | a :: l => !memB a l && nodupB l
def keysLt (n : Nat) (τ : RT) : Bool := τ.all fun p => Nat.blt p.1 n
def apartB (l m : List Nat) : Bool := l.all fun i => !memB i m
def okR (n : Nat) (τ : RT) (ss : List Nat) : Bool := keysLt n τ && nodupB (somes τ) && apartB (somes τ) ss

theorem memB_iff {n : Nat} {l : List Nat} : memB n l = true ↔ n ∈ l := by
  simp only [memB, List.any_eq_true]
  constructor
  · rintro ⟨x, h, e⟩; rw [Nat.eq_of_beq_eq_true e]; exact h
  · intro h; exact ⟨n, h, Nat.beq_refl n⟩
theorem memB_false {n : Nat} {l : List Nat} : memB n l = false ↔ n ∉ l := by rw [← memB_iff, Bool.not_eq_true]
theorem nodupB_spec : ∀ {l : List Nat}, nodupB l = true → l.Nodup
  | [], _ => by simp
  | a :: l, h => by
    simp only [nodupB, Bool.and_eq_true, Bool.not_eq_true', memB_false] at h
    exact List.nodup_cons.2 ⟨h.1, nodupB_spec h.2⟩
theorem apartB_spec {l m : List Nat} (h : apartB l m = true) : ∀ i ∈ l, i ∉ m := by
  intro i hi
  have := List.all_eq_true.1 h i hi
  simpa [memB_false] using this

/-- Each name is known once. -/
def RT.Uniq (τ : RT) : Prop := (τ.map (·.1)).Nodup

theorem lk_mem : ∀ {τ : RT} {k : Nat} {s : Option Nat}, lk τ k = some s → (k, s) ∈ τ
  | [], _, _, h => by simp [lk] at h
  | (i, s') :: τ, k, s, h => by
    rw [lk_cons] at h
    split at h
    · rename_i e; subst e; cases h; simp
    · exact List.mem_cons_of_mem _ (lk_mem h)
theorem lk_somes {τ : RT} {k i : Nat} (h : lk τ k = some (some i)) : i ∈ somes τ := List.mem_filterMap.2 ⟨_, lk_mem h, rfl⟩
theorem keysLt_spec {n : Nat} {τ : RT} (h : keysLt n τ = true) {k : Nat} {s : Option Nat} (hk : lk τ k = some s) : k < n := by
  have := List.all_eq_true.1 h _ (lk_mem hk)
  simpa using this

theorem lk_inj : ∀ {τ : RT} {k k' i : Nat}, (somes τ).Nodup → lk τ k = some (some i) → lk τ k' = some (some i) → k = k'
  | [], _, _, _, _, h, _ => by simp [lk] at h
  | (j, s) :: τ, k, k', i, hn, h, h' => by
    rw [lk_cons] at h h'
    cases s with
    | none =>
      simp only [somes, List.filterMap_cons_none] at hn
      split at h
      · cases h
      · split at h'
        · cases h'
        · exact lk_inj hn h h'
    | some i' =>
      have hn' : i' ∉ somes τ ∧ (somes τ).Nodup := by
        rw [show somes ((j, some i') :: τ) = i' :: somes τ from rfl, List.nodup_cons] at hn
        exact hn
      split at h
      · rename_i e
        split at h'
        · rename_i e'; omega
        · cases h
          exact absurd (lk_somes h') hn'.1
      · split at h'
        · cases h'
          exact absurd (lk_somes h) hn'.1
        · exact lk_inj hn'.2 h h'

/-- The names that a reading gives. -/
def kap (κ : Kap) (τ : RT) : Kap := fun k => match lk τ k with | some s => srcV κ s | none => none
theorem kap_goes (κ : Kap) (τ : RT) : Goes κ (kap κ τ) τ := fun k s h => by simp only [kap, h]

section
variable {κ : Kap} {Im : Nat → Prop} {w : World} {H H0 : List AObj}

/-- A shape's objects, by themselves. -/
theorem St.remap {D : Nat → Nat → Prop} {S : List OS} {τ : RT} {x : SDat S} (h1 : ∀ (i : Nat) o, H[i]? = some o → o.holds κ Im w (κ i) (D i))
    (h3 : ∀ i j b, D i b → D j b → i = j)
    (hs : ∀ (j : Nat) o, (olay id S x)[j]? = some o → ∃ src, lk τ j = some src ∧ Stands κ (kap κ τ) Im w H0 src o)
    (hH : ∀ i ∈ somes τ, H[i]? = H0[i]?) (hn : keysLt S.length τ = true) (hd : (somes τ).Nodup) :
    ∃ D' : Nat → Nat → Prop, (∀ (j : Nat) o, (olay id S x)[j]? = some o → o.holds (kap κ τ) Im w (kap κ τ j) (D' j)) ∧ (∀ j b, D' j b → j < (olay id S x).length ∧ ∃ i ∈ somes τ, D i b) ∧ (∀ i j b, D' i b → D' j b → i = j) ∧
      (∀ i, (olay id S x).length ≤ i → kap κ τ i = none) := by
  refine ⟨fun j b => j < (olay id S x).length ∧ ∃ i, lk τ j = some (some i) ∧ D i b, fun j o ho => ?_, fun j b hb => ⟨hb.1, ?_⟩, fun i j b hi hj => ?_, fun i hi => ?_⟩
  · have hj : j < (olay id S x).length := (List.getElem?_eq_some_iff.1 ho).1
    obtain ⟨src, e1, e2⟩ := hs j o ho
    cases src with
    | none =>
      have : (fun b => j < (olay id S x).length ∧ ∃ i, lk τ j = some (some i) ∧ D i b) = fun _ => False := by
        funext b; rw [e1]; simp
      show AObj.holds (kap κ τ) Im w (kap κ τ j) (fun b => j < (olay id S x).length ∧ ∃ i, lk τ j = some (some i) ∧ D i b) o
      rw [this]
      have hk : kap κ τ j = some nilS := by simp only [kap, e1, srcV]
      rw [hk]; exact e2
    | some i =>
      have : (fun b => j < (olay id S x).length ∧ ∃ i, lk τ j = some (some i) ∧ D i b) = D i := by
        funext b; rw [e1]; simp [hj]
      show AObj.holds (kap κ τ) Im w (kap κ τ j) (fun b => j < (olay id S x).length ∧ ∃ i, lk τ j = some (some i) ∧ D i b) o
      rw [this]
      obtain ⟨o', e3, e4⟩ := e2
      have hk : kap κ τ j = κ i := by simp only [kap, e1, srcV]
      rw [hk]
      exact e4 _ (h1 i o' (by rw [hH i (lk_somes e1)]; exact e3))
  · obtain ⟨i, e, hb⟩ := hb.2
    exact ⟨i, lk_somes e, hb⟩
  · obtain ⟨_, i1, e1, b1⟩ := hi
    obtain ⟨_, i2, e2, b2⟩ := hj
    have := h3 _ _ _ b1 b2
    subst this
    exact lk_inj hd e1 e2
  · simp only [kap]
    cases hl : lk τ i with
    | none => rfl
    | some s =>
      have := keysLt_spec hn hl
      rw [olay_len] at hi
      omega
end

/-! ### The contract -/
structure MSig where
  S : List OS
  ar : List AS
  S' : List OS
  keep : List (Option Nat)
  rs : List AS

def resAS (σ : Nat → Nat) : (rs : List AS) → ADat rs → AV
  | [], _ => .tup []
  | [t], x => (aAV σ [t] x).headD .any
  | t :: u :: l, x => .tup (aAV σ (t :: u :: l) x)

def MutOk (P : Program) (f : FuncId) (g : MSig) (pre : SDat g.S → ADat g.ar → Prop) (out : SDat g.S → ADat g.ar → SDat g.S' × ADat g.rs) : Prop :=
  ∀ (M Im : Nat → Prop) (w : World) (κ : Kap) (ys : Array Value) (d : SDat g.S) (a : ADat g.ar), (∀ b, Im b → b < w.heap.size) → (∀ t0 W m0, St ⟨w, κ0, M, Im, t0, W, m0, []⟩ κ Im w (olay id g.S d)) →
    AV.rels κ Im w (aAV id g.ar a) ys.toList → pre d a → Calls P f ys w fun e w' => ∃ v κ' Im', e = .returned v ∧ (∀ t0 W m0, St ⟨w, κ0, M, Im, t0, W, m0, []⟩ κ' Im' w' (olay id g.S' (out d a).1)) ∧
      (∀ k' k : Nat, g.keep[k']? = some (some k) → κ' k' = κ k) ∧ AV.rel κ' Im' w' (resAS id g.rs (out d a).2) v

def tgt (id : Nat) (τ : RT) (keep : List (Option Nat)) (k' : Nat) : Nat := match keep[k']? with
  | some (some k) => match lk τ k with | some (some i) => i | _ => id + k'
  | _ => id + k'
def keepOk (τ : RT) : List (Option Nat) → Bool
  | [] => true
  | none :: l => keepOk τ l
  | some k :: l => match lk τ k with | some (some _) => keepOk τ l | _ => false
def newsL (σ : Nat → Nat) : Nat → (S : List OS) → SDat S → List (Nat × AObj)
  | _, [], _ => []
  | k, s :: l, x => (σ k, s.obj σ x.1) :: newsL σ (k + 1) l x.2
def tgts (σ : Nat → Nat) : Nat → List OS → List Nat
  | _, [] => []
  | k, _ :: l => σ k :: tgts σ (k + 1) l

def MSig.read (g : MSig) (args : List AV) (o : Nat → AObj) : Option (RT × List Nat × SDat g.S × ADat g.ar) := match rdA o g.ar [] args with
  | none => none
  | some (τ, ss, a) => match rdS o g.S 0 τ with
    | none => none
    | some (τ', ss', d) => some (τ', ss ++ ss', d, a)
def MSig.ok (g : MSig) (id : Nat) (τ : RT) (ss : List Nat) : Bool :=
  okR g.S.length τ ss && Nat.beq g.keep.length g.S'.length && keepOk τ g.keep && (somes τ).all (Nat.blt · id) && nodupB (tgts (tgt id τ g.keep) 0 g.S')

def mutSpec (g : MSig) (pre : SDat g.S → ADat g.ar → Prop) (out : SDat g.S → ADat g.ar → SDat g.S' × ADat g.rs) : CSpec where
  rd args o := match g.read args o with
    | some (τ, ss, _, _) => somes τ ++ ss
    | none => []
  n := g.S'.length
  eff args id o := match g.read args o with
    | none => .bad
    | some (τ, ss, d, a) => match g.ok id τ ss with
      | false => .bad
      | true => .req (pre d a) (resAS (tgt id τ g.keep) g.rs (out d a).2) (deadAll ss ++ (deadAll (somes τ) ++ newsL (tgt id τ g.keep) 0 g.S' (out d a).1))

/-! ### What it hangs on -/
theorem somes_le {τ τ' : RT} (h : ∃ l, τ' = l ++ τ) : ∀ i ∈ somes τ, i ∈ somes τ' := by
  obtain ⟨l, rfl⟩ := h
  intro i hi
  unfold somes
  rw [List.filterMap_append]
  exact List.mem_append_right _ hi
theorem addR_ext {τ τ' : RT} {k : Nat} {s : Option Nat} (h : addR τ k s = some τ') : ∃ l, τ' = l ++ τ := by
  unfold addR at h
  split at h
  · cases h; exact ⟨[_], rfl⟩
  · split at h
    · cases h; exact ⟨[], rfl⟩
    · cases h
theorem rdHd_ext {τ τ' : RT} {k : Nat} {a : AV} (h : rdHd τ k a = some τ') : ∃ l, τ' = l ++ τ := by
  unfold rdHd at h
  split at h
  · exact addR_ext h
  · exact addR_ext h
  · cases h
theorem rdPtr_ext {τ τ' : RT} {k : Nat} {a : AV} (h : rdPtr τ k a = some τ') : ∃ l, τ' = l ++ τ := by
  unfold rdPtr at h
  split at h
  · split at h
    · exact addR_ext h
    · cases h
  · cases h
theorem ext_trans {a b c : RT} (h : ∃ l, b = l ++ a) (h' : ∃ l, c = l ++ b) : ∃ l, c = l ++ a := by
  obtain ⟨l, rfl⟩ := h
  obtain ⟨m, rfl⟩ := h'
  exact ⟨m ++ l, by rw [List.append_assoc]⟩

theorem sealAV_map_local {o o' : Nat → AObj} {l : List AV} (h : localOn (l.flatMap sealIds) o o') : l.map (sealAV o) = l.map (sealAV o') :=
  List.map_congr_left fun a ha => sealAV_local fun i hi => h i (List.mem_flatMap.2 ⟨a, ha, hi⟩)

theorem rdF_local {o o' : Nat → AObj} : ∀ {l : List FS} {τ : RT} {cs : List AV} {τ' : RT} {ss : List Nat} {x : FDat l}, rdF o l τ cs = some (τ', ss, x) → localOn ss o o' → rdF o' l τ cs = some (τ', ss, x) ∧ ∃ m, τ' = m ++ τ
  | [], τ, cs, τ', ss, x, h, _ => by
    simp only [rdF] at h ⊢
    split at h
    · cases h; exact ⟨rfl, [], rfl⟩
    · cases h
  | .d c :: l, τ, cs, τ', ss, x, h, hl => by
    simp only [rdF] at h ⊢
    split at h
    · rename_i x1 τ1 ss1 r h1 h2
      cases h
      obtain ⟨p1, p2⟩ := rdF_local h2 fun i hi => hl i (by simp [hi])
      rw [← sealAV_map_local (o := o) fun i hi => hl i (List.mem_append_left _ hi), h1, p1]
      exact ⟨rfl, p2⟩
    · cases h
  | .sl c :: l, τ, cs, τ', ss, x, h, hl => by
    simp only [rdF] at h ⊢
    split at h
    · cases h
    · split at h
      · rename_i a cs x1 τ1 ss1 r h1 h2
        cases h
        obtain ⟨p1, p2⟩ := rdF_local h2 fun i hi => hl i (by simp [hi])
        rw [← sealAV_local (o := o) fun i hi => hl i (List.mem_append_left _ hi), h1, p1]
        exact ⟨rfl, p2⟩
      · cases h
  | .hd k :: l, τ, cs, τ', ss, x, h, hl => by
    simp only [rdF] at h ⊢
    split at h
    · cases h
    · split at h
      · rename_i a cs τ1 h1
        obtain ⟨p1, p2⟩ := rdF_local h hl
        exact ⟨p1, ext_trans (rdHd_ext h1) p2⟩
      · cases h
  | .ptr k :: l, τ, cs, τ', ss, x, h, hl => by
    simp only [rdF] at h ⊢
    split at h
    · cases h
    · split at h
      · rename_i a cs τ1 h1
        obtain ⟨p1, p2⟩ := rdF_local h hl
        exact ⟨p1, ext_trans (rdPtr_ext h1) p2⟩
      · cases h

theorem rdPtrs_ext : ∀ {ks : List Nat} {τ τ' : RT} {l : List AV}, rdPtrs τ ks l = some τ' → ∃ m, τ' = m ++ τ
  | [], _, _, [], h => by cases h; exact ⟨[], rfl⟩
  | [], _, _, _ :: _, h => by simp [rdPtrs] at h
  | _ :: _, _, _, [], h => by simp [rdPtrs] at h
  | k :: ks, τ, τ', a :: l, h => by
    simp only [rdPtrs] at h
    split at h
    · rename_i τ1 h1; exact ext_trans (rdPtr_ext h1) (rdPtrs_ext h)
    · cases h

theorem rdA_local {o o' : Nat → AObj} : ∀ {l : List AS} {τ : RT} {cs : List AV} {τ' : RT} {ss : List Nat} {x : ADat l}, rdA o l τ cs = some (τ', ss, x) → localOn ss o o' → rdA o' l τ cs = some (τ', ss, x) ∧ ∃ m, τ' = m ++ τ
  | [], τ, cs, τ', ss, x, h, _ => by
    simp only [rdA] at h ⊢
    split at h
    · cases h; exact ⟨rfl, [], rfl⟩
    · cases h
  | .tc c :: l, τ, cs, τ', ss, x, h, hl => by
    simp only [rdA] at h ⊢
    split at h
    · cases h
    · split at h
      · rename_i a cs x1 τ1 ss1 r h1 h2
        cases h
        obtain ⟨p1, p2⟩ := rdA_local h2 fun i hi => hl i (by simp [hi])
        rw [← sealD_local (o := o) fun i hi => hl i (List.mem_append_left _ hi), h1, p1]
        exact ⟨rfl, p2⟩
      · cases h
  | .sl c :: l, τ, cs, τ', ss, x, h, hl => by
    simp only [rdA] at h ⊢
    split at h
    · cases h
    · split at h
      · rename_i a cs x1 τ1 ss1 r h1 h2
        cases h
        obtain ⟨p1, p2⟩ := rdA_local h2 fun i hi => hl i (by simp [hi])
        rw [← sealAV_local (o := o) fun i hi => hl i (List.mem_append_left _ hi), h1, p1]
        exact ⟨rfl, p2⟩
      · cases h
  | .hd k :: l, τ, cs, τ', ss, x, h, hl => by
    simp only [rdA] at h ⊢
    split at h
    · cases h
    · split at h
      · rename_i a cs τ1 h1
        obtain ⟨p1, p2⟩ := rdA_local h hl
        exact ⟨p1, ext_trans (rdHd_ext h1) p2⟩
      · cases h
  | .ptr k :: l, τ, cs, τ', ss, x, h, hl => by
    simp only [rdA] at h ⊢
    split at h
    · cases h
    · split at h
      · rename_i a cs τ1 h1
        obtain ⟨p1, p2⟩ := rdA_local h hl
        exact ⟨p1, ext_trans (rdPtr_ext h1) p2⟩
      · cases h
  | .fn f ks :: l, τ, cs, τ', ss, x, h, hl => by
    simp only [rdA] at h ⊢
    split at h
    · cases h
    · split at h
      · split at h
        · rename_i hf h1
          obtain ⟨p1, p2⟩ := rdA_local h hl
          exact ⟨p1, ext_trans (rdPtrs_ext h1) p2⟩
        · cases h
      · cases h

theorem rdO_local {o o' : Nat → AObj} {s : OS} {τ τ' : RT} {src : Option Nat} {ss : List Nat} {x : s.den} (h : rdO o s τ src = some (τ', ss, x)) (hl : localOn ss o o') (hi : ∀ i, src = some i → o i = o' i) :
    rdO o' s τ src = some (τ', ss, x) ∧ ∃ m, τ' = m ++ τ := by
  cases s with
  | cells fs E =>
    cases src with
    | none => simp [rdO] at h
    | some i =>
      simp only [rdO] at h ⊢
      rw [← hi i rfl]
      split at h
      · split at h
        · exact rdF_local h hl
        · cases h
      · cases h
  | map ck cv =>
    cases src with
    | none => simp [rdO] at h
    | some i =>
      simp only [rdO] at h ⊢
      rw [← hi i rfl]
      refine ⟨h, ?_⟩
      split at h
      · split at h
        · cases h; exact ⟨[], rfl⟩
        · cases h
      · cases h
  | lent =>
    cases src with
    | none => simp [rdO] at h
    | some i =>
      simp only [rdO] at h ⊢
      rw [← hi i rfl]
      refine ⟨h, ?_⟩
      split at h
      · cases h; exact ⟨[], rfl⟩
      · cases h
  | rng k ck cv =>
    cases src with
    | none => simp [rdO] at h
    | some i =>
      simp only [rdO] at h ⊢
      rw [← hi i rfl]
      refine ⟨h, ?_⟩
      split at h
      · split at h
        · rename_i ha
          cases h
          exact addR_ext ha
        · cases h
      · cases h
  | row c E =>
    cases src with
    | none =>
      simp only [rdO] at h ⊢
      cases h
      exact ⟨rfl, [], rfl⟩
    | some i =>
      simp only [rdO] at h ⊢
      rw [← hi i rfl]
      refine ⟨h, ?_⟩
      split at h
      · split at h
        · cases h; exact ⟨[], rfl⟩
        · cases h
      · cases h

theorem rdS_local {o o' : Nat → AObj} : ∀ {S : List OS} {k : Nat} {τ τ' : RT} {ss : List Nat} {x : SDat S}, rdS o S k τ = some (τ', ss, x) → localOn ss o o' → localOn (somes τ') o o' → rdS o' S k τ = some (τ', ss, x) ∧ ∃ m, τ' = m ++ τ
  | [], k, τ, τ', ss, x, h, _, _ => by
    simp only [rdS] at h ⊢
    cases h; exact ⟨rfl, [], rfl⟩
  | s :: S, k, τ, τ', ss, x, h, hl, ht => by
    have hext : ∀ {S : List OS} {k : Nat} {τ τ' : RT} {ss : List Nat} {x : SDat S}, rdS o S k τ = some (τ', ss, x) → ∃ m, τ' = m ++ τ := by
      intro S
      induction S with
      | nil => intro k τ τ' ss x h; simp only [rdS] at h; cases h; exact ⟨[], rfl⟩
      | cons s S ih =>
        intro k τ τ' ss x h
        simp only [rdS] at h
        split at h
        · cases h
        · split at h
          · cases h
          · rename_i h1
            split at h
            · cases h
            · rename_i h2
              cases h
              exact ext_trans (rdO_local h1 (o' := o) (fun _ _ => rfl) (fun _ _ => rfl)).2 (ih h2)
    simp only [rdS] at h ⊢
    split at h
    · cases h
    · rename_i src hsrc
      split at h
      · cases h
      · rename_i τ1 ss1 x1 h1
        split at h
        · cases h
        · rename_i τ2 ss2 y h2
          cases h
          have e0 := (rdO_local h1 (o' := o) (fun _ _ => rfl) (fun _ _ => rfl)).2
          have e1 := hext h2
          obtain ⟨p1, _⟩ := rdO_local (o' := o') h1 (fun i hi => hl i (List.mem_append_left _ hi)) (fun i hi => by
            subst hi
            exact ht i (somes_le e1 i (somes_le e0 i (lk_somes hsrc))))
          obtain ⟨q1, _⟩ := rdS_local (o' := o') h2 (fun i hi => hl i (List.mem_append_right _ hi)) ht
          rw [p1]
          simp only [q1]
          exact ⟨trivial, ext_trans e0 e1⟩

theorem mutSpec_loc {g : MSig} {pre : SDat g.S → ADat g.ar → Prop} {out : SDat g.S → ADat g.ar → SDat g.S' × ADat g.rs} (args : List AV) (id : Nat) (o o' : Nat → AObj) (hnb : (mutSpec g pre out).eff args id o ≠ .bad)
    (h : localOn ((mutSpec g pre out).rd args o) o o') : (mutSpec g pre out).eff args id o' = (mutSpec g pre out).eff args id o ∧ (mutSpec g pre out).rd args o' = (mutSpec g pre out).rd args o := by
  simp only [mutSpec] at hnb h ⊢
  cases hr : g.read args o with
  | none => rw [hr] at hnb; exact absurd rfl hnb
  | some r =>
    obtain ⟨τ, ss, d, a⟩ := r
    rw [hr] at h
    simp only at h
    have : g.read args o' = some (τ, ss, d, a) := by
      unfold MSig.read at hr ⊢
      split at hr
      · cases hr
      · rename_i τ1 ss1 a1 h1
        split at hr
        · cases hr
        · rename_i τ2 ss2 d1 h2
          cases hr
          obtain ⟨p1, _⟩ := rdA_local (o' := o') h1 fun i hi => h i (by simp [hi])
          obtain ⟨q1, _⟩ := rdS_local (o' := o') h2 (fun i hi => h i (by simp [hi])) (fun i hi => h i (by simp [hi]))
          rw [p1]
          simp only [q1]
    rw [this]
    exact ⟨rfl, rfl⟩
end Go.X

