/- Functions of data: what they are given stays, what they give is new, or stays. -/
import Derived.Test.YtlpbalinhikboaaX22
namespace Go.X
open Go

/-! ### Without handles -/
mutual
def AV.hf : AV → Bool
  | .ptr _ _ | .hd _ | .vw _ _ _ _ | .rp _ _ _ _ => false
  | .gd _ _ _ a => a.hf
  | .agg l | .tup l | .fn _ l => AV.hfs l
  | .v _ | .any | .rs _ _ | .ep _ _ _ _ => true
def AV.hfs : List AV → Bool
  | [] => true
  | a :: l => a.hf && AV.hfs l
end
mutual
def AV.flat : AV → Bool
  | .v _ => true
  | .agg l | .tup l => AV.flats l
  | _ => false
def AV.flats : List AV → Bool
  | [] => true
  | a :: l => a.flat && AV.flats l
end

theorem TC.enc_hf (c : TC) (x : c.den) : AV.hfs (c.enc x) = true := by
  cases c <;> simp [TC.enc, encId, encHead, encEdge, encPrefix, encReach, encTie, encPacket, encParent, encHop, encPath, encNot, encStep12, encStep20, encJob, encPiece, encEntId, encEntHead, AV.hfs, AV.hf]

def TC.flat : TC → Bool
  | .tie | .packet | .parent | .hop | .path | .step12 | .piece => false
  | _ => true
theorem TC.enc_flat (c : TC) (h : c.flat = true) (x : c.den) : AV.flats (c.enc x) = true := by
  cases c <;> simp [TC.flat] at h <;> simp [TC.enc, encId, encHead, encEdge, encPrefix, encReach, encNot, encStep20, encJob, encEntId, encEntHead, AV.flats, AV.flat]

def κ0 : Kap := fun _ => none

section
variable {κ κ' : Kap} {Im Im' : Nat → Prop} {w w' : World}
mutual
theorem AV.rel_hf : ∀ (a : AV) (y : Value), a.hf = true → AV.rel κ Im w a y → AV.rel κ' Im w a y
  | .v _, _, _, e => by simpa only [AV.rel] using e
  | .any, _, _, _ => by simp only [AV.rel]
  | .gd _ _ _ a, y, h, e => by
    simp only [AV.rel] at e ⊢
    exact ⟨fun ht => AV.rel_hf a y (by simpa [AV.hf] using h) (e.1 ht), e.2⟩
  | .ptr _ _, _, h, _ => by simp [AV.hf] at h
  | .hd _, _, h, _ => by simp [AV.hf] at h
  | .vw _ _ _ _, _, h, _ => by simp [AV.hf] at h
  | .rp _ _ _ _, _, h, _ => by simp [AV.hf] at h
  | .agg l, _, h, e => by
    simp only [AV.rel] at e ⊢
    obtain ⟨ys, h1, h2⟩ := e
    exact ⟨ys, h1, AV.rels_hf l _ (by simpa [AV.hf] using h) h2⟩
  | .tup l, _, h, e => by
    simp only [AV.rel] at e ⊢
    obtain ⟨ys, h1, h2⟩ := e
    exact ⟨ys, h1, AV.rels_hf l _ (by simpa [AV.hf] using h) h2⟩
  | .fn _ l, _, h, e => by
    simp only [AV.rel] at e ⊢
    obtain ⟨ys, h1, h2⟩ := e
    exact ⟨ys, h1, AV.rels_hf l _ (by simpa [AV.hf] using h) h2⟩
  | .rs c xs, _, _, e => by
    simp only [AV.rel] at e ⊢
    obtain ⟨a, cap, h1, h0, h2⟩ := e
    refine ⟨a, cap, h1, h0, fun hx => ?_⟩
    obtain ⟨b, o, h3, h4, arr, T, fz, h5, h6⟩ := h2 hx
    exact ⟨b, o, h3, h4, arr, T, fz, h5, fun i hi => AV.rels_hf (c.enc xs[i]) _ (TC.enc_hf _ _) (h6 i hi)⟩
  | .ep c xs n off, _, _, e => by
    simp only [AV.rel] at e ⊢
    obtain ⟨h0, b, o, h3, h4, arr, T, fz, h5, h6⟩ := e
    exact ⟨h0, b, o, h3, h4, arr, T, fz, h5, fun i hi => AV.rels_hf (c.enc xs[i]) _ (TC.enc_hf _ _) (h6 i hi)⟩
termination_by a => a.ms
decreasing_by all_goals (simp only [AV.ms]; first | omega | (have := TC.enc_ms _ xs[i]; omega))
theorem AV.rels_hf : ∀ (l : List AV) (ys : List Value), AV.hfs l = true → AV.rels κ Im w l ys → AV.rels κ' Im w l ys
  | [], _, _, e => by simpa only [AV.rels] using e
  | a :: l, _, h, e => by
    simp only [AV.hfs, Bool.and_eq_true] at h
    simp only [AV.rels] at e ⊢
    obtain ⟨y, r, h1, h2, h3⟩ := e
    exact ⟨y, r, h1, AV.rel_hf a y h.1 h2, AV.rels_hf l r h.2 h3⟩
termination_by l => AV.mss l
decreasing_by all_goals (simp only [AV.mss]; have h1 := AV.ms_pos a; have h2 := AV.mss_pos l; omega)
end
mutual
theorem AV.rel_flat : ∀ (a : AV) (y : Value), a.flat = true → AV.rel κ Im w a y → AV.rel κ' Im' w' a y
  | .v _, _, _, e => by simpa only [AV.rel] using e
  | .agg l, _, h, e => by
    simp only [AV.rel] at e ⊢
    obtain ⟨ys, h1, h2⟩ := e
    exact ⟨ys, h1, AV.rels_flat l _ (by simpa [AV.flat] using h) h2⟩
  | .tup l, _, h, e => by
    simp only [AV.rel] at e ⊢
    obtain ⟨ys, h1, h2⟩ := e
    exact ⟨ys, h1, AV.rels_flat l _ (by simpa [AV.flat] using h) h2⟩
  | .any, _, h, _ | .gd _ _ _ _, _, h, _ | .ptr _ _, _, h, _ | .hd _, _, h, _ | .vw _ _ _ _, _, h, _ | .rp _ _ _ _, _, h, _ | .fn _ _, _, h, _ | .rs _ _, _, h, _ | .ep _ _ _ _, _, h, _ => by simp [AV.flat] at h
termination_by a => a.ms
decreasing_by all_goals (simp only [AV.ms]; omega)
theorem AV.rels_flat : ∀ (l : List AV) (ys : List Value), AV.flats l = true → AV.rels κ Im w l ys → AV.rels κ' Im' w' l ys
  | [], _, _, e => by simpa only [AV.rels] using e
  | a :: l, _, h, e => by
    simp only [AV.flats, Bool.and_eq_true] at h
    simp only [AV.rels] at e ⊢
    obtain ⟨y, r, h1, h2, h3⟩ := e
    exact ⟨y, r, h1, AV.rel_flat a y h.1 h2, AV.rels_flat l r h.2 h3⟩
termination_by l => AV.mss l
decreasing_by all_goals (simp only [AV.mss]; have h1 := AV.ms_pos a; have h2 := AV.mss_pos l; omega)
end
end

/-! ### What goes in and out -/
inductive AT where
  | tc (c : TC)
  | sl (c : TC)
@[reducible] def AT.den : AT → Type
  | .tc c => c.den
  | .sl c => List c.den
def AT.av : (t : AT) → t.den → AV
  | .tc c, x => c.av x
  | .sl c, xs => .rs c xs
def AT.flat : AT → Bool
  | .tc c => c.flat
  | .sl _ => false
@[reducible] def Dat : List AT → Type
  | [] => Unit
  | t :: l => t.den × Dat l
def avs : (l : List AT) → Dat l → List AV
  | [], _ => []
  | t :: l, d => t.av d.1 :: avs l d.2
def readI (c : TC) : AV → Option (List c.den)
  | .rs c' xs => castL c c' xs
  | .v (.slice none 0 0) => some []
  | _ => none
def AT.read : (t : AT) → AV → Option t.den
  | .tc c, a => match c.isAgg with
    | true => match a with | .agg l => c.dec l | _ => none
    | false => c.dec [a]
  | .sl c, a => readI c a
def readAll : (l : List AT) → List AV → Option (Dat l)
  | [], [] => some ()
  | t :: l, a :: r => match t.read a, readAll l r with
    | some x, some y => some (x, y)
    | _, _ => none
  | _, _ => none

theorem TC.av_hf (c : TC) (x : c.den) : (c.av x).hf = true := by
  have := c.enc_hf x
  cases c <;> first | rfl | (simpa [TC.av, TC.isAgg, AV.hf] using this)
theorem TC.av_flat (c : TC) (h : c.flat = true) (x : c.den) : (c.av x).flat = true := by
  have := c.enc_flat h x
  cases c <;> first | rfl | (simpa [TC.av, TC.isAgg, AV.flat] using this)
theorem AT.av_hf (t : AT) (x : t.den) : (t.av x).hf = true := by
  cases t with
  | tc c => exact c.av_hf x
  | sl c => simp [AT.av, AV.hf]
theorem avs_hf : ∀ (l : List AT) (d : Dat l), AV.hfs (avs l d) = true
  | [], _ => rfl
  | t :: l, d => by simp only [avs, AV.hfs, t.av_hf, avs_hf l, Bool.and_self]
theorem avs_flat : ∀ (l : List AT) (d : Dat l), l.all AT.flat = true → AV.flats (avs l d) = true
  | [], _, _ => rfl
  | t :: l, d, h => by
    simp only [List.all_cons, Bool.and_eq_true] at h
    have : (t.av d.1).flat = true := by
      cases t with
      | tc c => exact c.av_flat h.1 d.1
      | sl c => simp [AT.flat] at h
    simp only [avs, AV.flats, this, avs_flat l d.2 h.2, Bool.and_self]
theorem avs_len : ∀ (l : List AT) (d : Dat l), (avs l d).length = l.length
  | [], _ => rfl
  | t :: l, d => by simp [avs, avs_len l d.2]

theorem AT.read_law {t : AT} {a : AV} {x : t.den} (h : t.read a = some x) : Ref a (t.av x) := by
  intro κ Im w y hr
  cases t with
  | tc c =>
    simp only [AT.read] at h
    split at h
    · rename_i hc
      split at h
      · rename_i l
        simp only [AV.rel] at hr
        obtain ⟨ys, rfl, h2⟩ := hr
        simp only [AT.av, TC.av, hc, if_true, AV.rel]
        exact ⟨ys, rfl, TC.dec_law h κ Im w _ h2⟩
      · cases h
    · rename_i hc
      have h2 := TC.dec_law h κ Im w [y] (by simp only [AV.rels]; exact ⟨y, [], rfl, hr, rfl⟩)
      cases c <;> first | cases hc | skip
      all_goals
        simp only [TC.enc, AV.rels] at h2
        obtain ⟨y', r, e, h3, _⟩ := h2
        cases e
        exact h3
  | sl c =>
    simp only [AT.read] at h
    unfold readI at h
    split at h
    · obtain ⟨rfl, rfl⟩ := castL_spec h
      exact hr
    · cases h
      simp only [AV.rel] at hr
      subst hr
      simp only [AT.av, AV.rel]
      exact ⟨none, 0, rfl, by simp, fun h => absurd rfl h⟩
    · cases h

theorem readAll_law : ∀ {l : List AT} {r : List AV} {d : Dat l}, readAll l r = some d → RefL r (avs l d)
  | [], [], _, _ => RefL.refl _
  | [], _ :: _, _, h => by simp [readAll] at h
  | _ :: _, [], _, h => by simp [readAll] at h
  | t :: l, a :: r, d, h => by
    simp only [readAll] at h
    split at h
    · cases h
      exact .cons (AT.read_law ‹_›) (readAll_law ‹_›)
    · cases h

/-! ### Sealing, a level deep -/
def sealD (o : Nat → AObj) : AV → AV
  | .agg l => .agg (l.map (sealAV o))
  | a => sealAV o a
def sealDIds : AV → List Nat
  | .agg l => l.flatMap sealIds
  | a => sealIds a

section
variable {κ : Kap} {Im : Nat → Prop} {w : World} {H : List AObj}
theorem sealD_rel {a : AV} {y : Value} (hr : AV.rel κ Im w a y) (hs : ∀ i ∈ sealDIds a, Sealed κ Im w H i) : AV.rel κ Im w (sealD (H.getD · .dead) a) y := by
  cases a with
  | agg l =>
    simp only [sealD, AV.rel] at hr ⊢
    obtain ⟨ys, h1, h2⟩ := hr
    exact ⟨ys, h1, sealAVs_rel h2 hs⟩
  | _ => exact sealAV_rel hr hs
theorem sealDs_rel {l : List AV} {ys : List Value} (hr : AV.rels κ Im w l ys) (hs : ∀ i ∈ l.flatMap sealDIds, Sealed κ Im w H i) : AV.rels κ Im w (l.map (sealD (H.getD · .dead))) ys := by
  induction l generalizing ys with
  | nil => exact hr
  | cons a l ih =>
    simp only [AV.rels, List.map_cons] at hr ⊢
    obtain ⟨y, r, h1, h2, h3⟩ := hr
    exact ⟨y, r, h1, sealD_rel h2 (fun i hi => hs i (by simp [hi])), ih h3 (fun i hi => hs i (by rw [List.flatMap_cons]; exact List.mem_append_right _ hi))⟩
end
theorem sealD_local {o o' : Nat → AObj} {a : AV} (h : localOn (sealDIds a) o o') : sealD o a = sealD o' a := by
  by_cases hl : ∃ l, a = .agg l
  · obtain ⟨l, rfl⟩ := hl
    simp only [sealD]
    have : ∀ x ∈ l, sealAV o x = sealAV o' x := fun x hx => sealAV_local fun i hi => h i (by simp only [sealDIds]; exact List.mem_flatMap.2 ⟨x, hx, hi⟩)
    rw [List.map_congr_left this]
  · have e1 : sealDIds a = sealIds a := by cases a <;> first | rfl | exact absurd ⟨_, rfl⟩ hl
    have e2 : ∀ o, sealD o a = sealAV o a := fun o => by cases a <;> first | rfl | exact absurd ⟨_, rfl⟩ hl
    rw [e2, e2]
    exact sealAV_local (e1 ▸ h)

/-! ### The contract -/
def resAV : (rts : List AT) → Dat rts → AV
  | [t], d => t.av d.1
  | [], _ => .tup []
  | t :: u :: l, d => .tup (avs (t :: u :: l) d)
theorem resAV_hf : ∀ (rts : List AT) (d : Dat rts), (resAV rts d).hf = true
  | [t], d => t.av_hf d.1
  | [], _ => rfl
  | t :: u :: l, d => by simp only [resAV, AV.hf]; exact avs_hf _ _
theorem resAV_flat : ∀ (rts : List AT) (d : Dat rts) (_ : rts.all AT.flat = true), (resAV rts d).flat = true
  | [t], d, h => by have := avs_flat _ d h; simp only [avs, AV.flats, Bool.and_true] at this; exact this
  | [], _, _ => rfl
  | t :: u :: l, d, h => by simp only [resAV, AV.flat]; exact avs_flat _ _ h

def PureOk (P : Program) (f : FuncId) (ats : List AT) (pre : Dat ats → Prop) (rts : List AT) (out : Dat ats → Dat rts) : Prop :=
  ∀ (Im : Nat → Prop) (w : World) (ys : Array Value) (d : Dat ats), (∀ b, Im b → b < w.heap.size) → AV.rels κ0 Im w (avs ats d) ys.toList → pre d →
    Calls P f ys w fun e w' => ∃ v Im', e = .returned v ∧ Turn none w w' ∧ (∀ b, Im b → Im' b) ∧ (∀ b, Im' b → b < w'.heap.size ∧ (Im b ∨ w.heap.size ≤ b)) ∧ AV.rel κ0 Im' w' (resAV rts (out d)) v

def pureSpec (ats : List AT) (pre : Dat ats → Prop) (rts : List AT) (out : Dat ats → Dat rts) : CSpec where
  rd args := args.flatMap sealDIds
  wr args := args.flatMap sealDIds
  n := 0
  eff args _ o := match readAll ats (args.map (sealD o)) with
    | none => .bad
    | some d => .req (pre d) (resAV rts (out d)) (match rts.all AT.flat with | true => [] | false => deadAll (args.flatMap sealDIds))

theorem pureSpec_loc {ats pre rts out} (args : List AV) (id : Nat) (o o' : Nat → AObj) (h : localOn ((pureSpec ats pre rts out).rd args) o o') : (pureSpec ats pre rts out).eff args id o = (pureSpec ats pre rts out).eff args id o' := by
  have : args.map (sealD o) = args.map (sealD o') := List.map_congr_left fun a ha => sealD_local fun i hi => h i (List.mem_flatMap.2 ⟨a, ha, hi⟩)
  simp only [pureSpec, this]

theorem St.garbIm {c κ Im Im' w w' H} (h : St c κ Im w H) (ht : Turn none w w') (h1 : ∀ b, Im b → Im' b) (h2 : ∀ b, Im' b → b < w'.heap.size ∧ (Im b ∨ w.heap.size ≤ b)) : St c κ Im' w' H ∧ Le κ κ Im Im' w w' := by
  have hb : ∀ b, b < w.heap.size → w'.heap[b]? = w.heap[b]? := fun b hb => ht.block b hb (by simp)
  have hle : Le κ κ Im Im' w w' := ⟨fun _ _ e => e, h1, fun b h' => hb b (h.im b h').1⟩
  obtain ⟨⟨D, d1, d2, d3⟩, hfresh, him, hkeep, hframe, hsize, hk0, hos, htape, hout⟩ := h
  have hs := ht.size
  refine ⟨⟨⟨D, fun i o ho => AObj.holds_mono hle (fun b hd => hb b (d2 i b hd).2.1) o (d1 i o ho), fun i b hd => ?_, d3⟩, hfresh, fun b hI => ⟨(h2 b hI).1, ?_⟩, fun b hc => h1 b (hkeep b hc),
    fun b hlt hM => (hb b (by omega)).trans (hframe b hlt hM), by omega, hk0, ht.os.trans hos, ht.tape.trans htape, ht.output.trans hout⟩, hle⟩
  · obtain ⟨a1, a2, a3, a4⟩ := d2 i b hd
    exact ⟨a1, by omega, fun hI => (h2 b hI).2.elim a3 (fun h => by omega), a4⟩
  · rcases (h2 b hI).2 with h' | h'
    · exact (him b h').2
    · exact .inr (.inr (by omega))

theorem pureSpec_sound {P : Program} {f : FuncId} {ats pre rts out} (h : PureOk P f ats pre rts out) : CSound P f (pureSpec ats pre rts out) := by
  intro c κ Im w H args ys id K k hst hv hid hs hk
  simp only [pureSpec] at hs
  split at hs
  · exact hs.elim
  · rename_i d hd
    obtain ⟨⟨hpre⟩, hs⟩ := hs
    obtain ⟨Im1, s1, s2, s3⟩ := seal_all (args.flatMap sealDIds) hst
    have hv1 := sealDs_rel (AV.rels_mono s2 _ _ hv) s3
    have hv2 := AV.rels_hf (κ' := κ0) _ _ (avs_hf _ _) (readAll_law hd κ Im1 w _ hv1)
    refine Calls.mono (h Im1 w ys d (fun b hb => (s1.im b hb).1) hv2 hpre) ?_
    rintro e w' ⟨v, Im', rfl, ht, h1, h2, hr⟩
    refine ⟨v, rfl, ?_⟩
    have hr' := AV.rel_hf (κ' := κ) _ _ (resAV_hf rts (out d)) hr
    split at hs
    · rename_i hflat
      obtain ⟨g1, g2⟩ := hst.garb ht
      exact hk _ _ κ Im w' v hs g2 g1 (AV.rel_flat _ _ (resAV_flat rts _ hflat) hr')
    · obtain ⟨g1, g2⟩ := s1.garbIm ht h1 h2
      exact hk _ _ κ Im' w' v hs (s2.trans g2) g1 hr'

/-! ### A function's walk -/
def resVal (P : Program) (T : List AV) (o : Nat → AObj) : ResultVar → Option AV
  | .tmp t => some (T.getD t .any)
  | .cell a t => match T.getD a .any with
    | .ptr i off => match o i with | .cells cs _ => partAV P t cs off | _ => none
    | _ => none
def resVals (P : Program) (T : List AV) (o : Nat → AObj) : List ResultVar → Option (List AV)
  | [] => some []
  | x :: l => match resVal P T o x, resVals P T o l with | some a, some r => some (a :: r) | _, _ => none

def retK (P : Program) (rvs : List ResultVar) (rts : List AT) (o : Dat rts) : XK := fun e T H => match e with
  | .x _ => False
  | _ => match resVals P T (H.getD · .dead) rvs with
    | none => False
    | some l => match readAll rts (l.map (sealD (H.getD · .dead))) with
      | some r => Ok (r = o)
      | none => False

def startT : Nat → List AV → List AV
  | n, [] => List.replicate n (.v undef)
  | 0, a :: l => a :: l
  | n + 1, a :: l => a :: startT n l
theorem startT_eq : ∀ (n : Nat) (l : List AV), startT n l = l ++ List.replicate (n - l.length) (.v undef)
  | n, [] => by simp [startT]
  | 0, a :: l => by simp [startT]
  | n + 1, a :: l => by simp [startT, startT_eq n l]

theorem rels_undef {κ Im w} (n : Nat) : AV.rels κ Im w (List.replicate n (.v undef)) (List.replicate n undef) := by
  induction n with
  | zero => simp [AV.rels]
  | succ n ih => simp only [List.replicate_succ, AV.rels]; exact ⟨_, _, rfl, by simp [AV.rel], ih⟩
theorem rels_len {κ Im w} : ∀ {l : List AV} {ys : List Value}, AV.rels κ Im w l ys → l.length = ys.length
  | [], ys, h => by simp only [AV.rels] at h; subst h; rfl
  | a :: l, ys, h => by
    simp only [AV.rels] at h
    obtain ⟨y, r, rfl, _, h3⟩ := h
    simp [rels_len h3]

theorem readAll_len : ∀ {l : List AT} {r : List AV} {d : Dat l}, readAll l r = some d → r.length = l.length
  | [], [], _, _ => rfl
  | [], _ :: _, _, h => by simp [readAll] at h
  | _ :: _, [], _, h => by simp [readAll] at h
  | t :: l, a :: r, d, h => by
    simp only [readAll] at h
    split at h
    · simp [readAll_len ‹readAll l r = _›]
    · cases h

def pickR : List Value → Value
  | [y] => y
  | ys => .tuple ys.toArray

def resRun (tmps : Array Value) : ResultVar → Sem Value
  | .tmp t => pure (tmps.getD t undef)
  | .cell a t => do loadVar t (← asAddr (tmps.getD a undef))

theorem resVal_sound {P : Program} {c : Ctx} {κ Im w H T} {tmps : Array Value} (hst : St c κ Im w H) (hT : AV.rels κ Im w T tmps.toList) : ∀ (x : ResultVar) (a : AV), resVal P T (H.getD · .dead) x = some a →
    ∃ y, (resRun tmps x).run P w = .ok y w ∧ AV.rel κ Im w a y
  | .tmp t, a, h => by
    simp only [resVal, Option.some.injEq] at h
    subst h
    exact ⟨_, rfl, by have := rels_get hT t; simpa [List.getD, Array.getD_eq_getD_getElem?] using this⟩
  | .cell x t, a, h => by
    simp only [resVal] at h
    split at h
    · rename_i i off hx
      split at h
      · rename_i cs E ho
        have hr := rels_get hT x
        rw [hx] at hr
        simp only [AV.rel] at hr
        obtain ⟨b, hκ, hy⟩ := hr
        obtain ⟨D, b', arr, h1, h2, h3, h4⟩ := hst.obj (getD_dead (by simp) ho)
        rw [hκ] at h1
        cases h1
        obtain ⟨y, hy1, hy2⟩ := run_loadVar_seg (P := P) (w := w) (t := t) (s := 0) (m := arr.size) (κ := κ) (Im := Im) (cs := cs) (off := off) h2 (by rw [List.drop_zero, List.take_of_length_le (by simp)]; exact h3) h
        refine ⟨y, ?_, hy2⟩
        have hy' : tmps.getD x undef = .pointer (some ⟨b, off, none⟩) := by simpa [List.getD, Array.getD_eq_getD_getElem?] using hy
        simp only [resRun, hy', asAddr]
        simpa using hy1
      · cases h
    · cases h

theorem resVals_sound {P : Program} {c : Ctx} {κ Im w H T} {tmps : Array Value} (hst : St c κ Im w H) (hT : AV.rels κ Im w T tmps.toList) : ∀ (l : List ResultVar) (as : List AV), resVals P T (H.getD · .dead) l = some as →
    ∃ ys, AV.rels κ Im w as ys ∧ l.length = ys.length ∧ ∀ (i : Nat) x, l[i]? = some x → ∃ y, ys[i]? = some y ∧ (resRun tmps x).run P w = .ok y w
  | [], as, h => by cases h; exact ⟨[], by simp [AV.rels], rfl, fun i x h => by simp at h⟩
  | x :: l, as, h => by
    simp only [resVals] at h
    split at h
    · rename_i a r ha hr
      cases h
      obtain ⟨y, h1, h2⟩ := resVal_sound hst hT x a ha
      obtain ⟨ys, h3, h4, h5⟩ := resVals_sound hst hT l r hr
      refine ⟨y :: ys, by simp only [AV.rels]; exact ⟨y, ys, rfl, h2, h3⟩, by simp [h4], fun i z hz => ?_⟩
      cases i with
      | zero => cases hz; exact ⟨y, rfl, h1⟩
      | succ i => exact h5 i z (by simpa using hz)
    · cases h

theorem results_run {P : Program} {fn : Func} {tmps : Array Value} {w : World} (ys : List Value) (hl : ys.length ≤ 4) (hlen : fn.results.toList.length = ys.length)
    (h : ∀ (i : Nat) x, fn.results.toList[i]? = some x → ∃ y, ys[i]? = some y ∧ (resRun tmps x).run P w = .ok y w) :
    (results fn tmps).run P w = .ok (pickR ys) w := by
  have h0 : results fn tmps = (do let vs ← fn.results.mapM (resRun tmps); pure (if h : vs.size = 1 then vs[0] else .tuple vs)) := by
    unfold results
    have : (fun x : ResultVar => match x with | .tmp t => (pure (tmps.getD t undef) : Sem Value) | .cell a t => do loadVar t (← asAddr (tmps.getD a undef))) = resRun tmps := by
      funext x; cases x <;> rfl
    rw [← this]
    rfl
  rw [h0]
  have hr : fn.results = fn.results.toList.toArray := by simp
  rw [hr]
  generalize fn.results.toList = rs at h hlen
  match rs, ys, hlen, hl with
  | [], [], _, _ => simp [pickR]
  | [a], [x], _, _ =>
    obtain ⟨_, e, h1⟩ := h 0 a rfl; cases e
    simp [pickR, h1]
  | [a, b], [x, y], _, _ =>
    obtain ⟨_, e, h1⟩ := h 0 a rfl; cases e
    obtain ⟨_, e, h2⟩ := h 1 b rfl; cases e
    simp [pickR, h1, h2]
  | [a, b, c], [x, y, z], _, _ =>
    obtain ⟨_, e, h1⟩ := h 0 a rfl; cases e
    obtain ⟨_, e, h2⟩ := h 1 b rfl; cases e
    obtain ⟨_, e, h3⟩ := h 2 c rfl; cases e
    simp [pickR, h1, h2, h3]
  | [a, b, c, d], [x, y, z, u], _, _ =>
    obtain ⟨_, e, h1⟩ := h 0 a rfl; cases e
    obtain ⟨_, e, h2⟩ := h 1 b rfl; cases e
    obtain ⟨_, e, h3⟩ := h 2 c rfl; cases e
    obtain ⟨_, e, h4⟩ := h 3 d rfl; cases e
    simp [pickR, h1, h2, h3, h4]
  | _, _ :: _ :: _ :: _ :: _ :: _, _, hl => simp at hl
  | _ :: _ :: _ :: _ :: _ :: _, [_, _, _, _], hlen, _ => simp at hlen

theorem resAV_rel {κ Im w} : ∀ (rts : List AT) (r : Dat rts) (ys : List Value), AV.rels κ Im w (avs rts r) ys → AV.rel κ Im w (resAV rts r) (pickR ys)
  | [rt], r, ys, h => by
    simp only [avs, AV.rels] at h
    obtain ⟨y, l, rfl, h3, rfl⟩ := h
    exact h3
  | [], r, ys, h => by
    simp only [avs, AV.rels] at h
    subst h
    simp only [resAV, AV.rel, pickR]; exact ⟨_, rfl, by simp [AV.rels]⟩
  | a :: b :: rts, r, ys, h => by
    have hl := rels_len h
    match ys, h, hl with
    | [], _, hl => simp [avs] at hl
    | [_], _, hl => simp [avs] at hl
    | y :: z :: ys, h, _ => simp only [resAV, AV.rel, pickR]; exact ⟨_, rfl, by simpa using h⟩

theorem pure_of_exec {E : Env} (hE : EnvOk E) {L : Nat → Option (LSpec E.P)} {fuel : Nat} {f : FuncId} {fn : Func} {code : Code} (hf : E.P.funcs[f]? = some fn) (hb : fn.body = some code) {n : Nat} (hn : fn.ntmps = n) {rvs : List ResultVar} (hrv : fn.results.toList = rvs) (hl : Nat.ble rvs.length 4 = true)
    {ats : List AT} {pre : Dat ats → Prop} {rts : List AT} {out : Dat ats → Dat rts} (h : ∀ d, pre d → exec E L fuel code (startT n (avs ats d)) [] (retK E.P rvs rts (out d))) : PureOk E.P f ats pre rts out := by
  intro Im w ys d hIm hv hpre
  have hx := h d hpre
  rw [startT_eq, ← hn] at hx
  let c : Ctx := ⟨w, κ0, fun _ => False, Im⟩
  have hst : St c κ0 Im w [] := ⟨⟨fun _ _ => False, fun i o h => by simp at h, fun _ _ h => h.elim, fun _ _ _ h => h.elim⟩, fun _ _ => rfl, fun b hb => ⟨hIm b hb, .inl hb⟩, fun _ h => h, fun _ _ _ => rfl, Nat.le_refl _,
    fun _ _ e => by simp [c, κ0] at e, rfl, rfl, rfl⟩
  refine calls_of_wp hf hb ?_
  refine exec_sound hE L fuel code c _ [] κ0 Im _ w _ _ ⟨hst, ?_, rfl⟩ hx ?_
  · have e1 : (avs ats d).length = ys.size := by rw [rels_len hv]; simp
    rw [Array.toList_append, rels_append]
    exact ⟨_, _, rfl, hv, by rw [e1]; simpa using rels_undef _⟩
  · intro e T' H' κ' Im' a' w' hK hf'
    have key : (match resVals E.P T' (H'.getD · .dead) rvs with
      | none => False
      | some l => match readAll rts (l.map (sealD (H'.getD · .dead))) with | some r => Ok (r = out d) | none => False) → bodyPost E.P fn (fun e w' => ∃ v Im', e = .returned v ∧ Turn none w w' ∧ (∀ b, Im b → Im' b) ∧ (∀ b, Im' b → b < w'.heap.size ∧ (Im b ∨ w.heap.size ≤ b)) ∧ AV.rel κ0 Im' w' (resAV rts (out d)) v) .normal a' w' := by
      intro hK
      split at hK
      · exact hK.elim
      · rename_i l hlv
        split at hK
        · rename_i r hr
          obtain ⟨rfl⟩ := hK
          obtain ⟨vs, hrs, hlen, hrun⟩ := resVals_sound (P := E.P) hf'.st hf'.tmps rvs l hlv
          obtain ⟨Im1, s1, s2, s3⟩ := seal_all (l.flatMap sealDIds) hf'.st
          have h1 := sealDs_rel (AV.rels_mono s2 _ _ hrs) s3
          have h2 := AV.rels_hf (κ' := κ0) _ _ (avs_hf _ _) (readAll_law hr κ' Im1 w' _ h1)
          have hl4 : rvs.length ≤ 4 := by simpa using hl
          refine ⟨hf'.defers, _, results_run vs (by omega) (by rw [hrv]; exact hlen) (by rw [hrv]; exact hrun), _, Im1, rfl, ⟨s1.os, s1.tape, s1.output, s1.size, fun b hb _ => s1.frame b hb (fun h => h)⟩, fun b hb => s1.keep b hb, fun b hb => ⟨(s1.im b hb).1, ?_⟩, ?_⟩
          · rcases (s1.im b hb).2 with h | h | h
            · exact .inl h
            · exact h.elim
            · exact .inr h
          · exact resAV_rel rts _ vs h2
        · exact hK.elim
    cases e with
    | x i => exact hK.elim
    | n => exact key hK
    | r => exact key hK
end Go.X
