/- Arithmetic and comparisons. -/
import Derived.Test.YtlpbalinhikboaaX9
import Derived.Laws.StructEq
namespace Go.X
open Go
section
variable {P : Program} {c : Ctx} {κ : Kap} {Im : Nat → Prop} {w : World} {H : List AObj} {K : AV → List (Nat × AObj) → Prop} {k : Value → World → Prop}

theorem allEq_cons {q : Bool} {ks : List Bool} {l m : List AV} {r : Bool} (h : allEq (q :: ks) l m = some r) :
    ∃ a l' b m' x y, l = a :: l' ∧ m = b :: m' ∧ eq1 q a b = some x ∧ allEq ks l' m' = some y ∧ r = (x && y) := by
  unfold allEq at h
  split at h
  · simp at *
  · rename_i q' a b e
    simp only [List.cons.injEq] at e
    obtain ⟨rfl, rfl⟩ := e
    exact ⟨a, [], b, [], r, true, rfl, rfl, h, rfl, by simp⟩
  · rename_i q' ks' a l' b m' _ e
    simp only [List.cons.injEq] at e
    obtain ⟨rfl, rfl⟩ := e
    split at h
    · rename_i x y h1 h2
      cases h
      exact ⟨a, l', b, m', x, y, rfl, rfl, h1, h2, rfl⟩
    · cases h
  · cases h

theorem allEq_append : ∀ (ks ks' : List Bool) (l m : List AV) (r : Bool), allEq (ks ++ ks') l m = some r →
    ∃ l1 l2 m1 m2 r1 r2, l = l1 ++ l2 ∧ m = m1 ++ m2 ∧ l1.length = ks.length ∧ m1.length = ks.length ∧ allEq ks l1 m1 = some r1 ∧ allEq ks' l2 m2 = some r2 ∧ r = (r1 && r2)
  | [], ks', l, m, r, h => ⟨[], l, [], m, true, r, rfl, rfl, rfl, rfl, rfl, h, by simp⟩
  | q :: ks, ks', l, m, r, h => by
    obtain ⟨a, l', b, m', x, y, rfl, rfl, h1, h2, rfl⟩ := allEq_cons h
    obtain ⟨l1, l2, m1, m2, r1, r2, rfl, rfl, e1, e2, h3, h4, rfl⟩ := allEq_append ks ks' _ _ _ h2
    refine ⟨a :: l1, l2, b :: m1, m2, x && r1, r2, rfl, rfl, by simp [e1], by simp [e2], ?_, h4, by rw [Bool.and_assoc]⟩
    cases ks with
    | nil =>
      cases l1 with
      | cons _ _ => simp at e1
      | nil => cases m1 with
        | cons _ _ => simp at e2
        | nil => simp [allEq] at h3; subst h3; simp [allEq, h1]
    | cons q2 ks => unfold allEq; split <;> simp_all

/-- A value of a type, by its cells. -/
def valOf (P : Program) (t : TypeId) (ls : List Value) (v : Value) : Prop := if aggB P t = true then v = .agg ls.toArray else ls = [v]

theorem flat_guard : ∀ (n : Nat) (t : TypeId) (s : List Bool), flatSz P n t = some s → ∀ d, n ≤ d → P.eqGuardType d t = false
  | 0, t, s, h => by simp [flatSz] at h
  | n + 1, t, s, h => by
    intro d hd
    obtain ⟨d, rfl⟩ : ∃ e, d = e + 1 := ⟨d - 1, by omega⟩
    simp only [flatSz] at h
    unfold Program.eqGuardType
    split at h
    · rename_i hu; simp [hu]
    · rename_i hu; simp [hu]
    · rename_i fs hu
      split at h
      · cases h
      split at h
      · rename_i tot htot
        simp only [hu]
        have : ∀ (l : List Field) (acc : Nat) (tot : List Bool), flatFs P (flatSz P n) acc l = some tot → (l.any fun f => f.name != "_" && P.eqGuardType d f.type) = false := by
          intro l
          induction l with
          | nil => intros; rfl
          | cons f r ih =>
            intro acc tot h
            simp only [flatFs] at h
            split at h
            · split at h
              · rename_i s1 hs1
                split at h
                · rename_i q hq
                  simp only [List.any_cons, ih _ _ hq, flat_guard n _ _ hs1 d (by omega), Bool.and_false, Bool.or_self]
                · cases h
              · cases h
            · cases h
        rw [← Array.any_toList]
        exact this _ _ _ htot
      · cases h
    · cases h

theorem flat_sz {n : Nat} {t : TypeId} {s : List Bool} (h : flatSz P n t = some s) (ha : aggB P t = true) : szOf P t = s.length := by
  cases n with
  | zero => simp [flatSz] at h
  | succ n =>
    simp only [flatSz] at h
    unfold aggB at ha
    split at h
    · rename_i hu; simp [hu] at ha
    · rename_i hu; simp [hu] at ha
    · split at h
      · cases h
      split at h
      · split at h
        · rename_i e; cases h; exact e
        · cases h
      · cases h
    · cases h

theorem flat_single {n : Nat} {t : TypeId} {s : List Bool} (h : flatSz P n t = some s) (ha : aggB P t = false) :
    (s = [true] ∧ ∃ kd, P.underlying t = some (.int kd)) ∨ (s = [false] ∧ P.underlying t = some .bool) := by
  cases n with
  | zero => simp [flatSz] at h
  | succ n =>
    simp only [flatSz] at h
    unfold aggB at ha
    split at h
    · rename_i kd hu; cases h; exact .inl ⟨rfl, _, hu⟩
    · rename_i hu; cases h; exact .inr ⟨rfl, hu⟩
    · rename_i hu; simp [hu] at ha
    · cases h

theorem flat_eq : ∀ (n : Nat) (t : TypeId) (s : List Bool), flatSz P n t = some s → ∀ d, n ≤ d → ∀ (l m : List AV) (ls ms : List Value) (r : Bool) (vx vy : Value),
    AV.rels κ Im w l ls → AV.rels κ Im w m ms → allEq s l m = some r → valOf P t ls vx → valOf P t ms vy → (Op.equalIn d t vx vy).run P w = .ok r w
  | 0, t, s, h => by simp [flatSz] at h
  | n + 1, t, s, h => by
    intro d hd l m ls ms r vx vy hl hm heq hvx hvy
    obtain ⟨d, rfl⟩ : ∃ e, d = e + 1 := ⟨d - 1, by omega⟩
    cases ha : aggB P t with
    | false =>
      simp only [valOf, ha, Bool.false_eq_true, if_false] at hvx hvy
      subst hvx hvy
      rcases flat_single h ha with ⟨rfl, kd, hu⟩ | ⟨rfl, hu⟩
      all_goals
        obtain ⟨a, l', b, m', x, y, rfl, rfl, h1, h2, rfl⟩ := allEq_cons heq
        simp only [AV.rels] at hl hm
        obtain ⟨y1, r1, e1, hr1, e1'⟩ := hl
        obtain ⟨y2, r2, e2, hr2, e2'⟩ := hm
        cases e1; cases e2
        have hnil : l' = [] ∧ m' = [] := by
          cases l' with
          | cons _ _ => simp [AV.rels] at e1'
          | nil => cases m' with
            | cons _ _ => simp [AV.rels] at e2'
            | nil => exact ⟨rfl, rfl⟩
        obtain ⟨rfl, rfl⟩ := hnil
        simp [allEq] at h2
        subst h2
        unfold eq1 at h1
        split at h1
        all_goals first | (exfalso; simp at *; done) | skip
      · split at h1
        · rename_i hkk
          subst hkk
          cases h1
          simp only [AV.rel] at hr1 hr2
          subst hr1 hr2
          rw [run_equalIn_int w d t _ kd _ _ hu, Bool.and_true]
        · cases h1
      · cases h1
        simp only [AV.rel] at hr1 hr2
        subst hr1 hr2
        rw [run_equalIn_bool' w d t _ _ hu, Bool.and_true]
    | true =>
      simp only [valOf, ha, if_true] at hvx hvy
      subst hvx hvy
      simp only [flatSz] at h
      unfold aggB at ha
      split at h
      · rename_i hu; simp [hu] at ha
      · rename_i hu; simp [hu] at ha
      · rename_i fs hu
        split at h
        · cases h
        rename_i hp
        split at h
        case h_2 => cases h
        rename_i tot htot
        split at h
        case isFalse => cases h
        rename_i hsz
        cases h
        have hf : P.fieldsOf t = fs := by unfold Program.fieldsOf; rw [hu]
        rw [run_equalIn_struct w d t _ _ (by rw [hf]; exact hu) (by simpa using hp), hf]
        have key : ∀ (fl : List Field) (acc : Nat) (tot : List Bool), flatFs P (flatSz P n) acc fl = some tot → ∀ (l m : List AV) (ls ms pl pm : List Value) (r : Bool),
            AV.rels κ Im w l ls → AV.rels κ Im w m ms → allEq tot l m = some r → pl.length = acc → pm.length = acc → (Op.eqFields d (pl ++ ls).toArray (pm ++ ms).toArray fl).run P w = .ok r w := by
          intro fl
          induction fl with
          | nil =>
            intro acc tot h l m ls ms pl pm r hl hm heq _ _
            simp [flatFs] at h
            subst h
            unfold allEq at heq
            split at heq <;> simp_all [Op.eqFields]
          | cons f fr ih =>
            intro acc tot h l m ls ms pl pm r hl hm heq hpl hpm
            simp only [flatFs] at h
            split at h
            case isFalse => cases h
            rename_i hname
            split at h
            case h_2 => cases h
            rename_i s1 hs1
            split at h
            case h_2 => cases h
            rename_i q hq
            cases h
            obtain ⟨l1, l2, m1, m2, r1, r2, rfl, rfl, e1, e2, h3, h4, rfl⟩ := allEq_append _ _ _ _ _ heq
            obtain ⟨ls1, ls2, rfl, hl1, hl2⟩ := (rels_append _ _ _).1 hl
            obtain ⟨ms1, ms2, rfl, hm1, hm2⟩ := (rels_append _ _ _).1 hm
            have el1 := rels_length _ _ hl1
            have em1 := rels_length _ _ hm1
            have hpart : ∀ (p a b : List Value), p.length = acc → a.length = s1.length → ∃ v, (part f.type (p ++ (a ++ b)).toArray f.offset).run P w = .ok v w ∧ valOf P f.type a v := by
              intro p a b hp1 ha1
              cases hag : aggB P f.type with
              | true =>
                have hsz1 := flat_sz hs1 hag
                obtain ⟨dd, hdd⟩ : ∃ dd, P.underlying f.type = some dd := by
                  unfold aggB at hag
                  cases hdd : P.underlying f.type with
                  | none => simp [hdd] at hag
                  | some dd => exact ⟨dd, rfl⟩
                obtain ⟨i, hi⟩ := info_of_underlying hdd
                refine ⟨.agg a.toArray, ?_, by simp [valOf, hag]⟩
                simp only [part, Sem.run_bind, run_isAgg f.type hdd, Result.andThen_ok, hag, if_true, run_sizeOf' f.type hi, Sem.run_pure, hsz1, hname.2]
                congr 2
                apply Array.ext'
                rw [Array.toList_extract, List.extract_eq_take_drop]
                simp [← hp1, ← ha1]
              | false =>
                have h1 : s1.length = 1 := by rcases flat_single hs1 hag with ⟨rfl, _⟩ | ⟨rfl, _⟩ <;> rfl
                obtain ⟨v, rfl⟩ : ∃ v, a = [v] := by
                  cases a with
                  | nil => simp at ha1; omega
                  | cons v a => cases a with
                    | nil => exact ⟨v, rfl⟩
                    | cons _ _ => simp at ha1; omega
                obtain ⟨dd, hdd⟩ : ∃ dd, P.underlying f.type = some dd := by
                  rcases flat_single hs1 hag with ⟨_, kd, hu⟩ | ⟨_, hu⟩ <;> exact ⟨_, hu⟩
                refine ⟨v, ?_, by simp [valOf, hag]⟩
                have : (p ++ ([v] ++ b)).toArray[f.offset]? = some v := by simp [hname.2, ← hp1]
                simp only [part, Sem.run_bind, run_isAgg f.type hdd, Result.andThen_ok, hag, Bool.false_eq_true, if_false, this, Sem.run_pure]
            obtain ⟨vx, hvx, ox⟩ := hpart pl ls1 ls2 hpl (by rw [el1, e1])
            obtain ⟨vy, hvy, oy⟩ := hpart pm ms1 ms2 hpm (by rw [em1, e2])
            have h5 := flat_eq n f.type s1 hs1 d (by omega) l1 m1 ls1 ms1 r1 vx vy hl1 hm1 h3 ox oy
            have h6 := ih _ _ hq l2 m2 ls2 ms2 (pl ++ ls1) (pm ++ ms1) r2 hl2 hm2 h4 (by rw [List.length_append, hpl, el1, e1]) (by rw [List.length_append, hpm, em1, e2])
            simp only [Op.eqFields, hname.1, ne_eq, not_false_eq_true, if_true, Sem.run_bind, hvx, Result.andThen_ok, hvy, h5]
            cases r1
            · simp
            · simpa [List.append_assoc] using h6
        have := key fs.toList 0 _ htot l m ls ms [] [] r hl hm heq rfl rfl
        simpa using this
      · cases h
end
end Go.X
