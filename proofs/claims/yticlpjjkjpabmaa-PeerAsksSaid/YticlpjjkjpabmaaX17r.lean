/- Parts of the walks: X17m X17r -/
import Derived.Test.YticlpjjkjpabmaaX17
import Derived.WideKeyRuns
import Derived.Maps.RangeRun

/- Maps: each operation's effect is what the model's operation does. -/
namespace Go.X
open Go
section
variable {P : Program} {c : Ctx} {κ : Kap} {Im : Nat → Prop} {w : World} {H : List AObj} {K : AV → List (Nat × AObj) → Prop} {k : Value → World → Prop}

/-- A key, as a value. -/
def TC.kv : (c : TC) → c.den → Value
  | .int, x => .int .i64 x
  | .u32, x => .int .u32 x
  | .tieId, x => .agg #[.int .i64 x.Dir, .int .i64 x.Origin, .int .i64 x.Kind, .int .i64 x.Nr]
  | .prefix_, x => .agg #[.int .u32 x.Net, .int .i64 x.Bits]
  | _, _ => undef

theorem arr4 {a : Array Value} {x y z u : Value} (h : a.toList = [x, y, z, u]) : a = #[x, y, z, u] := Array.ext' (by simpa using h)
theorem arr2 {a : Array Value} {x y : Value} (h : a.toList = [x, y]) : a = #[x, y] := Array.ext' (by simpa using h)

theorem kv_rel {ck : TC} {ks : List Bool} (h : ck.ks = some ks) (x : ck.den) (y : Value) : AV.rel κ Im w (ck.av x) y ↔ y = ck.kv x := by
  cases ck <;> simp [TC.ks] at h
  case int => simp [TC.av, TC.isAgg, TC.enc, AV.rel, TC.kv]
  case u32 => simp [TC.av, TC.isAgg, TC.enc, AV.rel, TC.kv]
  case tieId =>
    simp only [TC.av, TC.isAgg, TC.enc, encId, if_true, AV.rel, AV.rels, TC.kv]
    constructor
    · rintro ⟨ys, rfl, a, r, e1, rfl, b, r2, rfl, rfl, c2, r3, rfl, rfl, d, r4, rfl, rfl, rfl⟩
      rw [arr4 e1]
    · rintro rfl
      exact ⟨_, rfl, _, _, rfl, rfl, _, _, rfl, rfl, _, _, rfl, rfl, _, _, rfl, rfl, rfl⟩
  case prefix_ =>
    simp only [TC.av, TC.isAgg, TC.enc, encPrefix, if_true, AV.rel, AV.rels, TC.kv]
    constructor
    · rintro ⟨ys, rfl, a, r, e1, rfl, b, r2, rfl, rfl, rfl⟩
      rw [arr2 e1]
    · rintro rfl
      exact ⟨_, rfl, _, _, rfl, rfl, _, _, rfl, rfl, rfl⟩

theorem kv_inj {ck : TC} {ks : List Bool} (h : ck.ks = some ks) {x y : ck.den} (e : ck.kv x = ck.kv y) : x = y := by
  cases ck <;> simp [TC.ks] at h
  case int => simpa [TC.kv] using e
  case u32 => simpa [TC.kv] using e
  case tieId =>
    have : ∀ x y : TieId, TC.kv .tieId x = TC.kv .tieId y → x = y := by rintro ⟨a, b, c, d⟩ ⟨a', b', c', d'⟩ e; simpa [TC.kv] using e
    exact this x y e
  case prefix_ =>
    have : ∀ x y : Prefix, TC.kv .prefix_ x = TC.kv .prefix_ y → x = y := by rintro ⟨a, b⟩ ⟨a', b'⟩ e; simpa [TC.kv] using e
    exact this x y e

theorem same_kv {ck : TC} {ks : List Bool} (h : ck.ks = some ks) (x : ck.den) (n : Nat) : Instr.sameBits (n + 1) (ck.kv x) (ck.kv x) = true := by
  cases ck <;> simp [TC.ks] at h
  all_goals (cases n <;> simp [TC.kv, Instr.sameBits])

theorem enc_eq {ck : TC} {ks : List Bool} (h : ck.ks = some ks) (x y : ck.den) : allEq ks (ck.enc x) (ck.enc y) = some (decide (x = y)) := by
  cases ck <;> simp [TC.ks] at h <;> subst h
  case int => simp [TC.enc, allEq, eq1]; rfl
  case u32 => simp [TC.enc, allEq, eq1]; rfl
  case tieId =>
    have : ∀ x y : TieId, allEq [true, true, true, true] (encId x) (encId y) = some (decide (x = y)) := by
      rintro ⟨a, b, c, d⟩ ⟨a', b', c', d'⟩
      simp only [encId, allEq, eq1, if_true]
      by_cases h1 : a = a' <;> by_cases h2 : b = b' <;> by_cases h3 : c = c' <;> by_cases h4 : d = d' <;> simp [h1, h2, h3, h4]
    exact this x y
  case prefix_ =>
    have : ∀ x y : Prefix, allEq [true, true] (encPrefix x) (encPrefix y) = some (decide (x = y)) := by
      rintro ⟨a, b⟩ ⟨a', b'⟩
      simp only [encPrefix, allEq, eq1, if_true]
      by_cases h1 : a = a' <;> by_cases h2 : b = b' <;> simp [h1, h2]
    exact this x y

theorem keyOk_spec {kt : TypeId} {ck : TC} (h : keyOk P kt ck = true) : ∃ ks, ck.ks = some ks ∧ flatSz P 20 kt = some ks ∧ aggB P kt = ck.isAgg := by
  unfold keyOk at h
  split at h
  · rename_i a b h1 h2
    simp only [Bool.and_eq_true, beq_iff_eq] at h
    exact ⟨a, h1, by rw [h2, h.1], h.2⟩
  · cases h

/-- The cells of a key. -/
def TC.kl (ck : TC) (x : ck.den) : List Value := (ck.kv x).cells.toList

theorem kl_rel {ck : TC} {ks : List Bool} (h : ck.ks = some ks) (x : ck.den) : AV.rels κ Im w (ck.enc x) (ck.kl x) := by
  cases ck <;> simp [TC.ks] at h
  all_goals simp [TC.enc, encId, encPrefix, TC.kl, TC.kv, Value.cells, AV.rels, AV.rel]
theorem kl_val {kt : TypeId} {ck : TC} {ks : List Bool} (h : ck.ks = some ks) (ha : aggB P kt = ck.isAgg) (x : ck.den) : valOf P kt (ck.kl x) (ck.kv x) := by
  unfold valOf
  rw [ha]
  cases ck <;> simp [TC.ks] at h
  all_goals simp [TC.isAgg, TC.kl, TC.kv, Value.cells]
theorem kl_len {ck : TC} {ks : List Bool} (h : ck.ks = some ks) (x : ck.den) : (ck.kl x).length = ks.length := by
  cases ck <;> simp [TC.ks] at h <;> subst h
  all_goals simp [TC.kl, TC.kv, Value.cells]

theorem run_keyEq {kt : TypeId} {ck : TC} (hk : keyOk P kt ck = true) (x y : ck.den) : (Op.equal kt (ck.kv x) (ck.kv y)).run P w = .ok (decide (x = y)) w := by
  obtain ⟨ks, h1, h2, h3⟩ := keyOk_spec hk
  exact flat_eq (κ := fun _ => none) (Im := fun _ => False) (w := w) 20 kt ks h2 10000 (by omega) _ _ _ _ _ _ _ (kl_rel h1 x) (kl_rel h1 y) (enc_eq h1 x y) (kl_val h1 h3 x) (kl_val h1 h3 y)

theorem run_checkKey_flat (em : Bool) : ∀ (n : Nat) (t : TypeId) (s : List Bool), flatSz P n t = some s → ∀ m, n ≤ m → ∀ (ls : List Value) (v : Value), ls.length = s.length → valOf P t ls v → (Instr.checkKey em m t v).run P w = .ok () w
  | 0, t, s, h => by simp [flatSz] at h
  | n + 1, t, s, h => by
    intro m hm ls v hl hv
    obtain ⟨m, rfl⟩ : ∃ e, m = e + 1 := ⟨m - 1, by omega⟩
    cases ha : aggB P t with
    | false =>
      rcases flat_single h ha with ⟨_, kd, hu⟩ | ⟨_, hu⟩
      all_goals simp [Instr.checkKey, run_underlying hu]
    | true =>
      simp only [valOf, ha, if_true] at hv
      subst hv
      simp only [flatSz] at h
      unfold aggB at ha
      split at h
      · rename_i hu; simp [hu] at ha
      · rename_i hu; simp [hu] at ha
      · rename_i fs hu
        split at h
        · cases h
        split at h
        case h_2 => cases h
        rename_i tot htot
        split at h
        case isFalse => cases h
        cases h
        rw [Instr.checkKey]
        simp only [Sem.run_bind, run_underlying hu, Result.andThen_ok]
        rw [← Array.forIn_toList]
        have key : ∀ (fl : List Field) (acc : Nat) (tot : List Bool), flatFs P (flatSz P n) acc fl = some tot → ∀ (pl ls : List Value), ls.length = tot.length → pl.length = acc →
            (forIn fl PUnit.unit fun f _ => (do
              if f.name ≠ "_" then
                Instr.checkKey em m f.type (← part f.type (pl ++ ls).toArray f.offset)
                pure (ForInStep.yield PUnit.unit)
              else pure (ForInStep.yield PUnit.unit) : Sem (ForInStep PUnit)) : Sem PUnit).run P w = .ok PUnit.unit w := by
          intro fl
          induction fl with
          | nil => intro acc tot h pl ls hls hpl; simp
          | cons f fr ih =>
            intro acc tot h pl ls hls hpl
            simp only [flatFs] at h
            split at h
            case isFalse => cases h
            rename_i hname
            split at h
            case h_2 => cases h
            rename_i s1 hs1
            split at h
            case h_2 => cases h
            rename_i q hq
            cases h
            obtain ⟨a, b, rfl, ha1⟩ : ∃ a b, ls = a ++ b ∧ a.length = s1.length := ⟨ls.take s1.length, ls.drop s1.length, (List.take_append_drop _ _).symm, by rw [List.length_take, hls, List.length_append]; omega⟩
            have hpart : ∃ v, (part f.type (pl ++ (a ++ b)).toArray f.offset).run P w = .ok v w ∧ valOf P f.type a v := by
              cases hag : aggB P f.type with
              | true =>
                have hsz1 := flat_sz hs1 hag
                obtain ⟨dd, hdd⟩ : ∃ dd, P.underlying f.type = some dd := by
                  unfold aggB at hag
                  cases hdd : P.underlying f.type with
                  | none => simp [hdd] at hag
                  | some dd => exact ⟨dd, rfl⟩
                obtain ⟨i, hi⟩ := info_of_underlying hdd
                refine ⟨.agg a.toArray, ?_, by simp [valOf, hag]⟩
                simp only [part, Sem.run_bind, run_isAgg f.type hdd, Result.andThen_ok, hag, if_true, run_sizeOf' f.type hi, Sem.run_pure, hsz1, hname.2]
                congr 2
                apply Array.ext'
                rw [Array.toList_extract, List.extract_eq_take_drop]
                simp [← hpl, ← ha1]
              | false =>
                have h1 : s1.length = 1 := by rcases flat_single hs1 hag with ⟨rfl, _⟩ | ⟨rfl, _⟩ <;> rfl
                obtain ⟨v, rfl⟩ : ∃ v, a = [v] := by
                  cases a with
                  | nil => simp at ha1; omega
                  | cons v a => cases a with
                    | nil => exact ⟨v, rfl⟩
                    | cons _ _ => simp at ha1; omega
                obtain ⟨dd, hdd⟩ : ∃ dd, P.underlying f.type = some dd := by
                  rcases flat_single hs1 hag with ⟨_, kd, hu⟩ | ⟨_, hu⟩ <;> exact ⟨_, hu⟩
                refine ⟨v, ?_, by simp [valOf, hag]⟩
                have : (pl ++ ([v] ++ b)).toArray[f.offset]? = some v := by simp [hname.2, ← hpl]
                simp only [part, Sem.run_bind, run_isAgg f.type hdd, Result.andThen_ok, hag, Bool.false_eq_true, if_false, this, Sem.run_pure]
            obtain ⟨v, hv, ov⟩ := hpart
            have h5 := run_checkKey_flat em n f.type s1 hs1 m (by omega) a v ha1 ov
            have h6 := ih _ _ hq (pl ++ a) b (by simp [ha1] at hls; omega) (by rw [List.length_append, hpl, ha1])
            simp only [List.forIn_cons, Sem.run_bind, hname.1, ne_eq, not_false_eq_true, if_true, hv, Result.andThen_ok, h5, Sem.run_pure]
            rw [← List.append_assoc]
            exact h6
        have := key fs.toList 0 _ htot [] ls hl rfl
        simp at this ⊢
        rw [this]
        rfl
      · cases h

theorem run_checkKey_kv (em : Bool) {kt : TypeId} {ck : TC} (hk : keyOk P kt ck = true) (x : ck.den) : (Instr.checkKey em 10000 kt (ck.kv x)).run P w = .ok () w := by
  obtain ⟨ks, h1, h2, h3⟩ := keyOk_spec hk
  exact run_checkKey_flat em 20 kt ks h2 10000 (by omega) _ _ (kl_len h1 x) (kl_val h1 h3 x)

/-- The place of a key among a map's entries. -/
theorem run_find {kt : TypeId} {ck cv : TC} (hk : keyOk P kt ck = true) (x : ck.den) (es : List MapEntry) (m : List (ck.den × cv.den)) (hr : entsRel κ Im w ck cv m es) (hn : (m.map (·.1)).Nodup) :
    ((Instr.findKey kt (ck.kv x) es).run P w = .ok none w ∧ x ∉ m.map (·.1)) ∨
    ∃ A e B MA v MB, es = A ++ e :: B ∧ m = MA ++ (x, v) :: MB ∧ A.length = MA.length ∧ entsRel κ Im w ck cv MA A ∧ entsRel κ Im w ck cv MB B ∧ e.key = ck.kv x ∧ AV.rel κ Im w (cv.av v) e.val ∧
      (Instr.findKey kt (ck.kv x) es).run P w = .ok (some (A.length, e.val)) w := by
  obtain ⟨ks, h1, h2, h3⟩ := keyOk_spec hk
  -- where it stands
  have split : ∀ (es : List MapEntry) (m : List (ck.den × cv.den)), entsRel κ Im w ck cv m es → x ∉ m.map (·.1) ∨
      ∃ A e B MA v MB, es = A ++ e :: B ∧ m = MA ++ (x, v) :: MB ∧ A.length = MA.length ∧ x ∉ MA.map (·.1) ∧ entsRel κ Im w ck cv MA A ∧ entsRel κ Im w ck cv MB B ∧ e.key = ck.kv x ∧ AV.rel κ Im w (cv.av v) e.val := by
    intro es
    induction es with
    | nil => intro m hm; cases m with | nil => exact .inl (by simp) | cons _ _ => exact hm.elim
    | cons e es ih =>
      intro m hm
      cases m with
      | nil => exact hm.elim
      | cons p m =>
        obtain ⟨q1, q2, q3⟩ := hm
        by_cases hp : p.1 = x
        · refine .inr ⟨[], e, es, [], p.2, m, rfl, by rw [← hp]; rfl, rfl, by simp, trivial, q3, ?_, q2⟩
          rw [← hp]; exact (kv_rel h1 _ _).1 q1
        · rcases ih m q3 with h | ⟨A, e', B, MA, v, MB, r1, r2, r3, r4, r5, r6, r7, r8⟩
          · refine .inl ?_
            simp only [List.map_cons, List.mem_cons, not_or]
            exact ⟨fun e => hp e.symm, h⟩
          · refine .inr ⟨e :: A, e', B, p :: MA, v, MB, by rw [r1]; rfl, by rw [r2]; rfl, by simp [r3], ?_, ⟨q1, q2, r5⟩, r6, r7, r8⟩
            simp only [List.map_cons, List.mem_cons, not_or]
            exact ⟨fun e => hp e.symm, r4⟩
  have keys : ∀ (es : List MapEntry) (m : List (ck.den × cv.den)), entsRel κ Im w ck cv m es → ∀ e ∈ es, ∃ y ∈ m.map (·.1), e.key = ck.kv y := by
    intro es
    induction es with
    | nil => intro m _ e he; cases he
    | cons e es ih =>
      intro m hm
      cases m with
      | nil => exact hm.elim
      | cons p m =>
        intro e' he
        rcases List.mem_cons.1 he with rfl | he
        · exact ⟨p.1, by simp, (kv_rel h1 _ _).1 hm.1⟩
        · obtain ⟨y, hy, e1⟩ := ih m hm.2.2 e' he
          exact ⟨y, by simp [hy], e1⟩
  have ask : ∀ (l : List MapEntry) (i : Nat), (∀ e ∈ l, ∃ y, y ≠ x ∧ e.key = ck.kv y) → (Instr.findAsking kt (ck.kv x) l i).run P w = .ok none w := by
    intro l
    induction l with
    | nil => intro i _; simp [Instr.findAsking]
    | cons e l ih =>
      intro i hl
      obtain ⟨y, hy, e1⟩ := hl e (by simp)
      simp only [Instr.findAsking, e1, Sem.run_bind, run_keyEq hk, Result.andThen_ok, decide_eq_false (fun h => hy (Eq.symm h)), Bool.false_eq_true, if_false]
      exact ih (i + 1) fun z hz => hl z (by simp [hz])
  have ask2 : ∀ (A : List MapEntry) (e : MapEntry) (B : List MapEntry) (i : Nat), (∀ e ∈ A, ∃ y, y ≠ x ∧ e.key = ck.kv y) → e.key = ck.kv x → (Instr.findAsking kt (ck.kv x) (A ++ e :: B) i).run P w = .ok (some (i + A.length, e.val)) w := by
    intro A
    induction A with
    | nil => intro e B i _ he; simp [Instr.findAsking, he, run_keyEq hk]
    | cons a A ih =>
      intro e B i hA he
      obtain ⟨y, hy, e1⟩ := hA a (by simp)
      simp only [List.cons_append, Instr.findAsking, e1, Sem.run_bind, run_keyEq hk, Result.andThen_ok, decide_eq_false (fun h => hy (Eq.symm h)), Bool.false_eq_true, if_false]
      rw [ih e B (i + 1) (fun z hz => hA z (by simp [hz])) he]
      simp [Nat.add_assoc, Nat.add_comm 1]
  -- the two ways of looking are one
  have same : ∀ l : List MapEntry, (∀ e ∈ l, ∃ y, e.key = ck.kv y) → (Instr.findKey kt (ck.kv x) l).run P w = (Instr.findAsking kt (ck.kv x) l).run P w := by
    intro l hl
    cases hag : aggB P kt with
    | true =>
      refine run_findKey_eq w ?_ _ _
      unfold aggB at hag
      split at hag <;> simp_all
    | false =>
      rcases flat_single h2 hag with ⟨rfl, kd, hu⟩ | ⟨rfl, hu⟩
      · have hint : ∃ kk : IntKind, ∀ y : ck.den, ∃ n : Int, ck.kv y = .int kk n := by
          cases ck <;> simp [TC.ks] at h1
          · exact ⟨.i64, fun y => ⟨y, rfl⟩⟩
          · exact ⟨.u32, fun y => ⟨y, rfl⟩⟩
        obtain ⟨kk, hint⟩ := hint
        have now : ∀ (l : List MapEntry) (i : Nat), (∀ e ∈ l, ∃ y, e.key = ck.kv y) → ∃ r, Instr.findNow (.int kd) (ck.kv x) l i = some r ∧ (Instr.findAsking kt (ck.kv x) l i).run P w = .ok r w := by
          intro l
          induction l with
          | nil => intro i _; exact ⟨none, rfl, by simp [Instr.findAsking]⟩
          | cons e l ih =>
            intro i hl
            obtain ⟨y, e1⟩ := hl e (by simp)
            obtain ⟨r, r1, r2⟩ := ih (i + 1) fun z hz => hl z (by simp [hz])
            obtain ⟨a, ha⟩ := hint x
            obtain ⟨b, hb⟩ := hint y
            have hq := run_keyEq (w := w) hk x y
            have hd : decide (x = y) = (a == b) := by
              by_cases hxy : x = y
              · subst hxy; rw [ha] at hb; cases hb; simp
              · have : a ≠ b := fun e => hxy (kv_inj h1 (by rw [ha, hb, e]))
                simp [hxy, this]
            simp only [Instr.findNow, Instr.findAsking, e1, Sem.run_bind, hq, Result.andThen_ok, hd]
            rw [ha, hb]
            simp only [Instr.sameNow, if_true]
            cases hab : a == b with
            | true => exact ⟨_, rfl, by simp⟩
            | false => simp only [Bool.false_eq_true, if_false]; rw [ha] at r1 r2; exact ⟨r, r1, r2⟩
        obtain ⟨r, r1, r2⟩ := now l 0 hl
        simp [Instr.findKey, run_underlying hu, r1, r2]
      · cases ck <;> simp [TC.ks] at h1
  rcases split es m hr with h | ⟨A, e, B, MA, v, MB, r1, r2, r3, r4, r5, r6, r7, r8⟩
  · refine .inl ⟨?_, h⟩
    rw [same es (fun e he => let ⟨y, _, e1⟩ := keys es m hr e he; ⟨y, e1⟩)]
    exact ask es 0 fun e he => by
      obtain ⟨y, hy, e1⟩ := keys es m hr e he
      exact ⟨y, fun e => h (e ▸ hy), e1⟩
  · refine .inr ⟨A, e, B, MA, v, MB, r1, r2, r3, r5, r6, r7, r8, ?_⟩
    rw [same es (fun e he => let ⟨y, _, e1⟩ := keys es m hr e he; ⟨y, e1⟩), r1]
    have := ask2 A e B 0 (fun e he => by
      obtain ⟨y, hy, e1⟩ := keys A MA r5 e he
      exact ⟨y, fun e => r4 (e ▸ hy), e1⟩) r7
    simpa using this

theorem sealD_rel {a : AV} {y : Value} (hr : AV.rel κ Im w a y) (hs : ∀ i ∈ sealDIds a, Sealed κ Im w H i) : AV.rel κ Im w (sealD (H.getD · .dead) a) y := by
  cases a with
  | agg l =>
    simp only [sealD, AV.rel] at hr ⊢
    obtain ⟨ys, h1, h2⟩ := hr
    exact ⟨ys, h1, sealAVs_rel h2 hs⟩
  | _ => exact sealAV_rel hr hs

theorem Env.mapT_spec {E : Env} {t : TypeId} {kt et : TypeId} {ck cv : TC} (h : E.mapT t = some ⟨kt, et, ck, cv⟩) : E.P.underlying t = some (.map kt et) ∧ keyOk E.P kt ck = true := by
  unfold Env.mapT at h
  split at h
  · rename_i k' v' hu
    split at h
    · split at h
      · rename_i hk; cases h; exact ⟨hu, hk⟩
      · cases h
    · cases h
  · cases h

theorem TC.rd_law {cc : TC} {a : AV} {x : cc.den} (h : cc.rd a = some x) : Ref a (cc.av x) := by
  intro κ Im w y hr
  unfold TC.rd at h
  split at h
  · rename_i hc
    split at h
    · rename_i l
      simp only [AV.rel] at hr
      obtain ⟨ys, rfl, h2⟩ := hr
      simp only [TC.av, hc, if_true, AV.rel]
      exact ⟨ys, rfl, TC.dec_law h κ Im w _ h2⟩
    · cases h
  · rename_i hc
    have h2 := TC.dec_law h κ Im w [y] (by simp only [AV.rels]; exact ⟨y, [], rfl, hr, rfl⟩)
    cases cc <;> first | cases hc | skip
    all_goals
      simp only [TC.enc, AV.rels] at h2
      obtain ⟨y', r, e, h3, _⟩ := h2
      cases e
      exact h3

theorem zeroOf_sound {cc : TC} {t : TypeId} {d : cc.den} (h : zeroOf P cc t = some d) : ∃ z, (zeroValue t).run P w = .ok z w ∧ AV.rel κ Im w (cc.av d) z := by
  unfold zeroOf at h
  split at h
  · rename_i z hz
    cases hi : P.info? t with
    | none => simp [hi] at hz
    | some i =>
      have hz' : i.zero = some z := by simpa [hi] using hz
      exact ⟨z, by simp [zeroValue, typeInfo, hi, hz'], TC.rd_law h _ _ _ _ (toAV_rel z)⟩
  · cases h

theorem castM_spec {ck cv ck' cv' : TC} {m : List (ck'.den × cv'.den)} {l : List (ck.den × cv.den)} (h : castM ck cv ck' cv' m = some l) : ∃ (e : ck' = ck) (e' : cv' = cv), e ▸ e' ▸ m = l := by
  unfold castM at h
  split at h
  · rename_i e
    split at h
    · rename_i e'; subst e; subst e'; cases h; exact ⟨rfl, rfl, rfl⟩
    · cases h
  · cases h

/-- What a map's value says of its block. -/
theorem mapOf_sound {ck cv : TC} {i : Nat} {l : List (ck.den × cv.den)} {y : Value} (hst : St c κ Im w H) (h : mapOf ck cv (H.getD · .dead) (.hd i) = some l) (hr : AV.rel κ Im w (.hd i) y) :
    H[i]? = some (.map ck cv l) ∧ ∃ b es clock, κ i = some (.map (some b)) ∧ y = .map (some b) ∧ w.heap[b]? = some (.map es clock) ∧ (∃ m', m'.Perm l ∧ entsRel κ Im w ck cv m' es.toList) ∧
      (∀ e ∈ es.toList, e.born < clock) ∧ (es.toList.map (·.born)).Nodup ∧ (l.map (·.1)).Nodup := by
  simp only [mapOf] at h
  split at h
  · rename_i ck' cv' m ho
    obtain ⟨rfl, rfl, rfl⟩ := castM_spec h
    have hi := getD_dead (H := H) (by simp) ho
    obtain ⟨D, b, es, clock, h1, h2, h3, h4, h5, h6, _⟩ := hst.obj hi
    simp only [AV.rel] at hr
    rw [h1] at hr
    obtain ⟨hr, _⟩ := hr
    cases hr
    exact ⟨hi, b, es, clock, h1, rfl, h2, h3, h4, h5, h6⟩
  · cases h

theorem key_rel {kt : TypeId} {ck : TC} (hk : keyOk P kt ck = true) {k : AV} {x : ck.den} {yk : Value} (h : ck.rd k = some x) (hr : AV.rel κ Im w k yk) : yk = ck.kv x := by
  obtain ⟨ks, h1, _, _⟩ := keyOk_spec hk
  exact (kv_rel h1 _ _).1 (TC.rd_law h _ _ _ _ hr)

theorem mget_perm {α β : Type} [DecidableEq α] {x : α} {v : β} {m l : List (α × β)} (hp : m.Perm l) (hn : (l.map (·.1)).Nodup) (h : (x, v) ∈ m) : mget x l = some v := mget_mem hn (hp.mem_iff.1 h)

theorem lookup_sound {E : Env} {t : TypeId} {ok : Bool} {m kk : AV} {ym yk : Value} (hst : St c κ Im w H) (hm : AV.rel κ Im w m ym) (hkr : AV.rel κ Im w kk yk)
    (hs : (effLookup E t ok m kk (H.getD · .dead)).sat K) (hk : Cont c κ Im w H K k) : Gives E.P (do pure (.value (← Instr.lookup t ym yk ok))) w k := by
  unfold effLookup at hs
  split at hs
  case h_2 => exact hs.elim
  rename_i kt et ck cv hT
  obtain ⟨hu, hkey⟩ := Env.mapT_spec hT
  split at hs
  case h_2 => exact hs.elim
  rename_i x z l hx hz hl
  obtain rfl := key_rel hkey hx hkr
  obtain ⟨zv, hz1, hz2⟩ := zeroOf_sound (κ := κ) (Im := Im) (w := w) hz
  -- what is found
  have key : ∃ v, AV.rel κ Im w (cv.av ((mget x l).getD z)) v ∧ (Instr.lookup t ym (ck.kv x) ok).run E.P w = .ok (if ok then .tuple #[v, .bool (mget x l).isSome] else v) w := by
    cases m with
    | hd i =>
      obtain ⟨hi, b, es, clock, h1, rfl, h2, ⟨m', h3, h3'⟩, h4, h5, h6⟩ := mapOf_sound hst hl hm
      have hg : (getObj b).run E.P w = .ok (.map es clock) w := by simp [getObj, Sem.run, h2]
      have hc := run_checkKey_kv (w := w) es.isEmpty hkey x
      rcases run_find hkey x es.toList m' h3' ((h3.map (·.1)).nodup_iff.2 h6) with ⟨f1, f2⟩ | ⟨A, e, B, MA, v, MB, r1, r2, r3, r4, r5, r6, r7, f1⟩
      · have : mget x l = none := mget_none fun h => f2 ((h3.map (·.1)).mem_iff.2 h)
        refine ⟨zv, by rw [this]; exact hz2, ?_⟩
        simp [Instr.lookup, run_underlying hu, hg, hc, f1, hz1, this]
      · have : mget x l = some v := mget_perm h3 h6 (by rw [r2]; simp)
        refine ⟨e.val, by rw [this]; exact r7, ?_⟩
        simp [Instr.lookup, run_underlying hu, hg, hc, f1, this]
    | v val =>
      unfold mapOf at hl
      split at hl
      · cases ‹AV.v val = _›
      · rename_i heq
        cases heq
        cases hl
        simp only [AV.rel] at hm
        subst hm
        have hc := run_checkKey_kv (w := w) true hkey x
        have hf : (Instr.findKey kt (ck.kv x) []).run E.P w = .ok none w := by
          obtain ⟨ks, q1, q2, q3⟩ := keyOk_spec hkey
          obtain ⟨dd, hdd⟩ : ∃ dd, E.P.underlying kt = some dd := by
            cases hdd : E.P.underlying kt with
            | some dd => exact ⟨dd, rfl⟩
            | none => simp [flatSz, hdd] at q2
          simp [Instr.findKey, run_underlying hdd, Instr.findNow]
        refine ⟨zv, hz2, ?_⟩
        simp [Instr.lookup, run_underlying hu, hc, hf, hz1, mget]
      · cases hl
    | _ => simp [mapOf] at hl
  obtain ⟨v, hv, hrun⟩ := key
  cases ok with
  | true =>
    refine gives_value (y := .tuple #[v, .bool (mget x l).isSome]) (w' := w) (by simp [hrun]) (hk.same hst hs ?_)
    simp only [AV.rel, AV.rels]
    exact ⟨_, rfl, _, _, rfl, hv, _, _, rfl, rfl, rfl⟩
  | false => exact gives_value (y := v) (w' := w) (by simp [hrun]) (hk.same hst hs hv)

def putB (w : World) (b : Nat) (o : Obj) : World := { w with heap := w.heap.setIfInBounds b o }
theorem run_putB {b : Nat} {es : Array MapEntry} {clock : Nat} (h : w.heap[b]? = some (.map es clock)) (o : Obj) : (setObj b o).run P w = .ok () (putB w b o) := by
  simp [setObj, Sem.run, h, putB]
theorem putB_turn {b : Nat} (hlt : b < w.heap.size) (hnl : lstat w.heap[b]? = none) (o : Obj) : Turn (some b) w (putB w b o) ∧ (putB w b o).heap[b]? = some o := by
  refine ⟨⟨rfl, rfl, ⟨rfl, Nat.le_refl _, Recs.of_but hnl fun x _ hne => by simp [putB, Array.getElem?_setIfInBounds, Ne.symm hne]⟩, ?_, fun x hx hne => ?_⟩, ?_⟩
  · simp [putB]
  · have : x ≠ b := fun e => hne (by rw [e])
    simp [putB, Array.getElem?_setIfInBounds, Ne.symm this]
  · simp [putB, hlt]

theorem entsRel_append {ck cv : TC} : ∀ {MA MB : List (ck.den × cv.den)} {A B : List MapEntry}, entsRel κ Im w ck cv MA A → entsRel κ Im w ck cv MB B → entsRel κ Im w ck cv (MA ++ MB) (A ++ B)
  | [], _, [], _, _, h => h
  | [], _, _ :: _, _, h, _ => h.elim
  | _ :: _, _, [], _, h, _ => h.elim
  | _ :: _, _, _ :: _, _, h, h' => ⟨h.1, h.2.1, entsRel_append h.2.2 h'⟩

theorem mdel_split {α β : Type} [DecidableEq α] {x : α} {v : β} {MA MB m : List (α × β)} (hp : (MA ++ (x, v) :: MB).Perm m) (hn : (m.map (·.1)).Nodup) : (MA ++ MB).Perm (mdel x m) := by
  have h1 : (mdel x (MA ++ (x, v) :: MB)).Perm (mdel x m) := hp.filter _
  have hn' : ((MA ++ (x, v) :: MB).map (·.1)).Nodup := (hp.map (·.1)).nodup_iff.2 hn
  have h2 : mdel x (MA ++ (x, v) :: MB) = MA ++ MB := by
    rw [List.map_append, List.map_cons, List.nodup_append] at hn'
    obtain ⟨n1, n2, n3⟩ := hn'
    rw [List.nodup_cons] at n2
    have e1 : mdel x MA = MA := mdel_of_notMem fun h => n3 x h x (by simp) rfl
    have e2 : mdel x MB = MB := mdel_of_notMem n2.1
    unfold mdel at e1 e2 ⊢
    rw [List.filter_append, List.filter_cons, e1, e2]
    simp
  rw [← h2]; exact h1

theorem makeMap_sound {E : Env} {t : TypeId} {id : Nat} (hst : St c κ Im w H) (hid : H[id]? = some .free) (hs : (effMakeMap E t id).sat K) (hk : Cont c κ Im w H K k) :
    Gives E.P (do pure (.value (← Instr.makeMap t none))) w k := by
  unfold effMakeMap at hs
  split at hs
  case h_2 => exact hs.elim
  rename_i kt et ck cv hT
  have hnew : (w.alloc (.map #[] 0)).heap[w.heap.size]? = some (.map #[] 0) := by show (w.heap.push _)[_]? = _; simp
  refine gives_value (y := .map (some w.heap.size)) (w' := w.alloc (.map #[] 0)) (by simp [Instr.makeMap]) ?_
  obtain ⟨s1, s2⟩ := hst.lay hid (Turn.alloc w (.map #[] 0)) w.heap.size (Nat.le_refl _) (by simp) (.map ck cv []) (.map (some w.heap.size)) (fun κ' hle e =>
    ⟨w.heap.size, #[], 0, rfl, hnew, ⟨[], .refl _, trivial⟩, by simp, by simp, by simp, fun x => Iff.rfl⟩)
  refine hk _ _ _ _ _ _ hs s2 s1 ?_
  simp only [AV.rel]
  exact ⟨setK_same _ _ _, rfl⟩

theorem delete_sound {E : Env} {ats : Array TypeId} {ty : TypeId} {m kk : AV} {ym yk : Value} (hst : St c κ Im w H) (hm : AV.rel κ Im w m ym) (hkr : AV.rel κ Im w kk yk)
    (hs : (effDelete E ats m kk (H.getD · .dead)).sat K) (hk : Cont c κ Im w H K k) : Gives E.P (do pure (.value (← Builtin.delete_ ats ty #[ym, yk]))) w k := by
  unfold effDelete at hs
  split at hs
  · exact hs.elim
  rename_i t ht
  split at hs
  case h_2 => exact hs.elim
  rename_i kt et ck cv hT
  obtain ⟨hu, hkey⟩ := Env.mapT_spec hT
  split at hs
  case h_2 => exact hs.elim
  rename_i x i hx
  split at hs
  case h_2 => exact hs.elim
  rename_i l hl
  obtain rfl := key_rel hkey hx hkr
  obtain ⟨hi, b, es, clock, h1, rfl, h2, ⟨m', h3, h3'⟩, h4, h5, h6⟩ := mapOf_sound hst hl hm
  have hlt := (Array.getElem?_eq_some_iff.1 h2).1
  have hg : (getObj b).run E.P w = .ok (.map es clock) w := by simp [getObj, Sem.run, h2]
  have hc := run_checkKey_kv (w := w) es.isEmpty hkey x
  have hown : ∀ D, (AObj.map ck cv l).holds κ Im w (κ i) D → ∀ x, D x ↔ x = b := fun D hD => by
    obtain ⟨b2, _, _, e1, _, _, _, _, _, e2⟩ := hD
    rw [h1] at e1; cases e1; exact e2
  have fin : ∀ es' : Array MapEntry, (∃ m', m'.Perm (mdel x l) ∧ entsRel κ Im w ck cv m' es'.toList) → (∀ e ∈ es'.toList, e ∈ es.toList) → (es'.toList.map (·.born)).Nodup →
      (Builtin.delete_ ats ty #[.map (some b), ck.kv x]).run E.P w = .ok (.tuple #[]) (putB w b (.map es' clock)) → Gives E.P (do pure (.value (← Builtin.delete_ ats ty #[.map (some b), ck.kv x]))) w k := by
    intro es' hp hsub hb hrun
    obtain ⟨t1, t2⟩ := putB_turn (w := w) hlt (by rw [h2]; rfl) (.map es' clock)
    obtain ⟨s1, s2⟩ := hst.turn hi t1 hown (o' := .map ck cv (mdel x l)) (fun hle => by
      obtain ⟨m2, p1, p2⟩ := hp
      exact ⟨b, es', clock, h1, t2, ⟨m2, p1, entsRel_mono hle _ _ p2⟩, fun e he => h4 e (hsub e he), hb, mdel_nodup h6, fun x => Iff.rfl⟩)
    refine gives_value (y := .tuple #[]) (w' := putB w b (.map es' clock)) (by simp [hrun]) (hk _ _ _ _ _ _ hs s2 s1 ?_)
    simp only [AV.rel, AV.rels]
    exact ⟨#[], rfl, rfl⟩
  rcases run_find hkey x es.toList m' h3' ((h3.map (·.1)).nodup_iff.2 h6) with ⟨f1, f2⟩ | ⟨A, e, B, MA, v, MB, r1, r2, r3, r4, r5, r6, r7, f1⟩
  · have hnot : x ∉ l.map (·.1) := fun h => f2 ((h3.map (·.1)).mem_iff.2 h)
    refine fin es ⟨m', by rw [mdel_of_notMem hnot]; exact h3, h3'⟩ (fun _ h => h) h5 ?_
    simp [Builtin.delete_, ht, run_underlying hu, hg, hc, f1, run_putB h2]
  · have her : (es.eraseIdxIfInBounds A.length).toList = A ++ B := by
      have hlt' : A.length < es.size := by rw [← Array.length_toList, r1]; simp
      simp [Array.eraseIdxIfInBounds, hlt', r1, List.eraseIdx_append_of_length_le]
    refine fin (es.eraseIdxIfInBounds A.length) ⟨MA ++ MB, mdel_split (by rw [← r2]; exact h3) h6, by rw [her]; exact entsRel_append r4 r5⟩ ?_ ?_ ?_
    · rw [her, r1]; intro e' he; rcases List.mem_append.1 he with h | h <;> simp [h]
    · rw [her]
      rw [r1] at h5
      refine List.Nodup.sublist ?_ h5
      rw [List.map_append, List.map_append, List.map_cons]
      exact List.Sublist.append (List.Sublist.refl _) (List.sublist_cons_self _ _)
    · simp [Builtin.delete_, ht, run_underlying hu, hg, hc, f1, run_putB h2]

theorem mapUpdate_sound {E : Env} {t : TypeId} {m kk v : AV} {ym yk yv : Value} (hst : St c κ Im w H) (hm : AV.rel κ Im w m ym) (hkr : AV.rel κ Im w kk yk) (hvr : AV.rel κ Im w v yv)
    (hs : (effMapUpdate E t m kk v (H.getD · .dead)).sat K) (hk : Cont c κ Im w H K k) : Gives E.P (do Instr.mapUpdate t ym yk yv; pure .skip) w k := by
  unfold effMapUpdate at hs
  split at hs
  case h_2 => exact hs.elim
  rename_i kt et ck cv hT
  obtain ⟨hu, hkey⟩ := Env.mapT_spec hT
  split at hs
  case h_2 => exact hs.elim
  rename_i x y i hx hy
  split at hs
  case h_2 => exact hs.elim
  rename_i l hl hni
  obtain rfl := key_rel hkey hx hkr
  obtain ⟨hi, b, es, clock, h1, rfl, h2, ⟨m', h3, h3'⟩, h4, h5, h6⟩ := mapOf_sound hst hl hm
  have hlt := (Array.getElem?_eq_some_iff.1 h2).1
  have hg : (getObj b).run E.P w = .ok (.map es clock) w := by simp [getObj, Sem.run, h2]
  have hc := run_checkKey_kv (w := w) false hkey x
  -- what is put in stays as it is from here on
  obtain ⟨Im1, s1, s2, s3⟩ := seal_all (sealDIds v) hst
  have hni' : i ∉ sealDIds v := by simpa using hni
  have hi1 : (updH H (deadAll (sealDIds v)))[i]? = some (.map ck cv l) := by rw [updH_dead_ne H _ i hni']; exact hi
  have hvr1 : AV.rel κ Im1 w (cv.av y) yv := TC.rd_law hy _ _ _ _ (sealD_rel (AV.rel_mono s2 _ _ hvr) s3)
  have hown : ∀ D, (AObj.map ck cv l).holds κ Im1 w (κ i) D → ∀ x, D x ↔ x = b := fun D hD => by
    obtain ⟨b2, _, _, e1, _, _, _, _, _, e2⟩ := hD
    rw [h1] at e1; cases e1; exact e2
  have fin : ∀ (es' : Array MapEntry) (clock' : Nat), (∃ m', m'.Perm (mput ck.lt x y l) ∧ entsRel κ Im1 w ck cv m' es'.toList) → (∀ e ∈ es'.toList, e.born < clock') → (es'.toList.map (·.born)).Nodup →
      (Instr.mapUpdate t (.map (some b)) (ck.kv x) yv).run E.P w = .ok () (putB w b (.map es' clock')) → Gives E.P (do Instr.mapUpdate t (.map (some b)) (ck.kv x) yv; pure .skip) w k := by
    intro es' clock' hp hsub hb hrun
    obtain ⟨t1, t2⟩ := putB_turn (w := w) hlt (by rw [h2]; rfl) (.map es' clock')
    obtain ⟨u1, u2⟩ := s1.turn hi1 t1 hown (o' := .map ck cv (mput ck.lt x y l)) (fun hle => by
      obtain ⟨m2, p1, p2⟩ := hp
      exact ⟨b, es', clock', h1, t2, ⟨m2, p1, entsRel_mono hle _ _ p2⟩, hsub, hb, mput_nodup h6, fun x => Iff.rfl⟩)
    refine gives_skip (w' := putB w b (.map es' clock')) (by simp [hrun]) (hk _ _ _ _ _ _ hs (s2.trans u2) ?_ (by simp [AV.rel]))
    rw [updH_append]
    exact u1
  have h3s := entsRel_mono s2 _ _ h3'
  rcases run_find hkey x es.toList m' h3' ((h3.map (·.1)).nodup_iff.2 h6) with ⟨f1, f2⟩ | ⟨A, e, B, MA, v0, MB, r1, r2, r3, r4, r5, r6, r7, f1⟩
  · have hnot : x ∉ l.map (·.1) := fun h => f2 ((h3.map (·.1)).mem_iff.2 h)
    obtain ⟨ks, q1, _, _⟩ := keyOk_spec hkey
    refine fin (es.push { key := ck.kv x, val := yv, born := clock }) (clock + 1) ⟨m' ++ [(x, y)], ?_, ?_⟩ ?_ ?_ ?_
    · refine List.Perm.trans ?_ (mput_perm ck.lt x y l).symm
      rw [mdel_of_notMem hnot]
      exact (List.perm_append_comm (l₁ := m') (l₂ := [(x, y)])).trans (h3.cons _)
    · rw [Array.toList_push]
      exact entsRel_append h3s ⟨(kv_rel q1 _ _).2 rfl, hvr1, trivial⟩
    · intro e he
      rw [Array.toList_push, List.mem_append] at he
      rcases he with he | he
      · have := h4 e he; omega
      · simp only [List.mem_singleton] at he; subst he; simp
    · rw [Array.toList_push, List.map_append, List.nodup_append]
      refine ⟨h5, by simp, fun a ha b' hb' => ?_⟩
      simp only [List.map_cons, List.map_nil, List.mem_singleton] at hb'
      obtain ⟨e, he, rfl⟩ := List.mem_map.1 ha
      have := h4 e he
      omega
    · simp [Instr.mapUpdate, run_underlying hu, hg, hc, f1, run_putB h2]
  · obtain ⟨ks, q1, _, _⟩ := keyOk_spec hkey
    have hget : es[A.length]? = some e := by rw [← Array.getElem?_toList, r1]; simp
    have hkeep : (Instr.keyThatStays (ck.kv x) (ck.kv x)).run E.P w = .ok (ck.kv x) w := by
      unfold Instr.keyThatStays
      rw [same_kv q1 x 9999]; simp
    have hmod : (es.modify A.length fun e => { e with key := ck.kv x, val := yv }).toList = A ++ { e with key := ck.kv x, val := yv } :: B := by
      rw [Array.toList_modify, r1]
      have : ∀ (A : List MapEntry) (f : MapEntry → MapEntry), (A ++ e :: B).modify A.length f = A ++ f e :: B := by
        intro A f; induction A with
        | nil => simp
        | cons a A ih => simp [ih]
      exact this A _
    refine fin (es.modify A.length fun e => { e with key := ck.kv x, val := yv }) clock ⟨MA ++ (x, y) :: MB, ?_, ?_⟩ ?_ ?_ ?_
    · refine List.Perm.trans ?_ (mput_perm ck.lt x y l).symm
      refine List.perm_middle.trans ((mdel_split (by rw [← r2]; exact h3) h6).cons _)
    · rw [hmod]
      exact entsRel_append (entsRel_mono s2 _ _ r4) ⟨(kv_rel q1 _ _).2 rfl, hvr1, entsRel_mono s2 _ _ r5⟩
    · rw [hmod]
      intro e' he
      rcases List.mem_append.1 he with h | h
      · exact h4 e' (by rw [r1]; simp [h])
      · rcases List.mem_cons.1 h with rfl | h
        · exact h4 e (by rw [r1]; simp)
        · exact h4 e' (by rw [r1]; simp [h])
    · rw [hmod]
      rw [r1] at h5
      simpa using h5
    · simp [Instr.mapUpdate, run_underlying hu, hg, hc, f1, hget, r6, hkeep, run_putB h2]
end
end Go.X

/- Ranges over maps. -/
namespace Go.X
open Go Go.ChangeMaps
section
variable {P : Program} {c : Ctx} {κ : Kap} {Im : Nat → Prop} {w : World} {H : List AObj} {K : AV → List (Nat × AObj) → Prop} {k : Value → World → Prop}

/-- Two objects at once: the one lends, a new one holds. -/
theorem St.lend {w' : World} (h : St c κ Im w H) {i id : Nat} {o o' : AObj} {v : Value} {Dn : Nat → Prop} (hi : H[i]? = some o) (hid : H[id]? = some .free) (hne : i ≠ id) (ht : Turn none w w')
    (hκ : ∃ u, κ i = some u) (hD : ∀ D, o.holds κ Im w (κ i) D → ∀ b, Dn b → D b ∨ (w.heap.size ≤ b ∧ b < w'.heap.size))
    (ho : ∀ D, o.holds κ Im w (κ i) D → ∀ κ', Le κ κ' Im Im w w' → κ' id = some v → κ' i = κ i → o'.holds κ' Im w' (some v) Dn) :
    St c (setK κ id v) Im w' ((H.set i .lent).set id o') ∧ Le κ (setK κ id v) Im Im w w' := by
  have hlt : id < H.length := (List.getElem?_eq_some_iff.1 hid).1
  have hlti : i < H.length := (List.getElem?_eq_some_iff.1 hi).1
  have hsame : ∀ b, b < w.heap.size → w'.heap[b]? = w.heap[b]? := fun b hb => ht.block b hb (by simp)
  have hs := ht.size
  obtain ⟨⟨D, h1, h2, h3⟩, hfresh, him, hkeep, hframe, hsize, hk0, hos, htape, hout⟩ := h
  have hnone : κ id = none := (h1 id _ hid).1
  have hle : Le κ (setK κ id v) Im Im w w' := le_setK v hnone (fun b hb => hsame b (him b hb).1) ht.output.2.2
  have hoi := h1 i o hi
  have hDn := hD _ hoi
  refine ⟨⟨⟨fun j b => if j = id then Dn b else (j ≠ i ∧ D j b), ?_, ?_, ?_⟩, ?_, ?_, hkeep, ?_, by omega, ?_, ht.os.trans hos, ht.tape.trans htape, ht.output.trans hout⟩, hle⟩
  · intro j x hj
    by_cases e : j = id
    · subst e
      rw [List.getElem?_set_self (by simpa using hlt)] at hj
      cases hj
      simp only [setK_same, if_true]
      exact ho _ hoi _ hle (setK_same _ _ _) (setK_ne _ _ hne)
    · rw [List.getElem?_set_ne (fun h => e h.symm)] at hj
      rw [setK_ne _ _ e]
      simp only [e, if_false]
      by_cases e2 : j = i
      · subst e2
        rw [List.getElem?_set_self hlti] at hj
        cases hj
        exact ⟨hκ, fun b hb => hb.1 rfl⟩
      · rw [List.getElem?_set_ne (fun h => e2 h.symm)] at hj
        have : (fun b => j ≠ i ∧ D j b) = D j := funext fun b => propext ⟨fun h => h.2, fun h => ⟨e2, h⟩⟩
        rw [this]
        exact AObj.holds_mono hle (fun b hb => hsame b (h2 j b hb).2.1) x (h1 j x hj)
  · intro j b hb
    by_cases e : j = id
    · subst e
      simp only [if_true] at hb
      refine ⟨by simpa using hlt, ?_⟩
      rcases hDn b hb with h | ⟨h, h'⟩
      · obtain ⟨_, a2, a3, a4⟩ := h2 i b h
        exact ⟨by omega, a3, a4⟩
      · exact ⟨h', fun hI => by have := (him b hI).1; omega, .inr (by omega)⟩
    · simp only [e, if_false] at hb
      obtain ⟨a1, a2, a3, a4⟩ := h2 j b hb.2
      exact ⟨by simpa using a1, by omega, a3, a4⟩
  · intro j j' b hj hj'
    have old : ∀ j b, (j ≠ i ∧ D j b) → Dn b → False := fun j b hb hn => by
      rcases hDn b hn with h | ⟨h, _⟩
      · exact hb.1 (h3 _ _ _ hb.2 h)
      · have := (h2 j b hb.2).2.1; omega
    by_cases ej : j = id <;> by_cases ej' : j' = id <;> simp only [ej, ej', if_true, if_false] at hj hj'
    · rw [ej, ej']
    · exact (old _ _ hj' hj).elim
    · exact (old _ _ hj hj').elim
    · exact h3 _ _ _ hj.2 hj'.2
  · intro j hj
    have hj' : H.length ≤ j := by simpa using hj
    rw [setK_ne _ _ (by omega)]
    exact hfresh j hj'
  · intro b hb
    obtain ⟨a1, a2⟩ := him b hb
    exact ⟨by omega, a2⟩
  · intro b hb hM
    exact (hsame b (by omega)).trans (hframe b hb hM)
  · intro j u e
    exact hle.k _ _ (hk0 j u e)

/-- .. and back again. -/
theorem St.back {w' : World} (h : St c κ Im w H) {i j : Nat} {o o' : AObj} {g : Option Nat} {D1 Dn : Nat → Prop} (hi : H[i]? = some .lent) (hj : H[j]? = some o) (hne : i ≠ j) (ht : Turn g w w')
    (hg : ∀ b, g = some b → D1 b) (hD1 : ∀ D, o.holds κ Im w (κ j) D → ∀ b, D b ↔ D1 b) (hDn : ∀ b, Dn b → D1 b) (ho : Le κ κ Im Im w w' → o'.holds κ Im w' (κ i) Dn) :
    St c κ Im w' ((H.set j .dead).set i o') ∧ Le κ κ Im Im w w' := by
  have hlti : i < H.length := (List.getElem?_eq_some_iff.1 hi).1
  have hltj : j < H.length := (List.getElem?_eq_some_iff.1 hj).1
  have hs := ht.size
  obtain ⟨⟨D, h1, h2, h3⟩, hfresh, him, hkeep, hframe, hsize, hk0, hos, htape, hout⟩ := h
  have hDj := hD1 _ (h1 j o hj)
  have hsame : ∀ b, b < w.heap.size → ¬ D1 b → w'.heap[b]? = w.heap[b]? := fun b hb hn => ht.block b hb fun e => hn (hg b e.symm)
  have hImn : ∀ b, Im b → ¬ D1 b := fun b hb hd => (h2 j b ((hDj b).2 hd)).2.2.1 hb
  have hle : Le κ κ Im Im w w' := ⟨fun _ _ e => e, fun _ e => e, fun b hb => hsame b (him b hb).1 (hImn b hb), ht.output.2.2⟩
  refine ⟨⟨⟨fun k b => if k = i then Dn b else (k ≠ j ∧ D k b), ?_, ?_, ?_⟩, ?_, ?_, hkeep, ?_, by omega, ?_, ht.os.trans hos, ht.tape.trans htape, ht.output.trans hout⟩, hle⟩
  · intro k x hk
    by_cases e : k = i
    · subst e
      rw [List.getElem?_set_self (by simpa using hlti)] at hk
      cases hk
      simp only [if_true]
      exact ho hle
    · rw [List.getElem?_set_ne (fun h => e h.symm)] at hk
      simp only [e, if_false]
      by_cases e2 : k = j
      · subst e2
        rw [List.getElem?_set_self hltj] at hk
        cases hk
        exact fun b hb => hb.1 rfl
      · rw [List.getElem?_set_ne (fun h => e2 h.symm)] at hk
        have : (fun b => k ≠ j ∧ D k b) = D k := funext fun b => propext ⟨fun h => h.2, fun h => ⟨e2, h⟩⟩
        rw [this]
        exact AObj.holds_mono hle (fun b hb => hsame b (h2 k b hb).2.1 fun hd => e2 (h3 _ _ _ hb ((hDj b).2 hd))) x (h1 k x hk)
  · intro k b hb
    by_cases e : k = i
    · subst e
      simp only [if_true] at hb
      obtain ⟨_, a2, a3, a4⟩ := h2 j b ((hDj b).2 (hDn b hb))
      exact ⟨by simpa using hlti, by omega, a3, a4⟩
    · simp only [e, if_false] at hb
      obtain ⟨a1, a2, a3, a4⟩ := h2 k b hb.2
      exact ⟨by simpa using a1, by omega, a3, a4⟩
  · intro k k' b hk hk'
    have old : ∀ k b, (k ≠ j ∧ D k b) → Dn b → False := fun k b hb hn => hb.1 (h3 _ _ _ hb.2 ((hDj b).2 (hDn b hn)))
    by_cases e : k = i <;> by_cases e' : k' = i <;> simp only [e, e', if_true, if_false] at hk hk'
    · rw [e, e']
    · exact (old _ _ hk' hk).elim
    · exact (old _ _ hk hk').elim
    · exact h3 _ _ _ hk.2 hk'.2
  · intro k hk
    exact hfresh k (by simpa using hk)
  · intro b hb
    obtain ⟨a1, a2⟩ := him b hb
    exact ⟨by omega, a2⟩
  · intro b hb hM
    refine (hsame b (by omega) fun hd => ?_).trans (hframe b hb hM)
    rcases (h2 j b ((hDj b).2 hd)).2.2.2 with h | h
    · exact hM h
    · omega
  · intro k u e
    exact hk0 k u e

theorem range_sound {E : Env} {t : TypeId} {m : AV} {ym : Value} {id : Nat} (hst : St c κ Im w H) (hid : H[id]? = some .free) (hm : AV.rel κ Im w m ym) (hs : (effRange E t m id (H.getD · .dead)).sat K) (hk : Cont c κ Im w H K k) :
    Gives E.P (do pure (.value (← Instr.range t ym))) w k := by
  unfold effRange at hs
  split at hs
  case h_2 => exact hs.elim
  rename_i kt et ck cv i hT
  obtain ⟨hu, hkey⟩ := Env.mapT_spec hT
  split at hs
  case h_2 => exact hs.elim
  rename_i l hl
  obtain ⟨hi, b, es, clock, h1, rfl, h2, ⟨m', h3, h3'⟩, h4, h5, h6⟩ := mapOf_sound hst hl hm
  have hg : (getObj b).run E.P w = .ok (.map es clock) w := by simp [getObj, Sem.run, h2]
  have hne : i ≠ id := fun e => by subst e; rw [hi] at hid; cases hid
  have hblt := (Array.getElem?_eq_some_iff.1 h2).1
  have hnew : (w.alloc (.mapIter (some b) clock #[] clock)).heap[w.heap.size]? = some (.mapIter (some b) clock #[] clock) := by show (w.heap.push _)[_]? = _; simp
  have hold : (w.alloc (.mapIter (some b) clock #[] clock)).heap[b]? = some (.map es clock) := by
    show (w.heap.push _)[_]? = _
    rw [Array.getElem?_push, if_neg (by omega)]; exact h2
  refine gives_value (y := .pointer (some ⟨w.heap.size, 0, none⟩)) (w' := w.alloc (.mapIter (some b) clock #[] clock)) (by simp [Instr.range, run_underlying hu, hg]) ?_
  obtain ⟨s1, s2⟩ := hst.lend (v := .pointer (some ⟨w.heap.size, 0, none⟩)) (o' := .rng i ck cv l [] none) (Dn := fun x => x = b ∨ x = w.heap.size) hi hid hne (Turn.alloc w _) ⟨_, h1⟩
    (fun D hD x hx => by
      obtain ⟨b2, _, _, e1, _, _, _, _, _, e2⟩ := hD
      rw [h1] at e1; cases e1
      rcases hx with rfl | rfl
      · exact .inl ((e2 _).2 rfl)
      · exact .inr ⟨Nat.le_refl _, by simp⟩)
    (fun D hD κ' hle hκ' hκi => ⟨w.heap.size, b, es, clock, #[], rfl, by rw [hκi]; exact h1, hold, hnew, ⟨m', h3, entsRel_mono hle _ _ h3'⟩, h4, h5, h6, trivial, fun x => Iff.rfl⟩)
  refine hk _ _ _ _ _ _ hs s2 s1 ?_
  simp only [AV.rel]
  exact ⟨_, setK_same _ _ _, rfl⟩

theorem seenRel_key {ck : TC} {es : List MapEntry} : ∀ {ks : List ck.den} {ns : List Nat}, seenRel κ Im w ck es ks ns → ∀ n ∈ ns, ∃ k ∈ ks, ∃ e ∈ es, e.born = n ∧ AV.rel κ Im w (ck.av k) e.key
  | [], [], _, n, h => by cases h
  | [], _ :: _, h, _, _ => h.elim
  | _ :: _, [], h, _, _ => h.elim
  | k :: ks, m :: ns, h, n, hn => by
    rcases List.mem_cons.1 hn with rfl | hn
    · exact ⟨k, by simp, h.1⟩
    · obtain ⟨k', h1, h2⟩ := seenRel_key h.2 n hn
      exact ⟨k', by simp [h1], h2⟩
theorem seenRel_born {ck : TC} {es : List MapEntry} : ∀ {ks : List ck.den} {ns : List Nat}, seenRel κ Im w ck es ks ns → ∀ k ∈ ks, ∃ n ∈ ns, ∃ e ∈ es, e.born = n ∧ AV.rel κ Im w (ck.av k) e.key
  | [], [], _, n, h => by cases h
  | [], _ :: _, h, _, _ => h.elim
  | _ :: _, [], h, _, _ => h.elim
  | k :: ks, m :: ns, h, k', hk => by
    rcases List.mem_cons.1 hk with rfl | hk
    · exact ⟨m, by simp, h.1⟩
    · obtain ⟨n', h1, h2⟩ := seenRel_born h.2 k' hk
      exact ⟨n', by simp [h1], h2⟩
theorem seenRel_snoc {ck : TC} {es : List MapEntry} : ∀ {ks : List ck.den} {ns : List Nat} {k : ck.den} {n : Nat}, seenRel κ Im w ck es ks ns → (∃ e ∈ es, e.born = n ∧ AV.rel κ Im w (ck.av k) e.key) → seenRel κ Im w ck es (ks ++ [k]) (ns ++ [n])
  | [], [], _, _, _, h => ⟨h, trivial⟩
  | [], _ :: _, _, _, h, _ => h.elim
  | _ :: _, [], _, _, h, _ => h.elim
  | _ :: _, _ :: _, _, _, h, h' => ⟨h.1, seenRel_snoc h.2 h'⟩

theorem seenRel_last {ck : TC} {es : List MapEntry} : ∀ {ks : List ck.den} {ns : List Nat} {k : ck.den} {n : Nat}, seenRel κ Im w ck es (ks ++ [k]) (ns ++ [n]) → ∃ e ∈ es, e.born = n ∧ AV.rel κ Im w (ck.av k) e.key
  | [], [], _, _, h => h.1
  | [], _ :: ns, _, _, h => by cases ns <;> exact h.2.elim
  | _ :: ks, [], _, _, h => by cases ks <;> exact h.2.elim
  | _ :: _, _ :: _, _, _, h => seenRel_last h.2

theorem entsRel_mem {ck cv : TC} : ∀ {m : List (ck.den × cv.den)} {es : List MapEntry}, entsRel κ Im w ck cv m es → ∀ e ∈ es, ∃ p ∈ m, AV.rel κ Im w (ck.av p.1) e.key ∧ AV.rel κ Im w (cv.av p.2) e.val
  | [], [], _, e, h => by cases h
  | [], _ :: _, h, _, _ => h.elim
  | _ :: _, [], h, _, _ => h.elim
  | p :: m, e' :: es, h, e, he => by
    rcases List.mem_cons.1 he with rfl | he
    · exact ⟨p, by simp, h.1, h.2.1⟩
    · obtain ⟨q, h1, h2⟩ := entsRel_mem h.2.2 e he
      exact ⟨q, by simp [h1], h2⟩
theorem entsRel_key {ck cv : TC} : ∀ {m : List (ck.den × cv.den)} {es : List MapEntry}, entsRel κ Im w ck cv m es → ∀ p ∈ m, ∃ e ∈ es, AV.rel κ Im w (ck.av p.1) e.key ∧ AV.rel κ Im w (cv.av p.2) e.val
  | [], [], _, e, h => by cases h
  | [], _ :: _, h, _, _ => h.elim
  | _ :: _, [], h, _, _ => h.elim
  | p :: m, e' :: es, h, q, hq => by
    rcases List.mem_cons.1 hq with rfl | hq
    · exact ⟨e', by simp, h.1, h.2.1⟩
    · obtain ⟨e, h1, h2⟩ := entsRel_key h.2.2 q hq
      exact ⟨e, by simp [h1], h2⟩

theorem born_inj : ∀ {es : List MapEntry}, (es.map (·.born)).Nodup → ∀ {a b : MapEntry}, a ∈ es → b ∈ es → a.born = b.born → a = b
  | [], _, _, _, h, _, _ => by cases h
  | e :: es, hn, a, b, ha, hb, hab => by
    simp only [List.map_cons, List.nodup_cons] at hn
    rcases List.mem_cons.1 ha with h1 | ha2 <;> rcases List.mem_cons.1 hb with h2 | hb2
    · rw [h1, h2]
    · exact absurd (show e.born ∈ es.map (·.born) from List.mem_map.2 ⟨b, hb2, by rw [← hab, h1]⟩) hn.1
    · exact absurd (show e.born ∈ es.map (·.born) from List.mem_map.2 ⟨a, ha2, by rw [hab, h2]⟩) hn.1
    · exact born_inj hn.2 ha2 hb2 hab

/-- A key as a value: which codes keys have is known where a map is. -/
theorem av_inj {ck : TC} {ks : List Bool} (h : ck.ks = some ks) {x y : ck.den} {v : Value} (hx : AV.rel κ Im w (ck.av x) v) (hy : AV.rel κ Im w (ck.av y) v) : x = y :=
  kv_inj h (((kv_rel h x v).1 hx).symm.trans ((kv_rel h y v).1 hy))

theorem entsRel_uniq {ck cv : TC} {ks : List Bool} (hk : ck.ks = some ks) : ∀ {m : List (ck.den × cv.den)} {es : List MapEntry}, entsRel κ Im w ck cv m es → (m.map (·.1)).Nodup → ∀ {k : ck.den} {a b : MapEntry}, a ∈ es → b ∈ es →
    AV.rel κ Im w (ck.av k) a.key → AV.rel κ Im w (ck.av k) b.key → a = b
  | [], [], _, _, _, _, _, h, _, _, _ => by cases h
  | [], _ :: _, h, _, _, _, _, _, _, _, _ => h.elim
  | _ :: _, [], h, _, _, _, _, _, _, _, _ => h.elim
  | p :: m, e :: es, h, hn, k, a, b, ha, hb, hra, hrb => by
    simp only [List.map_cons, List.nodup_cons] at hn
    have tail : ∀ x ∈ es, AV.rel κ Im w (ck.av k) x.key → k ∈ m.map (·.1) := fun x hx hr => by
      obtain ⟨q, h1, h2, _⟩ := entsRel_mem h.2.2 x hx
      exact List.mem_map.2 ⟨q, h1, av_inj hk h2 hr⟩
    rcases List.mem_cons.1 ha with h1 | ha2 <;> rcases List.mem_cons.1 hb with h2 | hb2
    · rw [h1, h2]
    · subst h1
      exact absurd (av_inj hk h.1 hra ▸ tail b hb2 hrb) hn.1
    · subst h2
      exact absurd (av_inj hk h.1 hrb ▸ tail a ha2 hra) hn.1
    · exact entsRel_uniq hk h.2.2 hn.2 ha2 hb2 hra hrb

/-- As St.turn, for objects of more than one block. -/
theorem St.turnD {w' : World} (h : St c κ Im w H) {id : Nat} {o o' : AObj} (hid : H[id]? = some o) {g : Nat} (ht : Turn (some g) w w') {D1 : Nat → Prop} (hg : D1 g)
    (hold : ∀ D, o.holds κ Im w (κ id) D → ∀ x, D x ↔ D1 x)
    (hnew : Le κ κ Im Im w w' → o'.holds κ Im w' (κ id) D1) :
    St c κ Im w' (H.set id o') ∧ Le κ κ Im Im w w' := by
  have hlt : id < H.length := (List.getElem?_eq_some_iff.1 hid).1
  obtain ⟨⟨D, h1, h2, h3⟩, hfresh, him, hkeep, hframe, hsize, hk0, hos, htape, hout⟩ := h
  have hD := hold _ (h1 id _ hid)
  have hDg := h2 id g ((hD g).2 hg)
  have hs := ht.size
  have hset : ∀ b, b < w.heap.size → b ≠ g → w'.heap[b]? = w.heap[b]? := fun b hb hne => ht.block b hb (fun e => hne (by cases e; rfl))
  have hle : Le κ κ Im Im w w' := ⟨fun _ _ e => e, fun _ e => e, fun b hb => hset b (him b hb).1 (fun e => hDg.2.2.1 (e ▸ hb)), ht.output.2.2⟩
  refine ⟨⟨⟨D, ?_, ?_, h3⟩, ?_, ?_, hkeep, ?_, by omega, hk0, ht.os.trans hos, ht.tape.trans htape, ht.output.trans hout⟩, hle⟩
  · intro i x hi
    by_cases e : i = id
    · subst e
      simp only [List.getElem?_set_self hlt, Option.some.injEq] at hi
      subst hi
      have : D i = D1 := funext fun b => propext (hD b)
      rw [this]
      exact hnew hle
    · rw [List.getElem?_set_ne (fun h => e h.symm)] at hi
      exact AObj.holds_mono hle (fun b hb => hset b (h2 i b hb).2.1 (fun eb => by subst eb; exact e (h3 i id b hb ((hD b).2 hg)))) x (h1 i x hi)
  · intro i b hb
    obtain ⟨a1, a2, a3, a4⟩ := h2 i b hb
    exact ⟨by simpa using a1, by omega, a3, a4⟩
  · intro i hi
    exact hfresh i (by simpa using hi)
  · intro b hb
    obtain ⟨a1, a2⟩ := him b hb
    exact ⟨by omega, a2⟩
  · intro b hb hM
    refine (hset b (by omega) (fun e => ?_)).trans (hframe b hb hM)
    subst e
    rcases hDg.2.2.2 with h | h
    · exact hM h
    · omega

theorem next_sound {E : Env} {it : AV} {ty : TypeId} {y : Value} (hst : St c κ Im w H) (hr : AV.rel κ Im w it y) (hs : (effNext it (H.getD · .dead)).sat K) (hk : Cont c κ Im w H K k) :
    Gives E.P (do pure (.value (← Instr.next y false ty))) w k := by
  unfold effNext at hs
  split at hs
  case h_2 => exact hs.elim
  rename_i j off
  split at hs
  case h_2 => exact hs.elim
  rename_i i ck cv m seen cur hoff ho
  obtain rfl : off = 0 := Nat.eq_of_beq_eq_true hoff
  split at hs
  case h_2 => exact hs.elim
  rename_i ks hks hli
  obtain ⟨hs1, hs2⟩ := hs
  have hj := getD_dead (by simp) ho
  have hi := getD_dead (by simp) hli
  have hij : i ≠ j := fun e => by subst e; rw [hi] at hj; cases hj
  obtain ⟨D, hD⟩ := hst.obj hj
  obtain ⟨r, b, es, clock, sb, h1, h2, h3, h4, ⟨m', h5, h5'⟩, h6, h7, h8, h9, h10⟩ := hD
  have hown : ∀ D, (AObj.rng i ck cv m seen cur).holds κ Im w (κ j) D → ∀ x, D x ↔ (x = b ∨ x = r) := fun D hD => by
    obtain ⟨r2, b2, _, _, _, e1, e2, _, _, _, _, _, _, _, e3⟩ := hD
    rw [h1] at e1; cases e1
    rw [h2] at e2; cases e2
    exact e3
  obtain rfl : y = .pointer (some ⟨r, 0, none⟩) := by
    simp only [AV.rel] at hr
    obtain ⟨b2, e1, e2⟩ := hr
    rw [h1] at e1; cases e1; exact e2
  have hm'n : (m'.map (·.1)).Nodup := (h5.map (·.1)).nodup_iff.2 h8
  rcases run_next_at (P := E.P) w ty r b clock clock sb es clock h4 h3 h6 (Nat.le_refl _) with ⟨l1, l2⟩ | ⟨e, l1, w1, l2, l3⟩
  · obtain ⟨s1, s2⟩ := hst.back (w' := w) (g := none) (o' := .map ck cv m) (D1 := fun x => x = b ∨ x = r) (Dn := fun x => x = b) hi hj hij (Turn.refl none w) (by simp) hown (fun _ h => .inl h)
      (fun hle => ⟨b, es, clock, h2, h3, ⟨m', h5, h5'⟩, h6, h7, h8, fun _ => Iff.rfl⟩)
    refine gives_value (y := .tuple #[.bool false]) (w' := w) (by simp [l2]) (hk _ _ _ _ _ _ (hs1 () fun k hkm => ?_) s2 s1 ?_)
    · obtain ⟨p, p1, rfl⟩ := List.mem_map.1 ((h5.map (·.1)).mem_iff.2 hkm)
      obtain ⟨e, e1, e2, _⟩ := entsRel_key h5' p p1
      have : e.born ∈ sb.toList := by
        have h0 := Array.eq_empty_of_size_eq_zero l1
        unfold leftOf at h0
        rw [Array.filter_eq_empty_iff] at h0
        have := h0 e (by simpa using e1)
        simpa using this
      obtain ⟨k', k1, e', k2, k3, k4⟩ := seenRel_key h9 _ this
      obtain rfl := born_inj h7 k2 e1 k3
      rw [av_inj hks e2 k4]; exact k1
    · simp only [AV.rel]
      refine ⟨#[.bool false], rfl, ?_⟩
      simp [AV.rels, AV.rel, abl]
  · unfold leftOf at l1
    have l1' : e ∈ es.toList ∧ e.born ∉ sb.toList := by simpa using l1
    obtain ⟨p, p1, p2, p3⟩ := entsRel_mem h5' e l1'.1
    have hnew : p.1 ∉ keyL seen cur := fun hmem => by
      obtain ⟨n, n1, e', n2, n3, n4⟩ := seenRel_born h9 _ hmem
      obtain rfl := entsRel_uniq hks h5' hm'n n2 l1'.1 n4 p2
      exact l1'.2 (n3 ▸ n1)
    have hw1 : Turn (some r) w (setBlock w1 r (.mapIter (some b) clock (sb.push e.born) clock)) ∧ (setBlock w1 r (.mapIter (some b) clock (sb.push e.born) clock)).heap[r]? = some (.mapIter (some b) clock (sb.push e.born) clock) := by
      have hlt := (Array.getElem?_eq_some_iff.1 h4).1
      obtain ⟨t1, t2⟩ := putB_turn (w := w) hlt (by rw [h4]; rfl) (.mapIter (some b) clock (sb.push e.born) clock)
      rcases l2 with rfl | rfl
      · exact ⟨t1, t2⟩
      · exact ⟨⟨t1.os, t1.tape, ⟨t1.output.1, Nat.le_succ _, t1.output.2.2⟩, t1.size, t1.block⟩, t2⟩
    obtain ⟨t1, t2⟩ := hw1
    have hbr : b ≠ r := fun e => by rw [e, h4] at h3; cases h3
    have hb' := (t1.block b (Array.getElem?_eq_some_iff.1 h3).1 (by simpa using hbr)).trans h3
    obtain ⟨s1, s2⟩ := hst.turnD hj t1 (o' := .rng i ck cv m (keyL seen cur) (some p.1)) (D1 := fun x => x = b ∨ x = r) (.inr rfl) hown
      (fun hle => ⟨r, b, es, clock, _, h1, h2, hb', t2, ⟨m', h5, entsRel_mono hle _ _ h5'⟩, h6, h7, h8, by
        rw [Array.toList_push]
        exact seenRel_snoc (seenRel_mono hle _ _ h9) ⟨e, l1'.1, rfl, AV.rel_mono hle _ _ p2⟩, fun _ => Iff.rfl⟩)
    refine gives_value (y := .tuple #[.bool true, e.key, e.val]) (by simp [l3]) (hk _ _ _ _ _ _ (hs2 (p.1, p.2) ⟨h5.mem_iff.1 p1, hnew⟩) s2 s1 ?_)
    simp only [AV.rel]
    refine ⟨#[.bool true, e.key, e.val], rfl, ?_⟩
    simp only [AV.rels]
    exact ⟨_, _, rfl, by simp [abl, AV.rel], _, _, rfl, AV.rel_mono s2 _ _ p2, _, _, rfl, AV.rel_mono s2 _ _ p3, rfl⟩

theorem entry_sound {E : Env} {it : AV} {y : Value} (hst : St c κ Im w H) (hr : AV.rel κ Im w it y) (hs : (effEntry it (H.getD · .dead)).sat K) (hk : Cont c κ Im w H K k) :
    Gives E.P (do pure (.value (← Instr.entry y))) w k := by
  unfold effEntry at hs
  split at hs
  case h_2 => exact hs.elim
  rename_i j off
  split at hs
  case h_2 => exact hs.elim
  rename_i i ck cv m seen cur hoff ho
  obtain rfl : off = 0 := Nat.eq_of_beq_eq_true hoff
  split at hs
  case h_2 => exact hs.elim
  rename_i ks hks
  have hj := getD_dead (by simp) ho
  obtain ⟨D, hD⟩ := hst.obj hj
  obtain ⟨r, b, es, clock, sb, h1, h2, h3, h4, ⟨m', h5, h5'⟩, h6, h7, h8, h9, h10⟩ := hD
  obtain rfl : y = .pointer (some ⟨r, 0, none⟩) := by
    simp only [AV.rel] at hr
    obtain ⟨b2, e1, e2⟩ := hr
    rw [h1] at e1; cases e1; exact e2
  have hm'n : (m'.map (·.1)).Nodup := (h5.map (·.1)).nodup_iff.2 h8
  obtain ⟨sb', n, hsb⟩ : ∃ (sb' : Array Nat) (n : Nat), sb = sb'.push n := by
    by_cases h : sb = #[]
    · subst h
      revert h9
      simp only [keyL]
      cases seen <;> exact fun h => h.elim
    · exact Array.eq_push_of_size_ne_zero (by simpa using h)
  subst hsb
  rw [Array.toList_push] at h9
  obtain ⟨e, e1, e2, e3⟩ := seenRel_last (by simpa [keyL] using h9)
  subst e2
  have hrun := run_entry_at (P := E.P) w r b clock sb' es clock e h4 h3 e1 h7
  obtain ⟨p, p1, p2, p3⟩ := entsRel_mem h5' e e1
  have hpk := av_inj hks p2 e3
  have hg : mget cur m = some p.2 := mget_perm h5 h8 (by rw [← hpk]; exact p1)
  refine gives_value (y := .tuple #[e.key, e.val]) (w' := w) (by simp [hrun]) (hk.same hst hs ?_)
  rw [hg]
  simp only [AV.rel]
  refine ⟨#[e.key, e.val], rfl, ?_⟩
  simp only [AV.rels]
  exact ⟨_, _, rfl, e3, _, _, rfl, p3, rfl⟩

end
end Go.X

