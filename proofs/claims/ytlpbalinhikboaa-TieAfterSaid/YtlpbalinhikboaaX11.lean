/- Binary operations; builds; index addresses. -/
import Derived.Test.YtlpbalinhikboaaX10
namespace Go.X
open Go
section
variable {P : Program} {c : Ctx} {κ : Kap} {Im : Nat → Prop} {w : World} {H : List AObj} {K : AV → List (Nat × AObj) → Prop} {k : Value → World → Prop}

theorem run_guard_int (op : BinOp) (t : TypeId) (x y : Operand) (k1 k2 : IntKind) (a b : Int) : (eqGuard op t x y (.int k1 a) (.int k2 b)).run P w = .ok () w := by
  cases op <;> simp [eqGuard]
theorem run_guard_bool (op : BinOp) (t : TypeId) (x y : Operand) (a b : Bool) : (eqGuard op t x y (.bool a) (.bool b)).run P w = .ok () w := by
  cases op <;> simp [eqGuard]
theorem run_guard_ptr (op : BinOp) (t : TypeId) (x y : Operand) (a b : Option Addr) : (eqGuard op t x y (.pointer a) (.pointer b)).run P w = .ok () w := by
  cases op <;> simp [eqGuard]

theorem run_eq_ptr1 (d : Nat) (t : TypeId) {e : TypeId} (hu : P.underlying t = some (.pointer e)) (b : Option Addr) : (Op.equalIn (d + 1) t (.pointer none) (.pointer b)).run P w = .ok b.isNone w := by
  simp [Op.equalIn, run_underlying hu]
theorem run_eq_ptr2 (d : Nat) (t : TypeId) {e : TypeId} (hu : P.underlying t = some (.pointer e)) (a : Addr) : (Op.equalIn (d + 1) t (.pointer (some a)) (.pointer none)).run P w = .ok false w := by
  simp [Op.equalIn, run_underlying hu]
theorem run_eql_pp (t : TypeId) (x y : Option Addr) : (binOp .eql t (.pointer x) (.pointer y)).run P w = ((Op.equalIn 10000 t (.pointer x) (.pointer y)).run P w).andThen fun b w' => .ok (.bool b) w' := by
  simp only [binOp]
  simp [Op.equal, Op.maxDepth]
theorem run_neq_pp (t : TypeId) (x y : Option Addr) : (binOp .neq t (.pointer x) (.pointer y)).run P w = ((Op.equalIn 10000 t (.pointer x) (.pointer y)).run P w).andThen fun b w' => .ok (.bool (!b)) w' := by
  simp only [binOp]
  simp [Op.equal, Op.maxDepth]

theorem depth_ge (P : Program) : 20 ≤ P.depth := by
  unfold Program.depth Made.depth; omega

theorem bin_sound {b : BinOp} {t : TypeId} {ox oy : Operand} {x y : AV} {y1 y2 : Value} (hst : St c κ Im w H) (hx : AV.rel κ Im w x y1) (hy : AV.rel κ Im w y y2)
    (hs : (effBin P b t x y).sat K) (hk : Cont c κ Im w H K k) : Gives P (do pure (.value (← (do eqGuard b t ox oy y1 y2; binOp b t y1 y2)))) w k := by
  unfold effBin at hs
  split at hs
  · -- numbers
    rename_i k1 a k2 d
    simp only [AV.rel] at hx hy
    subst hx hy
    have run : ∀ (z : Value), (binOp b t (.int k1 a) (.int k2 d)).run P w = .ok z w → K (.v z) [] → Gives P (do pure (.value (← (do eqGuard b t ox oy (.int k1 a) (.int k2 d); binOp b t (.int k1 a) (.int k2 d))))) w k := by
      intro z hz hK
      refine hk.val hst hK ?_
      simp only [Sem.run_bind, run_guard_int, Result.andThen_ok, hz, Sem.run_pure]
    cases b <;> simp only at hs
    case shl =>
      obtain ⟨⟨hq⟩, hs⟩ := hs
      exact run _ (by simp [binOp, Op.shift, show ¬ d < 0 by omega]) hs
    case shr =>
      obtain ⟨⟨hq⟩, hs⟩ := hs
      exact run _ (by simp [binOp, Op.shift, show ¬ d < 0 by omega]) hs
    all_goals
      split at hs
      case isFalse => exact hs.elim
      rename_i hkk
      subst hkk
    case h_1.quo.isTrue =>
      obtain ⟨⟨hq⟩, hs⟩ := hs
      exact run _ (by simp [binOp, Op.intDiv, hq]) hs
    case h_1.rem.isTrue =>
      obtain ⟨⟨hq⟩, hs⟩ := hs
      exact run _ (by simp [binOp, Op.intDiv, hq]) hs
    case h_1.add.isTrue => exact run _ (by simp [binOp, Op.intArith]) hs
    case h_1.sub.isTrue => exact run _ (by simp [binOp, Op.intArith]) hs
    case h_1.mul.isTrue => exact run _ (by simp [binOp, Op.intArith]) hs
    case h_1.and.isTrue => exact run _ (by simp only [binOp, ne_eq, not_true_eq_false, if_false]; rfl) hs
    case h_1.or.isTrue => exact run _ (by simp only [binOp, ne_eq, not_true_eq_false, if_false]; rfl) hs
    case h_1.xor.isTrue => exact run _ (by simp only [binOp, ne_eq, not_true_eq_false, if_false]; rfl) hs
    case h_1.andNot.isTrue => exact run _ (by simp only [binOp, ne_eq, not_true_eq_false, if_false]; rfl) hs
    all_goals exact run _ (by simp [binOp, Op.intCmp]) hs
  · -- bools
    rename_i a d
    simp only [AV.rel] at hx hy
    subst hx hy
    split at hs
    · rename_i hu
      exact hk.val hst hs (by simp only [Sem.run_bind, run_guard_bool, Result.andThen_ok]; simp [binOp, Op.equal, Op.maxDepth, run_equalIn_bool' w _ t a d hu])
    · rename_i hu
      exact hk.val hst hs (by simp only [Sem.run_bind, run_guard_bool, Result.andThen_ok]; simp [binOp, Op.equal, Op.maxDepth, run_equalIn_bool' w _ t a d hu])
    · exact hs.elim
  · -- structs
    rename_i l m
    split at hs
    case h_2 => exact hs.elim
    rename_i ks hks
    split at hs
    case isFalse => exact hs.elim
    rename_i hag
    simp only [AV.rel] at hx hy
    obtain ⟨xs, rfl, hl⟩ := hx
    obtain ⟨ys, rfl, hm⟩ := hy
    have hg := flat_guard 20 t ks hks P.depth (depth_ge P)
    have heq : ∀ r, allEq ks l m = some r → (Op.equalIn 10000 t (.agg xs) (.agg ys)).run P w = .ok r w := fun r hr =>
      flat_eq 20 t ks hks 10000 (by omega) l m _ _ r _ _ hl hm hr (by simp [valOf, hag]) (by simp [valOf, hag])
    split at hs
    · rename_i r hr
      exact hk.val hst hs (by simp only [Sem.run_bind, run_eqGuard_agg w _ t ox oy xs ys hg, Result.andThen_ok, run_eql_struct, heq r hr, Sem.run_pure])
    · rename_i r hr
      exact hk.val hst hs (by simp only [Sem.run_bind, run_eqGuard_agg w _ t ox oy xs ys hg, Result.andThen_ok, run_neq_struct, heq r hr, Sem.run_pure])
    · exact hs.elim
  · -- a pointer and nil
    simp only [AV.rel] at hx hy
    obtain ⟨b', _, rfl⟩ := hx
    subst hy
    split at hs
    · rename_i e hu
      exact hk.val hst hs (by simp only [Sem.run_bind, run_guard_ptr, Result.andThen_ok]; rw [run_eql_pp, run_eq_ptr2 9999 _ hu]; rfl)
    · rename_i e hu
      exact hk.val hst hs (by simp only [Sem.run_bind, run_guard_ptr, Result.andThen_ok]; rw [run_neq_pp, run_eq_ptr2 9999 _ hu]; rfl)
    · exact hs.elim
  · simp only [AV.rel] at hx hy
    subst hx hy
    split at hs
    · rename_i e hu
      exact hk.val hst hs (by simp only [Sem.run_bind, run_guard_ptr, Result.andThen_ok]; rw [run_eql_pp, run_eq_ptr1 9999 _ hu]; rfl)
    · rename_i e hu
      exact hk.val hst hs (by simp only [Sem.run_bind, run_guard_ptr, Result.andThen_ok]; rw [run_neq_pp, run_eq_ptr1 9999 _ hu]; rfl)
    · exact hs.elim
  · exact hs.elim

end
end Go.X
