/- What an argument's reading says of its cells. -/
import Derived.Test.YtlpbalinhikboaaX24
import Derived.ProofKit
namespace Go.X
open Go

inductive Lf where
  | int (k : IntKind)
  | bool
  | sl (e : TypeId)

def leafFs (P : Program) (g : TypeId → Option (List Lf)) : Nat → List Field → Option (List Lf)
  | _, [] => some []
  | acc, f :: r => match Nat.beq f.offset acc with
    | false => none
    | true => match g f.type with
      | none => none
      | some s => match Nat.beq (P.cellsOf f.type) s.length with
        | false => none
        | true => match leafFs P g (acc + s.length) r with
          | some q => some (s ++ q)
          | none => none
def leaves (P : Program) : Nat → TypeId → Option (List Lf)
  | 0, _ => none
  | n + 1, t => match P.underlying t with
    | some (.int k) => some [.int k]
    | some .bool => some [.bool]
    | some (.slice e) => some [.sl e]
    | some (.struct fs) => match leafFs P (leaves P n) 0 fs.toList with
      | some ls => match Nat.beq (P.cellsOf t) ls.length with | true => some ls | false => none
      | none => none
    | _ => none

section
variable {H : Type} (enc : TypeId × Value → H) (P : Program) (w : World) (base : Nat) (spare : Nat → Bool) (held : Bool)

def leafOk : Lf → Value → Prop
  | .int k, v => ∃ n, v = .int k n ∧ (Lit.int k n).wf = true
  | .bool, v => ∃ b, v = .bool b
  | .sl e, v => v = .slice none 0 0 ∨ ∃ a len cap, v = .slice (some a) len cap ∧ len ≤ cap ∧ cap ≤ maxLen ∧
      ∀ i, i < len → ∃ cs fuel y, w.cells? base (a.add (i * P.cellsOf e)) (P.cellsOf e) = some cs ∧ DataW.trod enc P w base spare held fuel e cs = some y
def leavesOk : List Lf → List Value → Prop
  | [], [] => True
  | l :: ls, v :: vs => leafOk enc P w base spare held l v ∧ leavesOk ls vs
  | _, _ => False

variable {enc P w base spare held}

theorem leavesOk_append {ls ms : List Lf} {vs us : List Value} (h : leavesOk enc P w base spare held ls vs) (h' : leavesOk enc P w base spare held ms us) : leavesOk enc P w base spare held (ls ++ ms) (vs ++ us) := by
  induction ls generalizing vs with
  | nil => cases vs with | nil => exact h' | cons _ _ => exact h.elim
  | cons l ls ih => cases vs with | nil => exact h.elim | cons v vs => exact ⟨h.1, ih h.2⟩

theorem leafFs_ok {fuel n : Nat} (ih : ∀ t ls cs y, leaves P n t = some ls → DataW.trod enc P w base spare held fuel t cs = some y → leavesOk enc P w base spare held ls cs) (cs : List Value) :
    ∀ (fs : List Field) (acc : Nat) (ls : List Lf) xs, leafFs P (leaves P n) acc fs = some ls → (fs.mapM fun f => DataW.trod enc P w base spare held fuel f.type ((cs.drop f.offset).take (P.cellsOf f.type))) = some xs →
      leavesOk enc P w base spare held ls ((cs.drop acc).take ls.length)
  | [], acc, ls, xs, h, _ => by cases h; simp [leavesOk]
  | f :: r, acc, ls, xs, h, hx => by
    simp only [leafFs] at h
    split at h
    · cases h
    · rename_i ho
      have ho' : f.offset = acc := by simpa using ho
      split at h
      · cases h
      · rename_i s hs
        split at h
        · cases h
        · rename_i hc
          have hc' : P.cellsOf f.type = s.length := by simpa using hc
          split at h
          · rename_i q hq
            cases h
            rw [List.mapM_cons] at hx
            simp only [Option.bind_eq_bind, Option.bind_eq_some_iff] at hx
            obtain ⟨x, hx1, xs', hx2, _⟩ := hx
            have h1 := ih _ _ _ _ hs hx1
            rw [ho', hc'] at h1
            have h2 := leafFs_ok ih cs r (acc + s.length) q xs' hq hx2
            have e : (cs.drop acc).take (s ++ q).length = (cs.drop acc).take s.length ++ (cs.drop (acc + s.length)).take q.length := by
              rw [List.length_append, List.take_add, List.drop_drop]
            rw [e]
            exact leavesOk_append h1 h2
          · cases h

theorem leavesOk_len : ∀ {ls : List Lf} {vs : List Value}, leavesOk enc P w base spare held ls vs → vs.length = ls.length
  | [], [], _ => rfl
  | [], _ :: _, h => h.elim
  | _ :: _, [], h => h.elim
  | l :: ls, v :: vs, h => by simp [leavesOk_len h.2]

theorem leaves_ok : ∀ (n : Nat) (t : TypeId) (ls : List Lf) (fuel : Nat) (cs : List Value) y, leaves P n t = some ls → DataW.trod enc P w base spare held fuel t cs = some y → leavesOk enc P w base spare held ls cs
  | 0, _, _, _, _, _, h, _ => by cases h
  | _ + 1, _, _, 0, _, _, _, h => by simp [DataW.trod] at h
  | n + 1, t, ls, fuel + 1, cs, y, h, hy => by
    unfold leaves at h
    split at h
    · rename_i k hu
      cases h
      unfold DataW.trod at hy
      simp only [hu] at hy
      split at hy <;> simp_all [leavesOk, leafOk]
    · rename_i hu
      cases h
      unfold DataW.trod at hy
      simp only [hu] at hy
      split at hy <;> simp_all [leavesOk, leafOk]
    · rename_i e hu
      cases h
      unfold DataW.trod at hy
      simp only [hu] at hy
      split at hy
      all_goals first
        | (rename_i heq; cases heq; done)
        | (cases hy; done)
        | skip
      · exact ⟨.inl rfl, trivial⟩
      · rename_i heq
        cases heq
        split at hy
        · rename_i hle
          simp only [Option.bind_eq_some_iff] at hy
          obtain ⟨elems, he, _⟩ := hy
          refine ⟨.inr ⟨_, _, _, rfl, hle.2.1, hle.2.2, fun i hi => ?_⟩, trivial⟩
          have : ∀ (l : List Nat) es, (l.mapM fun i => (w.cells? base (Addr.add ‹Addr› (i * P.cellsOf e)) (P.cellsOf e)).bind (DataW.trod enc P w base spare held fuel e)) = some es → ∀ i ∈ l, ∃ cs fuel y, w.cells? base (Addr.add ‹Addr› (i * P.cellsOf e)) (P.cellsOf e) = some cs ∧ DataW.trod enc P w base spare held fuel e cs = some y := by
            intro l
            induction l with
            | nil => intro _ _ i hi; cases hi
            | cons a l ih =>
              intro es h i hi
              rw [List.mapM_cons] at h
              simp only [Option.bind_eq_bind, Option.bind_eq_some_iff] at h
              obtain ⟨x, ⟨cs, h1, h2⟩, xs, h3, _⟩ := h
              rcases List.mem_cons.1 hi with rfl | hi
              · exact ⟨cs, fuel, x, h1, h2⟩
              · exact ih xs h3 i hi
          exact this _ _ he i (List.mem_range.2 hi)
        · cases hy
    · rename_i fs hu
      split at h
      · rename_i ls' hls
        split at h
        · rename_i hc
          cases h
          have hc' : P.cellsOf t = ls.length := by simpa using hc
          unfold DataW.trod at hy
          simp only [hu] at hy
          split at hy
          · rename_i hlen
            rw [Option.map_eq_some_iff] at hy
            obtain ⟨xs, hxs, _⟩ := hy
            have := leafFs_ok (n := n) (fun t ls cs y => leaves_ok n t ls fuel cs y) cs fs.toList 0 ls xs hls hxs
            rw [List.drop_zero, List.take_of_length_le (by omega)] at this
            exact this
          · cases hy
        · cases h
      · cases h
    · cases h

end
end Go.X
