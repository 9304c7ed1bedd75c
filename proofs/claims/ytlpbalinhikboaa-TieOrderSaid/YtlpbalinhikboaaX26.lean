/- A law's row: it gives true, and leaves what it was given. -/
import Derived.Test.YtlpbalinhikboaaX25
namespace Go.X
open Go Go.ChangeShapes Go.WideShapes Go.ChangeAt Go.RowKit

section
variable {H : Type} {enc : TypeId × Value → H} {P : Program}

theorem trodAll_below (hl : laidOutB P = true) {W W' : World} (hb : Below W.heap.size W W') : ∀ (ts : List TypeId) (vs : List Value) (ds : List (DataW H)) (ps : List MemPlace),
    (∀ t ∈ ts, P.readableRec t = true ∧ t < P.types.size) → DataW.TrodAll enc P W 0 (fun _ => true) true ts vs ds ps → (∀ p ∈ ps, p.block < W.heap.size) →
    ∀ sp : Nat → Bool, (∀ p ∈ ps, sp p.block = true) → DataW.TrodAll enc P W' 0 sp true ts vs ds ps
  | [], [], [], _, _, h, _, _, _ => h
  | [], _ :: _, _, _, _, h, _, _, _ => h.elim
  | [], [], _ :: _, _, _, h, _, _, _ => h.elim
  | _ :: _, [], _, _, _, h, _, _, _ => h.elim
  | _ :: _, _ :: _, [], _, _, h, _, _, _ => h.elim
  | t :: ts, v :: vs, d :: ds, ps, hr, h, hlt, sp, hsp => by
    obtain ⟨p, q, h1, h2, rfl⟩ := h
    obtain ⟨r1, r2⟩ := hr t (by simp)
    refine ⟨p, q, WideElems.Trod_stays hl r1 r2 h1 (fun x hx => hb.same (hlt x (by simp [hx]))) (fun x hx => hsp x (by simp [hx])), ?_, rfl⟩
    exact trodAll_below hl hb ts vs ds q (fun t ht => hr t (by simp [ht])) h2 (fun x hx => hlt x (by simp [hx])) sp (fun x hx => hsp x (by simp [hx]))

theorem law_post (hl : laidOutB P = true) {f : Func} {s : ChangeSpec} {apart fresh handsOn again : Bool} {W W' : World} {args : Array Value} {ds gs : List (DataW H)} {before : List MemPlace}
    (hW : DataW.Whole enc P f.params.toList s.vars apart W args.toList ds gs before) (hv : s.vars = []) (hb : Below W.heap.size W W')
    (hr : ∀ t ∈ f.params.toList, P.readableRec t = true ∧ t < P.types.size) {t : TypeId} (hrt : f.resultTypes = #[t]) (ht : P.underlying t = some .bool)
    (hs : s.fn H (ds ++ gs) = { results := [.lit (.bool true)], args := ds }) : s.post enc P f apart fresh handsOn again W args (.bool true) W' := by
  have hlt := hW.lt
  have hW' := hW
  obtain ⟨p, q, hA, hV, hps, hz, hn⟩ := hW'
  rw [hv] at hV
  obtain ⟨rfl, rfl⟩ := trodVars_none hV
  simp only [List.append_nil] at hps hs
  subst hps
  have hres : ∀ (b : Nat) (sp : Nat → Bool) (hd : Bool), DataW.TrodAll enc P W' b sp hd f.resultTypes.toList ((Value.bool true).resultList f.resultTypes.size) (s.fn H ds).results [] := by
    intro b sp hd
    rw [hs, hrt]
    exact trodAll_mk1 ⟨1, by simp [DataW.trod, ht, Value.cells]⟩
  have hargs : ∀ sp : Nat → Bool, (∀ x ∈ before, sp x.block = true) → DataW.TrodAll enc P W' 0 sp true f.params.toList args.toList (s.fn H ds).args before := by
    intro sp hsp
    rw [hs]
    exact trodAll_below hl hb _ _ _ _ hr hA hlt sp hsp
  have hold : ∀ x ∈ before, (fun b => decide (b < W.heap.size)) x.block = true := fun x hx => by simpa using hlt x hx
  have hvars : ∀ sp : Nat → Bool, DataW.TrodVars enc P W' sp s.vars (s.fn H ds).vars [] := by
    intro sp
    rw [hv, hs]
    exact rfl
  refine ⟨ds, [], before, [], before, [], hW, by simpa using hres _ _ _, by simpa using hargs _ hold, by simpa using hvars _, hb.frame _, fun _ => ⟨?_, _, _, [] ++ before, ⟨[] ++ before, [], trodAll_append (hargs _ (fun _ _ => rfl)) (hres _ _ _), hvars _, by simp, ?_, ?_⟩, ?_⟩⟩
  · intro j u r h1 h2
    rw [hrt] at h1 h2
    cases j with
    | zero =>
      simp only [List.getElem?_toArray, List.getElem?_cons_zero, Option.some.injEq] at h1
      have : r = .bool true := by simpa [Value.resultList] using h2.symm
      rw [this, ← h1]
      exact okWide_bool_mk ht true
    | succ j => simp at h1
  · intro b off hp
    have hp' : MemPlace.cell b off ∈ before := by simpa using hp
    rw [hb.frozen (hlt _ hp')]
    exact hz b off hp'
  · intro ha
    simpa using hn ha
  · intro x hx _
    simpa using hx
end
end Go.X
