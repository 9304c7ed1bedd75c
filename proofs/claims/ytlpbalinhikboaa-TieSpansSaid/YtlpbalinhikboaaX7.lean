/- New blocks, stores; the operations on values. -/
import Derived.Test.YtlpbalinhikboaaX6
namespace Go.X
open Go
section
variable {P : Program} {c : Ctx} {κ : Kap} {Im : Nat → Prop} {w : World} {H : List AObj} {K : AV → List (Nat × AObj) → Prop} {k : Value → World → Prop}

theorem cellsAV_sound {x : AV} {l : List AV} {y : Value} (h : cellsAV x = some l) (hr : AV.rel κ Im w x y) : AV.rels κ Im w l y.cells.toList := by
  have single : ∀ a : AV, a = x → (∀ ys, y ≠ .agg ys) → AV.rels κ Im w [a] y.cells.toList := fun a e hy => by
    have : y.cells = #[y] := by unfold Value.cells; split <;> simp_all
    rw [this]
    simp only [AV.rels]
    exact ⟨y, [], rfl, e ▸ hr, rfl⟩
  unfold cellsAV at h
  split at h
  · cases h
    simp only [AV.rel] at hr
    obtain ⟨ys, rfl, h2⟩ := hr
    exact h2
  · cases h
    simp only [AV.rel] at hr
    subst hr
    exact rels_map_v _
  · cases h
  · cases h
  · cases h
  · cases h
  · rename_i hx1 hx2 hx3 hx4 hx5 hx6
    cases h
    refine single _ rfl fun ys e => ?_
    subst e
    cases x with
    | v z => simp only [AV.rel] at hr; subst hr; exact hx2 _ rfl
    | any => exact hx5 rfl
    | gd j p t a => exact hx6 _ _ _ _ rfl
    | ptr i off => simp only [AV.rel] at hr; obtain ⟨b, _, h⟩ := hr; cases h
    | agg l => exact hx1 _ rfl
    | tup l => exact hx4 _ rfl
    | fn f l => simp only [AV.rel] at hr; obtain ⟨b, h, _⟩ := hr; cases h
    | rs cc xs => simp only [AV.rel] at hr; obtain ⟨b, cap, h, _⟩ := hr; cases h
    | ep cc xs n off => simp only [AV.rel] at hr; obtain ⟨_, b, o, h, _⟩ := hr; cases h
    | hd i => simp only [AV.rel, isH] at hr; cases hr.2
    | vw i kk lo n => simp only [AV.rel] at hr; obtain ⟨_, _, _, _, _, _, _, h, _⟩ := hr; cases h
    | rp i kk n off => simp only [AV.rel] at hr; obtain ⟨_, _, _, _, _, h⟩ := hr; cases h

theorem run_newVar (t : TypeId) (v : Value) : (newVar t v).run P w = .ok ⟨w.heap.size, 0, none⟩ (w.alloc (.cells v.cells t)) := by
  simp [newVar, newRow]

/-- A new block of cells, under a free id. -/
theorem Cont.cells (hk : Cont c κ Im w H K k) (hst : St c κ Im w H) {id : Nat} (hid : H[id]? = some .free) {l : List AV} {E : TypeId} {arr : Array Value}
    (h : K (.ptr id 0) [(id, .cells l E)]) (hl : AV.rels κ Im w l arr.toList) : k (.pointer (some ⟨w.heap.size, 0, none⟩)) (w.alloc (.cells arr E)) := by
  have ht := Turn.alloc w (.cells arr E)
  obtain ⟨h1, h2⟩ := hst.lay hid ht w.heap.size (Nat.le_refl _) (by simp) (.cells l E) (.pointer (some ⟨w.heap.size, 0, none⟩)) (fun κ' hle hκ =>
    ⟨w.heap.size, arr, rfl, heap_alloc_new w _, AV.rels_mono hle _ _ hl, fun x => Iff.rfl⟩)
  refine hk _ _ _ _ _ _ h h2 h1 ?_
  simp only [AV.rel]
  exact ⟨w.heap.size, setK_same _ _ _, rfl⟩

theorem alloc_sound {e : TypeId} {z : Value} {id : Nat} (hst : St c κ Im w H) (hid : H[id]? = some .free) (hz : (P.info? e).bind (·.zero) = some z)
    (hs : K (.ptr id 0) [(id, .cells (z.cells.toList.map .v) e)]) (hk : Cont c κ Im w H K k) : Gives P (do pure (.value (← Instr.alloc e true (.tuple #[])))) w k := by
  refine gives_value ?_ (hk.cells hst hid hs (rels_map_v _))
  cases hi : P.info? e with
  | none => simp [hi] at hz
  | some i =>
    have hz' : i.zero = some z := by simpa [hi] using hz
    simp [Instr.alloc, zeroValue, typeInfo, hi, hz', run_newVar]

theorem box_sound {e : TypeId} {x : AV} {y : Value} {l : List AV} {id : Nat} (hst : St c κ Im w H) (hid : H[id]? = some .free) (hx : AV.rel κ Im w x y) (hl : cellsAV x = some l)
    (hs : K (.ptr id 0) [(id, .cells l e)]) (hk : Cont c κ Im w H K k) : Gives P (do pure (.value (← Instr.box e y))) w k := by
  refine gives_value ?_ (hk.cells hst hid hs (cellsAV_sound hl hx))
  simp [Instr.box, run_newVar]

end
end Go.X
