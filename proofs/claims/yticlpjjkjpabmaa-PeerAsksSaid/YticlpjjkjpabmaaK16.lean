/- Parts of the walks: T13 K13 T14 K14 K15 T16 K16 -/
import Derived.Test.YticlpjjkjpabmaaK12

namespace Go.Proofs.Yticlpjjkjpabmaa
open Go Go.X Go.Proofs
set_option maxRecDepth 100000

def g_putS : MSig := { S := [.map .tieId .entId], ar := [.hd 0, .tc .tieId, .tc .tieId], S' := [.map .tieId .entId], keep := [some 0], rs := [] }
def l_putS : List (Nat × LoopS) := []
def w_putS (m : List (TieId × EntId)) (id x : TieId) : Prop := exec E6 (loopsOf Try.prog l_putS) 20 (bodyOf Try.f29) (startT 10 (aAV _root_.id [.hd 0, .tc .tieId, .tc .tieId] (id, x, ()))) (olay _root_.id [.map .tieId .entId] (m, ())) (retM Try.prog [] g_putS ((mput idLt id ⟨x, -1⟩ m, ()), ()))
def g_putA : MSig := { S := [.map .tieId .entHead], ar := [.hd 0, .tc .tieId, .tc .head], S' := [.map .tieId .entHead], keep := [some 0], rs := [] }
def l_putA : List (Nat × LoopS) := []
def w_putA (m : List (TieId × EntHead)) (id : TieId) (x : Head) : Prop := exec E6 (loopsOf Try.prog l_putA) 20 (bodyOf Try.f32) (startT 10 (aAV _root_.id [.hd 0, .tc .tieId, .tc .head] (id, x, ()))) (olay _root_.id [.map .tieId .entHead] (m, ())) (retM Try.prog [] g_putA ((mput idLt id ⟨x, -1⟩ m, ()), ()))
def g_dueS : MSig := { S := [.map .tieId .entId], ar := [.hd 0, .tc .int], S' := [.map .tieId .entId, .row .tieId 29], keep := [some 0, none], rs := [.hd 1] }
def l_dueS : List (Nat × LoopS) := [(3, { S := [.map .tieId .entId, .row .tieId 29], at_ := [some 0, none], slots := [5, 13], ar := [.hd 1, .tc .int], keep := [5] })]
def w_dueS (m : List (TieId × EntId)) (now : Int) (y : List (TieId × EntId) × List TieId) : Prop := exec E6 (loopsOf Try.prog l_dueS) 20 (bodyOf Try.f30) (startT 43 (aAV _root_.id [.hd 0, .tc .int] (now, ()))) (olay _root_.id [.map .tieId .entId] (m, ())) (retM Try.prog [.tmp 4] g_dueS ((y.1, y.2, ()), ()))
def g_dueA : MSig := { S := [.map .tieId .entHead], ar := [.hd 0, .tc .int], S' := [.map .tieId .entHead, .row .head 38], keep := [some 0, none], rs := [.hd 1] }
def l_dueA : List (Nat × LoopS) := [(3, { S := [.map .tieId .entHead, .row .head 38], at_ := [some 0, none], slots := [5, 13], ar := [.hd 1, .tc .int], keep := [5] })]
def w_dueA (m : List (TieId × EntHead)) (now : Int) (y : List (TieId × EntHead) × List Head) : Prop := exec E7 (loopsOf Try.prog l_dueA) 20 (bodyOf Try.f31) (startT 43 (aAV _root_.id [.hd 0, .tc .int] (now, ()))) (olay _root_.id [.map .tieId .entHead] (m, ())) (retM Try.prog [.tmp 4] g_dueA ((y.1, y.2, ()), ()))

theorem nf_putS (m : List (TieId × EntId)) (id x : TieId) : w_putS m id x = (
Ok (((mput TC.tieId.lt id { what := x, last := (-1 : Int) } m, ()), ()) = ((mput idLt id { what := x, last := (-1 : Int) } m, ()), ()))) := by kernel_rfl

theorem nf_putA (m : List (TieId × EntHead)) (id : TieId) (x : Head) : w_putA m id x = (
Ok (((mput TC.tieId.lt id { what := x, last := (-1 : Int) } m, ()), ()) = ((mput idLt id { what := x, last := (-1 : Int) } m, ()), ()))) := by kernel_rfl

theorem nf_dueS (m : List (TieId × EntId)) (now : Int) (y : List (TieId × EntId) × List TieId) : w_dueS m now y = (
Ok True ∧
  Ok (Rise m ∧ m.length ≤ (2 : Nat) ^ (30 : Nat)) ∧
    ∀ (R0 : (List (TieId × EntId) × List TieId × Unit) × Int × Unit → Prop),
      (∀ (l1 : List (TieId × EntId)) (l2 : List TieId) (i3 : Int),
          cnd (decide (i3 < ↑(List.map (fun (x : TC.tieId.den × TC.entId.den) => x.fst) m).length))
              (Ok ((0 : Int) ≤ i3 ∧ i3 < ↑(List.map (fun (x : TC.tieId.den × TC.entId.den) => x.fst) m).length) ∧
                Ok
                    ((!((mget ((List.map (fun (x : TC.tieId.den × TC.entId.den) => x.fst) m).getD i3.toNat TC.tieId.d) l1).getD
                                { what := { Dir := (0 : Int), Origin := (0 : Int), Kind := (0 : Int), Nr := (0 : Int) }, last := (0 : Int) }).last ==
                            (-1 : Int)) =
                        true →
                      (!((mget ((List.map (fun (x : TC.tieId.den × TC.entId.den) => x.fst) m).getD i3.toNat TC.tieId.d) l1).getD
                                { what := { Dir := (0 : Int), Origin := (0 : Int), Kind := (0 : Int), Nr := (0 : Int) }, last := (0 : Int) }).last ==
                            (-1 : Int)) =
                        true) ∧
                  Ok
                      ((!((mget ((List.map (fun (x : TC.tieId.den × TC.entId.den) => x.fst) m).getD i3.toNat TC.tieId.d) l1).getD
                                  { what := { Dir := (0 : Int), Origin := (0 : Int), Kind := (0 : Int), Nr := (0 : Int) }, last := (0 : Int) }).last ==
                              (-1 : Int)) =
                          true →
                        (!((mget ((List.map (fun (x : TC.tieId.den × TC.entId.den) => x.fst) m).getD i3.toNat TC.tieId.d) l1).getD
                                  { what := { Dir := (0 : Int), Origin := (0 : Int), Kind := (0 : Int), Nr := (0 : Int) }, last := (0 : Int) }).last ==
                              (-1 : Int)) =
                          true) ∧
                    Ok
                        ((!((mget ((List.map (fun (x : TC.tieId.den × TC.entId.den) => x.fst) m).getD i3.toNat TC.tieId.d) l1).getD
                                    { what := { Dir := (0 : Int), Origin := (0 : Int), Kind := (0 : Int), Nr := (0 : Int) }, last := (0 : Int) }).last ==
                                (-1 : Int)) =
                            true →
                          (!((mget ((List.map (fun (x : TC.tieId.den × TC.entId.den) => x.fst) m).getD i3.toNat TC.tieId.d) l1).getD
                                    { what := { Dir := (0 : Int), Origin := (0 : Int), Kind := (0 : Int), Nr := (0 : Int) }, last := (0 : Int) }).last ==
                                (-1 : Int)) =
                            true) ∧
                      Ok
                          ((!((mget ((List.map (fun (x : TC.tieId.den × TC.entId.den) => x.fst) m).getD i3.toNat TC.tieId.d) l1).getD
                                      { what := { Dir := (0 : Int), Origin := (0 : Int), Kind := (0 : Int), Nr := (0 : Int) }, last := (0 : Int) }).last ==
                                  (-1 : Int)) =
                              true →
                            (!((mget ((List.map (fun (x : TC.tieId.den × TC.entId.den) => x.fst) m).getD i3.toNat TC.tieId.d) l1).getD
                                      { what := { Dir := (0 : Int), Origin := (0 : Int), Kind := (0 : Int), Nr := (0 : Int) }, last := (0 : Int) }).last ==
                                  (-1 : Int)) =
                              true) ∧
                        Ok
                            ((((mget ((List.map (fun (x : TC.tieId.den × TC.entId.den) => x.fst) m).getD i3.toNat TC.tieId.d) l1).getD
                                      { what := { Dir := (0 : Int), Origin := (0 : Int), Kind := (0 : Int), Nr := (0 : Int) }, last := (0 : Int) }).last ==
                                  (-1 : Int)) =
                                false →
                              (!((mget ((List.map (fun (x : TC.tieId.den × TC.entId.den) => x.fst) m).getD i3.toNat TC.tieId.d) l1).getD
                                        { what := { Dir := (0 : Int), Origin := (0 : Int), Kind := (0 : Int), Nr := (0 : Int) }, last := (0 : Int) }).last ==
                                    (-1 : Int)) =
                                true) ∧
                          cnd
                            (((mget ((List.map (fun (x : TC.tieId.den × TC.entId.den) => x.fst) m).getD i3.toNat TC.tieId.d) l1).getD
                                    { what := { Dir := (0 : Int), Origin := (0 : Int), Kind := (0 : Int), Nr := (0 : Int) }, last := (0 : Int) }).last ==
                                (-1 : Int) ||
                              decide
                                (IntKind.i64.wrap
                                    (now -
                                      ((mget ((List.map (fun (x : TC.tieId.den × TC.entId.den) => x.fst) m).getD i3.toNat TC.tieId.d) l1).getD
                                          { what := { Dir := (0 : Int), Origin := (0 : Int), Kind := (0 : Int), Nr := (0 : Int) }, last := (0 : Int) }).last) ≥
                                  (3 : Int)))
                            (Ok
                                ((l2.length +
                                      [((mget ((List.map (fun (x : TC.tieId.den × TC.entId.den) => x.fst) m).getD i3.toNat TC.tieId.d) l1).getD
                                              { what := { Dir := (0 : Int), Origin := (0 : Int), Kind := (0 : Int), Nr := (0 : Int) }, last := (0 : Int) }).what].length) *
                                    (32 : Nat) ≤
                                  (2 : Nat) ^ (47 : Nat)) ∧
                              Ok
                                  (AObj.row (29 : TypeId) TC.tieId (List.map (fun (x : TC.tieId.den × TC.entId.den) => x.fst) m) =
                                    AObj.row (29 : TypeId) TC.tieId (List.map (fun (x : TC.tieId.den × TC.entId.den) => x.fst) m)) ∧
                                R0
                                  ((mput TC.tieId.lt ((List.map (fun (x : TC.tieId.den × TC.entId.den) => x.fst) m).getD i3.toNat TC.tieId.d)
                                        {
                                          what :=
                                            ((mget ((List.map (fun (x : TC.tieId.den × TC.entId.den) => x.fst) m).getD i3.toNat TC.tieId.d) l1).getD
                                                { what := { Dir := (0 : Int), Origin := (0 : Int), Kind := (0 : Int), Nr := (0 : Int) }, last := (0 : Int) }).what,
                                          last := now }
                                        l1,
                                      l2 ++
                                        [((mget ((List.map (fun (x : TC.tieId.den × TC.entId.den) => x.fst) m).getD i3.toNat TC.tieId.d) l1).getD
                                              { what := { Dir := (0 : Int), Origin := (0 : Int), Kind := (0 : Int), Nr := (0 : Int) }, last := (0 : Int) }).what],
                                      ()),
                                    IntKind.i64.wrap (i3 + (1 : Int)), ()))
                            (Ok
                                (AObj.row (29 : TypeId) TC.tieId (List.map (fun (x : TC.tieId.den × TC.entId.den) => x.fst) m) =
                                  AObj.row (29 : TypeId) TC.tieId (List.map (fun (x : TC.tieId.den × TC.entId.den) => x.fst) m)) ∧
                              R0 ((l1, l2, ()), IntKind.i64.wrap (i3 + (1 : Int)), ())))
              (Ok (((l1, l2, ()), ()) = ((y.fst, y.snd, ()), ()))) →
            R0 ((l1, l2, ()), i3, ())) →
        R0 ((m, [], ()), (0 : Int), ())) := by kernel_rfl

theorem nf_dueA (m : List (TieId × EntHead)) (now : Int) (y : List (TieId × EntHead) × List Head) : w_dueA m now y = (
Ok True ∧
  Ok (Rise m ∧ m.length ≤ (2 : Nat) ^ (30 : Nat)) ∧
    ∀ (R0 : (List (TieId × EntHead) × List Head × Unit) × Int × Unit → Prop),
      (∀ (l1 : List (TieId × EntHead)) (l2 : List Head) (i3 : Int),
          cnd (decide (i3 < ↑(List.map (fun (x : TC.tieId.den × TC.entHead.den) => x.fst) m).length))
              (Ok ((0 : Int) ≤ i3 ∧ i3 < ↑(List.map (fun (x : TC.tieId.den × TC.entHead.den) => x.fst) m).length) ∧
                Ok
                    ((!((mget ((List.map (fun (x : TC.tieId.den × TC.entHead.den) => x.fst) m).getD i3.toNat TC.tieId.d) l1).getD
                                { what := { Id := { Dir := (0 : Int), Origin := (0 : Int), Kind := (0 : Int), Nr := (0 : Int) }, Seq := (0 : Int), Life := (0 : Int) }, last := (0 : Int) }).last ==
                            (-1 : Int)) =
                        true →
                      (!((mget ((List.map (fun (x : TC.tieId.den × TC.entHead.den) => x.fst) m).getD i3.toNat TC.tieId.d) l1).getD
                                { what := { Id := { Dir := (0 : Int), Origin := (0 : Int), Kind := (0 : Int), Nr := (0 : Int) }, Seq := (0 : Int), Life := (0 : Int) }, last := (0 : Int) }).last ==
                            (-1 : Int)) =
                        true) ∧
                  Ok
                      ((!((mget ((List.map (fun (x : TC.tieId.den × TC.entHead.den) => x.fst) m).getD i3.toNat TC.tieId.d) l1).getD
                                  { what := { Id := { Dir := (0 : Int), Origin := (0 : Int), Kind := (0 : Int), Nr := (0 : Int) }, Seq := (0 : Int), Life := (0 : Int) }, last := (0 : Int) }).last ==
                              (-1 : Int)) =
                          true →
                        (!((mget ((List.map (fun (x : TC.tieId.den × TC.entHead.den) => x.fst) m).getD i3.toNat TC.tieId.d) l1).getD
                                  { what := { Id := { Dir := (0 : Int), Origin := (0 : Int), Kind := (0 : Int), Nr := (0 : Int) }, Seq := (0 : Int), Life := (0 : Int) }, last := (0 : Int) }).last ==
                              (-1 : Int)) =
                          true) ∧
                    Ok
                        ((!((mget ((List.map (fun (x : TC.tieId.den × TC.entHead.den) => x.fst) m).getD i3.toNat TC.tieId.d) l1).getD
                                    { what := { Id := { Dir := (0 : Int), Origin := (0 : Int), Kind := (0 : Int), Nr := (0 : Int) }, Seq := (0 : Int), Life := (0 : Int) }, last := (0 : Int) }).last ==
                                (-1 : Int)) =
                            true →
                          (!((mget ((List.map (fun (x : TC.tieId.den × TC.entHead.den) => x.fst) m).getD i3.toNat TC.tieId.d) l1).getD
                                    { what := { Id := { Dir := (0 : Int), Origin := (0 : Int), Kind := (0 : Int), Nr := (0 : Int) }, Seq := (0 : Int), Life := (0 : Int) }, last := (0 : Int) }).last ==
                                (-1 : Int)) =
                            true) ∧
                      Ok
                          ((!((mget ((List.map (fun (x : TC.tieId.den × TC.entHead.den) => x.fst) m).getD i3.toNat TC.tieId.d) l1).getD
                                      { what := { Id := { Dir := (0 : Int), Origin := (0 : Int), Kind := (0 : Int), Nr := (0 : Int) }, Seq := (0 : Int), Life := (0 : Int) },
                                        last := (0 : Int) }).last ==
                                  (-1 : Int)) =
                              true →
                            (!((mget ((List.map (fun (x : TC.tieId.den × TC.entHead.den) => x.fst) m).getD i3.toNat TC.tieId.d) l1).getD
                                      { what := { Id := { Dir := (0 : Int), Origin := (0 : Int), Kind := (0 : Int), Nr := (0 : Int) }, Seq := (0 : Int), Life := (0 : Int) },
                                        last := (0 : Int) }).last ==
                                  (-1 : Int)) =
                              true) ∧
                        Ok
                            ((((mget ((List.map (fun (x : TC.tieId.den × TC.entHead.den) => x.fst) m).getD i3.toNat TC.tieId.d) l1).getD
                                      { what := { Id := { Dir := (0 : Int), Origin := (0 : Int), Kind := (0 : Int), Nr := (0 : Int) }, Seq := (0 : Int), Life := (0 : Int) },
                                        last := (0 : Int) }).last ==
                                  (-1 : Int)) =
                                false →
                              (!((mget ((List.map (fun (x : TC.tieId.den × TC.entHead.den) => x.fst) m).getD i3.toNat TC.tieId.d) l1).getD
                                        { what := { Id := { Dir := (0 : Int), Origin := (0 : Int), Kind := (0 : Int), Nr := (0 : Int) }, Seq := (0 : Int), Life := (0 : Int) },
                                          last := (0 : Int) }).last ==
                                    (-1 : Int)) =
                                true) ∧
                          cnd
                            (((mget ((List.map (fun (x : TC.tieId.den × TC.entHead.den) => x.fst) m).getD i3.toNat TC.tieId.d) l1).getD
                                    { what := { Id := { Dir := (0 : Int), Origin := (0 : Int), Kind := (0 : Int), Nr := (0 : Int) }, Seq := (0 : Int), Life := (0 : Int) }, last := (0 : Int) }).last ==
                                (-1 : Int) ||
                              decide
                                (IntKind.i64.wrap
                                    (now -
                                      ((mget ((List.map (fun (x : TC.tieId.den × TC.entHead.den) => x.fst) m).getD i3.toNat TC.tieId.d) l1).getD
                                          { what := { Id := { Dir := (0 : Int), Origin := (0 : Int), Kind := (0 : Int), Nr := (0 : Int) }, Seq := (0 : Int), Life := (0 : Int) },
                                            last := (0 : Int) }).last) ≥
                                  (3 : Int)))
                            (Ok
                                ((l2.length +
                                      [((mget ((List.map (fun (x : TC.tieId.den × TC.entHead.den) => x.fst) m).getD i3.toNat TC.tieId.d) l1).getD
                                              { what := { Id := { Dir := (0 : Int), Origin := (0 : Int), Kind := (0 : Int), Nr := (0 : Int) }, Seq := (0 : Int), Life := (0 : Int) },
                                                last := (0 : Int) }).what].length) *
                                    (48 : Nat) ≤
                                  (2 : Nat) ^ (47 : Nat)) ∧
                              Ok
                                  (AObj.row (29 : TypeId) TC.tieId (List.map (fun (x : TC.tieId.den × TC.entHead.den) => x.fst) m) =
                                    AObj.row (29 : TypeId) TC.tieId (List.map (fun (x : TC.tieId.den × TC.entHead.den) => x.fst) m)) ∧
                                R0
                                  ((mput TC.tieId.lt ((List.map (fun (x : TC.tieId.den × TC.entHead.den) => x.fst) m).getD i3.toNat TC.tieId.d)
                                        {
                                          what :=
                                            ((mget ((List.map (fun (x : TC.tieId.den × TC.entHead.den) => x.fst) m).getD i3.toNat TC.tieId.d) l1).getD
                                                { what := { Id := { Dir := (0 : Int), Origin := (0 : Int), Kind := (0 : Int), Nr := (0 : Int) }, Seq := (0 : Int), Life := (0 : Int) },
                                                  last := (0 : Int) }).what,
                                          last := now }
                                        l1,
                                      l2 ++
                                        [((mget ((List.map (fun (x : TC.tieId.den × TC.entHead.den) => x.fst) m).getD i3.toNat TC.tieId.d) l1).getD
                                              { what := { Id := { Dir := (0 : Int), Origin := (0 : Int), Kind := (0 : Int), Nr := (0 : Int) }, Seq := (0 : Int), Life := (0 : Int) },
                                                last := (0 : Int) }).what],
                                      ()),
                                    IntKind.i64.wrap (i3 + (1 : Int)), ()))
                            (Ok
                                (AObj.row (29 : TypeId) TC.tieId (List.map (fun (x : TC.tieId.den × TC.entHead.den) => x.fst) m) =
                                  AObj.row (29 : TypeId) TC.tieId (List.map (fun (x : TC.tieId.den × TC.entHead.den) => x.fst) m)) ∧
                              R0 ((l1, l2, ()), IntKind.i64.wrap (i3 + (1 : Int)), ())))
              (Ok (((l1, l2, ()), ()) = ((y.fst, y.snd, ()), ()))) →
            R0 ((l1, l2, ()), i3, ())) →
        R0 ((m, [], ()), (0 : Int), ())) := by kernel_rfl

end Go.Proofs.Yticlpjjkjpabmaa

namespace Go.Proofs.Yticlpjjkjpabmaa
open Go Go.X Go.Proofs Go.Sort
set_option maxRecDepth 100000

/-! ### Rising maps -/
theorem rise_lt {β : Type} {a r : List (TieId × β)} {k : TieId} {v : β} (h : Rise (a ++ (k, v) :: r)) : (∀ q ∈ a, cmpId q.1 k < 0) ∧ (∀ q ∈ r, cmpId k q.1 < 0) ∧ Rise (a ++ r) := by
  unfold Rise at *
  simp only [List.map_append, List.map_cons, List.pairwise_append, List.pairwise_cons] at h ⊢
  obtain ⟨h1, ⟨h2, h3⟩, h4⟩ := h
  refine ⟨fun q hq => h4 _ (List.mem_map.2 ⟨q, hq, rfl⟩) _ (by simp), fun q hq => h2 _ (List.mem_map.2 ⟨q, hq, rfl⟩), h1, h3, fun x hx y hy => h4 x hx y (by simp [hy])⟩
theorem cmpId_ne {a b : TieId} (h : cmpId a b < 0) : a ≠ b := by
  rintro rfl
  rw [cmpId_lt] at h
  omega
theorem cmpId_asym {a b : TieId} (h : cmpId a b < 0) : ¬ cmpId b a < 0 := by
  rw [cmpId_lt] at *
  omega
theorem mins_at {β : Type} {k : TieId} {v : β} : ∀ {a r : List (TieId × β)}, (∀ q ∈ a, cmpId q.1 k < 0) → (∀ q ∈ r, cmpId k q.1 < 0) → mins idLt (k, v) (a ++ r) = a ++ (k, v) :: r
  | [], [], _, _ => rfl
  | [], q :: r, _, h => by
    simp only [List.nil_append, mins, idLt_cmp]
    rw [if_pos (by simpa using h q (by simp))]
  | q :: a, r, h1, h2 => by
    simp only [List.cons_append, mins, idLt_cmp]
    rw [if_neg (by simpa using cmpId_asym (h1 q (by simp)))]
    have := mins_at (a := a) (r := r) (v := v) (fun q hq => h1 q (by simp [hq])) h2
    rw [this]
theorem mput_at {β : Type} {a r : List (TieId × β)} {k : TieId} {v v' : β} (h : Rise (a ++ (k, v) :: r)) : mput idLt k v' (a ++ (k, v) :: r) = a ++ (k, v') :: r := by
  obtain ⟨h1, h2, _⟩ := rise_lt h
  have : mdel k (a ++ (k, v) :: r) = a ++ r := by
    unfold mdel
    rw [List.filter_append, List.filter_cons_of_neg (by simp), List.filter_eq_self.2, List.filter_eq_self.2]
    · intro q hq; simpa using (cmpId_ne (h2 q hq)).symm
    · intro q hq; simpa using cmpId_ne (h1 q hq)
  unfold mput
  rw [this]
  exact mins_at h1 h2
theorem mget_at {β : Type} {a r : List (TieId × β)} {k : TieId} {v : β} (h : Rise (a ++ (k, v) :: r)) : mget k (a ++ (k, v) :: r) = some v := mget_mem (rise_nodup h) (by simp)
theorem rise_keys {β γ : Type} {m : List (TieId × β)} {m' : List (TieId × γ)} (h : Rise m) (e : m'.map (·.1) = m.map (·.1)) : Rise m' := by unfold Rise; rw [e]; exact h

/-! ### due -/
def isDue (now last : Int) : Bool := last == -1 || decide (IntKind.i64.wrap (now - last) ≥ 3)
def turnS (now : Int) (p : TieId × EntId) : TieId × EntId := if isDue now p.2.last then (p.1, ⟨p.2.what, now⟩) else p
def outS (now : Int) (m : List (TieId × EntId)) : List TieId := (m.filter fun p => isDue now p.2.last).map (·.2.what)
theorem turnS_key (now : Int) (p : TieId × EntId) : (turnS now p).1 = p.1 := by unfold turnS; split <;> rfl

theorem k_dueS (m : List (TieId × EntId)) (now : Int) (hm : Rise m) (hl : m.length ≤ 2 ^ 30) : w_dueS m now (m.map (turnS now), outS now m) := by
  rw [nf_dueS]
  refine ⟨⟨trivial⟩, ⟨⟨hm, hl⟩⟩, ?_⟩
  intro R hR
  refine loop_list (m.map (·.1)) (fun (b : List (TieId × EntId) × List TieId) i => R ((b.1, b.2, ()), (i : Int), ()))
    (fun r b => ∃ a rest, a ++ rest = m ∧ rest.map (·.1) = r ∧ b = (a.map (turnS now) ++ rest, outS now a)) ?_ ?_ (m, []) ⟨[], m, rfl, rfl, rfl⟩
  · rintro i x r b hd hi ⟨a, rest, e1, e2, rfl⟩ next
    cases rest with
    | nil => simp at e2
    | cons p rest =>
      simp only [List.map_cons, List.cons.injEq] at e2
      obtain ⟨rfl, rfl⟩ := e2
      have hr : Rise (a.map (turnS now) ++ (p.1, p.2) :: rest) := rise_keys hm (by rw [← e1]; simp [Function.comp_def, turnS_key])
      have hg := mget_at hr
      have hlen : (m.map (·.1)).length ≤ 2 ^ 30 := by simpa using hl
      have ha : (outS now a).length ≤ a.length := by unfold outS; rw [List.length_map]; exact List.length_filter_le _ _
      have hal : a.length ≤ m.length := by rw [← e1]; simp
      apply hR
      simp only [Int.toNat_natCast, getD_at hd, Ok_iff, Int.ofNat_lt, hi, decide_true, cnd_true, Int.natCast_nonneg, true_and, imp_self]
      rw [show (p.1, p.2) = p from rfl] at hg
      simp only [hg, Option.getD_some]
      rw [wrap_nat (by omega)]
      refine ⟨fun h => by rw [h]; rfl, ?_⟩
      show cnd (isDue now p.2.last) _ _
      rw [cnd_iff]
      refine ⟨fun h => ⟨?_, ?_⟩, fun h => ?_⟩
      · simp only [List.length_cons, List.length_nil]; omega
      · have hput := mput_at (v' := (⟨p.2.what, now⟩ : EntId)) hr
        have := next (a.map (turnS now) ++ (p.1, ⟨p.2.what, now⟩) :: rest, outS now a ++ [p.2.what]) ⟨a ++ [p], rest, by simp [e1], rfl, by simp [turnS, outS, h]⟩
        rw [← hput] at this
        exact this
      · exact next (a.map (turnS now) ++ p :: rest, outS now a) ⟨a ++ [p], rest, by simp [e1], rfl, by simp [turnS, outS, h]⟩
  · rintro b ⟨a, rest, e1, e2, rfl⟩
    have : rest = [] := by simpa using e2
    subst this
    simp only [List.append_nil] at e1 ⊢
    subst e1
    apply hR
    simp [Ok_iff]

def turnA (now : Int) (p : TieId × EntHead) : TieId × EntHead := if isDue now p.2.last then (p.1, ⟨p.2.what, now⟩) else p
def outsA (now : Int) (m : List (TieId × EntHead)) : List Head := (m.filter fun p => isDue now p.2.last).map (·.2.what)
theorem turnA_key (now : Int) (p : TieId × EntHead) : (turnA now p).1 = p.1 := by unfold turnA; split <;> rfl

theorem k_dueA (m : List (TieId × EntHead)) (now : Int) (hm : Rise m) (hl : m.length ≤ 2 ^ 30) : w_dueA m now (m.map (turnA now), outsA now m) := by
  rw [nf_dueA]
  refine ⟨⟨trivial⟩, ⟨⟨hm, hl⟩⟩, ?_⟩
  intro R hR
  refine loop_list (m.map (·.1)) (fun (b : List (TieId × EntHead) × List Head) i => R ((b.1, b.2, ()), (i : Int), ()))
    (fun r b => ∃ a rest, a ++ rest = m ∧ rest.map (·.1) = r ∧ b = (a.map (turnA now) ++ rest, outsA now a)) ?_ ?_ (m, []) ⟨[], m, rfl, rfl, rfl⟩
  · rintro i x r b hd hi ⟨a, rest, e1, e2, rfl⟩ next
    cases rest with
    | nil => simp at e2
    | cons p rest =>
      simp only [List.map_cons, List.cons.injEq] at e2
      obtain ⟨rfl, rfl⟩ := e2
      have hr : Rise (a.map (turnA now) ++ (p.1, p.2) :: rest) := rise_keys hm (by rw [← e1]; simp [Function.comp_def, turnA_key])
      have hg := mget_at hr
      have hlen : (m.map (·.1)).length ≤ 2 ^ 30 := by simpa using hl
      have ha : (outsA now a).length ≤ a.length := by unfold outsA; rw [List.length_map]; exact List.length_filter_le _ _
      have hal : a.length ≤ m.length := by rw [← e1]; simp
      apply hR
      simp only [Int.toNat_natCast, getD_at hd, Ok_iff, Int.ofNat_lt, hi, decide_true, cnd_true, Int.natCast_nonneg, true_and, imp_self]
      rw [show (p.1, p.2) = p from rfl] at hg
      simp only [hg, Option.getD_some]
      rw [wrap_nat (by omega)]
      refine ⟨fun h => by rw [h]; rfl, ?_⟩
      show cnd (isDue now p.2.last) _ _
      rw [cnd_iff]
      refine ⟨fun h => ⟨?_, ?_⟩, fun h => ?_⟩
      · simp only [List.length_cons, List.length_nil]; omega
      · have hput := mput_at (v' := (⟨p.2.what, now⟩ : EntHead)) hr
        have := next (a.map (turnA now) ++ (p.1, ⟨p.2.what, now⟩) :: rest, outsA now a ++ [p.2.what]) ⟨a ++ [p], rest, by simp [e1], rfl, by simp [turnA, outsA, h]⟩
        rw [← hput] at this
        exact this
      · exact next (a.map (turnA now) ++ p :: rest, outsA now a) ⟨a ++ [p], rest, by simp [e1], rfl, by simp [turnA, outsA, h]⟩
  · rintro b ⟨a, rest, e1, e2, rfl⟩
    have : rest = [] := by simpa using e2
    subst this
    simp only [List.append_nil] at e1 ⊢
    subst e1
    apply hR
    simp [Ok_iff]

theorem m29 : MutOk Try.prog 29 g_putS (fun _ _ => True) (fun d a => ((mput idLt a.1 ⟨a.2.1, -1⟩ d.1, ()), ())) :=
  mut_of_exec ok6 (L := loopsOf Try.prog l_putS) (fuel := 20) Try.func29 (code := bodyOf Try.f29) (by kernel_rfl) (by kernel_rfl) (rvs := []) (by kernel_rfl) rfl (by
    rintro ⟨m, ⟨⟩⟩ ⟨id, x, ⟨⟩⟩ -
    exact (nf_putS m id x).mpr ⟨rfl⟩)
theorem m32 : MutOk Try.prog 32 g_putA (fun _ _ => True) (fun d a => ((mput idLt a.1 ⟨a.2.1, -1⟩ d.1, ()), ())) :=
  mut_of_exec ok6 (L := loopsOf Try.prog l_putA) (fuel := 20) Try.func32 (code := bodyOf Try.f32) (by kernel_rfl) (by kernel_rfl) (rvs := []) (by kernel_rfl) rfl (by
    rintro ⟨m, ⟨⟩⟩ ⟨id, x, ⟨⟩⟩ -
    exact (nf_putA m id x).mpr ⟨rfl⟩)
theorem m30 : MutOk Try.prog 30 g_dueS (fun d _ => Rise d.1 ∧ d.1.length ≤ 2 ^ 30) (fun d a => ((d.1.map (turnS a.1), outS a.1 d.1, ()), ())) :=
  mut_of_exec ok6 (L := loopsOf Try.prog l_dueS) (fuel := 20) Try.func30 (code := bodyOf Try.f30) (by kernel_rfl) (by kernel_rfl) (rvs := [.tmp 4]) (by kernel_rfl) rfl (by
    rintro ⟨m, ⟨⟩⟩ ⟨now, ⟨⟩⟩ ⟨h1, h2⟩
    exact k_dueS m now h1 h2)
theorem m31 : MutOk Try.prog 31 g_dueA (fun d _ => Rise d.1 ∧ d.1.length ≤ 2 ^ 30) (fun d a => ((d.1.map (turnA a.1), outsA a.1 d.1, ()), ())) :=
  mut_of_exec ok7 (L := loopsOf Try.prog l_dueA) (fuel := 20) Try.func31 (code := bodyOf Try.f31) (by kernel_rfl) (by kernel_rfl) (rvs := [.tmp 4]) (by kernel_rfl) rfl (by
    rintro ⟨m, ⟨⟩⟩ ⟨now, ⟨⟩⟩ ⟨h1, h2⟩
    exact k_dueA m now h1 h2)
noncomputable def E8 : Env := mkEnv Try.prog tcS [.pure p27 Try.call27, .pure p28 Try.call28, .mut m29 Try.call29, .mut m32 Try.call32, .mut m30 Try.call30, .mut m31 Try.call31]
theorem ok8 : EnvOk E8 := mkEnv_ok mixed tcS _
end Go.Proofs.Yticlpjjkjpabmaa

namespace Go.Proofs.Yticlpjjkjpabmaa
open Go Go.X Go.Proofs
set_option maxRecDepth 100000

def g_pNew : MSig := { S := [], ar := [], S' := [.cells [.hd 1, .hd 2] 63, .map .tieId .entId, .map .tieId .entHead], keep := [none, none, none], rs := [.ptr 0] }
def l_pNew : List (Nat × LoopS) := []
def w_pNew (y : List (TieId × EntId) × List (TieId × EntHead)) : Prop := exec E8 (loopsOf Try.prog l_pNew) 20 (bodyOf Try.f12) (startT 5 (aAV _root_.id [] ())) (olay _root_.id [] ()) (retM Try.prog [.tmp 0] g_pNew (((), y.1, y.2, ()), ()))
def g_pSend : MSig := { S := [.cells [.hd 1, .hd 2] 63, .map .tieId .entId, .map .tieId .entHead], ar := [.ptr 0, .tc .tieId], S' := [.cells [.hd 1, .hd 2] 63, .map .tieId .entId, .map .tieId .entHead], keep := [some 0, some 1, some 2], rs := [] }
def l_pSend : List (Nat × LoopS) := []
def w_pSend (s : List (TieId × EntId)) (k : List (TieId × EntHead)) (id : TieId) : Prop := exec E8 (loopsOf Try.prog l_pSend) 20 (bodyOf Try.f13) (startT 11 (aAV _root_.id [.ptr 0, .tc .tieId] (id, ()))) (olay _root_.id [.cells [.hd 1, .hd 2] 63, .map .tieId .entId, .map .tieId .entHead] ((), s, k, ())) (retM Try.prog [] g_pSend (((), mput idLt id ⟨id, -1⟩ s, k, ()), ()))
def g_pTold : MSig := { S := [.cells [.hd 1, .hd 2] 63, .map .tieId .entId, .map .tieId .entHead], ar := [.ptr 0, .tc .tieId], S' := [.cells [.hd 1, .hd 2] 63, .map .tieId .entId, .map .tieId .entHead], keep := [some 0, some 1, some 2], rs := [] }
def l_pTold : List (Nat × LoopS) := []
def w_pTold (s : List (TieId × EntId)) (k : List (TieId × EntHead)) (id : TieId) : Prop := exec E8 (loopsOf Try.prog l_pTold) 20 (bodyOf Try.f15) (startT 9 (aAV _root_.id [.ptr 0, .tc .tieId] (id, ()))) (olay _root_.id [.cells [.hd 1, .hd 2] 63, .map .tieId .entId, .map .tieId .entHead] ((), s, k, ())) (retM Try.prog [] g_pTold (((), mdel id s, k, ()), ()))
def g_pLen : MSig := { S := [.cells [.hd 1, .hd 2] 63, .map .tieId .entId, .map .tieId .entHead], ar := [.ptr 0], S' := [.cells [.hd 1, .hd 2] 63, .map .tieId .entId, .map .tieId .entHead], keep := [some 0, some 1, some 2], rs := [.tc .int, .tc .int] }
def l_pLen : List (Nat × LoopS) := []
def w_pLen (s : List (TieId × EntId)) (k : List (TieId × EntHead)) (y : Int × Int) : Prop := exec E8 (loopsOf Try.prog l_pLen) 20 (bodyOf Try.f16) (startT 14 (aAV _root_.id [.ptr 0] ())) (olay _root_.id [.cells [.hd 1, .hd 2] 63, .map .tieId .entId, .map .tieId .entHead] ((), s, k, ())) (retM Try.prog [.tmp 2, .tmp 3] g_pLen (((), s, k, ()), (y.1, y.2, ())))
def g_pAsk : MSig := { S := [.cells [.hd 1, .hd 2] 63, .map .tieId .entId, .map .tieId .entHead], ar := [.ptr 0, .tc .head], S' := [.cells [.hd 1, .hd 2] 63, .map .tieId .entId, .map .tieId .entHead], keep := [some 0, some 1, some 2], rs := [] }
def l_pAsk : List (Nat × LoopS) := []
def w_pAsk (s : List (TieId × EntId)) (k : List (TieId × EntHead)) (h : Head) (y : List (TieId × EntHead)) : Prop := exec E8 (loopsOf Try.prog l_pAsk) 20 (bodyOf Try.f17) (startT 33 (aAV _root_.id [.ptr 0, .tc .head] (h, ()))) (olay _root_.id [.cells [.hd 1, .hd 2] 63, .map .tieId .entId, .map .tieId .entHead] ((), s, k, ())) (retM Try.prog [] g_pAsk (((), s, y, ()), ()))
def g_pGot : MSig := { S := [.cells [.hd 1, .hd 2] 63, .map .tieId .entId, .map .tieId .entHead], ar := [.ptr 0, .tc .head], S' := [.cells [.hd 1, .hd 2] 63, .map .tieId .entId, .map .tieId .entHead], keep := [some 0, some 1, some 2], rs := [] }
def l_pGot : List (Nat × LoopS) := []
def w_pGot (s : List (TieId × EntId)) (k : List (TieId × EntHead)) (h : Head) (y : List (TieId × EntHead)) : Prop := exec E8 (loopsOf Try.prog l_pGot) 20 (bodyOf Try.f18) (startT 30 (aAV _root_.id [.ptr 0, .tc .head] (h, ()))) (olay _root_.id [.cells [.hd 1, .hd 2] 63, .map .tieId .entId, .map .tieId .entHead] ((), s, k, ())) (retM Try.prog [] g_pGot (((), s, y, ()), ()))
def g_pTick : MSig := { S := [.cells [.hd 1, .hd 2] 63, .map .tieId .entId, .map .tieId .entHead], ar := [.ptr 0, .tc .int], S' := [.cells [.hd 1, .hd 2] 63, .map .tieId .entId, .map .tieId .entHead, .row .tieId 29, .row .head 38], keep := [some 0, some 1, some 2, none, none], rs := [.hd 3, .hd 4, .tc .int] }
def l_pTick : List (Nat × LoopS) := []
def w_pTick (s : List (TieId × EntId)) (k : List (TieId × EntHead)) (now : Int) (y : (List (TieId × EntId) × List (TieId × EntHead)) × (List TieId × List Head × Int)) : Prop := exec E8 (loopsOf Try.prog l_pTick) 20 (bodyOf Try.f14) (startT 25 (aAV _root_.id [.ptr 0, .tc .int] (now, ()))) (olay _root_.id [.cells [.hd 1, .hd 2] 63, .map .tieId .entId, .map .tieId .entHead] ((), s, k, ())) (retM Try.prog [.tmp 4, .tmp 5, .tmp 6] g_pTick (((), y.1.1, y.1.2, y.2.1, y.2.2.1, ()), (y.2.2.2, ())))

theorem nf_pNew (y : List (TieId × EntId) × List (TieId × EntHead)) : w_pNew y = (
Ok ((((), [], [], ()), ()) = (((), y.fst, y.snd, ()), ()))) := by kernel_rfl

theorem nf_pSend (s : List (TieId × EntId)) (k : List (TieId × EntHead)) (id : TieId) : w_pSend s k id = (
Ok True ∧ Ok ((((), mput idLt id { what := id, last := (-1 : Int) } s, k, ()), ()) = (((), mput idLt id { what := id, last := (-1 : Int) } s, k, ()), ()))) := by kernel_rfl

theorem nf_pTold (s : List (TieId × EntId)) (k : List (TieId × EntHead)) (id : TieId) : w_pTold s k id = (
Ok ((((), mdel id s, k, ()), ()) = (((), mdel id s, k, ()), ()))) := by kernel_rfl

theorem nf_pLen (s : List (TieId × EntId)) (k : List (TieId × EntHead)) (y : Int × Int) : w_pLen s k y = (
Ok ((((), s, k, ()), ↑s.length, ↑k.length, ()) = (((), s, k, ()), y.fst, y.snd, ()))) := by kernel_rfl

theorem nf_pAsk (s : List (TieId × EntId)) (k : List (TieId × EntHead)) (h : Head) (y : List (TieId × EntHead)) : w_pAsk s k h y = (
Ok ((!!(mget h.Id k).isSome) = true → (!!(mget h.Id k).isSome) = true) ∧
  Ok ((!!(mget h.Id k).isSome) = true → (!!(mget h.Id k).isSome) = true) ∧
    Ok ((!!(mget h.Id k).isSome) = true → (!!(mget h.Id k).isSome) = true) ∧
      Ok ((!!(mget h.Id k).isSome) = true → True) ∧
        Ok ((!!(mget h.Id k).isSome) = true → (!!(mget h.Id k).isSome) = true) ∧
          Ok ((!(mget h.Id k).isSome) = false → (!!(mget h.Id k).isSome) = true) ∧
            cnd
              (!(mget h.Id k).isSome ||
                decide
                  ((outN
                        (h,
                          ((mget h.Id k).getD
                              { what := { Id := { Dir := (0 : Int), Origin := (0 : Int), Kind := (0 : Int), Nr := (0 : Int) }, Seq := (0 : Int), Life := (0 : Int) }, last := (0 : Int) }).what,
                          ())).fst >
                    (0 : Int)))
              (Ok True ∧ Ok ((((), s, mput idLt h.Id { what := h, last := (-1 : Int) } k, ()), ()) = (((), s, y, ()), ()))) (Ok ((((), s, k, ()), ()) = (((), s, y, ()), ())))) := by kernel_rfl

theorem nf_pGot (s : List (TieId × EntId)) (k : List (TieId × EntHead)) (h : Head) (y : List (TieId × EntHead)) : w_pGot s k h y = (
Ok ((mget h.Id k).isSome = true → (mget h.Id k).isSome = true) ∧
  Ok ((mget h.Id k).isSome = true → (mget h.Id k).isSome = true) ∧
    Ok ((mget h.Id k).isSome = true → (mget h.Id k).isSome = true) ∧
      Ok ((mget h.Id k).isSome = true → True) ∧
        Ok ((mget h.Id k).isSome = true → (mget h.Id k).isSome = true) ∧
          Ok ((mget h.Id k).isSome = true → (mget h.Id k).isSome = true) ∧
            cnd
              ((mget h.Id k).isSome &&
                decide
                  ((outN
                        (((mget h.Id k).getD
                              { what := { Id := { Dir := (0 : Int), Origin := (0 : Int), Kind := (0 : Int), Nr := (0 : Int) }, Seq := (0 : Int), Life := (0 : Int) }, last := (0 : Int) }).what,
                          h, ())).fst ≤
                    (0 : Int)))
              (Ok ((((), s, mdel h.Id k, ()), ()) = (((), s, y, ()), ()))) (Ok ((((), s, k, ()), ()) = (((), s, y, ()), ())))) := by kernel_rfl

theorem nf_pTick (s : List (TieId × EntId)) (k : List (TieId × EntHead)) (now : Int) (y : (List (TieId × EntId) × List (TieId × EntHead)) × (List TieId × List Head × Int)) : w_pTick s k now y = (
Ok ((!decide (now < (0 : Int))) = true → (!decide (now < (0 : Int))) = true) ∧
  Ok (decide (now < (0 : Int)) = false → (!decide (now < (0 : Int))) = true) ∧
    cnd (decide (now < (0 : Int)) || decide (now > (1099511627776 : Int)))
      (Ok ((((), s, k, [], [], ()), (1 : Int), ()) = (((), y.fst.fst, y.fst.snd, y.snd.fst, y.snd.snd.fst, ()), y.snd.snd.snd, ())))
      (Ok (Rise s ∧ s.length ≤ (2 : Nat) ^ (30 : Nat)) ∧
        Ok (Rise k ∧ k.length ≤ (2 : Nat) ^ (30 : Nat)) ∧
          Ok ((((), List.map (turnS now) s, List.map (turnA now) k, outS now s, outsA now k, ()), (0 : Int), ()) = (((), y.fst.fst, y.fst.snd, y.snd.fst, y.snd.snd.fst, ()), y.snd.snd.snd, ())))) := by kernel_rfl

end Go.Proofs.Yticlpjjkjpabmaa

namespace Go.Proofs.Yticlpjjkjpabmaa
open Go Go.X Go.Proofs Go.Sort
set_option maxRecDepth 100000

def askF (h : Head) (k : List (TieId × EntHead)) : List (TieId × EntHead) := match mget h.Id k with
  | none => mput idLt h.Id ⟨h, -1⟩ k
  | some o => if 0 < newI h o.what then mput idLt h.Id ⟨h, -1⟩ k else k
def gotF (h : Head) (k : List (TieId × EntHead)) : List (TieId × EntHead) := match mget h.Id k with
  | none => k
  | some o => if newI o.what h ≤ 0 then mdel h.Id k else k
def badT (now : Int) : Bool := decide (now < 0) || decide (now > 1099511627776)
def tickS (now : Int) (s : List (TieId × EntId)) : List (TieId × EntId) := if badT now = true then s else s.map (turnS now)
def tickA (now : Int) (k : List (TieId × EntHead)) : List (TieId × EntHead) := if badT now = true then k else k.map (turnA now)
def tOutS (now : Int) (s : List (TieId × EntId)) : List TieId := if badT now = true then [] else outS now s
def tOutA (now : Int) (k : List (TieId × EntHead)) : List Head := if badT now = true then [] else outsA now k
def tErr (now : Int) : Int := if badT now = true then 1 else 0

theorem k_pAsk (s : List (TieId × EntId)) (k : List (TieId × EntHead)) (h : Head) : w_pAsk s k h (askF h k) := by
  rw [nf_pAsk]
  refine ⟨⟨id⟩, ⟨id⟩, ⟨id⟩, ⟨fun _ => trivial⟩, ⟨id⟩, ⟨fun e => by rw [e]; rfl⟩, ?_⟩
  rw [cnd_iff]
  unfold askF
  cases hg : mget h.Id k with
  | none => exact ⟨fun _ => ⟨⟨trivial⟩, ⟨rfl⟩⟩, fun e => by simp at e⟩
  | some o =>
    simp only [Option.isSome_some, Bool.not_true, Bool.false_or, Option.getD_some, outN, decide_eq_true_eq, decide_eq_false_iff_not, gt_iff_lt]
    exact ⟨fun e => ⟨⟨trivial⟩, ⟨by rw [if_pos e]⟩⟩, fun e => ⟨by rw [if_neg e]⟩⟩
theorem k_pGot (s : List (TieId × EntId)) (k : List (TieId × EntHead)) (h : Head) : w_pGot s k h (gotF h k) := by
  rw [nf_pGot]
  refine ⟨⟨id⟩, ⟨id⟩, ⟨id⟩, ⟨fun _ => trivial⟩, ⟨id⟩, ⟨id⟩, ?_⟩
  rw [cnd_iff]
  unfold gotF
  cases hg : mget h.Id k with
  | none => exact ⟨fun e => by simp at e, fun _ => ⟨rfl⟩⟩
  | some o =>
    simp only [Option.isSome_some, Bool.true_and, Option.getD_some, outN, decide_eq_true_eq, decide_eq_false_iff_not]
    exact ⟨fun e => ⟨by rw [if_pos (of_decide_eq_true e)]⟩, fun e => ⟨by rw [if_neg (of_decide_eq_false e)]⟩⟩
theorem k_pTick (s : List (TieId × EntId)) (k : List (TieId × EntHead)) (now : Int) (hs : Rise s ∧ s.length ≤ 2 ^ 30) (hk : Rise k ∧ k.length ≤ 2 ^ 30) : w_pTick s k now ((tickS now s, tickA now k), (tOutS now s, tOutA now k, tErr now)) := by
  rw [nf_pTick]
  refine ⟨⟨id⟩, ⟨fun e => by rw [e]; rfl⟩, ?_⟩
  rw [cnd_iff]
  refine ⟨fun e => ⟨?_⟩, fun e => ⟨⟨hs⟩, ⟨hk⟩, ⟨?_⟩⟩⟩
  · have e : badT now = true := e
    simp only [tickS, tickA, tOutS, tOutA, tErr, e, if_true]
  · have e : badT now = false := e
    simp only [tickS, tickA, tOutS, tOutA, tErr, e, Bool.false_eq_true, if_false]

theorem m12 : MutOk Try.prog 12 g_pNew (fun _ _ => True) (fun _ _ => (((), [], [], ()), ())) :=
  mut_of_exec ok8 (L := loopsOf Try.prog l_pNew) (fuel := 20) Try.func12 (code := bodyOf Try.f12) (by kernel_rfl) (by kernel_rfl) (rvs := [.tmp 0]) (by kernel_rfl) rfl (by
    rintro ⟨⟩ ⟨⟩ -
    exact (nf_pNew ([], [])).mpr ⟨rfl⟩)
theorem m13 : MutOk Try.prog 13 g_pSend (fun _ _ => True) (fun d a => (((), mput idLt a.1 ⟨a.1, -1⟩ d.2.1, d.2.2.1, ()), ())) :=
  mut_of_exec ok8 (L := loopsOf Try.prog l_pSend) (fuel := 20) Try.func13 (code := bodyOf Try.f13) (by kernel_rfl) (by kernel_rfl) (rvs := []) (by kernel_rfl) rfl (by
    rintro ⟨⟨⟩, s, k, ⟨⟩⟩ ⟨id, ⟨⟩⟩ -
    exact (nf_pSend s k id).mpr ⟨⟨trivial⟩, ⟨rfl⟩⟩)
theorem m15 : MutOk Try.prog 15 g_pTold (fun _ _ => True) (fun d a => (((), mdel a.1 d.2.1, d.2.2.1, ()), ())) :=
  mut_of_exec ok8 (L := loopsOf Try.prog l_pTold) (fuel := 20) Try.func15 (code := bodyOf Try.f15) (by kernel_rfl) (by kernel_rfl) (rvs := []) (by kernel_rfl) rfl (by
    rintro ⟨⟨⟩, s, k, ⟨⟩⟩ ⟨id, ⟨⟩⟩ -
    exact (nf_pTold s k id).mpr ⟨rfl⟩)
theorem m16 : MutOk Try.prog 16 g_pLen (fun _ _ => True) (fun d _ => (((), d.2.1, d.2.2.1, ()), ((d.2.1.length : Int), (d.2.2.1.length : Int), ()))) :=
  mut_of_exec ok8 (L := loopsOf Try.prog l_pLen) (fuel := 20) Try.func16 (code := bodyOf Try.f16) (by kernel_rfl) (by kernel_rfl) (rvs := [.tmp 2, .tmp 3]) (by kernel_rfl) rfl (by
    rintro ⟨⟨⟩, s, k, ⟨⟩⟩ ⟨⟩ -
    exact (nf_pLen s k ((s.length : Int), (k.length : Int))).mpr ⟨rfl⟩)
theorem m17 : MutOk Try.prog 17 g_pAsk (fun _ _ => True) (fun d a => (((), d.2.1, askF a.1 d.2.2.1, ()), ())) :=
  mut_of_exec ok8 (L := loopsOf Try.prog l_pAsk) (fuel := 20) Try.func17 (code := bodyOf Try.f17) (by kernel_rfl) (by kernel_rfl) (rvs := []) (by kernel_rfl) rfl (by
    rintro ⟨⟨⟩, s, k, ⟨⟩⟩ ⟨h, ⟨⟩⟩ -
    exact k_pAsk s k h)
theorem m18 : MutOk Try.prog 18 g_pGot (fun _ _ => True) (fun d a => (((), d.2.1, gotF a.1 d.2.2.1, ()), ())) :=
  mut_of_exec ok8 (L := loopsOf Try.prog l_pGot) (fuel := 20) Try.func18 (code := bodyOf Try.f18) (by kernel_rfl) (by kernel_rfl) (rvs := []) (by kernel_rfl) rfl (by
    rintro ⟨⟨⟩, s, k, ⟨⟩⟩ ⟨h, ⟨⟩⟩ -
    exact k_pGot s k h)
theorem m14 : MutOk Try.prog 14 g_pTick (fun d _ => (Rise d.2.1 ∧ d.2.1.length ≤ 2 ^ 30) ∧ Rise d.2.2.1 ∧ d.2.2.1.length ≤ 2 ^ 30)
    (fun d a => (((), tickS a.1 d.2.1, tickA a.1 d.2.2.1, tOutS a.1 d.2.1, tOutA a.1 d.2.2.1, ()), (tErr a.1, ()))) :=
  mut_of_exec ok8 (L := loopsOf Try.prog l_pTick) (fuel := 20) Try.func14 (code := bodyOf Try.f14) (by kernel_rfl) (by kernel_rfl) (rvs := [.tmp 4, .tmp 5, .tmp 6]) (by kernel_rfl) rfl (by
    rintro ⟨⟨⟩, s, k, ⟨⟩⟩ ⟨now, ⟨⟩⟩ ⟨h1, h2⟩
    exact k_pTick s k now h1 h2)
end Go.Proofs.Yticlpjjkjpabmaa

namespace Go.Proofs.Yticlpjjkjpabmaa
open Go Go.X Go.Proofs Go.Sort
set_option maxRecDepth 100000
noncomputable def E9 : Env := mkEnv Try.prog tcS [.pure p27 Try.call27, .pure p28 Try.call28, .pure p23 Try.call23, .pure p44 Try.call44, .pure p39 Try.call39, .mut m12 Try.call12, .mut m13 Try.call13, .mut m14 Try.call14, .mut m15 Try.call15, .mut m16 Try.call16, .mut m17 Try.call17, .mut m18 Try.call18]
theorem ok9 : EnvOk E9 := mkEnv_ok mixed tcS _
end Go.Proofs.Yticlpjjkjpabmaa

namespace Go.Proofs.Yticlpjjkjpabmaa
open Go Go.X Go.Proofs
set_option maxRecDepth 100000

def g_awk : MSig := { S := [], ar := [], S' := [], keep := [], rs := [.tc .bool] }
def l_awk : List (Nat × LoopS) := []
def w_awk (y : Bool) : Prop := exec E9 (loopsOf Try.prog l_awk) 20 (bodyOf Try.f11) (startT 52 (aAV _root_.id [] ())) (olay _root_.id [] ()) (retM Try.prog [.tmp 0] g_awk ((), (y, ())))

theorem nf_awk (y : Bool) : w_awk y = (
Ok True ∧
  Ok True ∧
    Ok
        ((Rise
              (mput idLt { Dir := (1 : Int), Origin := (1 : Int), Kind := (1 : Int), Nr := (0 : Int) : TieId }
                { what := { Dir := (1 : Int), Origin := (1 : Int), Kind := (1 : Int), Nr := (0 : Int) : TieId }, last := (-1 : Int) : EntId } []) ∧
            (mput idLt { Dir := (1 : Int), Origin := (1 : Int), Kind := (1 : Int), Nr := (0 : Int) : TieId }
                  { what := { Dir := (1 : Int), Origin := (1 : Int), Kind := (1 : Int), Nr := (0 : Int) : TieId }, last := (-1 : Int) : EntId } []).length ≤
              (2 : Nat) ^ (30 : Nat)) ∧
          Rise ([] : List (TieId × EntHead)) ∧ ([] : List (TieId × EntHead)).length ≤ (2 : Nat) ^ (30 : Nat)) ∧
      Ok
          ((Rise
                (tickS (0 : Int)
                  (mput idLt { Dir := (1 : Int), Origin := (1 : Int), Kind := (1 : Int), Nr := (0 : Int) : TieId }
                    { what := { Dir := (1 : Int), Origin := (1 : Int), Kind := (1 : Int), Nr := (0 : Int) : TieId }, last := (-1 : Int) : EntId } [])) ∧
              (tickS (0 : Int)
                    (mput idLt { Dir := (1 : Int), Origin := (1 : Int), Kind := (1 : Int), Nr := (0 : Int) : TieId }
                      { what := { Dir := (1 : Int), Origin := (1 : Int), Kind := (1 : Int), Nr := (0 : Int) : TieId }, last := (-1 : Int) : EntId } [])).length ≤
                (2 : Nat) ^ (30 : Nat)) ∧
            Rise (tickA (0 : Int) []) ∧ (tickA (0 : Int) []).length ≤ (2 : Nat) ^ (30 : Nat)) ∧
        Ok
            ((Rise
                  (tickS (2 : Int)
                    (tickS (0 : Int)
                      (mput idLt { Dir := (1 : Int), Origin := (1 : Int), Kind := (1 : Int), Nr := (0 : Int) : TieId }
                        { what := { Dir := (1 : Int), Origin := (1 : Int), Kind := (1 : Int), Nr := (0 : Int) : TieId }, last := (-1 : Int) : EntId } []))) ∧
                (tickS (2 : Int)
                      (tickS (0 : Int)
                        (mput idLt { Dir := (1 : Int), Origin := (1 : Int), Kind := (1 : Int), Nr := (0 : Int) : TieId }
                          { what := { Dir := (1 : Int), Origin := (1 : Int), Kind := (1 : Int), Nr := (0 : Int) : TieId }, last := (-1 : Int) : EntId } []))).length ≤
                  (2 : Nat) ^ (30 : Nat)) ∧
              Rise (tickA (2 : Int) (tickA (0 : Int) [])) ∧ (tickA (2 : Int) (tickA (0 : Int) [])).length ≤ (2 : Nat) ^ (30 : Nat)) ∧
          Ok ((tErr (0 : Int) == (0 : Int)) = true → (tErr (0 : Int) == (0 : Int)) = true) ∧
            Ok ((tErr (0 : Int) == (0 : Int)) = true → (tErr (0 : Int) == (0 : Int)) = true) ∧
              Ok ((tErr (0 : Int) == (0 : Int)) = true → (tErr (0 : Int) == (0 : Int)) = true) ∧
                Ok
                    ((tErr (0 : Int) == (0 : Int) &&
                          ↑(tOutS (0 : Int)
                                  (mput idLt { Dir := (1 : Int), Origin := (1 : Int), Kind := (1 : Int), Nr := (0 : Int) : TieId }
                                    { what := { Dir := (1 : Int), Origin := (1 : Int), Kind := (1 : Int), Nr := (0 : Int) : TieId }, last := (-1 : Int) : EntId } [])).length ==
                            (1 : Int)) =
                        true →
                      (tErr (0 : Int) == (0 : Int) &&
                          ↑(tOutS (0 : Int)
                                  (mput idLt { Dir := (1 : Int), Origin := (1 : Int), Kind := (1 : Int), Nr := (0 : Int) : TieId }
                                    { what := { Dir := (1 : Int), Origin := (1 : Int), Kind := (1 : Int), Nr := (0 : Int) : TieId }, last := (-1 : Int) : EntId } [])).length ==
                            (1 : Int)) =
                        true) ∧
                  Ok
                      ((tErr (0 : Int) == (0 : Int) &&
                            ↑(tOutS (0 : Int)
                                    (mput idLt { Dir := (1 : Int), Origin := (1 : Int), Kind := (1 : Int), Nr := (0 : Int) : TieId }
                                      { what := { Dir := (1 : Int), Origin := (1 : Int), Kind := (1 : Int), Nr := (0 : Int) : TieId }, last := (-1 : Int) : EntId } [])).length ==
                              (1 : Int)) =
                          true →
                        (tErr (0 : Int) == (0 : Int) &&
                            ↑(tOutS (0 : Int)
                                    (mput idLt { Dir := (1 : Int), Origin := (1 : Int), Kind := (1 : Int), Nr := (0 : Int) : TieId }
                                      { what := { Dir := (1 : Int), Origin := (1 : Int), Kind := (1 : Int), Nr := (0 : Int) : TieId }, last := (-1 : Int) : EntId } [])).length ==
                              (1 : Int)) =
                          true) ∧
                    Ok
                        ((tErr (0 : Int) == (0 : Int) &&
                              ↑(tOutS (0 : Int)
                                      (mput idLt { Dir := (1 : Int), Origin := (1 : Int), Kind := (1 : Int), Nr := (0 : Int) : TieId }
                                        { what := { Dir := (1 : Int), Origin := (1 : Int), Kind := (1 : Int), Nr := (0 : Int) : TieId }, last := (-1 : Int) : EntId } [])).length ==
                                (1 : Int)) =
                            true →
                          (tErr (0 : Int) == (0 : Int) &&
                              ↑(tOutS (0 : Int)
                                      (mput idLt { Dir := (1 : Int), Origin := (1 : Int), Kind := (1 : Int), Nr := (0 : Int) : TieId }
                                        { what := { Dir := (1 : Int), Origin := (1 : Int), Kind := (1 : Int), Nr := (0 : Int) : TieId }, last := (-1 : Int) : EntId } [])).length ==
                                (1 : Int)) =
                            true) ∧
                      Ok
                          ((tErr (0 : Int) == (0 : Int) &&
                                  ↑(tOutS (0 : Int)
                                          (mput idLt { Dir := (1 : Int), Origin := (1 : Int), Kind := (1 : Int), Nr := (0 : Int) : TieId }
                                            { what := { Dir := (1 : Int), Origin := (1 : Int), Kind := (1 : Int), Nr := (0 : Int) : TieId }, last := (-1 : Int) : EntId } [])).length ==
                                    (1 : Int) &&
                                ↑(tOutS (2 : Int)
                                        (tickS (0 : Int)
                                          (mput idLt { Dir := (1 : Int), Origin := (1 : Int), Kind := (1 : Int), Nr := (0 : Int) : TieId }
                                            { what := { Dir := (1 : Int), Origin := (1 : Int), Kind := (1 : Int), Nr := (0 : Int) : TieId }, last := (-1 : Int) : EntId } []))).length ==
                                  (0 : Int)) =
                              true →
                            (tErr (0 : Int) == (0 : Int) &&
                                  ↑(tOutS (0 : Int)
                                          (mput idLt { Dir := (1 : Int), Origin := (1 : Int), Kind := (1 : Int), Nr := (0 : Int) : TieId }
                                            { what := { Dir := (1 : Int), Origin := (1 : Int), Kind := (1 : Int), Nr := (0 : Int) : TieId }, last := (-1 : Int) : EntId } [])).length ==
                                    (1 : Int) &&
                                ↑(tOutS (2 : Int)
                                        (tickS (0 : Int)
                                          (mput idLt { Dir := (1 : Int), Origin := (1 : Int), Kind := (1 : Int), Nr := (0 : Int) : TieId }
                                            { what := { Dir := (1 : Int), Origin := (1 : Int), Kind := (1 : Int), Nr := (0 : Int) : TieId }, last := (-1 : Int) : EntId } []))).length ==
                                  (0 : Int)) =
                              true) ∧
                        Ok
                            ((tErr (0 : Int) == (0 : Int) &&
                                    ↑(tOutS (0 : Int)
                                            (mput idLt { Dir := (1 : Int), Origin := (1 : Int), Kind := (1 : Int), Nr := (0 : Int) : TieId }
                                              { what := { Dir := (1 : Int), Origin := (1 : Int), Kind := (1 : Int), Nr := (0 : Int) : TieId }, last := (-1 : Int) : EntId } [])).length ==
                                      (1 : Int) &&
                                  ↑(tOutS (2 : Int)
                                          (tickS (0 : Int)
                                            (mput idLt { Dir := (1 : Int), Origin := (1 : Int), Kind := (1 : Int), Nr := (0 : Int) : TieId }
                                              { what := { Dir := (1 : Int), Origin := (1 : Int), Kind := (1 : Int), Nr := (0 : Int) : TieId }, last := (-1 : Int) : EntId } []))).length ==
                                    (0 : Int)) =
                                true →
                              (tErr (0 : Int) == (0 : Int) &&
                                    ↑(tOutS (0 : Int)
                                            (mput idLt { Dir := (1 : Int), Origin := (1 : Int), Kind := (1 : Int), Nr := (0 : Int) : TieId }
                                              { what := { Dir := (1 : Int), Origin := (1 : Int), Kind := (1 : Int), Nr := (0 : Int) : TieId }, last := (-1 : Int) : EntId } [])).length ==
                                      (1 : Int) &&
                                  ↑(tOutS (2 : Int)
                                          (tickS (0 : Int)
                                            (mput idLt { Dir := (1 : Int), Origin := (1 : Int), Kind := (1 : Int), Nr := (0 : Int) : TieId }
                                              { what := { Dir := (1 : Int), Origin := (1 : Int), Kind := (1 : Int), Nr := (0 : Int) : TieId }, last := (-1 : Int) : EntId } []))).length ==
                                    (0 : Int)) =
                                true) ∧
                          Ok
                              ((tErr (0 : Int) == (0 : Int) &&
                                      ↑(tOutS (0 : Int)
                                              (mput idLt { Dir := (1 : Int), Origin := (1 : Int), Kind := (1 : Int), Nr := (0 : Int) : TieId }
                                                { what := { Dir := (1 : Int), Origin := (1 : Int), Kind := (1 : Int), Nr := (0 : Int) : TieId }, last := (-1 : Int) : EntId } [])).length ==
                                        (1 : Int) &&
                                    ↑(tOutS (2 : Int)
                                            (tickS (0 : Int)
                                              (mput idLt { Dir := (1 : Int), Origin := (1 : Int), Kind := (1 : Int), Nr := (0 : Int) : TieId }
                                                { what := { Dir := (1 : Int), Origin := (1 : Int), Kind := (1 : Int), Nr := (0 : Int) : TieId }, last := (-1 : Int) : EntId } []))).length ==
                                      (0 : Int)) =
                                  true →
                                (tErr (0 : Int) == (0 : Int) &&
                                      ↑(tOutS (0 : Int)
                                              (mput idLt { Dir := (1 : Int), Origin := (1 : Int), Kind := (1 : Int), Nr := (0 : Int) : TieId }
                                                { what := { Dir := (1 : Int), Origin := (1 : Int), Kind := (1 : Int), Nr := (0 : Int) : TieId }, last := (-1 : Int) : EntId } [])).length ==
                                        (1 : Int) &&
                                    ↑(tOutS (2 : Int)
                                            (tickS (0 : Int)
                                              (mput idLt { Dir := (1 : Int), Origin := (1 : Int), Kind := (1 : Int), Nr := (0 : Int) : TieId }
                                                { what := { Dir := (1 : Int), Origin := (1 : Int), Kind := (1 : Int), Nr := (0 : Int) : TieId }, last := (-1 : Int) : EntId } []))).length ==
                                      (0 : Int)) =
                                  true) ∧
                            Ok
                              (((),
                                  tErr (0 : Int) == (0 : Int) &&
                                        ↑(tOutS (0 : Int)
                                                (mput idLt { Dir := (1 : Int), Origin := (1 : Int), Kind := (1 : Int), Nr := (0 : Int) : TieId }
                                                  { what := { Dir := (1 : Int), Origin := (1 : Int), Kind := (1 : Int), Nr := (0 : Int) : TieId }, last := (-1 : Int) : EntId } [])).length ==
                                          (1 : Int) &&
                                      ↑(tOutS (2 : Int)
                                              (tickS (0 : Int)
                                                (mput idLt { Dir := (1 : Int), Origin := (1 : Int), Kind := (1 : Int), Nr := (0 : Int) : TieId }
                                                  { what := { Dir := (1 : Int), Origin := (1 : Int), Kind := (1 : Int), Nr := (0 : Int) : TieId }, last := (-1 : Int) : EntId } []))).length ==
                                        (0 : Int) &&
                                    ↑(tOutS (3 : Int)
                                            (tickS (2 : Int)
                                              (tickS (0 : Int)
                                                (mput idLt { Dir := (1 : Int), Origin := (1 : Int), Kind := (1 : Int), Nr := (0 : Int) : TieId }
                                                  { what := { Dir := (1 : Int), Origin := (1 : Int), Kind := (1 : Int), Nr := (0 : Int) : TieId }, last := (-1 : Int) : EntId } [])))).length ==
                                      (1 : Int),
                                  ()) =
                                ((), y, ()))) := by kernel_rfl

end Go.Proofs.Yticlpjjkjpabmaa

namespace Go.Proofs.Yticlpjjkjpabmaa
open Go Go.X Go.Proofs Go.Sort
set_option maxRecDepth 100000

instance {p : Prop} [Decidable p] : Decidable (Ok p) := decidable_of_iff p Ok_iff.symm
instance {β : Type} (m : List (TieId × β)) : Decidable (Rise m) := by unfold Rise; infer_instance
instance {t : Bool} {a b : Prop} [Decidable a] [Decidable b] : Decidable (cnd t a b) := by cases t <;> unfold cnd <;> infer_instance

theorem k_awk : w_awk true := by
  rw [nf_awk]
  decide +kernel
theorem m11 : MutOk Try.prog 11 g_awk (fun _ _ => True) (fun _ _ => ((), (true, ()))) :=
  mut_of_exec ok9 (L := loopsOf Try.prog l_awk) (fuel := 20) Try.func11 (code := bodyOf Try.f11) (by kernel_rfl) (by kernel_rfl) (rvs := [.tmp 0]) (by kernel_rfl) rfl (by
    rintro ⟨⟩ ⟨⟩ -
    exact k_awk)
noncomputable def E10 : Env := mkEnv Try.prog tcS [.mut m11 Try.call11, .pure p27 Try.call27, .pure p28 Try.call28, .pure p23 Try.call23, .pure p44 Try.call44, .pure p39 Try.call39, .mut m12 Try.call12, .mut m13 Try.call13, .mut m14 Try.call14, .mut m15 Try.call15, .mut m16 Try.call16, .mut m17 Try.call17, .mut m18 Try.call18]
theorem ok10 : EnvOk E10 := mkEnv_ok mixed tcS _
end Go.Proofs.Yticlpjjkjpabmaa

