/- The abstract values of a symbolic executor over the model, and what each of them says of a concrete value. -/
import Derived.Orders
import Derived.RowKit3
import Derived.Test.YtlpbalinhikboaaX0
namespace Go.X
open Go

/-- An abstract value. Ids are places in a list of objects of the call's own. -/
inductive AV where
  | v (x : Value)
  | any
  | gd (j : Nat) (p : Bool) (t : Bool) (a : AV)
  | ptr (i off : Nat)
  | agg (l : List AV)
  | tup (l : List AV)
  | fn (f : Nat) (caps : List AV)
  | rs (c : TC) (xs : List c.den)
  | ep (c : TC) (xs : List c.den) (n off : Nat)
  | hd (i : Nat)
  | vw (i : Nat) (k lo n : Nat)
  | rp (i : Nat) (k n off : Nat)

instance : Inhabited AV := ⟨.any⟩

@[reducible] def i64 (n : Int) : AV := .v (.int .i64 n)
@[reducible] def abl (b : Bool) : AV := .v (.bool b)

def encId (x : TieId) : List AV := [i64 x.Dir, i64 x.Origin, i64 x.Kind, i64 x.Nr]
def encHead (x : Head) : List AV := [i64 x.Id.Dir, i64 x.Id.Origin, i64 x.Id.Kind, i64 x.Id.Nr, i64 x.Seq, i64 x.Life]
def encEdge (x : Edge) : List AV := [i64 x.Node, i64 x.Level, i64 x.Cost]
def encPrefix (x : Prefix) : List AV := [.v (.int .u32 x.Net), i64 x.Bits]
def encReach (x : Reach) : List AV := [.v (.int .u32 x.Prefix.Net), i64 x.Prefix.Bits, i64 x.Metric]
def encTie (x : Tie) : List AV :=
  [i64 x.Head.Id.Dir, i64 x.Head.Id.Origin, i64 x.Head.Id.Kind, i64 x.Head.Id.Nr, i64 x.Head.Seq, i64 x.Head.Life, i64 x.Level, abl x.Overload,
   .rs .edge x.Edges, .rs .reach x.Reaches]
def encLie (x : Lie) : List AV :=
  [i64 x.Node, i64 x.Level, i64 x.Pod, i64 x.Mtu, i64 x.Link, i64 x.Nonce, i64 x.Seen, i64 x.SeenLink, i64 x.SeenNonce, i64 x.Hold, abl x.Repeat, abl x.NoOffer]
def encPacket (x : Packet) : List AV :=
  [i64 x.Kind,
   i64 x.Lie.Node, i64 x.Lie.Level, i64 x.Lie.Pod, i64 x.Lie.Mtu, i64 x.Lie.Link, i64 x.Lie.Nonce, i64 x.Lie.Seen, i64 x.Lie.SeenLink, i64 x.Lie.SeenNonce, i64 x.Lie.Hold, abl x.Lie.Repeat, abl x.Lie.NoOffer,
   i64 x.Tie.Head.Id.Dir, i64 x.Tie.Head.Id.Origin, i64 x.Tie.Head.Id.Kind, i64 x.Tie.Head.Id.Nr, i64 x.Tie.Head.Seq, i64 x.Tie.Head.Life, i64 x.Tie.Level, abl x.Tie.Overload,
   .rs .edge x.Tie.Edges, .rs .reach x.Tie.Reaches,
   i64 x.From.Dir, i64 x.From.Origin, i64 x.From.Kind, i64 x.From.Nr,
   i64 x.To.Dir, i64 x.To.Origin, i64 x.To.Kind, i64 x.To.Nr,
   .rs .head x.Heads]
def encParent (x : Parent) : List AV := [i64 x.Node, .rs .int x.Grands]
def encHop (x : Hop) : List AV := [i64 x.Node, i64 x.Dist, .rs .int x.Via]
def encPath (x : Path) : List AV := [.v (.int .u32 x.Prefix.Net), i64 x.Prefix.Bits, i64 x.Dir, i64 x.Dist, .rs .int x.Via]
def encNot (x : Not) : List AV := [.v (.int .u32 x.Prefix.Net), i64 x.Prefix.Bits, i64 x.Via]
def encStep12 (x : Step12) : List AV :=
  [i64 x.Do, i64 x.Now, i64 x.T.Head.Id.Dir, i64 x.T.Head.Id.Origin, i64 x.T.Head.Id.Kind, i64 x.T.Head.Id.Nr, i64 x.T.Head.Seq, i64 x.T.Head.Life, i64 x.T.Level, abl x.T.Overload,
   .rs .edge x.T.Edges, .rs .reach x.T.Reaches]
def encStep20 (x : Step20) : List AV :=
  [i64 x.Do, i64 x.Now, i64 x.H.Id.Dir, i64 x.H.Id.Origin, i64 x.H.Id.Kind, i64 x.H.Id.Nr, i64 x.H.Seq, i64 x.H.Life]
def encJob (x : Job) : List AV := [i64 x.Key, i64 x.At]
def encPiece (x : Piece) : List AV :=
  [i64 x.tie.Head.Id.Dir, i64 x.tie.Head.Id.Origin, i64 x.tie.Head.Id.Kind, i64 x.tie.Head.Id.Nr, i64 x.tie.Head.Seq, i64 x.tie.Head.Life, i64 x.tie.Level, abl x.tie.Overload,
   .rs .edge x.tie.Edges, .rs .reach x.tie.Reaches, i64 x.over]
def encEntId (x : EntId) : List AV := [i64 x.what.Dir, i64 x.what.Origin, i64 x.what.Kind, i64 x.what.Nr, i64 x.last]
def encEntHead (x : EntHead) : List AV :=
  [i64 x.what.Id.Dir, i64 x.what.Id.Origin, i64 x.what.Id.Kind, i64 x.what.Id.Nr, i64 x.what.Seq, i64 x.what.Life, i64 x.last]

/-- What the cells of one hold. -/
def TC.enc : (c : TC) → c.den → List AV
  | .int, x => [i64 x] | .bool, x => [abl x] | .u32, x => [.v (.int .u32 x)] | .u8, x => [.v (.int .u8 x)]
  | .tieId, x => encId x | .head, x => encHead x | .edge, x => encEdge x | .prefix_, x => encPrefix x | .reach, x => encReach x
  | .tie, x => encTie x | .packet, x => encPacket x | .parent, x => encParent x | .hop, x => encHop x | .path, x => encPath x
  | .not_, x => encNot x | .step12, x => encStep12 x | .step20, x => encStep20 x | .job, x => encJob x
  | .piece, x => encPiece x | .entId, x => encEntId x | .entHead, x => encEntHead x

theorem TC.enc_len : ∀ (c : TC) (x : c.den), (c.enc x).length = c.k := by
  intro c x; cases c <;> rfl

def TC.wt (c : TC) : Nat := 1000 ^ (c.lvl + 1)

mutual
def AV.ms : AV → Nat
  | .gd _ _ _ a => 1 + a.ms
  | .agg l | .tup l | .fn _ l => 1 + AV.mss l
  | .rs c _ | .ep c _ _ _ => c.wt
  | _ => 1
def AV.mss : List AV → Nat
  | [] => 1
  | a :: l => a.ms + AV.mss l
end

theorem TC.enc_ms : ∀ (c : TC) (x : c.den), AV.mss (c.enc x) < c.wt := by
  intro c x
  cases c <;> simp [TC.enc, encId, encHead, encEdge, encPrefix, encReach, encTie, encPacket, encParent, encHop, encPath, encNot, encStep12, encStep20, encJob, encPiece, encEntId, encEntHead, AV.mss, AV.ms, TC.wt, TC.lvl]

theorem TC.wt_pos (c : TC) : 0 < c.wt := Nat.pow_pos (by omega)
theorem AV.ms_pos (a : AV) : 0 < a.ms := by cases a <;> simp only [AV.ms] <;> first | omega | exact TC.wt_pos _
theorem AV.mss_pos (l : List AV) : 0 < AV.mss l := by
  cases l with
  | nil => simp [AV.mss]
  | cons a l => have := a.ms_pos; simp only [AV.mss]; omega

def isH : Value → Bool
  | .pointer _ | .slice _ _ _ | .map _ => true
  | _ => false

abbrev Kap := Nat → Option Value

mutual
/-- What an abstract value says of a concrete one: κ names the objects' handles, Im the blocks that stay as they are. -/
def AV.rel (κ : Kap) (Im : Nat → Prop) (w : World) : AV → Value → Prop
  | .v x, y => y = x
  | .any, _ => True
  | .gd _ _ t a, y => (t = true → AV.rel κ Im w a y) ∧ (t = false → y = undef)
  | .ptr i off, y => ∃ b, κ i = some (.pointer (some ⟨b, 0, none⟩)) ∧ y = .pointer (some ⟨b, off, none⟩)
  | .agg l, y => ∃ ys : Array Value, y = .agg ys ∧ AV.rels κ Im w l ys.toList
  | .tup l, y => ∃ ys : Array Value, y = .tuple ys ∧ AV.rels κ Im w l ys.toList
  | .fn f caps, y => ∃ ys : Array Value, y = .func (.func f) #[] ys ∧ AV.rels κ Im w caps ys.toList
  | .rs c xs, y => ∃ a cap, y = .slice a xs.length cap ∧ xs.length ≤ cap ∧ (xs ≠ [] → ∃ b o, a = some ⟨b, o, none⟩ ∧ Im b ∧ ∃ arr T fz, w.heap[b]? = some (.cells arr T fz) ∧
      ∀ i (h : i < xs.length), AV.rels κ Im w (c.enc xs[i]) ((arr.toList.drop (o + i * c.k)).take c.k))
  | .ep c xs n off, y => n < xs.length ∧ ∃ b o, y = .pointer (some ⟨b, o + n * c.k + off, none⟩) ∧ Im b ∧ ∃ arr T fz, w.heap[b]? = some (.cells arr T fz) ∧
      ∀ i (h : i < xs.length), AV.rels κ Im w (c.enc xs[i]) ((arr.toList.drop (o + i * c.k)).take c.k)
  | .hd i, y => κ i = some y ∧ isH y = true
  | .vw i k lo n, y => ∃ a len cap a' cap', κ i = some (.slice a len cap) ∧ lo + n ≤ len ∧ y = .slice a' n cap' ∧ n ≤ cap' ∧ (n ≠ 0 → a' = a.map (·.add (lo * k)))
  | .rp i k n off, y => ∃ g len cap, κ i = some (.slice (some ⟨g, 0, none⟩) len cap) ∧ n < len ∧ y = .pointer (some ⟨g, n * k + off, none⟩)
termination_by a => a.ms
decreasing_by all_goals (simp only [AV.ms]; first | omega | (have := TC.enc_ms _ xs[i]; omega))
def AV.rels (κ : Kap) (Im : Nat → Prop) (w : World) : List AV → List Value → Prop
  | [], ys => ys = []
  | a :: l, ys => ∃ y r, ys = y :: r ∧ AV.rel κ Im w a y ∧ AV.rels κ Im w l r
termination_by l => AV.mss l
decreasing_by all_goals (simp only [AV.mss]; have h1 := AV.ms_pos a; have h2 := AV.mss_pos l; omega)
end

/-- What a step may turn: handles stay, blocks that stay as they are stay. -/
structure Le (κ κ' : Kap) (Im Im' : Nat → Prop) (w w' : World) : Prop where
  k : ∀ i v, κ i = some v → κ' i = some v
  im : ∀ b, Im b → Im' b
  heap : ∀ b, Im b → w'.heap[b]? = w.heap[b]?

theorem Le.refl (κ Im w) : Le κ κ Im Im w w := ⟨fun _ _ h => h, fun _ h => h, fun _ _ => rfl⟩
theorem Le.trans {κ κ' κ'' Im Im' Im'' w w' w''} (h : Le κ κ' Im Im' w w') (h' : Le κ' κ'' Im' Im'' w' w'') : Le κ κ'' Im Im'' w w'' :=
  ⟨fun i v e => h'.k i v (h.k i v e), fun b e => h'.im b (h.im b e), fun b e => (h'.heap b (h.im b e)).trans (h.heap b e)⟩

section
variable {κ κ' : Kap} {Im Im' : Nat → Prop} {w w' : World}

mutual
theorem AV.rel_mono (h : Le κ κ' Im Im' w w') : ∀ (a : AV) (y : Value), AV.rel κ Im w a y → AV.rel κ' Im' w' a y
  | .v _, _, e => by simpa only [AV.rel] using e
  | .any, _, _ => by simp only [AV.rel]
  | .gd _ _ _ a, y, e => by
    simp only [AV.rel] at e ⊢
    exact ⟨fun ht => AV.rel_mono h a y (e.1 ht), e.2⟩
  | .ptr _ _, _, e => by
    simp only [AV.rel] at e ⊢
    obtain ⟨b, h1, h2⟩ := e
    exact ⟨b, h.k _ _ h1, h2⟩
  | .agg l, _, e => by
    simp only [AV.rel] at e ⊢
    obtain ⟨ys, h1, h2⟩ := e
    exact ⟨ys, h1, AV.rels_mono h l _ h2⟩
  | .tup l, _, e => by
    simp only [AV.rel] at e ⊢
    obtain ⟨ys, h1, h2⟩ := e
    exact ⟨ys, h1, AV.rels_mono h l _ h2⟩
  | .fn _ caps, _, e => by
    simp only [AV.rel] at e ⊢
    obtain ⟨ys, h1, h2⟩ := e
    exact ⟨ys, h1, AV.rels_mono h caps _ h2⟩
  | .rs c xs, _, e => by
    simp only [AV.rel] at e ⊢
    obtain ⟨a, cap, h1, h0, h2⟩ := e
    refine ⟨a, cap, h1, h0, fun hx => ?_⟩
    obtain ⟨b, o, h3, h4, arr, T, fz, h5, h6⟩ := h2 hx
    exact ⟨b, o, h3, h.im b h4, arr, T, fz, (h.heap b h4).trans h5, fun i hi => AV.rels_mono h (c.enc xs[i]) _ (h6 i hi)⟩
  | .ep c xs n off, _, e => by
    simp only [AV.rel] at e ⊢
    obtain ⟨h0, b, o, h3, h4, arr, T, fz, h5, h6⟩ := e
    exact ⟨h0, b, o, h3, h.im b h4, arr, T, fz, (h.heap b h4).trans h5, fun i hi => AV.rels_mono h (c.enc xs[i]) _ (h6 i hi)⟩
  | .hd _, _, e => by
    simp only [AV.rel] at e ⊢
    exact ⟨h.k _ _ e.1, e.2⟩
  | .vw _ _ _ _, _, e => by
    simp only [AV.rel] at e ⊢
    obtain ⟨a, len, cap, a', cap', h1, h2⟩ := e
    exact ⟨a, len, cap, a', cap', h.k _ _ h1, h2⟩
  | .rp _ _ _ _, _, e => by
    simp only [AV.rel] at e ⊢
    obtain ⟨g, len, cap, h1, h2⟩ := e
    exact ⟨g, len, cap, h.k _ _ h1, h2⟩
termination_by a => a.ms
decreasing_by all_goals (simp only [AV.ms]; first | omega | (have := TC.enc_ms _ xs[i]; omega))
theorem AV.rels_mono (h : Le κ κ' Im Im' w w') : ∀ (l : List AV) (ys : List Value), AV.rels κ Im w l ys → AV.rels κ' Im' w' l ys
  | [], _, e => by simpa only [AV.rels] using e
  | a :: l, _, e => by
    simp only [AV.rels] at e ⊢
    obtain ⟨y, r, h1, h2, h3⟩ := e
    exact ⟨y, r, h1, AV.rel_mono h a y h2, AV.rels_mono h l r h3⟩
termination_by l => AV.mss l
decreasing_by all_goals (simp only [AV.mss]; have h1 := AV.ms_pos a; have h2 := AV.mss_pos l; omega)
end
end

end Go.X
