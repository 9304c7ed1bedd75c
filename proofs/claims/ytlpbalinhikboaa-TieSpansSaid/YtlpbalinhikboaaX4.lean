/- Each operation's effect. -/
import Derived.Test.YtlpbalinhikboaaX3b
namespace Go.X
open Go

/-- What a program's walks lean on: which code an element type has; the contracts of what is called. -/
structure CSpec where
  rd : List AV → List Nat
  wr : List AV → List Nat
  n : Nat
  eff : List AV → Nat → (Nat → AObj) → Eff

structure Env where
  P : Program
  tc : TypeId → Option TC
  C : FuncId → Option CSpec

/-- The element's code of a slice type. -/
def Env.el (E : Env) (t : TypeId) : Option (TypeId × TC) := match E.P.underlying t with
  | some (.slice e) => (E.tc e).map (e, ·)
  | _ => none

def Env.mp (E : Env) (t : TypeId) : Option (TC × TC) := match E.P.underlying t with
  | some (.map k v) => match E.tc k, E.tc v with | some a, some b => some (a, b) | _, _ => none
  | _ => none

def castL (c c' : TC) (xs : List c'.den) : Option (List c.den) := if h : c' = c then some (h ▸ xs) else none

/-- Sealing: what a row holds, as what stays. -/
def sealAV (o : Nat → AObj) : AV → AV
  | .hd i => match o i with | .row _ c xs => .rs c xs | _ => .hd i
  | .vw i k lo n => match o i with | .row _ c xs => if k = c.k then .rs c ((xs.drop lo).take n) else .vw i k lo n | _ => .vw i k lo n
  | a => a
def sealIds : AV → List Nat
  | .hd i | .vw i _ _ _ => [i]
  | _ => []
def deadAll (l : List Nat) : List (Nat × AObj) := l.map fun i => (i, .dead)

/-- A part of a row of cells, as a value. -/
def partAV (P : Program) (t : TypeId) (cs : List AV) (off : Nat) : Option AV :=
  match P.underlying t with
  | none => none
  | some _ => if aggB P t then (if off + szOf P t ≤ cs.length then some (.agg ((cs.drop off).take (szOf P t))) else none) else cs[off]?

def effLoad (P : Program) (t : TypeId) (a : AV) (o : Nat → AObj) : Eff :=
  match (match a with
    | .ptr i off => match o i with | .cells cs _ => partAV P t cs off | _ => none
    | .ep c xs n off => partAV P t (c.enc (xs.getD n c.d)) off
    | .rp i k n off => match o i with | .row _ c xs => if k = c.k then partAV P t (c.enc (xs.getD n c.d)) off else none | _ => none
    | _ => none) with
  | some r => .ok r []
  | none => .bad

/-- What one cell may hold. -/
def oneAV : AV → Bool
  | .v (.agg _) | .v (.tuple _) | .agg _ | .tup _ | .any | .gd _ _ _ _ => false
  | _ => true

def effStore (P : Program) (t : TypeId) (a x : AV) (o : Nat → AObj) : Eff :=
  match cellsAV x with
  | none => .bad
  | some l =>
    if l.length = szOf P t ∧ 0 < l.length ∧ l.all oneAV = true then
      match a with
      | .ptr i off => match o i with
        | .cells cs E => if off + l.length ≤ cs.length then .ok (.v undef) [(i, .cells (spliceAV cs off l) E)] else .bad
        | _ => .bad
      | .rp i k n off => match o i with
        | .row E c xs => if k = c.k ∧ off + l.length ≤ k then
            match c.dec (spliceAV (c.enc (xs.getD n c.d)) off l) with
            | some y => .ok (.v undef) [(i, .row E c (xs.set n y))]
            | none => .bad
          else .bad
        | _ => .bad
      | _ => .bad
    else .bad

def fieldOff (P : Program) (s : TypeId) (f : Nat) : Option (Nat × TypeId) := match P.underlying s with
  | some (.struct fs) => match fs[f]? with | some x => if 0 < szOf P x.type then some (x.offset, x.type) else none | none => none
  | _ => none

def effFieldAddr (P : Program) (s : TypeId) (f : Nat) (a : AV) : Eff :=
  match fieldOff P s f with
  | none => .bad
  | some (d, _) => match a with
    | .ptr i off => .ok (.ptr i (off + d)) []
    | .ep c xs n off => .ok (.ep c xs n (off + d)) []
    | .rp i k n off => .ok (.rp i k n (off + d)) []
    | _ => .bad

def effField (P : Program) (s : TypeId) (f : Nat) (a : AV) : Eff :=
  match fieldOff P s f, a with
  | some (d, t), .agg cs => match partAV P t cs d with | some r => .ok r [] | none => .bad
  | _, _ => .bad

def effIndexAddr (E : Env) (t : TypeId) (a i : AV) (o : Nat → AObj) : Eff :=
  match E.P.underlying t with
  | some (.slice e) => match a, i with
    | .rs c xs, .v (.int _ n) => if szOf E.P e = c.k then .req (0 ≤ n ∧ n < xs.length) (.ep c xs n.toNat 0) [] else .bad
    | .hd j, .v (.int _ n) => match o j with
      | .row _ c xs => if szOf E.P e = c.k then .req (0 ≤ n ∧ n < xs.length) (.rp j c.k n.toNat 0) [] else .bad
      | _ => .bad
    | _, _ => .bad
  | some (.array len e) => match a, i with
    | .ptr j off, .v (.int _ n) => if 0 < szOf E.P e then .req (0 ≤ n ∧ n < len) (.ptr j (off + n.toNat * szOf E.P e)) [] else .bad
    | _, _ => .bad
  | _ => .bad

def effIndex (P : Program) (t : TypeId) (a i : AV) : Eff :=
  match P.underlying t, a, i with
  | some (.array len e), .agg cs, .v (.int _ n) => match partAV P e cs (n.toNat * szOf P e) with
    | some r => .req (0 ≤ n ∧ n < len) r []
    | none => .bad
  | _, _, _ => .bad

def eq1 : Bool → AV → AV → Option Bool
  | true, .v (.int k a), .v (.int k' b) => if k = k' then some (a == b) else none
  | false, .v (.bool a), .v (.bool b) => some (a == b)
  | _, _, _ => none

def allEq : List Bool → List AV → List AV → Option Bool
  | [], [], [] => some true
  | [q], [a], [b] => eq1 q a b
  | q :: ks, a :: l, b :: m => match eq1 q a b, allEq ks l m with | some x, some y => some (x && y) | _, _ => none
  | _, _, _ => none

/-- The cells of a type whose '==' looks at each cell in turn: numbers (true), bools (false), and structs of such. -/
def flatFs (P : Program) (g : TypeId → Option (List Bool)) : Nat → List Field → Option (List Bool)
  | _, [] => some []
  | acc, f :: r => if f.name ≠ "_" ∧ f.offset = acc then
      match g f.type with
      | some s => match flatFs P g (acc + s.length) r with | some q => some (s ++ q) | none => none
      | none => none
    else none
def flatSz (P : Program) : Nat → TypeId → Option (List Bool)
  | 0, _ => none
  | n + 1, t => match P.underlying t with
    | some (.int _) => some [true]
    | some .bool => some [false]
    | some (.struct fs) => if P.stoodInHeld t then none else
      match flatFs P (flatSz P n) 0 fs.toList with
      | some s => if szOf P t = s.length then some s else none
      | none => none
    | _ => none

def effBin (P : Program) (b : BinOp) (t : TypeId) (x y : AV) : Eff :=
  match x, y with
  | .v (.int k a), .v (.int k' c) =>
    match b with
    | .shl => .req (0 ≤ c) (.v (.int k (k.wrap (a * 2 ^ (min c.toNat k.bits))))) []
    | .shr => .req (0 ≤ c) (.v (.int k (a.fdiv (2 ^ (min c.toNat k.bits))))) []
    | _ => if k = k' then
      match b with
      | .add => .ok (.v (.int k (k.wrap (a + c)))) []
      | .sub => .ok (.v (.int k (k.wrap (a - c)))) []
      | .mul => .ok (.v (.int k (k.wrap (a * c)))) []
      | .quo => .req (c ≠ 0) (.v (.int k (k.wrap (a.tdiv c)))) []
      | .rem => .req (c ≠ 0) (.v (.int k (a.tmod c))) []
      | .and => .ok (.v (.int k (k.wrap (BitVec.ofInt k.bits a &&& BitVec.ofInt k.bits c).toNat))) []
      | .or => .ok (.v (.int k (k.wrap (BitVec.ofInt k.bits a ||| BitVec.ofInt k.bits c).toNat))) []
      | .xor => .ok (.v (.int k (k.wrap (BitVec.ofInt k.bits a ^^^ BitVec.ofInt k.bits c).toNat))) []
      | .andNot => .ok (.v (.int k (k.wrap (BitVec.ofInt k.bits a &&& ~~~(BitVec.ofInt k.bits c)).toNat))) []
      | .eql => .ok (abl (a == c)) []
      | .neq => .ok (abl (a != c)) []
      | .lss => .ok (abl (decide (a < c))) []
      | .leq => .ok (abl (decide (a ≤ c))) []
      | .gtr => .ok (abl (decide (a > c))) []
      | .geq => .ok (abl (decide (a ≥ c))) []
      | _ => .bad
    else .bad
  | .v (.bool a), .v (.bool c) => match b, P.underlying t with
    | .eql, some .bool => .ok (abl (a == c)) []
    | .neq, some .bool => .ok (abl (!(a == c))) []
    | _, _ => .bad
  | .agg l, .agg m => match flatSz P 20 t with
    | some ks => if aggB P t = true then
        match b, allEq ks l m with
        | .eql, some r => .ok (abl r) []
        | .neq, some r => .ok (abl (!r)) []
        | _, _ => .bad
      else .bad
    | none => .bad
  | .ptr _ _, .v (.pointer none) => match b, P.underlying t with
    | .eql, some (.pointer _) => .ok (abl false) []
    | .neq, some (.pointer _) => .ok (abl true) []
    | _, _ => .bad
  | .v (.pointer none), .v (.pointer none) => match b, P.underlying t with
    | .eql, some (.pointer _) => .ok (abl true) []
    | .neq, some (.pointer _) => .ok (abl false) []
    | _, _ => .bad
  | _, _ => .bad

def effUn (u : UnOp) (x : AV) : Eff :=
  match u, x with
  | .neg, .v (.int k n) => .ok (.v (.int k (k.wrap (0 - n)))) []
  | .not, .v (.bool b) => .ok (abl !b) []
  | _, _ => .bad

def effConv (P : Program) (s d : TypeId) (x : AV) : Eff :=
  match P.underlying s, P.underlying d, x with
  | some _, some (.int k), .v (.int _ n) => .ok (.v (.int k (k.wrap n))) []
  | _, _, _ => .bad

def fillAV (place : Nat → Option (Nat × Nat)) (cs : List AV) : List (Nat × AV) → Option (List AV)
  | [] => some cs
  | (i, x) :: r => match place i, cellsAV x with
    | some (off, size), some l => if l.length = size ∧ off + size ≤ cs.length then fillAV place (spliceAV cs off l) r else none
    | _, _ => none

def effBuild (P : Program) (t : TypeId) (ps : List (Nat × AV)) : Eff :=
  match (match P.info? t, P.underlying t with
    | some it, some (.array _ e) => match it.zero, P.info? e with
      | some z, some ie => fillAV (fun i => some (i * ie.size, ie.size)) (z.cells.toList.map .v) ps
      | _, _ => none
    | some it, some (.struct fields) => match it.zero, fields.toList.mapM (fun f => (P.info? f.type).map fun i => (f.offset, i.size)) with
      | some z, some places => fillAV (places.toArray[·]?) (z.cells.toList.map .v) ps
      | _, _ => none
    | _, _ => none) with
  | some l => .ok (.agg l) []
  | none => .bad

/-- Rows of cells, as data. -/
def decRows (c : TC) : Nat → List AV → Option (List c.den)
  | 0, [] => some []
  | 0, _ :: _ => none
  | n + 1, l => match c.dec (l.take c.k), decRows c n (l.drop c.k) with
    | some d, some ds => some (d :: ds)
    | _, _ => none

def sealIdsOf (x : AV) : List Nat := match cellsAV x with | some l => l.flatMap sealIds | none => []

def effBuildSlice (E : Env) (t : TypeId) (len : Nat) (ps : List (Nat × AV)) (id : Nat) (o : Nat → AObj) : Eff :=
  match E.el t with
  | none => .bad
  | some (e, c) => if szOf E.P e = c.k ∧ len * c.k ≤ 2 ^ 24 ∧ ((E.P.info? e).bind (·.zero)).isSome = true then
      match fillAV (fun i => some (i * c.k, c.k)) (List.replicate (len * c.k) .any) ps with
      | some l => match decRows c len (l.map (sealAV o)) with
        | some ds => .ok (.hd id) (deadAll (l.flatMap sealIds) ++ [(id, .row e c ds)])
        | none => .bad
      | none => .bad
    else .bad

/-- A slice, as what it holds. -/
def readSl (c : TC) (o : Nat → AObj) : AV → Option (List c.den)
  | .rs c' xs => castL c c' xs
  | .hd i => match o i with | .row _ c' xs => castL c c' xs | _ => none
  | .vw i k lo n => match o i with | .row _ c' xs => if k = c'.k then castL c c' ((xs.drop lo).take n) else none | _ => none
  | .v (.slice none 0 0) => some []
  | _ => none

def effAppend (E : Env) (ats : Array TypeId) (s x : AV) (id : Nat) (o : Nat → AObj) : Eff :=
  match ats[0]?, ats[1]? with
  | some t0, some t1 => match E.el t0 with
    | some (e, c) => if t1 = t0 ∧ ats.size = 2 ∧ szOf E.P e = c.k ∧ ((E.P.info? e).bind (·.zero)).map (·.cells.size) = some c.k ∧ 0 < byOf E.P e then
      match readSl c o x with
      | none => .bad
      | some ys => match s with
        | .v (.slice none 0 0) => .req (ys.length * byOf E.P e ≤ 2 ^ 47) (.hd id) [(id, .row e c ys)]
        | .hd i => match o i with
          | .row e' c' xs => match castL c c' xs with
            | some xs => if e' = e ∧ (sealIds x).contains i = false then .req ((xs.length + ys.length) * byOf E.P e ≤ 2 ^ 47) (.hd id) [(i, .dead), (id, .row e c (xs ++ ys))] else .bad
            | none => .bad
          | _ => .bad
        | _ => .bad
      else .bad
    | none => .bad
  | _, _ => .bad

def lenSl (o : Nat → AObj) : AV → Option Int
  | .rs _ xs => some xs.length
  | .vw _ _ _ n => some n
  | .hd i => match o i with | .row _ _ xs => some xs.length | _ => none
  | .v (.slice none 0 0) => some 0
  | _ => none
def lenMp (o : Nat → AObj) : AV → Option Int
  | .hd i => match o i with | .map _ _ m => some m.length | _ => none
  | .v (.map none) => some 0
  | _ => none

def effLen (P : Program) (ats : Array TypeId) (x : AV) (o : Nat → AObj) : Eff :=
  match ats[0]? with
  | none => .bad
  | some t => match P.underlying t with
    | some (.slice _) => match lenSl o x with
      | some n => .ok (i64 n) []
      | none => .bad
    | some (.map _ _) => match lenMp o x with
      | some n => .ok (i64 n) []
      | none => .bad
    | _ => .bad

def loInt : Option AV → Option Int
  | none => some 0
  | some (.v (.int _ n)) => some n
  | _ => none

def effSlice (E : Env) (t : TypeId) (x : AV) (lo hi : Option AV) (o : Nat → AObj) : Eff :=
  match E.P.underlying t with
  | some (.slice e) =>
    match loInt lo with
    | none => .bad
    | some l =>
      match x with
      | .rs c xs => if szOf E.P e = c.k then match hi with
        | none => .req (0 ≤ l ∧ l ≤ xs.length) (.rs c (xs.drop l.toNat)) []
        | some (.v (.int _ h)) => .req (0 ≤ l ∧ l ≤ h ∧ h ≤ xs.length) (.rs c ((xs.take h.toNat).drop l.toNat)) []
        | _ => .bad else .bad
      | .hd i => match o i with
        | .row _ c xs => if szOf E.P e = c.k then match hi with
          | none => .req (0 ≤ l ∧ l ≤ xs.length) (.vw i c.k l.toNat (xs.length - l.toNat)) []
          | some (.v (.int _ h)) => .req (0 ≤ l ∧ l ≤ h ∧ h ≤ xs.length) (.vw i c.k l.toNat (h.toNat - l.toNat)) []
          | _ => .bad else .bad
        | _ => .bad
      | _ => .bad
  | _ => .bad

def effSliceOp (E : Env) (t : TypeId) (hl hh : Bool) (vs : List AV) (o : Nat → AObj) : Eff :=
  match hl, hh, vs with
  | false, false, [x] => effSlice E t x none none o
  | true, false, [x, l] => effSlice E t x (some l) none o
  | false, true, [x, h] => effSlice E t x none (some h) o
  | true, true, [x, l, h] => effSlice E t x (some l) (some h) o
  | _, _, _ => .bad

def effPick (c a b : AV) : Eff :=
  match c with
  | .v (.bool t) => match a, b with
    | .v (.bool true), .gd _ _ g (.v (.bool y)) => .req (t = false → g = true) (abl (t || y)) []
    | .v (.bool true), .v (.bool y) => .ok (abl (t || y)) []
    | .gd _ _ g (.v (.bool y)), .v (.bool false) => .req (t = true → g = true) (abl (t && y)) []
    | .v (.bool y), .v (.bool false) => .ok (abl (t && y)) []
    | .v (.bool x), .v (.bool y) => .ok (abl (bif t then x else y)) []
    | _, _ => .bad
  | _ => .bad

def mmAcc (mx : Bool) (k : IntKind) : Int → List AV → Option AV
  | a, [] => some (.v (.int k a))
  | a, .v (.int k' b) :: r => if k' = k then mmAcc mx k (if mx then (if b > a then b else a) else (if b < a then b else a)) r else none
  | _, _ => none
def minmax (mx : Bool) : List AV → Option AV
  | .v (.int k a) :: r => mmAcc mx k a r
  | _ => none

def effBuiltin (E : Env) (b : Builtin) (ats : Array TypeId) (args : List AV) (id : Nat) (o : Nat → AObj) : Eff :=
  match b, args with
  | .append, [s, x] => effAppend E ats s x id o
  | .len, [x] => effLen E.P ats x o
  | .max, l => match minmax true l with | some r => .ok r [] | none => .bad
  | .min, l => match minmax false l with | some r => .ok r [] | none => .bad
  | _, _ => .bad

def newOp (E : Env) (op : Op) : Nat :=
  match op with
  | .alloc _ | .box _ _ | .buildSlice _ _ _ => 1
  | .call c => match c.callee with
    | .builtin .append => 1
    | .value (.func f) => match E.C f with | some s => s.n | none => 0
    | .value _ => 2
    | _ => 0
  | _ => 0

def effOp (E : Env) (op : Op) (vs : List AV) (id : Nat) (o : Nat → AObj) : Eff :=
  match op with
  | .move _ | .assign _ => match vs with | [x] => .ok x [] | _ => .bad
  | .pick _ _ _ => match vs with | [c, a, b] => effPick c a b | _ => .bad
  | .alloc e => match (E.P.info? e).bind (·.zero) with | some z => .ok (.ptr id 0) [(id, .cells (z.cells.toList.map .v) e)] | none => .bad
  | .box e _ => match vs with
    | [x] => match cellsAV x with | some l => .ok (.ptr id 0) [(id, .cells l e)] | none => .bad
    | _ => .bad
  | .build t ps => effBuild E.P t ((ps.toList.map (·.1)).zip vs)
  | .buildSlice t n ps => effBuildSlice E t n ((ps.toList.map (·.1)).zip vs) id o
  | .load t _ => match vs with | [a] => effLoad E.P t a o | _ => .bad
  | .store t _ _ => match vs with | [a, x] => effStore E.P t a x o | _ => .bad
  | .nilCheck _ => match vs with
    | [.ptr i d] => .ok (.ptr i d) []
    | [.ep c xs n d] => .ok (.ep c xs n d) []
    | [.rp i k n d] => .ok (.rp i k n d) []
    | _ => .bad
  | .binOp b t _ _ _ => match vs with | [x, y] => effBin E.P b t x y | _ => .bad
  | .unOp u _ _ => match vs with | [x] => effUn u x | _ => .bad
  | .convert s d _ => match vs with | [x] => effConv E.P s d x | _ => .bad
  | .fieldAddr s _ f => match vs with | [a] => effFieldAddr E.P s f a | _ => .bad
  | .field s _ f => match vs with | [a] => effField E.P s f a | _ => .bad
  | .indexAddr t _ _ => match vs with | [a, i] => effIndexAddr E t a i o | _ => .bad
  | .index t _ _ => match vs with | [a, i] => effIndex E.P t a i | _ => .bad
  | .extract _ n => match vs with | [.tup l] => (match l[n]? with | some r => .ok r [] | none => .bad) | _ => .bad
  | .makeFunc (.func f) first _ => if first.isEmpty then .ok (.fn f vs) [] else .bad
  | .slice t _ lo hi none => effSliceOp E t lo.isSome hi.isSome vs o
  | .call c => match c.callee with
    | .builtin b => effBuiltin E b c.argTypes vs id o
    | .value _ => match vs with
      | .fn f caps :: args => match E.C f with
        | some s => if s.n ≤ newOp E op then s.eff (args ++ caps) id o else .bad
        | none => .bad
      | _ => .bad
    | _ => .bad
  | _ => .bad

/-- The objects that an operation looks at, and those that it may turn; how many new ones it lays. -/
def ptrIds : AV → List Nat
  | .ptr i _ | .hd i | .vw i _ _ _ | .rp i _ _ _ => [i]
  | _ => []

def rdOp (E : Env) (op : Op) (vs : List AV) : List Nat :=
  match op with
  | .load _ _ | .store _ _ _ | .indexAddr _ _ _ | .slice _ _ _ _ _ => (vs.headD .any |> ptrIds)
  | .buildSlice _ _ _ => vs.flatMap sealIdsOf
  | .call c => match c.callee with
    | .builtin _ => vs.flatMap ptrIds
    | .value _ => match vs with
      | .fn f caps :: args => match E.C f with | some s => s.rd (args ++ caps) | none => []
      | _ => []
    | _ => []
  | _ => []

def wrOp (E : Env) (op : Op) (vs : List AV) : List Nat :=
  match op with
  | .store _ _ _ => (vs.headD .any |> ptrIds)
  | .buildSlice _ _ _ => vs.flatMap sealIdsOf
  | .call c => match c.callee with
    | .builtin .append => (vs.headD .any |> ptrIds)
    | .value _ => match vs with
      | .fn f caps :: args => match E.C f with | some s => s.wr (args ++ caps) | none => []
      | _ => []
    | _ => []
  | _ => []

end Go.X
