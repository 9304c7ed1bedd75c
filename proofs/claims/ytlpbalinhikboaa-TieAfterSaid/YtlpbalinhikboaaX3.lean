/- What an operation does to abstract values and objects. -/
import Derived.Test.YtlpbalinhikboaaX2
namespace Go.X
open Go

def szOf (P : Program) (t : TypeId) : Nat := ((P.info? t).map (·.size)).getD 0
def byOf (P : Program) (t : TypeId) : Nat := ((P.info? t).map (·.bytes)).getD 0
def aggB (P : Program) (t : TypeId) : Bool := match P.underlying t with | some (.struct _) | some (.array _ _) => true | _ => false

def cellsAV : AV → Option (List AV)
  | .agg l => some l
  | .v (.agg l) => some (l.toList.map .v)
  | .v (.tuple _) | .tup _ | .any | .gd _ _ _ _ => none
  | a => some [a]

def toAV : Value → AV
  | .agg l => .agg (l.toList.map .v)
  | .func (.func f) first caps => if first.isEmpty && caps.isEmpty then .fn f [] else .v (.func (.func f) first caps)
  | x => .v x

def ev (T : List AV) : Operand → AV
  | .tmp i => T.getD i .any
  | .const x => toAV x
  | .global g => .v (.pointer (some ⟨g, 0, none⟩))
  | .func f => .fn f []

/-- A claim that the walk leaves to its reader. -/
inductive Ok (p : Prop) : Prop
  | mk : p → Ok p
theorem Ok.out {p : Prop} : Ok p → p | ⟨h⟩ => h

inductive Eff where
  | bad
  | ok (r : AV) (u : List (Nat × AObj))
  | req (q : Prop) (r : AV) (u : List (Nat × AObj))
  | nd (ι : Type) (q : ι → Prop) (r : ι → AV) (u : ι → List (Nat × AObj))

def spliceAV (cs : List AV) (off : Nat) (l : List AV) : List AV := cs.take off ++ l ++ cs.drop (off + l.length)

def decInt : AV → Option Int | .v (.int .i64 n) => some n | _ => none
def decU32 : AV → Option Int | .v (.int .u32 n) => some n | _ => none
def decU8 : AV → Option Int | .v (.int .u8 n) => some n | _ => none
def decBool : AV → Option Bool | .v (.bool n) => some n | _ => none
def decRs (c : TC) : AV → Option (List c.den)
  | .rs c' xs => if h : c' = c then some (h ▸ xs) else none
  | .v (.slice none 0 0) => some []
  | _ => none

def decId : List AV → Option TieId
  | [a, b, c, d] => match decInt a, decInt b, decInt c, decInt d with
    | some a, some b, some c, some d => some ⟨a, b, c, d⟩
    | _, _, _, _ => none
  | _ => none
def decHead : List AV → Option Head
  | [a, b, c, d, e, f] => match decInt a, decInt b, decInt c, decInt d, decInt e, decInt f with
    | some a, some b, some c, some d, some e, some f => some ⟨⟨a, b, c, d⟩, e, f⟩
    | _, _, _, _, _, _ => none
  | _ => none
def decEdge : List AV → Option Edge
  | [a, b, c] => match decInt a, decInt b, decInt c with
    | some a, some b, some c => some ⟨a, b, c⟩
    | _, _, _ => none
  | _ => none
def decPrefix : List AV → Option Prefix
  | [a, b] => match decU32 a, decInt b with
    | some a, some b => some ⟨a, b⟩
    | _, _ => none
  | _ => none
def decReach : List AV → Option Reach
  | [a, b, c] => match decU32 a, decInt b, decInt c with
    | some a, some b, some c => some ⟨⟨a, b⟩, c⟩
    | _, _, _ => none
  | _ => none
def decTie : List AV → Option Tie
  | [a, b, c, d, e, f, g, h, i, j] => match decHead [a, b, c, d, e, f], decInt g, decBool h, decRs .edge i, decRs .reach j with
    | some x, some g, some h, some i, some j => some ⟨x, g, h, i, j⟩
    | _, _, _, _, _ => none
  | _ => none
def decParent : List AV → Option Parent
  | [a, b] => match decInt a, decRs .int b with
    | some a, some b => some ⟨a, b⟩
    | _, _ => none
  | _ => none
def decHop : List AV → Option Hop
  | [a, b, c] => match decInt a, decInt b, decRs .int c with
    | some a, some b, some c => some ⟨a, b, c⟩
    | _, _, _ => none
  | _ => none
def decPath : List AV → Option Path
  | [a, b, c, d, e] => match decU32 a, decInt b, decInt c, decInt d, decRs .int e with
    | some a, some b, some c, some d, some e => some ⟨⟨a, b⟩, c, d, e⟩
    | _, _, _, _, _ => none
  | _ => none
def decNot : List AV → Option Not
  | [a, b, c] => match decU32 a, decInt b, decInt c with
    | some a, some b, some c => some ⟨⟨a, b⟩, c⟩
    | _, _, _ => none
  | _ => none
def decJob : List AV → Option Job
  | [a, b] => match decInt a, decInt b with
    | some a, some b => some ⟨a, b⟩
    | _, _ => none
  | _ => none
def decPiece (l : List AV) : Option Piece :=
  match decTie (l.take 10), l.drop 10 with
  | some t, [n] => match decInt n with | some n => some ⟨t, n⟩ | none => none
  | _, _ => none
def decEntId (l : List AV) : Option EntId :=
  match decId (l.take 4), l.drop 4 with
  | some t, [n] => match decInt n with | some n => some ⟨t, n⟩ | none => none
  | _, _ => none
def decEntHead (l : List AV) : Option EntHead :=
  match decHead (l.take 6), l.drop 6 with
  | some t, [n] => match decInt n with | some n => some ⟨t, n⟩ | none => none
  | _, _ => none
def decLie (l : List AV) : Option Lie :=
  match l with
  | [a, b, c, d, e, f, g, h, i, j, k, m] => match decInt a, decInt b, decInt c, decInt d, decInt e, decInt f, decInt g, decInt h, decInt i, decInt j, decBool k, decBool m with
    | some a, some b, some c, some d, some e, some f, some g, some h, some i, some j, some k, some m => some ⟨a, b, c, d, e, f, g, h, i, j, k, m⟩
    | _, _, _, _, _, _, _, _, _, _, _, _ => none
  | _ => none
def decPacket (l : List AV) : Option Packet :=
  match l with
  | [] => none
  | a :: l => match decInt a, decLie (l.take 12), decTie ((l.drop 12).take 10), decId ((l.drop 22).take 4), decId ((l.drop 26).take 4), l.drop 30 with
    | some a, some b, some c, some d, some e, [f] => match decRs .head f with
      | some f => some ⟨a, b, c, d, e, f⟩
      | none => none
    | _, _, _, _, _, _ => none

def one {α : Type} (f : AV → Option α) : List AV → Option α
  | [a] => f a
  | _ => none

def TC.dec : (c : TC) → List AV → Option c.den
  | .int => one decInt | .bool => one decBool | .u32 => one decU32 | .u8 => one decU8
  | .tieId => decId | .head => decHead | .edge => decEdge | .prefix_ => decPrefix | .reach => decReach | .tie => decTie | .packet => decPacket
  | .parent => decParent | .hop => decHop | .path => decPath | .not_ => decNot | .step12 => fun _ => none | .step20 => fun _ => none | .job => decJob
  | .piece => decPiece | .entId => decEntId | .entHead => decEntHead

end Go.X
