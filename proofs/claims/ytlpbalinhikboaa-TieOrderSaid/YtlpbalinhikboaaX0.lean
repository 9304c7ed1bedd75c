/- The program's data as plain Lean data, and codes for the types that slices and maps hold. -/
namespace Go.X

structure TieId where
  Dir : Int
  Origin : Int
  Kind : Int
  Nr : Int
  deriving DecidableEq, Inhabited

structure Head where
  Id : TieId
  Seq : Int
  Life : Int
  deriving DecidableEq, Inhabited

structure Edge where
  Node : Int
  Level : Int
  Cost : Int
  deriving DecidableEq, Inhabited

structure Prefix where
  Net : Int
  Bits : Int
  deriving DecidableEq, Inhabited

structure Reach where
  Prefix : Prefix
  Metric : Int
  deriving DecidableEq, Inhabited

structure Tie where
  Head : Head
  Level : Int
  Overload : Bool
  Edges : List Edge
  Reaches : List Reach
  deriving DecidableEq, Inhabited

structure Lie where
  Node : Int
  Level : Int
  Pod : Int
  Mtu : Int
  Link : Int
  Nonce : Int
  Seen : Int
  SeenLink : Int
  SeenNonce : Int
  Hold : Int
  Repeat : Bool
  NoOffer : Bool
  deriving DecidableEq, Inhabited

structure Packet where
  Kind : Int
  Lie : Lie
  Tie : Tie
  From : TieId
  To : TieId
  Heads : List Head
  deriving DecidableEq, Inhabited

structure Parent where
  Node : Int
  Grands : List Int
  deriving DecidableEq, Inhabited

structure Own where
  Node : Int
  Level : Int
  Overload : Bool
  Top : Bool
  Others : List Edge
  Nets : List Reach
  Seq : Int
  Life : Int
  deriving DecidableEq, Inhabited

structure Hop where
  Node : Int
  Dist : Int
  Via : List Int
  deriving DecidableEq, Inhabited

structure Path where
  Prefix : Prefix
  Dir : Int
  Dist : Int
  Via : List Int
  deriving DecidableEq, Inhabited

structure Not where
  Prefix : Prefix
  Via : Int
  deriving DecidableEq, Inhabited

structure Step12 where
  Do : Int
  Now : Int
  T : Tie
  deriving DecidableEq, Inhabited

structure Step20 where
  Do : Int
  Now : Int
  H : Head
  deriving DecidableEq, Inhabited

structure Job where
  Key : Int
  At : Int
  deriving DecidableEq, Inhabited

/-- tiedb's piece; the reference's Known. -/
structure Piece where
  tie : Tie
  over : Int
  deriving DecidableEq, Inhabited

/-- peer's entries, at ids and at heads. -/
structure EntId where
  what : TieId
  last : Int
  deriving DecidableEq, Inhabited
structure EntHead where
  what : Head
  last : Int
  deriving DecidableEq, Inhabited

inductive TC where
  | int | bool | u32 | u8 | tieId | head | edge | prefix_ | reach | tie | packet | parent | hop | path | not_ | step12 | step20 | job
  | piece | entId | entHead
  deriving DecidableEq, Inhabited

@[reducible] def TC.den : TC → Type
  | .int => Int | .bool => Bool | .u32 => Int | .u8 => Int
  | .tieId => TieId | .head => Head | .edge => Edge | .prefix_ => Prefix | .reach => Reach | .tie => Tie | .packet => Packet
  | .parent => Parent | .hop => Hop | .path => Path | .not_ => Not | .step12 => Step12 | .step20 => Step20 | .job => Job
  | .piece => Piece | .entId => EntId | .entHead => EntHead

def TC.d : (c : TC) → c.den
  | .int => 0 | .bool => false | .u32 => 0 | .u8 => 0
  | .tieId => (default : TieId) | .head => (default : Head) | .edge => (default : Edge) | .prefix_ => (default : Prefix) | .reach => (default : Reach)
  | .tie => (default : Tie) | .packet => (default : Packet)
  | .parent => (default : Parent) | .hop => (default : Hop) | .path => (default : Path) | .not_ => (default : Not) | .step12 => (default : Step12)
  | .step20 => (default : Step20) | .job => (default : Job)
  | .piece => (default : Piece) | .entId => (default : EntId) | .entHead => (default : EntHead)

/-- How many cells one takes. -/
def TC.k : TC → Nat
  | .int => 1 | .bool => 1 | .u32 => 1 | .u8 => 1
  | .tieId => 4 | .head => 6 | .edge => 3 | .prefix_ => 2 | .reach => 3 | .tie => 10 | .packet => 32
  | .parent => 2 | .hop => 3 | .path => 5 | .not_ => 3 | .step12 => 12 | .step20 => 8 | .job => 2
  | .piece => 11 | .entId => 5 | .entHead => 7

/-- How deep slices lie in it. -/
def TC.lvl : TC → Nat
  | .tie | .parent | .hop | .path | .step12 | .piece => 1
  | .packet => 2
  | _ => 0
end Go.X
