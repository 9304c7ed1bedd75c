/- The tie laws: what is given. -/
import Derived.Test.YtlpbalinhikboaaX24
import Derived.Test.YtlpbalinhikboaaProg
import Derived.KernelRfl
namespace Go.Proofs.Ytlpbalinhikboaa
open Go Go.X Go.Proofs

def tcS : TypeId → Option TC
  | 3 => some .int | 4 => some .bool | 23 => some .tieId | 25 => some .head | _ => none
def L0 {P : Program} : Nat → Option (LSpec P) := fun _ => none
noncomputable def E0 : Env := mkEnv Try.prog tcS []
noncomputable def bodyOf (f : Func) : Code := match f.body with | some c => c | none => .skip
theorem bodyOf_eq {f : Func} {c : Code} (h : f.body = some c) : f.body = some (bodyOf f) := by simp [bodyOf, h]
theorem mixed : Try.prog.follows .mixedOrders = true := by kernel_rfl

def cmpI (a b : Int) : Int := if a < b then -1 else if a > b then 1 else 0

@[reducible] def I : AT := .tc .int
@[reducible] def B : AT := .tc .bool
@[reducible] def T : AT := .tc .tieId
@[reducible] def Hd : AT := .tc .head

def out20 (d : Dat [I, I]) : Dat [I] := (cmpI d.1 d.2.1, ())
def out24 (_ : Dat [I]) : Dat [B] := (false, ())
def farI (a b : Int) : Bool := decide (a > b) && decide (IntKind.u64.wrap (IntKind.u64.wrap a - IntKind.u64.wrap b) > 300)
def out23 (d : Dat [I, I]) : Dat [B] := (farI d.1 d.2.1, ())
def rightI (x : TieId) : Bool := decide (x.Dir ≥ 1) && decide (x.Dir ≤ 2) && decide (x.Origin ≥ 1) && decide (x.Origin ≤ 1000) && decide (x.Kind ≥ 1) && decide (x.Kind ≤ 4) && decide (x.Nr ≥ 0) && decide (x.Nr ≤ 65535)
def out19 (d : Dat [T]) : Dat [B] := (rightI d.1, ())
def firstI : TieId := ⟨1, 1, 1, 0⟩
def lastI : TieId := ⟨2, 1000, 4, 65535⟩
def outF (_ : Dat []) : Dat [T] := (firstI, ())
def outL (_ : Dat []) : Dat [T] := (lastI, ())
def rise : List Int → Int
  | a :: b :: l => if a < b then -1 else if a > b then 1 else rise l
  | _ => 0
@[reducible] def Li : AT := .sl .int
def out21 (d : Dat [Li]) : Dat [I] := (rise d.1, ())
end Go.Proofs.Ytlpbalinhikboaa
