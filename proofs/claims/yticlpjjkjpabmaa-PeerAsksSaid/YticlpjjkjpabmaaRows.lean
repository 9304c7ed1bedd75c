/-
  No cell of these rows narrows 'for every input' (looked for: loops, veiled, ifaces, maps, wideKeys, modest, calm, conditions, laid).
  DERIVED. THE GIVEN ROWS OF THIS SEAT. 8 by the template 'for every input the law returns true; each argument reads behind the call as it read before'; 0 by the template 'total and deterministic' (their statements: YticlpjjkjpabmaaTotals.lean).
  GIVEN WITH THE SEED: the statements are not yours to turn. If you find one false, say at which input.
  Laid BY PROGRAM, IN A SANDBOX (cutbox-rows.mjs): the forced cells as the released guide's own fill.sh prints them over the translation 4621d99bdaa0aebc… (all of the seat's roots in one cut). By AI agents, Wed Nov 11 2026. No macro, syntax, notation, axiom, sorry.
-/
import Derived.Test.YticlpjjkjpabmaaChecked
import GoSem.Claim
import GoSem.ClaimJoined
import GoSem.ClaimMapViews
import Derived.JoinedTies
import Derived.KernelRfl
namespace Go.Proofs.Yticlpjjkjpabmaa
/- THE CELL 'sum', in the pinned program and in every row, IS THE sha256 OF THE DUMP (.gsa) THAT YticlpjjkjpabmaaProg.lean LOADS. Nothing in Lean hashes anything: it is a label: what it is worth is what the hold of that sum in a sandbox is worth. -/
noncomputable def Try.pinned : Pinned := { name := "yticlpjjkjpabmaa", sum := "4621d99bdaa0aebc3a0db5701864b6a2cff0e717db75d33523daec8d8b7d14ec", checked := Try.checked }
namespace Rows
def none {H : Type} : Left H := { results := [], args := [] }

/-- 'selvagelaw20.PeerAgain': WHATEVER THE INPUT: true; the input reads as it did. -/
def peerAgainSpec : ChangeSpec := { name := "peerAgain", fn := fun _ => fun
  | [d1, d2] => { results := [.lit (.bool true)], args := [d1, d2] }
  | _ => none }
def peerAgainRow : OpenClaim := { program := "yticlpjjkjpabmaa", sum := "4621d99bdaa0aebc3a0db5701864b6a2cff0e717db75d33523daec8d8b7d14ec", func := "selvage/selvagelaw20.PeerAgain", spec := "peerAgain", unfollowed := true, recurses := true, plainKeys := false, apart := false }
def PeerAgainSaid : Prop := peerAgainRow.holds Try.pinned (OpenSpec.ofChange peerAgainSpec)

/-- ITS FALSE NEIGHBOUR: 'it returns false'. Refute it at one input. -/
def peerAgainWrong : ChangeSpec := { name := "peerAgain", fn := fun _ => fun
  | [d1, d2] => { results := [.lit (.bool false)], args := [d1, d2] }
  | _ => none }
def PeerAgainWrongFalsely : Prop := peerAgainRow.holds Try.pinned (OpenSpec.ofChange peerAgainWrong)

/-- 'selvagelaw20.PeerAsks': WHATEVER THE INPUT: true; the input reads as it did. -/
def peerAsksSpec : ChangeSpec := { name := "peerAsks", fn := fun _ => fun
  | [d1, d2] => { results := [.lit (.bool true)], args := [d1, d2] }
  | _ => none }
def peerAsksRow : OpenClaim := { program := "yticlpjjkjpabmaa", sum := "4621d99bdaa0aebc3a0db5701864b6a2cff0e717db75d33523daec8d8b7d14ec", func := "selvage/selvagelaw20.PeerAsks", spec := "peerAsks", unfollowed := true, recurses := true, plainKeys := false, apart := false }
def PeerAsksSaid : Prop := peerAsksRow.holds Try.pinned (OpenSpec.ofChange peerAsksSpec)

/-- ITS FALSE NEIGHBOUR: 'it returns false'. Refute it at one input. -/
def peerAsksWrong : ChangeSpec := { name := "peerAsks", fn := fun _ => fun
  | [d1, d2] => { results := [.lit (.bool false)], args := [d1, d2] }
  | _ => none }
def PeerAsksWrongFalsely : Prop := peerAsksRow.holds Try.pinned (OpenSpec.ofChange peerAsksWrong)

/-- 'selvagelaw20.PeerApart': WHATEVER THE INPUT: true; the input reads as it did. -/
def peerApartSpec : ChangeSpec := { name := "peerApart", fn := fun _ => fun
  | [d1, d2] => { results := [.lit (.bool true)], args := [d1, d2] }
  | _ => none }
def peerApartRow : OpenClaim := { program := "yticlpjjkjpabmaa", sum := "4621d99bdaa0aebc3a0db5701864b6a2cff0e717db75d33523daec8d8b7d14ec", func := "selvage/selvagelaw20.PeerApart", spec := "peerApart", unfollowed := true, recurses := true, plainKeys := false, apart := false }
def PeerApartSaid : Prop := peerApartRow.holds Try.pinned (OpenSpec.ofChange peerApartSpec)

/-- ITS FALSE NEIGHBOUR: 'it returns false'. Refute it at one input. -/
def peerApartWrong : ChangeSpec := { name := "peerApart", fn := fun _ => fun
  | [d1, d2] => { results := [.lit (.bool false)], args := [d1, d2] }
  | _ => none }
def PeerApartWrongFalsely : Prop := peerApartRow.holds Try.pinned (OpenSpec.ofChange peerApartWrong)

/-- 'selvagelaw20.PeerScripts': WHATEVER THE INPUT: true; the input reads as it did. -/
def peerScriptsSpec : ChangeSpec := { name := "peerScripts", fn := fun _ => fun
  | [d] => { results := [.lit (.bool true)], args := [d] }
  | _ => none }
def peerScriptsRow : OpenClaim := { program := "yticlpjjkjpabmaa", sum := "4621d99bdaa0aebc3a0db5701864b6a2cff0e717db75d33523daec8d8b7d14ec", func := "selvage/selvagelaw20.PeerScripts", spec := "peerScripts", unfollowed := true, recurses := true, plainKeys := false, apart := false }
def PeerScriptsSaid : Prop := peerScriptsRow.holds Try.pinned (OpenSpec.ofChange peerScriptsSpec)

/-- ITS FALSE NEIGHBOUR: 'it returns false'. Refute it at one input. -/
def peerScriptsWrong : ChangeSpec := { name := "peerScripts", fn := fun _ => fun
  | [d] => { results := [.lit (.bool false)], args := [d] }
  | _ => none }
def PeerScriptsWrongFalsely : Prop := peerScriptsRow.holds Try.pinned (OpenSpec.ofChange peerScriptsWrong)

/-- 'selvagelaw20.PeerTells': WHATEVER THE INPUT: true; the input reads as it did. -/
def peerTellsSpec : ChangeSpec := { name := "peerTells", fn := fun _ => fun
  | [d] => { results := [.lit (.bool true)], args := [d] }
  | _ => none }
def peerTellsRow : OpenClaim := { program := "yticlpjjkjpabmaa", sum := "4621d99bdaa0aebc3a0db5701864b6a2cff0e717db75d33523daec8d8b7d14ec", func := "selvage/selvagelaw20.PeerTells", spec := "peerTells", unfollowed := true, recurses := true, plainKeys := false, apart := false }
def PeerTellsSaid : Prop := peerTellsRow.holds Try.pinned (OpenSpec.ofChange peerTellsSpec)

/-- ITS FALSE NEIGHBOUR: 'it returns false'. Refute it at one input. -/
def peerTellsWrong : ChangeSpec := { name := "peerTells", fn := fun _ => fun
  | [d] => { results := [.lit (.bool false)], args := [d] }
  | _ => none }
def PeerTellsWrongFalsely : Prop := peerTellsRow.holds Try.pinned (OpenSpec.ofChange peerTellsWrong)

/-- 'selvagelaw11.TieMerges': WHATEVER THE INPUT: true; the input reads as it did. -/
def tieMergesSpec : ChangeSpec := { name := "tieMerges", fn := fun _ => fun
  | [d1, d2] => { results := [.lit (.bool true)], args := [d1, d2] }
  | _ => none }
def tieMergesRow : OpenClaim := { program := "yticlpjjkjpabmaa", sum := "4621d99bdaa0aebc3a0db5701864b6a2cff0e717db75d33523daec8d8b7d14ec", func := "selvage/selvagelaw11.TieMerges", spec := "tieMerges", unfollowed := true, recurses := true, plainKeys := false, apart := false }
def TieMergesSaid : Prop := tieMergesRow.holds Try.pinned (OpenSpec.ofChange tieMergesSpec)

/-- ITS FALSE NEIGHBOUR: 'it returns false'. Refute it at one input. -/
def tieMergesWrong : ChangeSpec := { name := "tieMerges", fn := fun _ => fun
  | [d1, d2] => { results := [.lit (.bool false)], args := [d1, d2] }
  | _ => none }
def TieMergesWrongFalsely : Prop := tieMergesRow.holds Try.pinned (OpenSpec.ofChange tieMergesWrong)

/-- 'selvagelaw11.TieAlone': WHATEVER THE INPUT: true; the input reads as it did. -/
def tieAloneSpec : ChangeSpec := { name := "tieAlone", fn := fun _ => fun
  | [d1, d2] => { results := [.lit (.bool true)], args := [d1, d2] }
  | _ => none }
def tieAloneRow : OpenClaim := { program := "yticlpjjkjpabmaa", sum := "4621d99bdaa0aebc3a0db5701864b6a2cff0e717db75d33523daec8d8b7d14ec", func := "selvage/selvagelaw11.TieAlone", spec := "tieAlone", unfollowed := true, recurses := true, plainKeys := false, apart := false }
def TieAloneSaid : Prop := tieAloneRow.holds Try.pinned (OpenSpec.ofChange tieAloneSpec)

/-- ITS FALSE NEIGHBOUR: 'it returns false'. Refute it at one input. -/
def tieAloneWrong : ChangeSpec := { name := "tieAlone", fn := fun _ => fun
  | [d1, d2] => { results := [.lit (.bool false)], args := [d1, d2] }
  | _ => none }
def TieAloneWrongFalsely : Prop := tieAloneRow.holds Try.pinned (OpenSpec.ofChange tieAloneWrong)

/-- 'selvagelaw11.TieWins': WHATEVER THE INPUT: true; the input reads as it did. -/
def tieWinsSpec : ChangeSpec := { name := "tieWins", fn := fun _ => fun
  | [d1, d2] => { results := [.lit (.bool true)], args := [d1, d2] }
  | _ => none }
def tieWinsRow : OpenClaim := { program := "yticlpjjkjpabmaa", sum := "4621d99bdaa0aebc3a0db5701864b6a2cff0e717db75d33523daec8d8b7d14ec", func := "selvage/selvagelaw11.TieWins", spec := "tieWins", unfollowed := true, recurses := true, plainKeys := false, apart := false }
def TieWinsSaid : Prop := tieWinsRow.holds Try.pinned (OpenSpec.ofChange tieWinsSpec)

/-- ITS FALSE NEIGHBOUR: 'it returns false'. Refute it at one input. -/
def tieWinsWrong : ChangeSpec := { name := "tieWins", fn := fun _ => fun
  | [d1, d2] => { results := [.lit (.bool false)], args := [d1, d2] }
  | _ => none }
def TieWinsWrongFalsely : Prop := tieWinsRow.holds Try.pinned (OpenSpec.ofChange tieWinsWrong)

/- THE SECOND FORM. 'bulk': how many values and letters a reading holds, each counted each time it is reached (what is shared counts as often as it is met; a slice's spare places count too). A statement '..UptoSaid' is the law's where the arguments, and the package variables that the reading takes, are together of bulk at most 1048576: NARROWER than '..Said'. Prove '..Said' where nothing that the law and all that it calls make is longer than what came in: it says more and counts as full. Else prove '..UptoSaid'. A law counts once. -/
mutual
def uptoBulk {H : Type} : DataW H → Nat
  | .lit (.string bytes) => bytes.length + 1
  | .lit _ => 1
  | .nil => 1
  | .ptr d => uptoBulk d + 1
  | .slice elems spare => uptoBulkAll elems + uptoBulkAll spare + 1
  | .agg parts => uptoBulkAll parts + 1
  | .iface _ d => uptoBulk d + 1
  | .map entries => uptoBulkEntries entries + 1
  | .held _ => 1
def uptoBulkAll {H : Type} : List (DataW H) → Nat
  | [] => 0
  | d :: r => uptoBulk d + uptoBulkAll r
def uptoBulkEntries {H : Type} : List (Lit × DataW H) → Nat
  | [] => 0
  | x :: r => uptoBulkEntry x + uptoBulkEntries r
def uptoBulkEntry {H : Type} : Lit × DataW H → Nat
  | (.string bytes, d) => bytes.length + uptoBulk d + 1
  | (_, d) => uptoBulk d + 1
 end
def uptoSmall : (H : Type) → List (DataW H) → Bool := fun _ ds => decide (uptoBulkAll ds ≤ 1048576)
def OpenSpec.upto (s : _root_.Go.ChangeSpec) : _root_.Go.OpenSpec := { _root_.Go.OpenSpec.ofChange s with cond := some uptoSmall }

/-- 'selvagelaw20.PeerAgain', WHERE WHAT IT READS IS OF BULK AT MOST 1048576: true; the input reads as it did. -/
def peerAgainUptoRow : OpenClaim := { program := "yticlpjjkjpabmaa", sum := "4621d99bdaa0aebc3a0db5701864b6a2cff0e717db75d33523daec8d8b7d14ec", func := "selvage/selvagelaw20.PeerAgain", spec := "peerAgain", unfollowed := true, recurses := true, plainKeys := false, apart := false, narrowed := true }
def PeerAgainUptoSaid : Prop := peerAgainUptoRow.holds Try.pinned (OpenSpec.upto peerAgainSpec)

/-- 'selvagelaw20.PeerAsks', WHERE WHAT IT READS IS OF BULK AT MOST 1048576: true; the input reads as it did. -/
def peerAsksUptoRow : OpenClaim := { program := "yticlpjjkjpabmaa", sum := "4621d99bdaa0aebc3a0db5701864b6a2cff0e717db75d33523daec8d8b7d14ec", func := "selvage/selvagelaw20.PeerAsks", spec := "peerAsks", unfollowed := true, recurses := true, plainKeys := false, apart := false, narrowed := true }
def PeerAsksUptoSaid : Prop := peerAsksUptoRow.holds Try.pinned (OpenSpec.upto peerAsksSpec)

/-- 'selvagelaw20.PeerApart', WHERE WHAT IT READS IS OF BULK AT MOST 1048576: true; the input reads as it did. -/
def peerApartUptoRow : OpenClaim := { program := "yticlpjjkjpabmaa", sum := "4621d99bdaa0aebc3a0db5701864b6a2cff0e717db75d33523daec8d8b7d14ec", func := "selvage/selvagelaw20.PeerApart", spec := "peerApart", unfollowed := true, recurses := true, plainKeys := false, apart := false, narrowed := true }
def PeerApartUptoSaid : Prop := peerApartUptoRow.holds Try.pinned (OpenSpec.upto peerApartSpec)

/-- 'selvagelaw20.PeerScripts', WHERE WHAT IT READS IS OF BULK AT MOST 1048576: true; the input reads as it did. -/
def peerScriptsUptoRow : OpenClaim := { program := "yticlpjjkjpabmaa", sum := "4621d99bdaa0aebc3a0db5701864b6a2cff0e717db75d33523daec8d8b7d14ec", func := "selvage/selvagelaw20.PeerScripts", spec := "peerScripts", unfollowed := true, recurses := true, plainKeys := false, apart := false, narrowed := true }
def PeerScriptsUptoSaid : Prop := peerScriptsUptoRow.holds Try.pinned (OpenSpec.upto peerScriptsSpec)

/-- 'selvagelaw20.PeerTells', WHERE WHAT IT READS IS OF BULK AT MOST 1048576: true; the input reads as it did. -/
def peerTellsUptoRow : OpenClaim := { program := "yticlpjjkjpabmaa", sum := "4621d99bdaa0aebc3a0db5701864b6a2cff0e717db75d33523daec8d8b7d14ec", func := "selvage/selvagelaw20.PeerTells", spec := "peerTells", unfollowed := true, recurses := true, plainKeys := false, apart := false, narrowed := true }
def PeerTellsUptoSaid : Prop := peerTellsUptoRow.holds Try.pinned (OpenSpec.upto peerTellsSpec)

/-- 'selvagelaw11.TieMerges', WHERE WHAT IT READS IS OF BULK AT MOST 1048576: true; the input reads as it did. -/
def tieMergesUptoRow : OpenClaim := { program := "yticlpjjkjpabmaa", sum := "4621d99bdaa0aebc3a0db5701864b6a2cff0e717db75d33523daec8d8b7d14ec", func := "selvage/selvagelaw11.TieMerges", spec := "tieMerges", unfollowed := true, recurses := true, plainKeys := false, apart := false, narrowed := true }
def TieMergesUptoSaid : Prop := tieMergesUptoRow.holds Try.pinned (OpenSpec.upto tieMergesSpec)

/-- 'selvagelaw11.TieAlone', WHERE WHAT IT READS IS OF BULK AT MOST 1048576: true; the input reads as it did. -/
def tieAloneUptoRow : OpenClaim := { program := "yticlpjjkjpabmaa", sum := "4621d99bdaa0aebc3a0db5701864b6a2cff0e717db75d33523daec8d8b7d14ec", func := "selvage/selvagelaw11.TieAlone", spec := "tieAlone", unfollowed := true, recurses := true, plainKeys := false, apart := false, narrowed := true }
def TieAloneUptoSaid : Prop := tieAloneUptoRow.holds Try.pinned (OpenSpec.upto tieAloneSpec)

/-- 'selvagelaw11.TieWins', WHERE WHAT IT READS IS OF BULK AT MOST 1048576: true; the input reads as it did. -/
def tieWinsUptoRow : OpenClaim := { program := "yticlpjjkjpabmaa", sum := "4621d99bdaa0aebc3a0db5701864b6a2cff0e717db75d33523daec8d8b7d14ec", func := "selvage/selvagelaw11.TieWins", spec := "tieWins", unfollowed := true, recurses := true, plainKeys := false, apart := false, narrowed := true }
def TieWinsUptoSaid : Prop := tieWinsUptoRow.holds Try.pinned (OpenSpec.upto tieWinsSpec)

end Rows
end Go.Proofs.Yticlpjjkjpabmaa
