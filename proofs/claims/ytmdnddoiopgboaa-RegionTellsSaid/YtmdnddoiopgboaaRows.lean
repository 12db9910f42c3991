/-
  No cell of these rows narrows 'for every input' (looked for: loops, veiled, ifaces, maps, wideKeys, modest, calm, conditions, laid).
  DERIVED. THE GIVEN ROWS OF THIS SEAT. 7 by the template 'for every input the law returns true; each argument reads behind the call as it read before'; 0 by the template 'total and deterministic' (their statements: YtmdnddoiopgboaaTotals.lean).
  GIVEN WITH THE SEED: the statements are not yours to turn. If you find one false, say at which input.
  Laid BY PROGRAM, IN A SANDBOX (cutbox-rows.mjs): the forced cells as the released guide's own fill.sh prints them over the translation 17d10b7e7c8009d1… (all of the seat's roots in one cut). By AI agents, Wed Nov 11 2026. No macro, syntax, notation, axiom, sorry.
-/
import Derived.Test.YtmdnddoiopgboaaChecked
import GoSem.Claim
import GoSem.ClaimJoined
import GoSem.ClaimMapViews
import Derived.JoinedTies
import Derived.KernelRfl
namespace Go.Proofs.Ytmdnddoiopgboaa
/- THE CELL 'sum', in the pinned program and in every row, IS THE sha256 OF THE DUMP (.gsa) THAT YtmdnddoiopgboaaProg.lean LOADS. Nothing in Lean hashes anything: it is a label: what it is worth is what the hold of that sum in a sandbox is worth. -/
noncomputable def Try.pinned : Pinned := { name := "ytmdnddoiopgboaa", sum := "17d10b7e7c8009d11f9bf72242e20d47d226a86d0e412d64473f6c5f98a21d2a", checked := Try.checked }
namespace Rows
def none {H : Type} : Left H := { results := [], args := [] }

/-- 'sourdinelaw12.StateTells': WHATEVER THE INPUT: true; the input reads as it did. -/
def stateTellsSpec : ChangeSpec := { name := "stateTells", fn := fun _ => fun
  | [d1, d2, d3, d4, d5, d6, d7, d8] => { results := [.lit (.bool true)], args := [d1, d2, d3, d4, d5, d6, d7, d8] }
  | _ => none }
def stateTellsRow : OpenClaim := { program := "ytmdnddoiopgboaa", sum := "17d10b7e7c8009d11f9bf72242e20d47d226a86d0e412d64473f6c5f98a21d2a", func := "sourdine/sourdinelaw12.StateTells", spec := "stateTells", apart := false }
def StateTellsSaid : Prop := stateTellsRow.holds Try.pinned (OpenSpec.ofChange stateTellsSpec)

/-- ITS FALSE NEIGHBOUR: 'it returns false'. Refute it at one input. -/
def stateTellsWrong : ChangeSpec := { name := "stateTells", fn := fun _ => fun
  | [d1, d2, d3, d4, d5, d6, d7, d8] => { results := [.lit (.bool false)], args := [d1, d2, d3, d4, d5, d6, d7, d8] }
  | _ => none }
def StateTellsWrongFalsely : Prop := stateTellsRow.holds Try.pinned (OpenSpec.ofChange stateTellsWrong)

/-- 'sourdinelaw12.StateBytes': WHATEVER THE INPUT: true; the input reads as it did. -/
def stateBytesSpec : ChangeSpec := { name := "stateBytes", fn := fun _ => fun
  | [d1, d2, d3, d4] => { results := [.lit (.bool true)], args := [d1, d2, d3, d4] }
  | _ => none }
def stateBytesRow : OpenClaim := { program := "ytmdnddoiopgboaa", sum := "17d10b7e7c8009d11f9bf72242e20d47d226a86d0e412d64473f6c5f98a21d2a", func := "sourdine/sourdinelaw12.StateBytes", spec := "stateBytes", apart := false }
def StateBytesSaid : Prop := stateBytesRow.holds Try.pinned (OpenSpec.ofChange stateBytesSpec)

/-- ITS FALSE NEIGHBOUR: 'it returns false'. Refute it at one input. -/
def stateBytesWrong : ChangeSpec := { name := "stateBytes", fn := fun _ => fun
  | [d1, d2, d3, d4] => { results := [.lit (.bool false)], args := [d1, d2, d3, d4] }
  | _ => none }
def StateBytesWrongFalsely : Prop := stateBytesRow.holds Try.pinned (OpenSpec.ofChange stateBytesWrong)

/-- 'sourdinelaw12.StateHost': WHATEVER THE INPUT: true; the input reads as it did. -/
def stateHostSpec : ChangeSpec := { name := "stateHost", fn := fun _ => fun
  | [d1, d2, d3, d4] => { results := [.lit (.bool true)], args := [d1, d2, d3, d4] }
  | _ => none }
def stateHostRow : OpenClaim := { program := "ytmdnddoiopgboaa", sum := "17d10b7e7c8009d11f9bf72242e20d47d226a86d0e412d64473f6c5f98a21d2a", func := "sourdine/sourdinelaw12.StateHost", spec := "stateHost", apart := false }
def StateHostSaid : Prop := stateHostRow.holds Try.pinned (OpenSpec.ofChange stateHostSpec)

/-- ITS FALSE NEIGHBOUR: 'it returns false'. Refute it at one input. -/
def stateHostWrong : ChangeSpec := { name := "stateHost", fn := fun _ => fun
  | [d1, d2, d3, d4] => { results := [.lit (.bool false)], args := [d1, d2, d3, d4] }
  | _ => none }
def StateHostWrongFalsely : Prop := stateHostRow.holds Try.pinned (OpenSpec.ofChange stateHostWrong)

/-- 'sourdinelaw3.RegionTells': WHATEVER THE INPUT: true; the input reads as it did. -/
def regionTellsSpec : ChangeSpec := { name := "regionTells", fn := fun _ => fun
  | [d1, d2, d3, d4, d5, d6, d7] => { results := [.lit (.bool true)], args := [d1, d2, d3, d4, d5, d6, d7] }
  | _ => none }
def regionTellsRow : OpenClaim := { program := "ytmdnddoiopgboaa", sum := "17d10b7e7c8009d11f9bf72242e20d47d226a86d0e412d64473f6c5f98a21d2a", func := "sourdine/sourdinelaw3.RegionTells", spec := "regionTells", apart := false }
def RegionTellsSaid : Prop := regionTellsRow.holds Try.pinned (OpenSpec.ofChange regionTellsSpec)

/-- ITS FALSE NEIGHBOUR: 'it returns false'. Refute it at one input. -/
def regionTellsWrong : ChangeSpec := { name := "regionTells", fn := fun _ => fun
  | [d1, d2, d3, d4, d5, d6, d7] => { results := [.lit (.bool false)], args := [d1, d2, d3, d4, d5, d6, d7] }
  | _ => none }
def RegionTellsWrongFalsely : Prop := regionTellsRow.holds Try.pinned (OpenSpec.ofChange regionTellsWrong)

/-- 'sourdinelaw3.RegionLimits': WHATEVER THE INPUT: true; the input reads as it did. -/
def regionLimitsSpec : ChangeSpec := { name := "regionLimits", fn := fun _ => fun
  | [d1, d2, d3] => { results := [.lit (.bool true)], args := [d1, d2, d3] }
  | _ => none }
def regionLimitsRow : OpenClaim := { program := "ytmdnddoiopgboaa", sum := "17d10b7e7c8009d11f9bf72242e20d47d226a86d0e412d64473f6c5f98a21d2a", func := "sourdine/sourdinelaw3.RegionLimits", spec := "regionLimits", apart := false }
def RegionLimitsSaid : Prop := regionLimitsRow.holds Try.pinned (OpenSpec.ofChange regionLimitsSpec)

/-- ITS FALSE NEIGHBOUR: 'it returns false'. Refute it at one input. -/
def regionLimitsWrong : ChangeSpec := { name := "regionLimits", fn := fun _ => fun
  | [d1, d2, d3] => { results := [.lit (.bool false)], args := [d1, d2, d3] }
  | _ => none }
def RegionLimitsWrongFalsely : Prop := regionLimitsRow.holds Try.pinned (OpenSpec.ofChange regionLimitsWrong)

/-- 'sourdinelaw3.RegionOne': WHATEVER THE INPUT: true; the input reads as it did. -/
def regionOneSpec : ChangeSpec := { name := "regionOne", fn := fun _ => fun
  | [d1, d2, d3] => { results := [.lit (.bool true)], args := [d1, d2, d3] }
  | _ => none }
def regionOneRow : OpenClaim := { program := "ytmdnddoiopgboaa", sum := "17d10b7e7c8009d11f9bf72242e20d47d226a86d0e412d64473f6c5f98a21d2a", func := "sourdine/sourdinelaw3.RegionOne", spec := "regionOne", apart := false }
def RegionOneSaid : Prop := regionOneRow.holds Try.pinned (OpenSpec.ofChange regionOneSpec)

/-- ITS FALSE NEIGHBOUR: 'it returns false'. Refute it at one input. -/
def regionOneWrong : ChangeSpec := { name := "regionOne", fn := fun _ => fun
  | [d1, d2, d3] => { results := [.lit (.bool false)], args := [d1, d2, d3] }
  | _ => none }
def RegionOneWrongFalsely : Prop := regionOneRow.holds Try.pinned (OpenSpec.ofChange regionOneWrong)

/-- 'sourdinelaw3.RegionMay': WHATEVER THE INPUT: true; the input reads as it did. -/
def regionMaySpec : ChangeSpec := { name := "regionMay", fn := fun _ => fun
  | [d1, d2, d3] => { results := [.lit (.bool true)], args := [d1, d2, d3] }
  | _ => none }
def regionMayRow : OpenClaim := { program := "ytmdnddoiopgboaa", sum := "17d10b7e7c8009d11f9bf72242e20d47d226a86d0e412d64473f6c5f98a21d2a", func := "sourdine/sourdinelaw3.RegionMay", spec := "regionMay", apart := false }
def RegionMaySaid : Prop := regionMayRow.holds Try.pinned (OpenSpec.ofChange regionMaySpec)

/-- ITS FALSE NEIGHBOUR: 'it returns false'. Refute it at one input. -/
def regionMayWrong : ChangeSpec := { name := "regionMay", fn := fun _ => fun
  | [d1, d2, d3] => { results := [.lit (.bool false)], args := [d1, d2, d3] }
  | _ => none }
def RegionMayWrongFalsely : Prop := regionMayRow.holds Try.pinned (OpenSpec.ofChange regionMayWrong)

/- THE SECOND FORM. 'bulk': how many values and letters a reading holds, each counted each time it is reached (what is shared counts as often as it is met; a slice's spare places count too). A statement '..UptoSaid' is the law's where the arguments, and the package variables that the reading takes, are together of bulk at most 1048576: NARROWER than '..Said'. Prove '..Said' where nothing that the law and all that it calls make is longer than what came in: it says more and counts as full. Else prove '..UptoSaid'. A law counts once. -/
mutual
def uptoBulk {H : Type} : DataW H → Nat
  | .lit (.string bytes) => bytes.length + 1
  | .lit _ => 1
  | .nil => 1
  | .ptr d => uptoBulk d + 1
  | .slice elems spare => uptoBulkAll elems + uptoBulkAll spare + 1
  | .agg parts => uptoBulkAll parts + 1
  | .iface _ d => uptoBulk d + 1
  | .map entries => uptoBulkEntries entries + 1
  | .held _ => 1
def uptoBulkAll {H : Type} : List (DataW H) → Nat
  | [] => 0
  | d :: r => uptoBulk d + uptoBulkAll r
def uptoBulkEntries {H : Type} : List (Lit × DataW H) → Nat
  | [] => 0
  | x :: r => uptoBulkEntry x + uptoBulkEntries r
def uptoBulkEntry {H : Type} : Lit × DataW H → Nat
  | (.string bytes, d) => bytes.length + uptoBulk d + 1
  | (_, d) => uptoBulk d + 1
 end
def uptoSmall : (H : Type) → List (DataW H) → Bool := fun _ ds => decide (uptoBulkAll ds ≤ 1048576)
def OpenSpec.upto (s : _root_.Go.ChangeSpec) : _root_.Go.OpenSpec := { _root_.Go.OpenSpec.ofChange s with cond := some uptoSmall }

/-- 'sourdinelaw12.StateTells', WHERE WHAT IT READS IS OF BULK AT MOST 1048576: true; the input reads as it did. -/
def stateTellsUptoRow : OpenClaim := { program := "ytmdnddoiopgboaa", sum := "17d10b7e7c8009d11f9bf72242e20d47d226a86d0e412d64473f6c5f98a21d2a", func := "sourdine/sourdinelaw12.StateTells", spec := "stateTells", apart := false, narrowed := true }
def StateTellsUptoSaid : Prop := stateTellsUptoRow.holds Try.pinned (OpenSpec.upto stateTellsSpec)

/-- 'sourdinelaw12.StateBytes', WHERE WHAT IT READS IS OF BULK AT MOST 1048576: true; the input reads as it did. -/
def stateBytesUptoRow : OpenClaim := { program := "ytmdnddoiopgboaa", sum := "17d10b7e7c8009d11f9bf72242e20d47d226a86d0e412d64473f6c5f98a21d2a", func := "sourdine/sourdinelaw12.StateBytes", spec := "stateBytes", apart := false, narrowed := true }
def StateBytesUptoSaid : Prop := stateBytesUptoRow.holds Try.pinned (OpenSpec.upto stateBytesSpec)

/-- 'sourdinelaw12.StateHost', WHERE WHAT IT READS IS OF BULK AT MOST 1048576: true; the input reads as it did. -/
def stateHostUptoRow : OpenClaim := { program := "ytmdnddoiopgboaa", sum := "17d10b7e7c8009d11f9bf72242e20d47d226a86d0e412d64473f6c5f98a21d2a", func := "sourdine/sourdinelaw12.StateHost", spec := "stateHost", apart := false, narrowed := true }
def StateHostUptoSaid : Prop := stateHostUptoRow.holds Try.pinned (OpenSpec.upto stateHostSpec)

/-- 'sourdinelaw3.RegionTells', WHERE WHAT IT READS IS OF BULK AT MOST 1048576: true; the input reads as it did. -/
def regionTellsUptoRow : OpenClaim := { program := "ytmdnddoiopgboaa", sum := "17d10b7e7c8009d11f9bf72242e20d47d226a86d0e412d64473f6c5f98a21d2a", func := "sourdine/sourdinelaw3.RegionTells", spec := "regionTells", apart := false, narrowed := true }
def RegionTellsUptoSaid : Prop := regionTellsUptoRow.holds Try.pinned (OpenSpec.upto regionTellsSpec)

/-- 'sourdinelaw3.RegionLimits', WHERE WHAT IT READS IS OF BULK AT MOST 1048576: true; the input reads as it did. -/
def regionLimitsUptoRow : OpenClaim := { program := "ytmdnddoiopgboaa", sum := "17d10b7e7c8009d11f9bf72242e20d47d226a86d0e412d64473f6c5f98a21d2a", func := "sourdine/sourdinelaw3.RegionLimits", spec := "regionLimits", apart := false, narrowed := true }
def RegionLimitsUptoSaid : Prop := regionLimitsUptoRow.holds Try.pinned (OpenSpec.upto regionLimitsSpec)

/-- 'sourdinelaw3.RegionOne', WHERE WHAT IT READS IS OF BULK AT MOST 1048576: true; the input reads as it did. -/
def regionOneUptoRow : OpenClaim := { program := "ytmdnddoiopgboaa", sum := "17d10b7e7c8009d11f9bf72242e20d47d226a86d0e412d64473f6c5f98a21d2a", func := "sourdine/sourdinelaw3.RegionOne", spec := "regionOne", apart := false, narrowed := true }
def RegionOneUptoSaid : Prop := regionOneUptoRow.holds Try.pinned (OpenSpec.upto regionOneSpec)

/-- 'sourdinelaw3.RegionMay', WHERE WHAT IT READS IS OF BULK AT MOST 1048576: true; the input reads as it did. -/
def regionMayUptoRow : OpenClaim := { program := "ytmdnddoiopgboaa", sum := "17d10b7e7c8009d11f9bf72242e20d47d226a86d0e412d64473f6c5f98a21d2a", func := "sourdine/sourdinelaw3.RegionMay", spec := "regionMay", apart := false, narrowed := true }
def RegionMayUptoSaid : Prop := regionMayUptoRow.holds Try.pinned (OpenSpec.upto regionMaySpec)

end Rows
end Go.Proofs.Ytmdnddoiopgboaa
