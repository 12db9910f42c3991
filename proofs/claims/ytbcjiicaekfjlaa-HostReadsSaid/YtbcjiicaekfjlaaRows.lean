/-
  No cell of these rows narrows 'for every input' (looked for: loops, veiled, ifaces, maps, wideKeys, modest, calm, conditions, laid).
  DERIVED. THE GIVEN ROWS OF THIS SEAT. 11 by the template 'for every input the law returns true; each argument reads behind the call as it read before'; 0 by the template 'total and deterministic' (their statements: YtbcjiicaekfjlaaTotals.lean).
  GIVEN WITH THE SEED: the statements are not yours to turn. If you find one false, say at which input.
  Laid BY PROGRAM, IN A SANDBOX (cutbox-rows.mjs): the forced cells as the released guide's own fill.sh prints them over the translation af793e77fd037ff8… (all of the seat's roots in one cut). By AI agents, Wed Nov 11 2026. No macro, syntax, notation, axiom, sorry.
-/
import Derived.Test.YtbcjiicaekfjlaaChecked
import GoSem.Claim
import GoSem.ClaimJoined
import GoSem.ClaimMapViews
import Derived.JoinedTies
import Derived.KernelRfl
namespace Go.Proofs.Ytbcjiicaekfjlaa
/- THE CELL 'sum', in the pinned program and in every row, IS THE sha256 OF THE DUMP (.gsa) THAT YtbcjiicaekfjlaaProg.lean LOADS. Nothing in Lean hashes anything: it is a label: what it is worth is what the hold of that sum in a sandbox is worth. -/
noncomputable def Try.pinned : Pinned := { name := "ytbcjiicaekfjlaa", sum := "af793e77fd037ff8574ff987885efa94084c82f18a91f4ae97c23619f7abb8e6", checked := Try.checked }
namespace Rows
def none {H : Type} : Left H := { results := [], args := [] }

/-- 'sourdinelaw5.HostTells': WHATEVER THE INPUT: true; the input reads as it did. -/
def hostTellsSpec : ChangeSpec := { name := "hostTells", fn := fun _ => fun
  | [d] => { results := [.lit (.bool true)], args := [d] }
  | _ => none }
def hostTellsRow : OpenClaim := { program := "ytbcjiicaekfjlaa", sum := "af793e77fd037ff8574ff987885efa94084c82f18a91f4ae97c23619f7abb8e6", func := "sourdine/sourdinelaw5.HostTells", spec := "hostTells", apart := false }
def HostTellsSaid : Prop := hostTellsRow.holds Try.pinned (OpenSpec.ofChange hostTellsSpec)

/-- ITS FALSE NEIGHBOUR: 'it returns false'. Refute it at one input. -/
def hostTellsWrong : ChangeSpec := { name := "hostTells", fn := fun _ => fun
  | [d] => { results := [.lit (.bool false)], args := [d] }
  | _ => none }
def HostTellsWrongFalsely : Prop := hostTellsRow.holds Try.pinned (OpenSpec.ofChange hostTellsWrong)

/-- 'sourdinelaw5.HostWrites': WHATEVER THE INPUT: true; the input reads as it did. -/
def hostWritesSpec : ChangeSpec := { name := "hostWrites", fn := fun _ => fun
  | [d1, d2, d3, d4, d5, d6, d7] => { results := [.lit (.bool true)], args := [d1, d2, d3, d4, d5, d6, d7] }
  | _ => none }
def hostWritesRow : OpenClaim := { program := "ytbcjiicaekfjlaa", sum := "af793e77fd037ff8574ff987885efa94084c82f18a91f4ae97c23619f7abb8e6", func := "sourdine/sourdinelaw5.HostWrites", spec := "hostWrites", apart := false }
def HostWritesSaid : Prop := hostWritesRow.holds Try.pinned (OpenSpec.ofChange hostWritesSpec)

/-- ITS FALSE NEIGHBOUR: 'it returns false'. Refute it at one input. -/
def hostWritesWrong : ChangeSpec := { name := "hostWrites", fn := fun _ => fun
  | [d1, d2, d3, d4, d5, d6, d7] => { results := [.lit (.bool false)], args := [d1, d2, d3, d4, d5, d6, d7] }
  | _ => none }
def HostWritesWrongFalsely : Prop := hostWritesRow.holds Try.pinned (OpenSpec.ofChange hostWritesWrong)

/-- 'sourdinelaw5.HostReads': WHATEVER THE INPUT: true; the input reads as it did. -/
def hostReadsSpec : ChangeSpec := { name := "hostReads", fn := fun _ => fun
  | [d1, d2, d3, d4, d5, d6, d7, d8, d9] => { results := [.lit (.bool true)], args := [d1, d2, d3, d4, d5, d6, d7, d8, d9] }
  | _ => none }
def hostReadsRow : OpenClaim := { program := "ytbcjiicaekfjlaa", sum := "af793e77fd037ff8574ff987885efa94084c82f18a91f4ae97c23619f7abb8e6", func := "sourdine/sourdinelaw5.HostReads", spec := "hostReads", apart := false }
def HostReadsSaid : Prop := hostReadsRow.holds Try.pinned (OpenSpec.ofChange hostReadsSpec)

/-- ITS FALSE NEIGHBOUR: 'it returns false'. Refute it at one input. -/
def hostReadsWrong : ChangeSpec := { name := "hostReads", fn := fun _ => fun
  | [d1, d2, d3, d4, d5, d6, d7, d8, d9] => { results := [.lit (.bool false)], args := [d1, d2, d3, d4, d5, d6, d7, d8, d9] }
  | _ => none }
def HostReadsWrongFalsely : Prop := hostReadsRow.holds Try.pinned (OpenSpec.ofChange hostReadsWrong)

/-- 'sourdinelaw5.HostBytes': WHATEVER THE INPUT: true; the input reads as it did. -/
def hostBytesSpec : ChangeSpec := { name := "hostBytes", fn := fun _ => fun
  | [d1, d2, d3, d4, d5, d6, d7] => { results := [.lit (.bool true)], args := [d1, d2, d3, d4, d5, d6, d7] }
  | _ => none }
def hostBytesRow : OpenClaim := { program := "ytbcjiicaekfjlaa", sum := "af793e77fd037ff8574ff987885efa94084c82f18a91f4ae97c23619f7abb8e6", func := "sourdine/sourdinelaw5.HostBytes", spec := "hostBytes", apart := false }
def HostBytesSaid : Prop := hostBytesRow.holds Try.pinned (OpenSpec.ofChange hostBytesSpec)

/-- ITS FALSE NEIGHBOUR: 'it returns false'. Refute it at one input. -/
def hostBytesWrong : ChangeSpec := { name := "hostBytes", fn := fun _ => fun
  | [d1, d2, d3, d4, d5, d6, d7] => { results := [.lit (.bool false)], args := [d1, d2, d3, d4, d5, d6, d7] }
  | _ => none }
def HostBytesWrongFalsely : Prop := hostBytesRow.holds Try.pinned (OpenSpec.ofChange hostBytesWrong)

/-- 'sourdinelaw1.WordAdds': WHATEVER THE INPUT: true; the input reads as it did. -/
def wordAddsSpec : ChangeSpec := { name := "wordAdds", fn := fun _ => fun
  | [d1, d2, d3, d4, d5] => { results := [.lit (.bool true)], args := [d1, d2, d3, d4, d5] }
  | _ => none }
def wordAddsRow : OpenClaim := { program := "ytbcjiicaekfjlaa", sum := "af793e77fd037ff8574ff987885efa94084c82f18a91f4ae97c23619f7abb8e6", func := "sourdine/sourdinelaw1.WordAdds", spec := "wordAdds", apart := false }
def WordAddsSaid : Prop := wordAddsRow.holds Try.pinned (OpenSpec.ofChange wordAddsSpec)

/-- ITS FALSE NEIGHBOUR: 'it returns false'. Refute it at one input. -/
def wordAddsWrong : ChangeSpec := { name := "wordAdds", fn := fun _ => fun
  | [d1, d2, d3, d4, d5] => { results := [.lit (.bool false)], args := [d1, d2, d3, d4, d5] }
  | _ => none }
def WordAddsWrongFalsely : Prop := wordAddsRow.holds Try.pinned (OpenSpec.ofChange wordAddsWrong)

/-- 'sourdinelaw1.WordExpands': WHATEVER THE INPUT: true; the input reads as it did. -/
def wordExpandsSpec : ChangeSpec := { name := "wordExpands", fn := fun _ => fun
  | [d1, d2, d3, d4, d5] => { results := [.lit (.bool true)], args := [d1, d2, d3, d4, d5] }
  | _ => none }
def wordExpandsRow : OpenClaim := { program := "ytbcjiicaekfjlaa", sum := "af793e77fd037ff8574ff987885efa94084c82f18a91f4ae97c23619f7abb8e6", func := "sourdine/sourdinelaw1.WordExpands", spec := "wordExpands", apart := false }
def WordExpandsSaid : Prop := wordExpandsRow.holds Try.pinned (OpenSpec.ofChange wordExpandsSpec)

/-- ITS FALSE NEIGHBOUR: 'it returns false'. Refute it at one input. -/
def wordExpandsWrong : ChangeSpec := { name := "wordExpands", fn := fun _ => fun
  | [d1, d2, d3, d4, d5] => { results := [.lit (.bool false)], args := [d1, d2, d3, d4, d5] }
  | _ => none }
def WordExpandsWrongFalsely : Prop := wordExpandsRow.holds Try.pinned (OpenSpec.ofChange wordExpandsWrong)

/-- 'sourdinelaw1.WordTurns': WHATEVER THE INPUT: true; the input reads as it did. -/
def wordTurnsSpec : ChangeSpec := { name := "wordTurns", fn := fun _ => fun
  | [d1, d2, d3] => { results := [.lit (.bool true)], args := [d1, d2, d3] }
  | _ => none }
def wordTurnsRow : OpenClaim := { program := "ytbcjiicaekfjlaa", sum := "af793e77fd037ff8574ff987885efa94084c82f18a91f4ae97c23619f7abb8e6", func := "sourdine/sourdinelaw1.WordTurns", spec := "wordTurns", apart := false }
def WordTurnsSaid : Prop := wordTurnsRow.holds Try.pinned (OpenSpec.ofChange wordTurnsSpec)

/-- ITS FALSE NEIGHBOUR: 'it returns false'. Refute it at one input. -/
def wordTurnsWrong : ChangeSpec := { name := "wordTurns", fn := fun _ => fun
  | [d1, d2, d3] => { results := [.lit (.bool false)], args := [d1, d2, d3] }
  | _ => none }
def WordTurnsWrongFalsely : Prop := wordTurnsRow.holds Try.pinned (OpenSpec.ofChange wordTurnsWrong)

/-- 'sourdinelaw1.WordTimes': WHATEVER THE INPUT: true; the input reads as it did. -/
def wordTimesSpec : ChangeSpec := { name := "wordTimes", fn := fun _ => fun
  | [d1, d2, d3] => { results := [.lit (.bool true)], args := [d1, d2, d3] }
  | _ => none }
def wordTimesRow : OpenClaim := { program := "ytbcjiicaekfjlaa", sum := "af793e77fd037ff8574ff987885efa94084c82f18a91f4ae97c23619f7abb8e6", func := "sourdine/sourdinelaw1.WordTimes", spec := "wordTimes", apart := false }
def WordTimesSaid : Prop := wordTimesRow.holds Try.pinned (OpenSpec.ofChange wordTimesSpec)

/-- ITS FALSE NEIGHBOUR: 'it returns false'. Refute it at one input. -/
def wordTimesWrong : ChangeSpec := { name := "wordTimes", fn := fun _ => fun
  | [d1, d2, d3] => { results := [.lit (.bool false)], args := [d1, d2, d3] }
  | _ => none }
def WordTimesWrongFalsely : Prop := wordTimesRow.holds Try.pinned (OpenSpec.ofChange wordTimesWrong)

/-- 'sourdinelaw1.WordBack': WHATEVER THE INPUT: true; the input reads as it did. -/
def wordBackSpec : ChangeSpec := { name := "wordBack", fn := fun _ => fun
  | [d1, d2, d3] => { results := [.lit (.bool true)], args := [d1, d2, d3] }
  | _ => none }
def wordBackRow : OpenClaim := { program := "ytbcjiicaekfjlaa", sum := "af793e77fd037ff8574ff987885efa94084c82f18a91f4ae97c23619f7abb8e6", func := "sourdine/sourdinelaw1.WordBack", spec := "wordBack", apart := false }
def WordBackSaid : Prop := wordBackRow.holds Try.pinned (OpenSpec.ofChange wordBackSpec)

/-- ITS FALSE NEIGHBOUR: 'it returns false'. Refute it at one input. -/
def wordBackWrong : ChangeSpec := { name := "wordBack", fn := fun _ => fun
  | [d1, d2, d3] => { results := [.lit (.bool false)], args := [d1, d2, d3] }
  | _ => none }
def WordBackWrongFalsely : Prop := wordBackRow.holds Try.pinned (OpenSpec.ofChange wordBackWrong)

/-- 'sourdinelaw1.WordShifts': WHATEVER THE INPUT: true; the input reads as it did. -/
def wordShiftsSpec : ChangeSpec := { name := "wordShifts", fn := fun _ => fun
  | [d1, d2, d3, d4, d5] => { results := [.lit (.bool true)], args := [d1, d2, d3, d4, d5] }
  | _ => none }
def wordShiftsRow : OpenClaim := { program := "ytbcjiicaekfjlaa", sum := "af793e77fd037ff8574ff987885efa94084c82f18a91f4ae97c23619f7abb8e6", func := "sourdine/sourdinelaw1.WordShifts", spec := "wordShifts", apart := false }
def WordShiftsSaid : Prop := wordShiftsRow.holds Try.pinned (OpenSpec.ofChange wordShiftsSpec)

/-- ITS FALSE NEIGHBOUR: 'it returns false'. Refute it at one input. -/
def wordShiftsWrong : ChangeSpec := { name := "wordShifts", fn := fun _ => fun
  | [d1, d2, d3, d4, d5] => { results := [.lit (.bool false)], args := [d1, d2, d3, d4, d5] }
  | _ => none }
def WordShiftsWrongFalsely : Prop := wordShiftsRow.holds Try.pinned (OpenSpec.ofChange wordShiftsWrong)

/-- 'sourdinelaw1.WordSigns': WHATEVER THE INPUT: true; the input reads as it did. -/
def wordSignsSpec : ChangeSpec := { name := "wordSigns", fn := fun _ => fun
  | [d1, d2] => { results := [.lit (.bool true)], args := [d1, d2] }
  | _ => none }
def wordSignsRow : OpenClaim := { program := "ytbcjiicaekfjlaa", sum := "af793e77fd037ff8574ff987885efa94084c82f18a91f4ae97c23619f7abb8e6", func := "sourdine/sourdinelaw1.WordSigns", spec := "wordSigns", apart := false }
def WordSignsSaid : Prop := wordSignsRow.holds Try.pinned (OpenSpec.ofChange wordSignsSpec)

/-- ITS FALSE NEIGHBOUR: 'it returns false'. Refute it at one input. -/
def wordSignsWrong : ChangeSpec := { name := "wordSigns", fn := fun _ => fun
  | [d1, d2] => { results := [.lit (.bool false)], args := [d1, d2] }
  | _ => none }
def WordSignsWrongFalsely : Prop := wordSignsRow.holds Try.pinned (OpenSpec.ofChange wordSignsWrong)

/- THE SECOND FORM. 'bulk': how many values and letters a reading holds, each counted each time it is reached (what is shared counts as often as it is met; a slice's spare places count too). A statement '..UptoSaid' is the law's where the arguments, and the package variables that the reading takes, are together of bulk at most 1048576: NARROWER than '..Said'. Prove '..Said' where nothing that the law and all that it calls make is longer than what came in: it says more and counts as full. Else prove '..UptoSaid'. A law counts once. -/
mutual
def uptoBulk {H : Type} : DataW H → Nat
  | .lit (.string bytes) => bytes.length + 1
  | .lit _ => 1
  | .nil => 1
  | .ptr d => uptoBulk d + 1
  | .slice elems spare => uptoBulkAll elems + uptoBulkAll spare + 1
  | .agg parts => uptoBulkAll parts + 1
  | .iface _ d => uptoBulk d + 1
  | .map entries => uptoBulkEntries entries + 1
  | .held _ => 1
def uptoBulkAll {H : Type} : List (DataW H) → Nat
  | [] => 0
  | d :: r => uptoBulk d + uptoBulkAll r
def uptoBulkEntries {H : Type} : List (Lit × DataW H) → Nat
  | [] => 0
  | x :: r => uptoBulkEntry x + uptoBulkEntries r
def uptoBulkEntry {H : Type} : Lit × DataW H → Nat
  | (.string bytes, d) => bytes.length + uptoBulk d + 1
  | (_, d) => uptoBulk d + 1
 end
def uptoSmall : (H : Type) → List (DataW H) → Bool := fun _ ds => decide (uptoBulkAll ds ≤ 1048576)
def OpenSpec.upto (s : _root_.Go.ChangeSpec) : _root_.Go.OpenSpec := { _root_.Go.OpenSpec.ofChange s with cond := some uptoSmall }

/-- 'sourdinelaw5.HostTells', WHERE WHAT IT READS IS OF BULK AT MOST 1048576: true; the input reads as it did. -/
def hostTellsUptoRow : OpenClaim := { program := "ytbcjiicaekfjlaa", sum := "af793e77fd037ff8574ff987885efa94084c82f18a91f4ae97c23619f7abb8e6", func := "sourdine/sourdinelaw5.HostTells", spec := "hostTells", apart := false, narrowed := true }
def HostTellsUptoSaid : Prop := hostTellsUptoRow.holds Try.pinned (OpenSpec.upto hostTellsSpec)

/-- 'sourdinelaw5.HostWrites', WHERE WHAT IT READS IS OF BULK AT MOST 1048576: true; the input reads as it did. -/
def hostWritesUptoRow : OpenClaim := { program := "ytbcjiicaekfjlaa", sum := "af793e77fd037ff8574ff987885efa94084c82f18a91f4ae97c23619f7abb8e6", func := "sourdine/sourdinelaw5.HostWrites", spec := "hostWrites", apart := false, narrowed := true }
def HostWritesUptoSaid : Prop := hostWritesUptoRow.holds Try.pinned (OpenSpec.upto hostWritesSpec)

/-- 'sourdinelaw5.HostReads', WHERE WHAT IT READS IS OF BULK AT MOST 1048576: true; the input reads as it did. -/
def hostReadsUptoRow : OpenClaim := { program := "ytbcjiicaekfjlaa", sum := "af793e77fd037ff8574ff987885efa94084c82f18a91f4ae97c23619f7abb8e6", func := "sourdine/sourdinelaw5.HostReads", spec := "hostReads", apart := false, narrowed := true }
def HostReadsUptoSaid : Prop := hostReadsUptoRow.holds Try.pinned (OpenSpec.upto hostReadsSpec)

/-- 'sourdinelaw5.HostBytes', WHERE WHAT IT READS IS OF BULK AT MOST 1048576: true; the input reads as it did. -/
def hostBytesUptoRow : OpenClaim := { program := "ytbcjiicaekfjlaa", sum := "af793e77fd037ff8574ff987885efa94084c82f18a91f4ae97c23619f7abb8e6", func := "sourdine/sourdinelaw5.HostBytes", spec := "hostBytes", apart := false, narrowed := true }
def HostBytesUptoSaid : Prop := hostBytesUptoRow.holds Try.pinned (OpenSpec.upto hostBytesSpec)

/-- 'sourdinelaw1.WordAdds', WHERE WHAT IT READS IS OF BULK AT MOST 1048576: true; the input reads as it did. -/
def wordAddsUptoRow : OpenClaim := { program := "ytbcjiicaekfjlaa", sum := "af793e77fd037ff8574ff987885efa94084c82f18a91f4ae97c23619f7abb8e6", func := "sourdine/sourdinelaw1.WordAdds", spec := "wordAdds", apart := false, narrowed := true }
def WordAddsUptoSaid : Prop := wordAddsUptoRow.holds Try.pinned (OpenSpec.upto wordAddsSpec)

/-- 'sourdinelaw1.WordExpands', WHERE WHAT IT READS IS OF BULK AT MOST 1048576: true; the input reads as it did. -/
def wordExpandsUptoRow : OpenClaim := { program := "ytbcjiicaekfjlaa", sum := "af793e77fd037ff8574ff987885efa94084c82f18a91f4ae97c23619f7abb8e6", func := "sourdine/sourdinelaw1.WordExpands", spec := "wordExpands", apart := false, narrowed := true }
def WordExpandsUptoSaid : Prop := wordExpandsUptoRow.holds Try.pinned (OpenSpec.upto wordExpandsSpec)

/-- 'sourdinelaw1.WordTurns', WHERE WHAT IT READS IS OF BULK AT MOST 1048576: true; the input reads as it did. -/
def wordTurnsUptoRow : OpenClaim := { program := "ytbcjiicaekfjlaa", sum := "af793e77fd037ff8574ff987885efa94084c82f18a91f4ae97c23619f7abb8e6", func := "sourdine/sourdinelaw1.WordTurns", spec := "wordTurns", apart := false, narrowed := true }
def WordTurnsUptoSaid : Prop := wordTurnsUptoRow.holds Try.pinned (OpenSpec.upto wordTurnsSpec)

/-- 'sourdinelaw1.WordTimes', WHERE WHAT IT READS IS OF BULK AT MOST 1048576: true; the input reads as it did. -/
def wordTimesUptoRow : OpenClaim := { program := "ytbcjiicaekfjlaa", sum := "af793e77fd037ff8574ff987885efa94084c82f18a91f4ae97c23619f7abb8e6", func := "sourdine/sourdinelaw1.WordTimes", spec := "wordTimes", apart := false, narrowed := true }
def WordTimesUptoSaid : Prop := wordTimesUptoRow.holds Try.pinned (OpenSpec.upto wordTimesSpec)

/-- 'sourdinelaw1.WordBack', WHERE WHAT IT READS IS OF BULK AT MOST 1048576: true; the input reads as it did. -/
def wordBackUptoRow : OpenClaim := { program := "ytbcjiicaekfjlaa", sum := "af793e77fd037ff8574ff987885efa94084c82f18a91f4ae97c23619f7abb8e6", func := "sourdine/sourdinelaw1.WordBack", spec := "wordBack", apart := false, narrowed := true }
def WordBackUptoSaid : Prop := wordBackUptoRow.holds Try.pinned (OpenSpec.upto wordBackSpec)

/-- 'sourdinelaw1.WordShifts', WHERE WHAT IT READS IS OF BULK AT MOST 1048576: true; the input reads as it did. -/
def wordShiftsUptoRow : OpenClaim := { program := "ytbcjiicaekfjlaa", sum := "af793e77fd037ff8574ff987885efa94084c82f18a91f4ae97c23619f7abb8e6", func := "sourdine/sourdinelaw1.WordShifts", spec := "wordShifts", apart := false, narrowed := true }
def WordShiftsUptoSaid : Prop := wordShiftsUptoRow.holds Try.pinned (OpenSpec.upto wordShiftsSpec)

/-- 'sourdinelaw1.WordSigns', WHERE WHAT IT READS IS OF BULK AT MOST 1048576: true; the input reads as it did. -/
def wordSignsUptoRow : OpenClaim := { program := "ytbcjiicaekfjlaa", sum := "af793e77fd037ff8574ff987885efa94084c82f18a91f4ae97c23619f7abb8e6", func := "sourdine/sourdinelaw1.WordSigns", spec := "wordSigns", apart := false, narrowed := true }
def WordSignsUptoSaid : Prop := wordSignsUptoRow.holds Try.pinned (OpenSpec.upto wordSignsSpec)

end Rows
end Go.Proofs.Ytbcjiicaekfjlaa
