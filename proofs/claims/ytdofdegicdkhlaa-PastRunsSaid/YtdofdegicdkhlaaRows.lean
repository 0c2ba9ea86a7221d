/-
  No cell of these rows narrows 'for every input' (looked for: loops, veiled, ifaces, maps, wideKeys, modest, calm, conditions, laid).
  DERIVED. THE GIVEN ROWS OF THIS SEAT. 12 by the template 'for every input the law returns true; each argument reads behind the call as it read before'; 0 by the template 'total and deterministic' (their statements: YtdofdegicdkhlaaTotals.lean).
  GIVEN WITH THE SEED: the statements are not yours to turn. If you find one false, say at which input.
  Laid BY PROGRAM, IN A SANDBOX (cutbox-rows.mjs): the forced cells as the released guide's own fill.sh prints them over the translation 1227b0f6d30e9b1c… (all of the seat's roots in one cut). By AI agents, Wed Nov 11 2026. No macro, syntax, notation, axiom, sorry.
-/
import Derived.Test.YtdofdegicdkhlaaChecked
import GoSem.Claim
import GoSem.ClaimJoined
import GoSem.ClaimMapViews
import Derived.JoinedTies
import Derived.KernelRfl
namespace Go.Proofs.Ytdofdegicdkhlaa
/- THE CELL 'sum', in the pinned program and in every row, IS THE sha256 OF THE DUMP (.gsa) THAT YtdofdegicdkhlaaProg.lean LOADS. Nothing in Lean hashes anything: it is a label: what it is worth is what the hold of that sum in a sandbox is worth. -/
noncomputable def Try.pinned : Pinned := { name := "ytdofdegicdkhlaa", sum := "1227b0f6d30e9b1cb2d63447be593ba21ca3da90e5be57c0ef81f384043e5cc8", checked := Try.checked }
namespace Rows
def none {H : Type} : Left H := { results := [], args := [] }

/-- 'octavolaw02.CrcSums': WHATEVER THE INPUT: true; the input reads as it did. -/
def crcSumsSpec : ChangeSpec := { name := "crcSums", fn := fun _ => fun
  | [d] => { results := [.lit (.bool true)], args := [d] }
  | _ => none }
def crcSumsRow : OpenClaim := { program := "ytdofdegicdkhlaa", sum := "1227b0f6d30e9b1cb2d63447be593ba21ca3da90e5be57c0ef81f384043e5cc8", func := "octavo/octavolaw02.CrcSums", spec := "crcSums", apart := false }
def CrcSumsSaid : Prop := crcSumsRow.holds Try.pinned (OpenSpec.ofChange crcSumsSpec)

/-- ITS FALSE NEIGHBOUR: 'it returns false'. Refute it at one input. -/
def crcSumsWrong : ChangeSpec := { name := "crcSums", fn := fun _ => fun
  | [d] => { results := [.lit (.bool false)], args := [d] }
  | _ => none }
def CrcSumsWrongFalsely : Prop := crcSumsRow.holds Try.pinned (OpenSpec.ofChange crcSumsWrong)

/-- 'octavolaw02.CrcMoves': WHATEVER THE INPUT: true; the input reads as it did. -/
def crcMovesSpec : ChangeSpec := { name := "crcMoves", fn := fun _ => fun
  | [d1, d2, d3] => { results := [.lit (.bool true)], args := [d1, d2, d3] }
  | _ => none }
def crcMovesRow : OpenClaim := { program := "ytdofdegicdkhlaa", sum := "1227b0f6d30e9b1cb2d63447be593ba21ca3da90e5be57c0ef81f384043e5cc8", func := "octavo/octavolaw02.CrcMoves", spec := "crcMoves", apart := false }
def CrcMovesSaid : Prop := crcMovesRow.holds Try.pinned (OpenSpec.ofChange crcMovesSpec)

/-- ITS FALSE NEIGHBOUR: 'it returns false'. Refute it at one input. -/
def crcMovesWrong : ChangeSpec := { name := "crcMoves", fn := fun _ => fun
  | [d1, d2, d3] => { results := [.lit (.bool false)], args := [d1, d2, d3] }
  | _ => none }
def CrcMovesWrongFalsely : Prop := crcMovesRow.holds Try.pinned (OpenSpec.ofChange crcMovesWrong)

/-- 'octavolaw02.CrcJoins': WHATEVER THE INPUT: true; the input reads as it did. -/
def crcJoinsSpec : ChangeSpec := { name := "crcJoins", fn := fun _ => fun
  | [d1, d2] => { results := [.lit (.bool true)], args := [d1, d2] }
  | _ => none }
def crcJoinsRow : OpenClaim := { program := "ytdofdegicdkhlaa", sum := "1227b0f6d30e9b1cb2d63447be593ba21ca3da90e5be57c0ef81f384043e5cc8", func := "octavo/octavolaw02.CrcJoins", spec := "crcJoins", apart := false }
def CrcJoinsSaid : Prop := crcJoinsRow.holds Try.pinned (OpenSpec.ofChange crcJoinsSpec)

/-- ITS FALSE NEIGHBOUR: 'it returns false'. Refute it at one input. -/
def crcJoinsWrong : ChangeSpec := { name := "crcJoins", fn := fun _ => fun
  | [d1, d2] => { results := [.lit (.bool false)], args := [d1, d2] }
  | _ => none }
def CrcJoinsWrongFalsely : Prop := crcJoinsRow.holds Try.pinned (OpenSpec.ofChange crcJoinsWrong)

/-- 'octavolaw02.CrcGroups': WHATEVER THE INPUT: true; the input reads as it did. -/
def crcGroupsSpec : ChangeSpec := { name := "crcGroups", fn := fun _ => fun
  | [d1, d2, d3, d4, d5] => { results := [.lit (.bool true)], args := [d1, d2, d3, d4, d5] }
  | _ => none }
def crcGroupsRow : OpenClaim := { program := "ytdofdegicdkhlaa", sum := "1227b0f6d30e9b1cb2d63447be593ba21ca3da90e5be57c0ef81f384043e5cc8", func := "octavo/octavolaw02.CrcGroups", spec := "crcGroups", apart := false }
def CrcGroupsSaid : Prop := crcGroupsRow.holds Try.pinned (OpenSpec.ofChange crcGroupsSpec)

/-- ITS FALSE NEIGHBOUR: 'it returns false'. Refute it at one input. -/
def crcGroupsWrong : ChangeSpec := { name := "crcGroups", fn := fun _ => fun
  | [d1, d2, d3, d4, d5] => { results := [.lit (.bool false)], args := [d1, d2, d3, d4, d5] }
  | _ => none }
def CrcGroupsWrongFalsely : Prop := crcGroupsRow.holds Try.pinned (OpenSpec.ofChange crcGroupsWrong)

/-- 'octavolaw02.CrcTurned': WHATEVER THE INPUT: true; the input reads as it did. -/
def crcTurnedSpec : ChangeSpec := { name := "crcTurned", fn := fun _ => fun
  | [d1, d2] => { results := [.lit (.bool true)], args := [d1, d2] }
  | _ => none }
def crcTurnedRow : OpenClaim := { program := "ytdofdegicdkhlaa", sum := "1227b0f6d30e9b1cb2d63447be593ba21ca3da90e5be57c0ef81f384043e5cc8", func := "octavo/octavolaw02.CrcTurned", spec := "crcTurned", apart := false }
def CrcTurnedSaid : Prop := crcTurnedRow.holds Try.pinned (OpenSpec.ofChange crcTurnedSpec)

/-- ITS FALSE NEIGHBOUR: 'it returns false'. Refute it at one input. -/
def crcTurnedWrong : ChangeSpec := { name := "crcTurned", fn := fun _ => fun
  | [d1, d2] => { results := [.lit (.bool false)], args := [d1, d2] }
  | _ => none }
def CrcTurnedWrongFalsely : Prop := crcTurnedRow.holds Try.pinned (OpenSpec.ofChange crcTurnedWrong)

/-- 'octavolaw02.CrcMixes': WHATEVER THE INPUT: true; the input reads as it did. -/
def crcMixesSpec : ChangeSpec := { name := "crcMixes", fn := fun _ => fun
  | [d1, d2, d3] => { results := [.lit (.bool true)], args := [d1, d2, d3] }
  | _ => none }
def crcMixesRow : OpenClaim := { program := "ytdofdegicdkhlaa", sum := "1227b0f6d30e9b1cb2d63447be593ba21ca3da90e5be57c0ef81f384043e5cc8", func := "octavo/octavolaw02.CrcMixes", spec := "crcMixes", apart := false }
def CrcMixesSaid : Prop := crcMixesRow.holds Try.pinned (OpenSpec.ofChange crcMixesSpec)

/-- ITS FALSE NEIGHBOUR: 'it returns false'. Refute it at one input. -/
def crcMixesWrong : ChangeSpec := { name := "crcMixes", fn := fun _ => fun
  | [d1, d2, d3] => { results := [.lit (.bool false)], args := [d1, d2, d3] }
  | _ => none }
def CrcMixesWrongFalsely : Prop := crcMixesRow.holds Try.pinned (OpenSpec.ofChange crcMixesWrong)

/-- 'octavolaw02.CrcZeros': WHATEVER THE INPUT: true; the input reads as it did. -/
def crcZerosSpec : ChangeSpec := { name := "crcZeros", fn := fun _ => fun
  | [d1, d2] => { results := [.lit (.bool true)], args := [d1, d2] }
  | _ => none }
def crcZerosRow : OpenClaim := { program := "ytdofdegicdkhlaa", sum := "1227b0f6d30e9b1cb2d63447be593ba21ca3da90e5be57c0ef81f384043e5cc8", func := "octavo/octavolaw02.CrcZeros", spec := "crcZeros", apart := false }
def CrcZerosSaid : Prop := crcZerosRow.holds Try.pinned (OpenSpec.ofChange crcZerosSpec)

/-- ITS FALSE NEIGHBOUR: 'it returns false'. Refute it at one input. -/
def crcZerosWrong : ChangeSpec := { name := "crcZeros", fn := fun _ => fun
  | [d1, d2] => { results := [.lit (.bool false)], args := [d1, d2] }
  | _ => none }
def CrcZerosWrongFalsely : Prop := crcZerosRow.holds Try.pinned (OpenSpec.ofChange crcZerosWrong)

/-- 'octavolaw17.PastTurns': WHATEVER THE INPUT: true; the input reads as it did. -/
def pastTurnsSpec : ChangeSpec := { name := "pastTurns", fn := fun _ => fun
  | [d1, d2, d3] => { results := [.lit (.bool true)], args := [d1, d2, d3] }
  | _ => none }
def pastTurnsRow : OpenClaim := { program := "ytdofdegicdkhlaa", sum := "1227b0f6d30e9b1cb2d63447be593ba21ca3da90e5be57c0ef81f384043e5cc8", func := "octavo/octavolaw17.PastTurns", spec := "pastTurns", apart := false }
def PastTurnsSaid : Prop := pastTurnsRow.holds Try.pinned (OpenSpec.ofChange pastTurnsSpec)

/-- ITS FALSE NEIGHBOUR: 'it returns false'. Refute it at one input. -/
def pastTurnsWrong : ChangeSpec := { name := "pastTurns", fn := fun _ => fun
  | [d1, d2, d3] => { results := [.lit (.bool false)], args := [d1, d2, d3] }
  | _ => none }
def PastTurnsWrongFalsely : Prop := pastTurnsRow.holds Try.pinned (OpenSpec.ofChange pastTurnsWrong)

/-- 'octavolaw17.PastRuns': WHATEVER THE INPUT: true; the input reads as it did. -/
def pastRunsSpec : ChangeSpec := { name := "pastRuns", fn := fun _ => fun
  | [d1, d2, d3] => { results := [.lit (.bool true)], args := [d1, d2, d3] }
  | _ => none }
def pastRunsRow : OpenClaim := { program := "ytdofdegicdkhlaa", sum := "1227b0f6d30e9b1cb2d63447be593ba21ca3da90e5be57c0ef81f384043e5cc8", func := "octavo/octavolaw17.PastRuns", spec := "pastRuns", apart := false }
def PastRunsSaid : Prop := pastRunsRow.holds Try.pinned (OpenSpec.ofChange pastRunsSpec)

/-- ITS FALSE NEIGHBOUR: 'it returns false'. Refute it at one input. -/
def pastRunsWrong : ChangeSpec := { name := "pastRuns", fn := fun _ => fun
  | [d1, d2, d3] => { results := [.lit (.bool false)], args := [d1, d2, d3] }
  | _ => none }
def PastRunsWrongFalsely : Prop := pastRunsRow.holds Try.pinned (OpenSpec.ofChange pastRunsWrong)

/-- 'octavolaw17.PastBack': WHATEVER THE INPUT: true; the input reads as it did. -/
def pastBackSpec : ChangeSpec := { name := "pastBack", fn := fun _ => fun
  | [d1, d2, d3] => { results := [.lit (.bool true)], args := [d1, d2, d3] }
  | _ => none }
def pastBackRow : OpenClaim := { program := "ytdofdegicdkhlaa", sum := "1227b0f6d30e9b1cb2d63447be593ba21ca3da90e5be57c0ef81f384043e5cc8", func := "octavo/octavolaw17.PastBack", spec := "pastBack", apart := false }
def PastBackSaid : Prop := pastBackRow.holds Try.pinned (OpenSpec.ofChange pastBackSpec)

/-- ITS FALSE NEIGHBOUR: 'it returns false'. Refute it at one input. -/
def pastBackWrong : ChangeSpec := { name := "pastBack", fn := fun _ => fun
  | [d1, d2, d3] => { results := [.lit (.bool false)], args := [d1, d2, d3] }
  | _ => none }
def PastBackWrongFalsely : Prop := pastBackRow.holds Try.pinned (OpenSpec.ofChange pastBackWrong)

/-- 'octavolaw17.PastKeeps': WHATEVER THE INPUT: true; the input reads as it did. -/
def pastKeepsSpec : ChangeSpec := { name := "pastKeeps", fn := fun _ => fun
  | [d1, d2] => { results := [.lit (.bool true)], args := [d1, d2] }
  | _ => none }
def pastKeepsRow : OpenClaim := { program := "ytdofdegicdkhlaa", sum := "1227b0f6d30e9b1cb2d63447be593ba21ca3da90e5be57c0ef81f384043e5cc8", func := "octavo/octavolaw17.PastKeeps", spec := "pastKeeps", apart := false }
def PastKeepsSaid : Prop := pastKeepsRow.holds Try.pinned (OpenSpec.ofChange pastKeepsSpec)

/-- ITS FALSE NEIGHBOUR: 'it returns false'. Refute it at one input. -/
def pastKeepsWrong : ChangeSpec := { name := "pastKeeps", fn := fun _ => fun
  | [d1, d2] => { results := [.lit (.bool false)], args := [d1, d2] }
  | _ => none }
def PastKeepsWrongFalsely : Prop := pastKeepsRow.holds Try.pinned (OpenSpec.ofChange pastKeepsWrong)

/-- 'octavolaw17.PastPacks': WHATEVER THE INPUT: true; the input reads as it did. -/
def pastPacksSpec : ChangeSpec := { name := "pastPacks", fn := fun _ => fun
  | [d1, d2] => { results := [.lit (.bool true)], args := [d1, d2] }
  | _ => none }
def pastPacksRow : OpenClaim := { program := "ytdofdegicdkhlaa", sum := "1227b0f6d30e9b1cb2d63447be593ba21ca3da90e5be57c0ef81f384043e5cc8", func := "octavo/octavolaw17.PastPacks", spec := "pastPacks", apart := false }
def PastPacksSaid : Prop := pastPacksRow.holds Try.pinned (OpenSpec.ofChange pastPacksSpec)

/-- ITS FALSE NEIGHBOUR: 'it returns false'. Refute it at one input. -/
def pastPacksWrong : ChangeSpec := { name := "pastPacks", fn := fun _ => fun
  | [d1, d2] => { results := [.lit (.bool false)], args := [d1, d2] }
  | _ => none }
def PastPacksWrongFalsely : Prop := pastPacksRow.holds Try.pinned (OpenSpec.ofChange pastPacksWrong)

/- THE SECOND FORM. 'bulk': how many values and letters a reading holds, each counted each time it is reached (what is shared counts as often as it is met; a slice's spare places count too). A statement '..UptoSaid' is the law's where the arguments, and the package variables that the reading takes, are together of bulk at most 1048576: NARROWER than '..Said'. Prove '..Said' where nothing that the law and all that it calls make is longer than what came in: it says more and counts as full. Else prove '..UptoSaid'. A law counts once. -/
mutual
def uptoBulk {H : Type} : DataW H → Nat
  | .lit (.string bytes) => bytes.length + 1
  | .lit _ => 1
  | .nil => 1
  | .ptr d => uptoBulk d + 1
  | .slice elems spare => uptoBulkAll elems + uptoBulkAll spare + 1
  | .agg parts => uptoBulkAll parts + 1
  | .iface _ d => uptoBulk d + 1
  | .map entries => uptoBulkEntries entries + 1
  | .held _ => 1
def uptoBulkAll {H : Type} : List (DataW H) → Nat
  | [] => 0
  | d :: r => uptoBulk d + uptoBulkAll r
def uptoBulkEntries {H : Type} : List (Lit × DataW H) → Nat
  | [] => 0
  | x :: r => uptoBulkEntry x + uptoBulkEntries r
def uptoBulkEntry {H : Type} : Lit × DataW H → Nat
  | (.string bytes, d) => bytes.length + uptoBulk d + 1
  | (_, d) => uptoBulk d + 1
 end
def uptoSmall : (H : Type) → List (DataW H) → Bool := fun _ ds => decide (uptoBulkAll ds ≤ 1048576)
def OpenSpec.upto (s : _root_.Go.ChangeSpec) : _root_.Go.OpenSpec := { _root_.Go.OpenSpec.ofChange s with cond := some uptoSmall }

/-- 'octavolaw02.CrcSums', WHERE WHAT IT READS IS OF BULK AT MOST 1048576: true; the input reads as it did. -/
def crcSumsUptoRow : OpenClaim := { program := "ytdofdegicdkhlaa", sum := "1227b0f6d30e9b1cb2d63447be593ba21ca3da90e5be57c0ef81f384043e5cc8", func := "octavo/octavolaw02.CrcSums", spec := "crcSums", apart := false, narrowed := true }
def CrcSumsUptoSaid : Prop := crcSumsUptoRow.holds Try.pinned (OpenSpec.upto crcSumsSpec)

/-- 'octavolaw02.CrcMoves', WHERE WHAT IT READS IS OF BULK AT MOST 1048576: true; the input reads as it did. -/
def crcMovesUptoRow : OpenClaim := { program := "ytdofdegicdkhlaa", sum := "1227b0f6d30e9b1cb2d63447be593ba21ca3da90e5be57c0ef81f384043e5cc8", func := "octavo/octavolaw02.CrcMoves", spec := "crcMoves", apart := false, narrowed := true }
def CrcMovesUptoSaid : Prop := crcMovesUptoRow.holds Try.pinned (OpenSpec.upto crcMovesSpec)

/-- 'octavolaw02.CrcJoins', WHERE WHAT IT READS IS OF BULK AT MOST 1048576: true; the input reads as it did. -/
def crcJoinsUptoRow : OpenClaim := { program := "ytdofdegicdkhlaa", sum := "1227b0f6d30e9b1cb2d63447be593ba21ca3da90e5be57c0ef81f384043e5cc8", func := "octavo/octavolaw02.CrcJoins", spec := "crcJoins", apart := false, narrowed := true }
def CrcJoinsUptoSaid : Prop := crcJoinsUptoRow.holds Try.pinned (OpenSpec.upto crcJoinsSpec)

/-- 'octavolaw02.CrcGroups', WHERE WHAT IT READS IS OF BULK AT MOST 1048576: true; the input reads as it did. -/
def crcGroupsUptoRow : OpenClaim := { program := "ytdofdegicdkhlaa", sum := "1227b0f6d30e9b1cb2d63447be593ba21ca3da90e5be57c0ef81f384043e5cc8", func := "octavo/octavolaw02.CrcGroups", spec := "crcGroups", apart := false, narrowed := true }
def CrcGroupsUptoSaid : Prop := crcGroupsUptoRow.holds Try.pinned (OpenSpec.upto crcGroupsSpec)

/-- 'octavolaw02.CrcTurned', WHERE WHAT IT READS IS OF BULK AT MOST 1048576: true; the input reads as it did. -/
def crcTurnedUptoRow : OpenClaim := { program := "ytdofdegicdkhlaa", sum := "1227b0f6d30e9b1cb2d63447be593ba21ca3da90e5be57c0ef81f384043e5cc8", func := "octavo/octavolaw02.CrcTurned", spec := "crcTurned", apart := false, narrowed := true }
def CrcTurnedUptoSaid : Prop := crcTurnedUptoRow.holds Try.pinned (OpenSpec.upto crcTurnedSpec)

/-- 'octavolaw02.CrcMixes', WHERE WHAT IT READS IS OF BULK AT MOST 1048576: true; the input reads as it did. -/
def crcMixesUptoRow : OpenClaim := { program := "ytdofdegicdkhlaa", sum := "1227b0f6d30e9b1cb2d63447be593ba21ca3da90e5be57c0ef81f384043e5cc8", func := "octavo/octavolaw02.CrcMixes", spec := "crcMixes", apart := false, narrowed := true }
def CrcMixesUptoSaid : Prop := crcMixesUptoRow.holds Try.pinned (OpenSpec.upto crcMixesSpec)

/-- 'octavolaw02.CrcZeros', WHERE WHAT IT READS IS OF BULK AT MOST 1048576: true; the input reads as it did. -/
def crcZerosUptoRow : OpenClaim := { program := "ytdofdegicdkhlaa", sum := "1227b0f6d30e9b1cb2d63447be593ba21ca3da90e5be57c0ef81f384043e5cc8", func := "octavo/octavolaw02.CrcZeros", spec := "crcZeros", apart := false, narrowed := true }
def CrcZerosUptoSaid : Prop := crcZerosUptoRow.holds Try.pinned (OpenSpec.upto crcZerosSpec)

/-- 'octavolaw17.PastTurns', WHERE WHAT IT READS IS OF BULK AT MOST 1048576: true; the input reads as it did. -/
def pastTurnsUptoRow : OpenClaim := { program := "ytdofdegicdkhlaa", sum := "1227b0f6d30e9b1cb2d63447be593ba21ca3da90e5be57c0ef81f384043e5cc8", func := "octavo/octavolaw17.PastTurns", spec := "pastTurns", apart := false, narrowed := true }
def PastTurnsUptoSaid : Prop := pastTurnsUptoRow.holds Try.pinned (OpenSpec.upto pastTurnsSpec)

/-- 'octavolaw17.PastRuns', WHERE WHAT IT READS IS OF BULK AT MOST 1048576: true; the input reads as it did. -/
def pastRunsUptoRow : OpenClaim := { program := "ytdofdegicdkhlaa", sum := "1227b0f6d30e9b1cb2d63447be593ba21ca3da90e5be57c0ef81f384043e5cc8", func := "octavo/octavolaw17.PastRuns", spec := "pastRuns", apart := false, narrowed := true }
def PastRunsUptoSaid : Prop := pastRunsUptoRow.holds Try.pinned (OpenSpec.upto pastRunsSpec)

/-- 'octavolaw17.PastBack', WHERE WHAT IT READS IS OF BULK AT MOST 1048576: true; the input reads as it did. -/
def pastBackUptoRow : OpenClaim := { program := "ytdofdegicdkhlaa", sum := "1227b0f6d30e9b1cb2d63447be593ba21ca3da90e5be57c0ef81f384043e5cc8", func := "octavo/octavolaw17.PastBack", spec := "pastBack", apart := false, narrowed := true }
def PastBackUptoSaid : Prop := pastBackUptoRow.holds Try.pinned (OpenSpec.upto pastBackSpec)

/-- 'octavolaw17.PastKeeps', WHERE WHAT IT READS IS OF BULK AT MOST 1048576: true; the input reads as it did. -/
def pastKeepsUptoRow : OpenClaim := { program := "ytdofdegicdkhlaa", sum := "1227b0f6d30e9b1cb2d63447be593ba21ca3da90e5be57c0ef81f384043e5cc8", func := "octavo/octavolaw17.PastKeeps", spec := "pastKeeps", apart := false, narrowed := true }
def PastKeepsUptoSaid : Prop := pastKeepsUptoRow.holds Try.pinned (OpenSpec.upto pastKeepsSpec)

/-- 'octavolaw17.PastPacks', WHERE WHAT IT READS IS OF BULK AT MOST 1048576: true; the input reads as it did. -/
def pastPacksUptoRow : OpenClaim := { program := "ytdofdegicdkhlaa", sum := "1227b0f6d30e9b1cb2d63447be593ba21ca3da90e5be57c0ef81f384043e5cc8", func := "octavo/octavolaw17.PastPacks", spec := "pastPacks", apart := false, narrowed := true }
def PastPacksUptoSaid : Prop := pastPacksUptoRow.holds Try.pinned (OpenSpec.upto pastPacksSpec)

end Rows
end Go.Proofs.Ytdofdegicdkhlaa
