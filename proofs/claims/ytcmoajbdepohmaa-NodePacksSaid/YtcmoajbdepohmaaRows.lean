/-
  No cell of these rows narrows 'for every input' (looked for: loops, veiled, ifaces, maps, wideKeys, modest, calm, conditions, laid).
  DERIVED. THE GIVEN ROWS OF THIS SEAT. 12 by the template 'for every input the law returns true; each argument reads behind the call as it read before'; 0 by the template 'total and deterministic' (their statements: YtcmoajbdepohmaaTotals.lean).
  GIVEN WITH THE SEED: the statements are not yours to turn. If you find one false, say at which input.
  Laid BY PROGRAM, IN A SANDBOX (cutbox-rows.mjs): the forced cells as the released guide's own fill.sh prints them over the translation d24333e0be753a3e… (all of the seat's roots in one cut). By AI agents, Wed Nov 11 2026. No macro, syntax, notation, axiom, sorry.
-/
import Derived.Test.YtcmoajbdepohmaaChecked
import GoSem.Claim
import GoSem.ClaimJoined
import GoSem.ClaimMapViews
import Derived.JoinedTies
import Derived.KernelRfl
namespace Go.Proofs.Ytcmoajbdepohmaa
/- THE CELL 'sum', in the pinned program and in every row, IS THE sha256 OF THE DUMP (.gsa) THAT YtcmoajbdepohmaaProg.lean LOADS. Nothing in Lean hashes anything: it is a label: what it is worth is what the hold of that sum in a sandbox is worth. -/
noncomputable def Try.pinned : Pinned := { name := "ytcmoajbdepohmaa", sum := "d24333e0be753a3e25fc96a88b627c6f36add2fcd920db41ffca7a6c30c5c13b", checked := Try.checked }
namespace Rows
def none {H : Type} : Left H := { results := [], args := [] }

/-- 'octavolaw01.LeWrites': WHATEVER THE INPUT: true; the input reads as it did. -/
def leWritesSpec : ChangeSpec := { name := "leWrites", fn := fun _ => fun
  | [d1, d2] => { results := [.lit (.bool true)], args := [d1, d2] }
  | _ => none }
def leWritesRow : OpenClaim := { program := "ytcmoajbdepohmaa", sum := "d24333e0be753a3e25fc96a88b627c6f36add2fcd920db41ffca7a6c30c5c13b", func := "octavo/octavolaw01.LeWrites", spec := "leWrites", apart := false }
def LeWritesSaid : Prop := leWritesRow.holds Try.pinned (OpenSpec.ofChange leWritesSpec)

/-- ITS FALSE NEIGHBOUR: 'it returns false'. Refute it at one input. -/
def leWritesWrong : ChangeSpec := { name := "leWrites", fn := fun _ => fun
  | [d1, d2] => { results := [.lit (.bool false)], args := [d1, d2] }
  | _ => none }
def LeWritesWrongFalsely : Prop := leWritesRow.holds Try.pinned (OpenSpec.ofChange leWritesWrong)

/-- 'octavolaw01.LeReads': WHATEVER THE INPUT: true; the input reads as it did. -/
def leReadsSpec : ChangeSpec := { name := "leReads", fn := fun _ => fun
  | [d] => { results := [.lit (.bool true)], args := [d] }
  | _ => none }
def leReadsRow : OpenClaim := { program := "ytcmoajbdepohmaa", sum := "d24333e0be753a3e25fc96a88b627c6f36add2fcd920db41ffca7a6c30c5c13b", func := "octavo/octavolaw01.LeReads", spec := "leReads", apart := false }
def LeReadsSaid : Prop := leReadsRow.holds Try.pinned (OpenSpec.ofChange leReadsSpec)

/-- ITS FALSE NEIGHBOUR: 'it returns false'. Refute it at one input. -/
def leReadsWrong : ChangeSpec := { name := "leReads", fn := fun _ => fun
  | [d] => { results := [.lit (.bool false)], args := [d] }
  | _ => none }
def LeReadsWrongFalsely : Prop := leReadsRow.holds Try.pinned (OpenSpec.ofChange leReadsWrong)

/-- 'octavolaw01.LeBack': WHATEVER THE INPUT: true; the input reads as it did. -/
def leBackSpec : ChangeSpec := { name := "leBack", fn := fun _ => fun
  | [d1, d2, d3] => { results := [.lit (.bool true)], args := [d1, d2, d3] }
  | _ => none }
def leBackRow : OpenClaim := { program := "ytcmoajbdepohmaa", sum := "d24333e0be753a3e25fc96a88b627c6f36add2fcd920db41ffca7a6c30c5c13b", func := "octavo/octavolaw01.LeBack", spec := "leBack", apart := false }
def LeBackSaid : Prop := leBackRow.holds Try.pinned (OpenSpec.ofChange leBackSpec)

/-- ITS FALSE NEIGHBOUR: 'it returns false'. Refute it at one input. -/
def leBackWrong : ChangeSpec := { name := "leBack", fn := fun _ => fun
  | [d1, d2, d3] => { results := [.lit (.bool false)], args := [d1, d2, d3] }
  | _ => none }
def LeBackWrongFalsely : Prop := leBackRow.holds Try.pinned (OpenSpec.ofChange leBackWrong)

/-- 'octavolaw01.LeOrder': WHATEVER THE INPUT: true; the input reads as it did. -/
def leOrderSpec : ChangeSpec := { name := "leOrder", fn := fun _ => fun
  | [d1, d2, d3] => { results := [.lit (.bool true)], args := [d1, d2, d3] }
  | _ => none }
def leOrderRow : OpenClaim := { program := "ytcmoajbdepohmaa", sum := "d24333e0be753a3e25fc96a88b627c6f36add2fcd920db41ffca7a6c30c5c13b", func := "octavo/octavolaw01.LeOrder", spec := "leOrder", apart := false }
def LeOrderSaid : Prop := leOrderRow.holds Try.pinned (OpenSpec.ofChange leOrderSpec)

/-- ITS FALSE NEIGHBOUR: 'it returns false'. Refute it at one input. -/
def leOrderWrong : ChangeSpec := { name := "leOrder", fn := fun _ => fun
  | [d1, d2, d3] => { results := [.lit (.bool false)], args := [d1, d2, d3] }
  | _ => none }
def LeOrderWrongFalsely : Prop := leOrderRow.holds Try.pinned (OpenSpec.ofChange leOrderWrong)

/-- 'octavolaw01.LeWider': WHATEVER THE INPUT: true; the input reads as it did. -/
def leWiderSpec : ChangeSpec := { name := "leWider", fn := fun _ => fun
  | [d1, d2, d3] => { results := [.lit (.bool true)], args := [d1, d2, d3] }
  | _ => none }
def leWiderRow : OpenClaim := { program := "ytcmoajbdepohmaa", sum := "d24333e0be753a3e25fc96a88b627c6f36add2fcd920db41ffca7a6c30c5c13b", func := "octavo/octavolaw01.LeWider", spec := "leWider", apart := false }
def LeWiderSaid : Prop := leWiderRow.holds Try.pinned (OpenSpec.ofChange leWiderSpec)

/-- ITS FALSE NEIGHBOUR: 'it returns false'. Refute it at one input. -/
def leWiderWrong : ChangeSpec := { name := "leWider", fn := fun _ => fun
  | [d1, d2, d3] => { results := [.lit (.bool false)], args := [d1, d2, d3] }
  | _ => none }
def LeWiderWrongFalsely : Prop := leWiderRow.holds Try.pinned (OpenSpec.ofChange leWiderWrong)

/-- 'octavolaw01.LeParts': WHATEVER THE INPUT: true; the input reads as it did. -/
def lePartsSpec : ChangeSpec := { name := "leParts", fn := fun _ => fun
  | [d1, d2, d3] => { results := [.lit (.bool true)], args := [d1, d2, d3] }
  | _ => none }
def lePartsRow : OpenClaim := { program := "ytcmoajbdepohmaa", sum := "d24333e0be753a3e25fc96a88b627c6f36add2fcd920db41ffca7a6c30c5c13b", func := "octavo/octavolaw01.LeParts", spec := "leParts", apart := false }
def LePartsSaid : Prop := lePartsRow.holds Try.pinned (OpenSpec.ofChange lePartsSpec)

/-- ITS FALSE NEIGHBOUR: 'it returns false'. Refute it at one input. -/
def lePartsWrong : ChangeSpec := { name := "leParts", fn := fun _ => fun
  | [d1, d2, d3] => { results := [.lit (.bool false)], args := [d1, d2, d3] }
  | _ => none }
def LePartsWrongFalsely : Prop := lePartsRow.holds Try.pinned (OpenSpec.ofChange lePartsWrong)

/-- 'octavolaw01.LeRuns': WHATEVER THE INPUT: true; the input reads as it did. -/
def leRunsSpec : ChangeSpec := { name := "leRuns", fn := fun _ => fun
  | [d1, d2] => { results := [.lit (.bool true)], args := [d1, d2] }
  | _ => none }
def leRunsRow : OpenClaim := { program := "ytcmoajbdepohmaa", sum := "d24333e0be753a3e25fc96a88b627c6f36add2fcd920db41ffca7a6c30c5c13b", func := "octavo/octavolaw01.LeRuns", spec := "leRuns", apart := false }
def LeRunsSaid : Prop := leRunsRow.holds Try.pinned (OpenSpec.ofChange leRunsSpec)

/-- ITS FALSE NEIGHBOUR: 'it returns false'. Refute it at one input. -/
def leRunsWrong : ChangeSpec := { name := "leRuns", fn := fun _ => fun
  | [d1, d2] => { results := [.lit (.bool false)], args := [d1, d2] }
  | _ => none }
def LeRunsWrongFalsely : Prop := leRunsRow.holds Try.pinned (OpenSpec.ofChange leRunsWrong)

/-- 'octavolaw01.LeNil': WHATEVER THE INPUT: true; the input reads as it did. -/
def leNilSpec : ChangeSpec := { name := "leNil", fn := fun _ => fun
  | [d] => { results := [.lit (.bool true)], args := [d] }
  | _ => none }
def leNilRow : OpenClaim := { program := "ytcmoajbdepohmaa", sum := "d24333e0be753a3e25fc96a88b627c6f36add2fcd920db41ffca7a6c30c5c13b", func := "octavo/octavolaw01.LeNil", spec := "leNil", apart := false }
def LeNilSaid : Prop := leNilRow.holds Try.pinned (OpenSpec.ofChange leNilSpec)

/-- ITS FALSE NEIGHBOUR: 'it returns false'. Refute it at one input. -/
def leNilWrong : ChangeSpec := { name := "leNil", fn := fun _ => fun
  | [d] => { results := [.lit (.bool false)], args := [d] }
  | _ => none }
def LeNilWrongFalsely : Prop := leNilRow.holds Try.pinned (OpenSpec.ofChange leNilWrong)

/-- 'octavolaw13.NodePacks': WHATEVER THE INPUT: true; the input reads as it did. -/
def nodePacksSpec : ChangeSpec := { name := "nodePacks", fn := fun _ => fun
  | [d] => { results := [.lit (.bool true)], args := [d] }
  | _ => none }
def nodePacksRow : OpenClaim := { program := "ytcmoajbdepohmaa", sum := "d24333e0be753a3e25fc96a88b627c6f36add2fcd920db41ffca7a6c30c5c13b", func := "octavo/octavolaw13.NodePacks", spec := "nodePacks", unfollowed := true, recurses := true, apart := false }
def NodePacksSaid : Prop := nodePacksRow.holds Try.pinned (OpenSpec.ofChange nodePacksSpec)

/-- ITS FALSE NEIGHBOUR: 'it returns false'. Refute it at one input. -/
def nodePacksWrong : ChangeSpec := { name := "nodePacks", fn := fun _ => fun
  | [d] => { results := [.lit (.bool false)], args := [d] }
  | _ => none }
def NodePacksWrongFalsely : Prop := nodePacksRow.holds Try.pinned (OpenSpec.ofChange nodePacksWrong)

/-- 'octavolaw13.NodeOpens': WHATEVER THE INPUT: true; the input reads as it did. -/
def nodeOpensSpec : ChangeSpec := { name := "nodeOpens", fn := fun _ => fun
  | [d1, d2] => { results := [.lit (.bool true)], args := [d1, d2] }
  | _ => none }
def nodeOpensRow : OpenClaim := { program := "ytcmoajbdepohmaa", sum := "d24333e0be753a3e25fc96a88b627c6f36add2fcd920db41ffca7a6c30c5c13b", func := "octavo/octavolaw13.NodeOpens", spec := "nodeOpens", unfollowed := true, recurses := true, apart := false }
def NodeOpensSaid : Prop := nodeOpensRow.holds Try.pinned (OpenSpec.ofChange nodeOpensSpec)

/-- ITS FALSE NEIGHBOUR: 'it returns false'. Refute it at one input. -/
def nodeOpensWrong : ChangeSpec := { name := "nodeOpens", fn := fun _ => fun
  | [d1, d2] => { results := [.lit (.bool false)], args := [d1, d2] }
  | _ => none }
def NodeOpensWrongFalsely : Prop := nodeOpensRow.holds Try.pinned (OpenSpec.ofChange nodeOpensWrong)

/-- 'octavolaw13.NodeBack': WHATEVER THE INPUT: true; the input reads as it did. -/
def nodeBackSpec : ChangeSpec := { name := "nodeBack", fn := fun _ => fun
  | [d1, d2, d3] => { results := [.lit (.bool true)], args := [d1, d2, d3] }
  | _ => none }
def nodeBackRow : OpenClaim := { program := "ytcmoajbdepohmaa", sum := "d24333e0be753a3e25fc96a88b627c6f36add2fcd920db41ffca7a6c30c5c13b", func := "octavo/octavolaw13.NodeBack", spec := "nodeBack", unfollowed := true, recurses := true, apart := false }
def NodeBackSaid : Prop := nodeBackRow.holds Try.pinned (OpenSpec.ofChange nodeBackSpec)

/-- ITS FALSE NEIGHBOUR: 'it returns false'. Refute it at one input. -/
def nodeBackWrong : ChangeSpec := { name := "nodeBack", fn := fun _ => fun
  | [d1, d2, d3] => { results := [.lit (.bool false)], args := [d1, d2, d3] }
  | _ => none }
def NodeBackWrongFalsely : Prop := nodeBackRow.holds Try.pinned (OpenSpec.ofChange nodeBackWrong)

/-- 'octavolaw13.NodeSums': WHATEVER THE INPUT: true; the input reads as it did. -/
def nodeSumsSpec : ChangeSpec := { name := "nodeSums", fn := fun _ => fun
  | [d1, d2] => { results := [.lit (.bool true)], args := [d1, d2] }
  | _ => none }
def nodeSumsRow : OpenClaim := { program := "ytcmoajbdepohmaa", sum := "d24333e0be753a3e25fc96a88b627c6f36add2fcd920db41ffca7a6c30c5c13b", func := "octavo/octavolaw13.NodeSums", spec := "nodeSums", unfollowed := true, recurses := true, apart := false }
def NodeSumsSaid : Prop := nodeSumsRow.holds Try.pinned (OpenSpec.ofChange nodeSumsSpec)

/-- ITS FALSE NEIGHBOUR: 'it returns false'. Refute it at one input. -/
def nodeSumsWrong : ChangeSpec := { name := "nodeSums", fn := fun _ => fun
  | [d1, d2] => { results := [.lit (.bool false)], args := [d1, d2] }
  | _ => none }
def NodeSumsWrongFalsely : Prop := nodeSumsRow.holds Try.pinned (OpenSpec.ofChange nodeSumsWrong)

/- THE SECOND FORM. 'bulk': how many values and letters a reading holds, each counted each time it is reached (what is shared counts as often as it is met; a slice's spare places count too). A statement '..UptoSaid' is the law's where the arguments, and the package variables that the reading takes, are together of bulk at most 1048576: NARROWER than '..Said'. Prove '..Said' where nothing that the law and all that it calls make is longer than what came in: it says more and counts as full. Else prove '..UptoSaid'. A law counts once. -/
mutual
def uptoBulk {H : Type} : DataW H → Nat
  | .lit (.string bytes) => bytes.length + 1
  | .lit _ => 1
  | .nil => 1
  | .ptr d => uptoBulk d + 1
  | .slice elems spare => uptoBulkAll elems + uptoBulkAll spare + 1
  | .agg parts => uptoBulkAll parts + 1
  | .iface _ d => uptoBulk d + 1
  | .map entries => uptoBulkEntries entries + 1
  | .held _ => 1
def uptoBulkAll {H : Type} : List (DataW H) → Nat
  | [] => 0
  | d :: r => uptoBulk d + uptoBulkAll r
def uptoBulkEntries {H : Type} : List (Lit × DataW H) → Nat
  | [] => 0
  | x :: r => uptoBulkEntry x + uptoBulkEntries r
def uptoBulkEntry {H : Type} : Lit × DataW H → Nat
  | (.string bytes, d) => bytes.length + uptoBulk d + 1
  | (_, d) => uptoBulk d + 1
 end
def uptoSmall : (H : Type) → List (DataW H) → Bool := fun _ ds => decide (uptoBulkAll ds ≤ 1048576)
def OpenSpec.upto (s : _root_.Go.ChangeSpec) : _root_.Go.OpenSpec := { _root_.Go.OpenSpec.ofChange s with cond := some uptoSmall }

/-- 'octavolaw01.LeWrites', WHERE WHAT IT READS IS OF BULK AT MOST 1048576: true; the input reads as it did. -/
def leWritesUptoRow : OpenClaim := { program := "ytcmoajbdepohmaa", sum := "d24333e0be753a3e25fc96a88b627c6f36add2fcd920db41ffca7a6c30c5c13b", func := "octavo/octavolaw01.LeWrites", spec := "leWrites", apart := false, narrowed := true }
def LeWritesUptoSaid : Prop := leWritesUptoRow.holds Try.pinned (OpenSpec.upto leWritesSpec)

/-- 'octavolaw01.LeReads', WHERE WHAT IT READS IS OF BULK AT MOST 1048576: true; the input reads as it did. -/
def leReadsUptoRow : OpenClaim := { program := "ytcmoajbdepohmaa", sum := "d24333e0be753a3e25fc96a88b627c6f36add2fcd920db41ffca7a6c30c5c13b", func := "octavo/octavolaw01.LeReads", spec := "leReads", apart := false, narrowed := true }
def LeReadsUptoSaid : Prop := leReadsUptoRow.holds Try.pinned (OpenSpec.upto leReadsSpec)

/-- 'octavolaw01.LeBack', WHERE WHAT IT READS IS OF BULK AT MOST 1048576: true; the input reads as it did. -/
def leBackUptoRow : OpenClaim := { program := "ytcmoajbdepohmaa", sum := "d24333e0be753a3e25fc96a88b627c6f36add2fcd920db41ffca7a6c30c5c13b", func := "octavo/octavolaw01.LeBack", spec := "leBack", apart := false, narrowed := true }
def LeBackUptoSaid : Prop := leBackUptoRow.holds Try.pinned (OpenSpec.upto leBackSpec)

/-- 'octavolaw01.LeOrder', WHERE WHAT IT READS IS OF BULK AT MOST 1048576: true; the input reads as it did. -/
def leOrderUptoRow : OpenClaim := { program := "ytcmoajbdepohmaa", sum := "d24333e0be753a3e25fc96a88b627c6f36add2fcd920db41ffca7a6c30c5c13b", func := "octavo/octavolaw01.LeOrder", spec := "leOrder", apart := false, narrowed := true }
def LeOrderUptoSaid : Prop := leOrderUptoRow.holds Try.pinned (OpenSpec.upto leOrderSpec)

/-- 'octavolaw01.LeWider', WHERE WHAT IT READS IS OF BULK AT MOST 1048576: true; the input reads as it did. -/
def leWiderUptoRow : OpenClaim := { program := "ytcmoajbdepohmaa", sum := "d24333e0be753a3e25fc96a88b627c6f36add2fcd920db41ffca7a6c30c5c13b", func := "octavo/octavolaw01.LeWider", spec := "leWider", apart := false, narrowed := true }
def LeWiderUptoSaid : Prop := leWiderUptoRow.holds Try.pinned (OpenSpec.upto leWiderSpec)

/-- 'octavolaw01.LeParts', WHERE WHAT IT READS IS OF BULK AT MOST 1048576: true; the input reads as it did. -/
def lePartsUptoRow : OpenClaim := { program := "ytcmoajbdepohmaa", sum := "d24333e0be753a3e25fc96a88b627c6f36add2fcd920db41ffca7a6c30c5c13b", func := "octavo/octavolaw01.LeParts", spec := "leParts", apart := false, narrowed := true }
def LePartsUptoSaid : Prop := lePartsUptoRow.holds Try.pinned (OpenSpec.upto lePartsSpec)

/-- 'octavolaw01.LeRuns', WHERE WHAT IT READS IS OF BULK AT MOST 1048576: true; the input reads as it did. -/
def leRunsUptoRow : OpenClaim := { program := "ytcmoajbdepohmaa", sum := "d24333e0be753a3e25fc96a88b627c6f36add2fcd920db41ffca7a6c30c5c13b", func := "octavo/octavolaw01.LeRuns", spec := "leRuns", apart := false, narrowed := true }
def LeRunsUptoSaid : Prop := leRunsUptoRow.holds Try.pinned (OpenSpec.upto leRunsSpec)

/-- 'octavolaw01.LeNil', WHERE WHAT IT READS IS OF BULK AT MOST 1048576: true; the input reads as it did. -/
def leNilUptoRow : OpenClaim := { program := "ytcmoajbdepohmaa", sum := "d24333e0be753a3e25fc96a88b627c6f36add2fcd920db41ffca7a6c30c5c13b", func := "octavo/octavolaw01.LeNil", spec := "leNil", apart := false, narrowed := true }
def LeNilUptoSaid : Prop := leNilUptoRow.holds Try.pinned (OpenSpec.upto leNilSpec)

/-- 'octavolaw13.NodePacks', WHERE WHAT IT READS IS OF BULK AT MOST 1048576: true; the input reads as it did. -/
def nodePacksUptoRow : OpenClaim := { program := "ytcmoajbdepohmaa", sum := "d24333e0be753a3e25fc96a88b627c6f36add2fcd920db41ffca7a6c30c5c13b", func := "octavo/octavolaw13.NodePacks", spec := "nodePacks", unfollowed := true, recurses := true, apart := false, narrowed := true }
def NodePacksUptoSaid : Prop := nodePacksUptoRow.holds Try.pinned (OpenSpec.upto nodePacksSpec)

/-- 'octavolaw13.NodeOpens', WHERE WHAT IT READS IS OF BULK AT MOST 1048576: true; the input reads as it did. -/
def nodeOpensUptoRow : OpenClaim := { program := "ytcmoajbdepohmaa", sum := "d24333e0be753a3e25fc96a88b627c6f36add2fcd920db41ffca7a6c30c5c13b", func := "octavo/octavolaw13.NodeOpens", spec := "nodeOpens", unfollowed := true, recurses := true, apart := false, narrowed := true }
def NodeOpensUptoSaid : Prop := nodeOpensUptoRow.holds Try.pinned (OpenSpec.upto nodeOpensSpec)

/-- 'octavolaw13.NodeBack', WHERE WHAT IT READS IS OF BULK AT MOST 1048576: true; the input reads as it did. -/
def nodeBackUptoRow : OpenClaim := { program := "ytcmoajbdepohmaa", sum := "d24333e0be753a3e25fc96a88b627c6f36add2fcd920db41ffca7a6c30c5c13b", func := "octavo/octavolaw13.NodeBack", spec := "nodeBack", unfollowed := true, recurses := true, apart := false, narrowed := true }
def NodeBackUptoSaid : Prop := nodeBackUptoRow.holds Try.pinned (OpenSpec.upto nodeBackSpec)

/-- 'octavolaw13.NodeSums', WHERE WHAT IT READS IS OF BULK AT MOST 1048576: true; the input reads as it did. -/
def nodeSumsUptoRow : OpenClaim := { program := "ytcmoajbdepohmaa", sum := "d24333e0be753a3e25fc96a88b627c6f36add2fcd920db41ffca7a6c30c5c13b", func := "octavo/octavolaw13.NodeSums", spec := "nodeSums", unfollowed := true, recurses := true, apart := false, narrowed := true }
def NodeSumsUptoSaid : Prop := nodeSumsUptoRow.holds Try.pinned (OpenSpec.upto nodeSumsSpec)

end Rows
end Go.Proofs.Ytcmoajbdepohmaa
