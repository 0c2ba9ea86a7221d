/-
  No cell of these rows narrows 'for every input' (looked for: loops, veiled, ifaces, maps, wideKeys, modest, calm, conditions, laid).
  DERIVED. THE GIVEN ROWS OF THIS SEAT. 12 by the template 'for every input the law returns true; each argument reads behind the call as it read before'; 0 by the template 'total and deterministic' (their statements: YtdekfbmjhmfmaaaTotals.lean).
  GIVEN WITH THE SEED: the statements are not yours to turn. If you find one false, say at which input.
  Laid BY PROGRAM, IN A SANDBOX (cutbox-rows.mjs): the forced cells as the released guide's own fill.sh prints them over the translation 9fcb42b8fa3a236f… (all of the seat's roots in one cut). By AI agents, Wed Nov 11 2026. No macro, syntax, notation, axiom, sorry.
-/
import Derived.Test.YtdekfbmjhmfmaaaChecked
import GoSem.Claim
import GoSem.ClaimJoined
import GoSem.ClaimMapViews
import Derived.JoinedTies
import Derived.KernelRfl
namespace Go.Proofs.Ytdekfbmjhmfmaaa
/- THE CELL 'sum', in the pinned program and in every row, IS THE sha256 OF THE DUMP (.gsa) THAT YtdekfbmjhmfmaaaProg.lean LOADS. Nothing in Lean hashes anything: it is a label: what it is worth is what the hold of that sum in a sandbox is worth. -/
noncomputable def Try.pinned : Pinned := { name := "ytdekfbmjhmfmaaa", sum := "9fcb42b8fa3a236fd7eb143d56c5e48c6a044e3fa83c1269dd377a6b2d7c8372", checked := Try.checked }
namespace Rows
def none {H : Type} : Left H := { results := [], args := [] }

/-- 'octavolaw16.SuperPacks': WHATEVER THE INPUT: true; the input reads as it did. -/
def superPacksSpec : ChangeSpec := { name := "superPacks", fn := fun _ => fun
  | [d] => { results := [.lit (.bool true)], args := [d] }
  | _ => none }
def superPacksRow : OpenClaim := { program := "ytdekfbmjhmfmaaa", sum := "9fcb42b8fa3a236fd7eb143d56c5e48c6a044e3fa83c1269dd377a6b2d7c8372", func := "octavo/octavolaw16.SuperPacks", spec := "superPacks", apart := false }
def SuperPacksSaid : Prop := superPacksRow.holds Try.pinned (OpenSpec.ofChange superPacksSpec)

/-- ITS FALSE NEIGHBOUR: 'it returns false'. Refute it at one input. -/
def superPacksWrong : ChangeSpec := { name := "superPacks", fn := fun _ => fun
  | [d] => { results := [.lit (.bool false)], args := [d] }
  | _ => none }
def SuperPacksWrongFalsely : Prop := superPacksRow.holds Try.pinned (OpenSpec.ofChange superPacksWrong)

/-- 'octavolaw16.SuperOpens': WHATEVER THE INPUT: true; the input reads as it did. -/
def superOpensSpec : ChangeSpec := { name := "superOpens", fn := fun _ => fun
  | [d] => { results := [.lit (.bool true)], args := [d] }
  | _ => none }
def superOpensRow : OpenClaim := { program := "ytdekfbmjhmfmaaa", sum := "9fcb42b8fa3a236fd7eb143d56c5e48c6a044e3fa83c1269dd377a6b2d7c8372", func := "octavo/octavolaw16.SuperOpens", spec := "superOpens", apart := false }
def SuperOpensSaid : Prop := superOpensRow.holds Try.pinned (OpenSpec.ofChange superOpensSpec)

/-- ITS FALSE NEIGHBOUR: 'it returns false'. Refute it at one input. -/
def superOpensWrong : ChangeSpec := { name := "superOpens", fn := fun _ => fun
  | [d] => { results := [.lit (.bool false)], args := [d] }
  | _ => none }
def SuperOpensWrongFalsely : Prop := superOpensRow.holds Try.pinned (OpenSpec.ofChange superOpensWrong)

/-- 'octavolaw16.SuperSealed': WHATEVER THE INPUT: true; the input reads as it did. -/
def superSealedSpec : ChangeSpec := { name := "superSealed", fn := fun _ => fun
  | [d] => { results := [.lit (.bool true)], args := [d] }
  | _ => none }
def superSealedRow : OpenClaim := { program := "ytdekfbmjhmfmaaa", sum := "9fcb42b8fa3a236fd7eb143d56c5e48c6a044e3fa83c1269dd377a6b2d7c8372", func := "octavo/octavolaw16.SuperSealed", spec := "superSealed", apart := false }
def SuperSealedSaid : Prop := superSealedRow.holds Try.pinned (OpenSpec.ofChange superSealedSpec)

/-- ITS FALSE NEIGHBOUR: 'it returns false'. Refute it at one input. -/
def superSealedWrong : ChangeSpec := { name := "superSealed", fn := fun _ => fun
  | [d] => { results := [.lit (.bool false)], args := [d] }
  | _ => none }
def SuperSealedWrongFalsely : Prop := superSealedRow.holds Try.pinned (OpenSpec.ofChange superSealedWrong)

/-- 'octavolaw16.SuperTurned': WHATEVER THE INPUT: true; the input reads as it did. -/
def superTurnedSpec : ChangeSpec := { name := "superTurned", fn := fun _ => fun
  | [d1, d2] => { results := [.lit (.bool true)], args := [d1, d2] }
  | _ => none }
def superTurnedRow : OpenClaim := { program := "ytdekfbmjhmfmaaa", sum := "9fcb42b8fa3a236fd7eb143d56c5e48c6a044e3fa83c1269dd377a6b2d7c8372", func := "octavo/octavolaw16.SuperTurned", spec := "superTurned", apart := false }
def SuperTurnedSaid : Prop := superTurnedRow.holds Try.pinned (OpenSpec.ofChange superTurnedSpec)

/-- ITS FALSE NEIGHBOUR: 'it returns false'. Refute it at one input. -/
def superTurnedWrong : ChangeSpec := { name := "superTurned", fn := fun _ => fun
  | [d1, d2] => { results := [.lit (.bool false)], args := [d1, d2] }
  | _ => none }
def SuperTurnedWrongFalsely : Prop := superTurnedRow.holds Try.pinned (OpenSpec.ofChange superTurnedWrong)

/-- 'octavolaw05.PagePacks': WHATEVER THE INPUT: true; the input reads as it did. -/
def pagePacksSpec : ChangeSpec := { name := "pagePacks", fn := fun _ => fun
  | [d1, d2, d3] => { results := [.lit (.bool true)], args := [d1, d2, d3] }
  | _ => none }
def pagePacksRow : OpenClaim := { program := "ytdekfbmjhmfmaaa", sum := "9fcb42b8fa3a236fd7eb143d56c5e48c6a044e3fa83c1269dd377a6b2d7c8372", func := "octavo/octavolaw05.PagePacks", spec := "pagePacks", apart := false }
def PagePacksSaid : Prop := pagePacksRow.holds Try.pinned (OpenSpec.ofChange pagePacksSpec)

/-- ITS FALSE NEIGHBOUR: 'it returns false'. Refute it at one input. -/
def pagePacksWrong : ChangeSpec := { name := "pagePacks", fn := fun _ => fun
  | [d1, d2, d3] => { results := [.lit (.bool false)], args := [d1, d2, d3] }
  | _ => none }
def PagePacksWrongFalsely : Prop := pagePacksRow.holds Try.pinned (OpenSpec.ofChange pagePacksWrong)

/-- 'octavolaw05.PageOpens': WHATEVER THE INPUT: true; the input reads as it did. -/
def pageOpensSpec : ChangeSpec := { name := "pageOpens", fn := fun _ => fun
  | [d1, d2] => { results := [.lit (.bool true)], args := [d1, d2] }
  | _ => none }
def pageOpensRow : OpenClaim := { program := "ytdekfbmjhmfmaaa", sum := "9fcb42b8fa3a236fd7eb143d56c5e48c6a044e3fa83c1269dd377a6b2d7c8372", func := "octavo/octavolaw05.PageOpens", spec := "pageOpens", apart := false }
def PageOpensSaid : Prop := pageOpensRow.holds Try.pinned (OpenSpec.ofChange pageOpensSpec)

/-- ITS FALSE NEIGHBOUR: 'it returns false'. Refute it at one input. -/
def pageOpensWrong : ChangeSpec := { name := "pageOpens", fn := fun _ => fun
  | [d1, d2] => { results := [.lit (.bool false)], args := [d1, d2] }
  | _ => none }
def PageOpensWrongFalsely : Prop := pageOpensRow.holds Try.pinned (OpenSpec.ofChange pageOpensWrong)

/-- 'octavolaw05.PageSealed': WHATEVER THE INPUT: true; the input reads as it did. -/
def pageSealedSpec : ChangeSpec := { name := "pageSealed", fn := fun _ => fun
  | [d1, d2] => { results := [.lit (.bool true)], args := [d1, d2] }
  | _ => none }
def pageSealedRow : OpenClaim := { program := "ytdekfbmjhmfmaaa", sum := "9fcb42b8fa3a236fd7eb143d56c5e48c6a044e3fa83c1269dd377a6b2d7c8372", func := "octavo/octavolaw05.PageSealed", spec := "pageSealed", apart := false }
def PageSealedSaid : Prop := pageSealedRow.holds Try.pinned (OpenSpec.ofChange pageSealedSpec)

/-- ITS FALSE NEIGHBOUR: 'it returns false'. Refute it at one input. -/
def pageSealedWrong : ChangeSpec := { name := "pageSealed", fn := fun _ => fun
  | [d1, d2] => { results := [.lit (.bool false)], args := [d1, d2] }
  | _ => none }
def PageSealedWrongFalsely : Prop := pageSealedRow.holds Try.pinned (OpenSpec.ofChange pageSealedWrong)

/-- 'octavolaw05.PageTurned': WHATEVER THE INPUT: true; the input reads as it did. -/
def pageTurnedSpec : ChangeSpec := { name := "pageTurned", fn := fun _ => fun
  | [d1, d2, d3, d4, d5] => { results := [.lit (.bool true)], args := [d1, d2, d3, d4, d5] }
  | _ => none }
def pageTurnedRow : OpenClaim := { program := "ytdekfbmjhmfmaaa", sum := "9fcb42b8fa3a236fd7eb143d56c5e48c6a044e3fa83c1269dd377a6b2d7c8372", func := "octavo/octavolaw05.PageTurned", spec := "pageTurned", apart := false }
def PageTurnedSaid : Prop := pageTurnedRow.holds Try.pinned (OpenSpec.ofChange pageTurnedSpec)

/-- ITS FALSE NEIGHBOUR: 'it returns false'. Refute it at one input. -/
def pageTurnedWrong : ChangeSpec := { name := "pageTurned", fn := fun _ => fun
  | [d1, d2, d3, d4, d5] => { results := [.lit (.bool false)], args := [d1, d2, d3, d4, d5] }
  | _ => none }
def PageTurnedWrongFalsely : Prop := pageTurnedRow.holds Try.pinned (OpenSpec.ofChange pageTurnedWrong)

/-- 'octavolaw05.PageLays': WHATEVER THE INPUT: true; the input reads as it did. -/
def pageLaysSpec : ChangeSpec := { name := "pageLays", fn := fun _ => fun
  | [d1, d2, d3] => { results := [.lit (.bool true)], args := [d1, d2, d3] }
  | _ => none }
def pageLaysRow : OpenClaim := { program := "ytdekfbmjhmfmaaa", sum := "9fcb42b8fa3a236fd7eb143d56c5e48c6a044e3fa83c1269dd377a6b2d7c8372", func := "octavo/octavolaw05.PageLays", spec := "pageLays", apart := false }
def PageLaysSaid : Prop := pageLaysRow.holds Try.pinned (OpenSpec.ofChange pageLaysSpec)

/-- ITS FALSE NEIGHBOUR: 'it returns false'. Refute it at one input. -/
def pageLaysWrong : ChangeSpec := { name := "pageLays", fn := fun _ => fun
  | [d1, d2, d3] => { results := [.lit (.bool false)], args := [d1, d2, d3] }
  | _ => none }
def PageLaysWrongFalsely : Prop := pageLaysRow.holds Try.pinned (OpenSpec.ofChange pageLaysWrong)

/-- 'octavolaw16.SuperNewest': WHATEVER THE INPUT: true; the input reads as it did. -/
def superNewestSpec : ChangeSpec := { name := "superNewest", fn := fun _ => fun
  | [d1, d2] => { results := [.lit (.bool true)], args := [d1, d2] }
  | _ => none }
def superNewestRow : OpenClaim := { program := "ytdekfbmjhmfmaaa", sum := "9fcb42b8fa3a236fd7eb143d56c5e48c6a044e3fa83c1269dd377a6b2d7c8372", func := "octavo/octavolaw16.SuperNewest", spec := "superNewest", apart := false }
def SuperNewestSaid : Prop := superNewestRow.holds Try.pinned (OpenSpec.ofChange superNewestSpec)

/-- ITS FALSE NEIGHBOUR: 'it returns false'. Refute it at one input. -/
def superNewestWrong : ChangeSpec := { name := "superNewest", fn := fun _ => fun
  | [d1, d2] => { results := [.lit (.bool false)], args := [d1, d2] }
  | _ => none }
def SuperNewestWrongFalsely : Prop := superNewestRow.holds Try.pinned (OpenSpec.ofChange superNewestWrong)

/-- 'octavolaw16.SuperTurns': WHATEVER THE INPUT: true; the input reads as it did. -/
def superTurnsSpec : ChangeSpec := { name := "superTurns", fn := fun _ => fun
  | [d1, d2, d3] => { results := [.lit (.bool true)], args := [d1, d2, d3] }
  | _ => none }
def superTurnsRow : OpenClaim := { program := "ytdekfbmjhmfmaaa", sum := "9fcb42b8fa3a236fd7eb143d56c5e48c6a044e3fa83c1269dd377a6b2d7c8372", func := "octavo/octavolaw16.SuperTurns", spec := "superTurns", apart := false }
def SuperTurnsSaid : Prop := superTurnsRow.holds Try.pinned (OpenSpec.ofChange superTurnsSpec)

/-- ITS FALSE NEIGHBOUR: 'it returns false'. Refute it at one input. -/
def superTurnsWrong : ChangeSpec := { name := "superTurns", fn := fun _ => fun
  | [d1, d2, d3] => { results := [.lit (.bool false)], args := [d1, d2, d3] }
  | _ => none }
def SuperTurnsWrongFalsely : Prop := superTurnsRow.holds Try.pinned (OpenSpec.ofChange superTurnsWrong)

/-- 'octavolaw16.SuperGreater': WHATEVER THE INPUT: true; the input reads as it did. -/
def superGreaterSpec : ChangeSpec := { name := "superGreater", fn := fun _ => fun
  | [d1, d2] => { results := [.lit (.bool true)], args := [d1, d2] }
  | _ => none }
def superGreaterRow : OpenClaim := { program := "ytdekfbmjhmfmaaa", sum := "9fcb42b8fa3a236fd7eb143d56c5e48c6a044e3fa83c1269dd377a6b2d7c8372", func := "octavo/octavolaw16.SuperGreater", spec := "superGreater", apart := false }
def SuperGreaterSaid : Prop := superGreaterRow.holds Try.pinned (OpenSpec.ofChange superGreaterSpec)

/-- ITS FALSE NEIGHBOUR: 'it returns false'. Refute it at one input. -/
def superGreaterWrong : ChangeSpec := { name := "superGreater", fn := fun _ => fun
  | [d1, d2] => { results := [.lit (.bool false)], args := [d1, d2] }
  | _ => none }
def SuperGreaterWrongFalsely : Prop := superGreaterRow.holds Try.pinned (OpenSpec.ofChange superGreaterWrong)

/- THE SECOND FORM. 'bulk': how many values and letters a reading holds, each counted each time it is reached (what is shared counts as often as it is met; a slice's spare places count too). A statement '..UptoSaid' is the law's where the arguments, and the package variables that the reading takes, are together of bulk at most 1048576: NARROWER than '..Said'. Prove '..Said' where nothing that the law and all that it calls make is longer than what came in: it says more and counts as full. Else prove '..UptoSaid'. A law counts once. -/
mutual
def uptoBulk {H : Type} : DataW H → Nat
  | .lit (.string bytes) => bytes.length + 1
  | .lit _ => 1
  | .nil => 1
  | .ptr d => uptoBulk d + 1
  | .slice elems spare => uptoBulkAll elems + uptoBulkAll spare + 1
  | .agg parts => uptoBulkAll parts + 1
  | .iface _ d => uptoBulk d + 1
  | .map entries => uptoBulkEntries entries + 1
  | .held _ => 1
def uptoBulkAll {H : Type} : List (DataW H) → Nat
  | [] => 0
  | d :: r => uptoBulk d + uptoBulkAll r
def uptoBulkEntries {H : Type} : List (Lit × DataW H) → Nat
  | [] => 0
  | x :: r => uptoBulkEntry x + uptoBulkEntries r
def uptoBulkEntry {H : Type} : Lit × DataW H → Nat
  | (.string bytes, d) => bytes.length + uptoBulk d + 1
  | (_, d) => uptoBulk d + 1
 end
def uptoSmall : (H : Type) → List (DataW H) → Bool := fun _ ds => decide (uptoBulkAll ds ≤ 1048576)
def OpenSpec.upto (s : _root_.Go.ChangeSpec) : _root_.Go.OpenSpec := { _root_.Go.OpenSpec.ofChange s with cond := some uptoSmall }

/-- 'octavolaw16.SuperPacks', WHERE WHAT IT READS IS OF BULK AT MOST 1048576: true; the input reads as it did. -/
def superPacksUptoRow : OpenClaim := { program := "ytdekfbmjhmfmaaa", sum := "9fcb42b8fa3a236fd7eb143d56c5e48c6a044e3fa83c1269dd377a6b2d7c8372", func := "octavo/octavolaw16.SuperPacks", spec := "superPacks", apart := false, narrowed := true }
def SuperPacksUptoSaid : Prop := superPacksUptoRow.holds Try.pinned (OpenSpec.upto superPacksSpec)

/-- 'octavolaw16.SuperOpens', WHERE WHAT IT READS IS OF BULK AT MOST 1048576: true; the input reads as it did. -/
def superOpensUptoRow : OpenClaim := { program := "ytdekfbmjhmfmaaa", sum := "9fcb42b8fa3a236fd7eb143d56c5e48c6a044e3fa83c1269dd377a6b2d7c8372", func := "octavo/octavolaw16.SuperOpens", spec := "superOpens", apart := false, narrowed := true }
def SuperOpensUptoSaid : Prop := superOpensUptoRow.holds Try.pinned (OpenSpec.upto superOpensSpec)

/-- 'octavolaw16.SuperSealed', WHERE WHAT IT READS IS OF BULK AT MOST 1048576: true; the input reads as it did. -/
def superSealedUptoRow : OpenClaim := { program := "ytdekfbmjhmfmaaa", sum := "9fcb42b8fa3a236fd7eb143d56c5e48c6a044e3fa83c1269dd377a6b2d7c8372", func := "octavo/octavolaw16.SuperSealed", spec := "superSealed", apart := false, narrowed := true }
def SuperSealedUptoSaid : Prop := superSealedUptoRow.holds Try.pinned (OpenSpec.upto superSealedSpec)

/-- 'octavolaw16.SuperTurned', WHERE WHAT IT READS IS OF BULK AT MOST 1048576: true; the input reads as it did. -/
def superTurnedUptoRow : OpenClaim := { program := "ytdekfbmjhmfmaaa", sum := "9fcb42b8fa3a236fd7eb143d56c5e48c6a044e3fa83c1269dd377a6b2d7c8372", func := "octavo/octavolaw16.SuperTurned", spec := "superTurned", apart := false, narrowed := true }
def SuperTurnedUptoSaid : Prop := superTurnedUptoRow.holds Try.pinned (OpenSpec.upto superTurnedSpec)

/-- 'octavolaw05.PagePacks', WHERE WHAT IT READS IS OF BULK AT MOST 1048576: true; the input reads as it did. -/
def pagePacksUptoRow : OpenClaim := { program := "ytdekfbmjhmfmaaa", sum := "9fcb42b8fa3a236fd7eb143d56c5e48c6a044e3fa83c1269dd377a6b2d7c8372", func := "octavo/octavolaw05.PagePacks", spec := "pagePacks", apart := false, narrowed := true }
def PagePacksUptoSaid : Prop := pagePacksUptoRow.holds Try.pinned (OpenSpec.upto pagePacksSpec)

/-- 'octavolaw05.PageOpens', WHERE WHAT IT READS IS OF BULK AT MOST 1048576: true; the input reads as it did. -/
def pageOpensUptoRow : OpenClaim := { program := "ytdekfbmjhmfmaaa", sum := "9fcb42b8fa3a236fd7eb143d56c5e48c6a044e3fa83c1269dd377a6b2d7c8372", func := "octavo/octavolaw05.PageOpens", spec := "pageOpens", apart := false, narrowed := true }
def PageOpensUptoSaid : Prop := pageOpensUptoRow.holds Try.pinned (OpenSpec.upto pageOpensSpec)

/-- 'octavolaw05.PageSealed', WHERE WHAT IT READS IS OF BULK AT MOST 1048576: true; the input reads as it did. -/
def pageSealedUptoRow : OpenClaim := { program := "ytdekfbmjhmfmaaa", sum := "9fcb42b8fa3a236fd7eb143d56c5e48c6a044e3fa83c1269dd377a6b2d7c8372", func := "octavo/octavolaw05.PageSealed", spec := "pageSealed", apart := false, narrowed := true }
def PageSealedUptoSaid : Prop := pageSealedUptoRow.holds Try.pinned (OpenSpec.upto pageSealedSpec)

/-- 'octavolaw05.PageTurned', WHERE WHAT IT READS IS OF BULK AT MOST 1048576: true; the input reads as it did. -/
def pageTurnedUptoRow : OpenClaim := { program := "ytdekfbmjhmfmaaa", sum := "9fcb42b8fa3a236fd7eb143d56c5e48c6a044e3fa83c1269dd377a6b2d7c8372", func := "octavo/octavolaw05.PageTurned", spec := "pageTurned", apart := false, narrowed := true }
def PageTurnedUptoSaid : Prop := pageTurnedUptoRow.holds Try.pinned (OpenSpec.upto pageTurnedSpec)

/-- 'octavolaw05.PageLays', WHERE WHAT IT READS IS OF BULK AT MOST 1048576: true; the input reads as it did. -/
def pageLaysUptoRow : OpenClaim := { program := "ytdekfbmjhmfmaaa", sum := "9fcb42b8fa3a236fd7eb143d56c5e48c6a044e3fa83c1269dd377a6b2d7c8372", func := "octavo/octavolaw05.PageLays", spec := "pageLays", apart := false, narrowed := true }
def PageLaysUptoSaid : Prop := pageLaysUptoRow.holds Try.pinned (OpenSpec.upto pageLaysSpec)

/-- 'octavolaw16.SuperNewest', WHERE WHAT IT READS IS OF BULK AT MOST 1048576: true; the input reads as it did. -/
def superNewestUptoRow : OpenClaim := { program := "ytdekfbmjhmfmaaa", sum := "9fcb42b8fa3a236fd7eb143d56c5e48c6a044e3fa83c1269dd377a6b2d7c8372", func := "octavo/octavolaw16.SuperNewest", spec := "superNewest", apart := false, narrowed := true }
def SuperNewestUptoSaid : Prop := superNewestUptoRow.holds Try.pinned (OpenSpec.upto superNewestSpec)

/-- 'octavolaw16.SuperTurns', WHERE WHAT IT READS IS OF BULK AT MOST 1048576: true; the input reads as it did. -/
def superTurnsUptoRow : OpenClaim := { program := "ytdekfbmjhmfmaaa", sum := "9fcb42b8fa3a236fd7eb143d56c5e48c6a044e3fa83c1269dd377a6b2d7c8372", func := "octavo/octavolaw16.SuperTurns", spec := "superTurns", apart := false, narrowed := true }
def SuperTurnsUptoSaid : Prop := superTurnsUptoRow.holds Try.pinned (OpenSpec.upto superTurnsSpec)

/-- 'octavolaw16.SuperGreater', WHERE WHAT IT READS IS OF BULK AT MOST 1048576: true; the input reads as it did. -/
def superGreaterUptoRow : OpenClaim := { program := "ytdekfbmjhmfmaaa", sum := "9fcb42b8fa3a236fd7eb143d56c5e48c6a044e3fa83c1269dd377a6b2d7c8372", func := "octavo/octavolaw16.SuperGreater", spec := "superGreater", apart := false, narrowed := true }
def SuperGreaterUptoSaid : Prop := superGreaterUptoRow.holds Try.pinned (OpenSpec.upto superGreaterSpec)

end Rows
end Go.Proofs.Ytdekfbmjhmfmaaa
