/-
  No cell of these rows narrows 'for every input' (looked for: loops, veiled, ifaces, maps, wideKeys, modest, calm, conditions, laid).
  DERIVED. THE GIVEN ROWS OF THIS SEAT. 3 by the template 'for every input the law returns true; each argument reads behind the call as it read before'; 0 by the template 'total and deterministic' (their statements: YtcnjjmnjnpoklaaTotals.lean).
  GIVEN WITH THE SEED: the statements are not yours to turn. If you find one false, say at which input.
  Laid BY PROGRAM, IN A SANDBOX (cutbox-rows.mjs): the forced cells as the released guide's own fill.sh prints them over the translation a71c13cdb90efc99… (all of the seat's roots in one cut). By AI agents, Wed Nov 11 2026. No macro, syntax, notation, axiom, sorry.
-/
import Derived.Test.YtcnjjmnjnpoklaaChecked
import GoSem.Claim
import GoSem.ClaimJoined
import GoSem.ClaimMapViews
import Derived.JoinedTies
import Derived.KernelRfl
namespace Go.Proofs.Ytcnjjmnjnpoklaa
/- THE CELL 'sum', in the pinned program and in every row, IS THE sha256 OF THE DUMP (.gsa) THAT YtcnjjmnjnpoklaaProg.lean LOADS. Nothing in Lean hashes anything: it is a label: what it is worth is what the hold of that sum in a sandbox is worth. -/
noncomputable def Try.pinned : Pinned := { name := "ytcnjjmnjnpoklaa", sum := "a71c13cdb90efc99957aa4116d588b74d2758c72441215016cb0c0f9f9d5e9fe", checked := Try.checked }
namespace Rows
def none {H : Type} : Left H := { results := [], args := [] }

/-- 'proofmarklaw24.CubeCovers': WHATEVER THE INPUT: true; the input reads as it did. -/
def cubeCoversSpec : ChangeSpec := { name := "cubeCovers", fn := fun _ => fun
  | [d1, d2] => { results := [.lit (.bool true)], args := [d1, d2] }
  | _ => none }
def cubeCoversRow : OpenClaim := { program := "ytcnjjmnjnpoklaa", sum := "a71c13cdb90efc99957aa4116d588b74d2758c72441215016cb0c0f9f9d5e9fe", func := "proofmark/proofmarklaw24.CubeCovers", spec := "cubeCovers", unfollowed := true, recurses := true, apart := false }
def CubeCoversSaid : Prop := cubeCoversRow.holds Try.pinned (OpenSpec.ofChange cubeCoversSpec)

/-- ITS FALSE NEIGHBOUR: 'it returns false'. Refute it at one input. -/
def cubeCoversWrong : ChangeSpec := { name := "cubeCovers", fn := fun _ => fun
  | [d1, d2] => { results := [.lit (.bool false)], args := [d1, d2] }
  | _ => none }
def CubeCoversWrongFalsely : Prop := cubeCoversRow.holds Try.pinned (OpenSpec.ofChange cubeCoversWrong)

/-- 'proofmarklaw24.CubeClause': WHATEVER THE INPUT: true; the input reads as it did. -/
def cubeClauseSpec : ChangeSpec := { name := "cubeClause", fn := fun _ => fun
  | [d1, d2, d3] => { results := [.lit (.bool true)], args := [d1, d2, d3] }
  | _ => none }
def cubeClauseRow : OpenClaim := { program := "ytcnjjmnjnpoklaa", sum := "a71c13cdb90efc99957aa4116d588b74d2758c72441215016cb0c0f9f9d5e9fe", func := "proofmark/proofmarklaw24.CubeClause", spec := "cubeClause", unfollowed := true, recurses := true, apart := false }
def CubeClauseSaid : Prop := cubeClauseRow.holds Try.pinned (OpenSpec.ofChange cubeClauseSpec)

/-- ITS FALSE NEIGHBOUR: 'it returns false'. Refute it at one input. -/
def cubeClauseWrong : ChangeSpec := { name := "cubeClause", fn := fun _ => fun
  | [d1, d2, d3] => { results := [.lit (.bool false)], args := [d1, d2, d3] }
  | _ => none }
def CubeClauseWrongFalsely : Prop := cubeClauseRow.holds Try.pinned (OpenSpec.ofChange cubeClauseWrong)

/-- 'proofmarklaw24.CubeNorm': WHATEVER THE INPUT: true; the input reads as it did. -/
def cubeNormSpec : ChangeSpec := { name := "cubeNorm", fn := fun _ => fun
  | [d1, d2, d3] => { results := [.lit (.bool true)], args := [d1, d2, d3] }
  | _ => none }
def cubeNormRow : OpenClaim := { program := "ytcnjjmnjnpoklaa", sum := "a71c13cdb90efc99957aa4116d588b74d2758c72441215016cb0c0f9f9d5e9fe", func := "proofmark/proofmarklaw24.CubeNorm", spec := "cubeNorm", unfollowed := true, recurses := true, apart := false }
def CubeNormSaid : Prop := cubeNormRow.holds Try.pinned (OpenSpec.ofChange cubeNormSpec)

/-- ITS FALSE NEIGHBOUR: 'it returns false'. Refute it at one input. -/
def cubeNormWrong : ChangeSpec := { name := "cubeNorm", fn := fun _ => fun
  | [d1, d2, d3] => { results := [.lit (.bool false)], args := [d1, d2, d3] }
  | _ => none }
def CubeNormWrongFalsely : Prop := cubeNormRow.holds Try.pinned (OpenSpec.ofChange cubeNormWrong)

/- THE SECOND FORM. 'bulk': how many values and letters a reading holds, each counted each time it is reached (what is shared counts as often as it is met; a slice's spare places count too). A statement '..UptoSaid' is the law's where the arguments, and the package variables that the reading takes, are together of bulk at most 1048576: NARROWER than '..Said'. Prove '..Said' where nothing that the law and all that it calls make is longer than what came in: it says more and counts as full. Else prove '..UptoSaid'. A law counts once. -/
mutual
def uptoBulk {H : Type} : DataW H → Nat
  | .lit (.string bytes) => bytes.length + 1
  | .lit _ => 1
  | .nil => 1
  | .ptr d => uptoBulk d + 1
  | .slice elems spare => uptoBulkAll elems + uptoBulkAll spare + 1
  | .agg parts => uptoBulkAll parts + 1
  | .iface _ d => uptoBulk d + 1
  | .map entries => uptoBulkEntries entries + 1
  | .held _ => 1
def uptoBulkAll {H : Type} : List (DataW H) → Nat
  | [] => 0
  | d :: r => uptoBulk d + uptoBulkAll r
def uptoBulkEntries {H : Type} : List (Lit × DataW H) → Nat
  | [] => 0
  | x :: r => uptoBulkEntry x + uptoBulkEntries r
def uptoBulkEntry {H : Type} : Lit × DataW H → Nat
  | (.string bytes, d) => bytes.length + uptoBulk d + 1
  | (_, d) => uptoBulk d + 1
 end
def uptoSmall : (H : Type) → List (DataW H) → Bool := fun _ ds => decide (uptoBulkAll ds ≤ 1048576)
def OpenSpec.upto (s : _root_.Go.ChangeSpec) : _root_.Go.OpenSpec := { _root_.Go.OpenSpec.ofChange s with cond := some uptoSmall }

/-- 'proofmarklaw24.CubeCovers', WHERE WHAT IT READS IS OF BULK AT MOST 1048576: true; the input reads as it did. -/
def cubeCoversUptoRow : OpenClaim := { program := "ytcnjjmnjnpoklaa", sum := "a71c13cdb90efc99957aa4116d588b74d2758c72441215016cb0c0f9f9d5e9fe", func := "proofmark/proofmarklaw24.CubeCovers", spec := "cubeCovers", unfollowed := true, recurses := true, apart := false, narrowed := true }
def CubeCoversUptoSaid : Prop := cubeCoversUptoRow.holds Try.pinned (OpenSpec.upto cubeCoversSpec)

/-- 'proofmarklaw24.CubeClause', WHERE WHAT IT READS IS OF BULK AT MOST 1048576: true; the input reads as it did. -/
def cubeClauseUptoRow : OpenClaim := { program := "ytcnjjmnjnpoklaa", sum := "a71c13cdb90efc99957aa4116d588b74d2758c72441215016cb0c0f9f9d5e9fe", func := "proofmark/proofmarklaw24.CubeClause", spec := "cubeClause", unfollowed := true, recurses := true, apart := false, narrowed := true }
def CubeClauseUptoSaid : Prop := cubeClauseUptoRow.holds Try.pinned (OpenSpec.upto cubeClauseSpec)

/-- 'proofmarklaw24.CubeNorm', WHERE WHAT IT READS IS OF BULK AT MOST 1048576: true; the input reads as it did. -/
def cubeNormUptoRow : OpenClaim := { program := "ytcnjjmnjnpoklaa", sum := "a71c13cdb90efc99957aa4116d588b74d2758c72441215016cb0c0f9f9d5e9fe", func := "proofmark/proofmarklaw24.CubeNorm", spec := "cubeNorm", unfollowed := true, recurses := true, apart := false, narrowed := true }
def CubeNormUptoSaid : Prop := cubeNormUptoRow.holds Try.pinned (OpenSpec.upto cubeNormSpec)

end Rows
end Go.Proofs.Ytcnjjmnjnpoklaa
