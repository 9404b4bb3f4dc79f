/-
  No cell of these rows narrows 'for every input' (looked for: loops, veiled, ifaces, maps, wideKeys, modest, calm, conditions, laid).
  DERIVED. THE GIVEN ROWS OF THIS SEAT. 9 by the template 'for every input the law returns true; each argument reads behind the call as it read before'; 0 by the template 'total and deterministic' (their statements: YtkbcakjppajopaaTotals.lean).
  GIVEN WITH THE SEED: the statements are not yours to turn. If you find one false, say at which input.
  Laid BY PROGRAM, IN A SANDBOX (cutbox-rows.mjs): the forced cells as the released guide's own fill.sh prints them over the translation 56ff452621a3fc7c… (all of the seat's roots in one cut). By AI agents, Wed Nov 11 2026. No macro, syntax, notation, axiom, sorry.
-/
import Derived.Test.YtkbcakjppajopaaChecked
import GoSem.Claim
import GoSem.ClaimJoined
import GoSem.ClaimMapViews
import Derived.JoinedTies
import Derived.KernelRfl
namespace Go.Proofs.Ytkbcakjppajopaa
/- THE CELL 'sum', in the pinned program and in every row, IS THE sha256 OF THE DUMP (.gsa) THAT YtkbcakjppajopaaProg.lean LOADS. Nothing in Lean hashes anything: it is a label: what it is worth is what the hold of that sum in a sandbox is worth. -/
noncomputable def Try.pinned : Pinned := { name := "ytkbcakjppajopaa", sum := "56ff452621a3fc7caf2c73dc18435303df8ebae0f4b95c78200ed42ea5e83d83", checked := Try.checked }
namespace Rows
def none {H : Type} : Left H := { results := [], args := [] }

/-- 'proofmarklaw19.SatTells': WHATEVER THE INPUT: true; the input reads as it did. -/
def satTellsSpec : ChangeSpec := { name := "satTells", fn := fun _ => fun
  | [d1, d2] => { results := [.lit (.bool true)], args := [d1, d2] }
  | _ => none }
def satTellsRow : OpenClaim := { program := "ytkbcakjppajopaa", sum := "56ff452621a3fc7caf2c73dc18435303df8ebae0f4b95c78200ed42ea5e83d83", func := "proofmark/proofmarklaw19.SatTells", spec := "satTells", unfollowed := true, recurses := true, apart := false }
def SatTellsSaid : Prop := satTellsRow.holds Try.pinned (OpenSpec.ofChange satTellsSpec)

/-- ITS FALSE NEIGHBOUR: 'it returns false'. Refute it at one input. -/
def satTellsWrong : ChangeSpec := { name := "satTells", fn := fun _ => fun
  | [d1, d2] => { results := [.lit (.bool false)], args := [d1, d2] }
  | _ => none }
def SatTellsWrongFalsely : Prop := satTellsRow.holds Try.pinned (OpenSpec.ofChange satTellsWrong)

/-- 'proofmarklaw19.SatMeets': WHATEVER THE INPUT: true; the input reads as it did. -/
def satMeetsSpec : ChangeSpec := { name := "satMeets", fn := fun _ => fun
  | [d1, d2] => { results := [.lit (.bool true)], args := [d1, d2] }
  | _ => none }
def satMeetsRow : OpenClaim := { program := "ytkbcakjppajopaa", sum := "56ff452621a3fc7caf2c73dc18435303df8ebae0f4b95c78200ed42ea5e83d83", func := "proofmark/proofmarklaw19.SatMeets", spec := "satMeets", unfollowed := true, recurses := true, apart := false }
def SatMeetsSaid : Prop := satMeetsRow.holds Try.pinned (OpenSpec.ofChange satMeetsSpec)

/-- ITS FALSE NEIGHBOUR: 'it returns false'. Refute it at one input. -/
def satMeetsWrong : ChangeSpec := { name := "satMeets", fn := fun _ => fun
  | [d1, d2] => { results := [.lit (.bool false)], args := [d1, d2] }
  | _ => none }
def SatMeetsWrongFalsely : Prop := satMeetsRow.holds Try.pinned (OpenSpec.ofChange satMeetsWrong)

/-- 'proofmarklaw19.SatCore': WHATEVER THE INPUT: true; the input reads as it did. -/
def satCoreSpec : ChangeSpec := { name := "satCore", fn := fun _ => fun
  | [d1, d2] => { results := [.lit (.bool true)], args := [d1, d2] }
  | _ => none }
def satCoreRow : OpenClaim := { program := "ytkbcakjppajopaa", sum := "56ff452621a3fc7caf2c73dc18435303df8ebae0f4b95c78200ed42ea5e83d83", func := "proofmark/proofmarklaw19.SatCore", spec := "satCore", unfollowed := true, recurses := true, apart := false }
def SatCoreSaid : Prop := satCoreRow.holds Try.pinned (OpenSpec.ofChange satCoreSpec)

/-- ITS FALSE NEIGHBOUR: 'it returns false'. Refute it at one input. -/
def satCoreWrong : ChangeSpec := { name := "satCore", fn := fun _ => fun
  | [d1, d2] => { results := [.lit (.bool false)], args := [d1, d2] }
  | _ => none }
def SatCoreWrongFalsely : Prop := satCoreRow.holds Try.pinned (OpenSpec.ofChange satCoreWrong)

/-- 'proofmarklaw19.SatProof': WHATEVER THE INPUT: true; the input reads as it did. -/
def satProofSpec : ChangeSpec := { name := "satProof", fn := fun _ => fun
  | [d1, d2, d3] => { results := [.lit (.bool true)], args := [d1, d2, d3] }
  | _ => none }
def satProofRow : OpenClaim := { program := "ytkbcakjppajopaa", sum := "56ff452621a3fc7caf2c73dc18435303df8ebae0f4b95c78200ed42ea5e83d83", func := "proofmark/proofmarklaw19.SatProof", spec := "satProof", unfollowed := true, recurses := true, apart := false }
def SatProofSaid : Prop := satProofRow.holds Try.pinned (OpenSpec.ofChange satProofSpec)

/-- ITS FALSE NEIGHBOUR: 'it returns false'. Refute it at one input. -/
def satProofWrong : ChangeSpec := { name := "satProof", fn := fun _ => fun
  | [d1, d2, d3] => { results := [.lit (.bool false)], args := [d1, d2, d3] }
  | _ => none }
def SatProofWrongFalsely : Prop := satProofRow.holds Try.pinned (OpenSpec.ofChange satProofWrong)

/-- 'proofmarklaw19.SatStays': WHATEVER THE INPUT: true; the input reads as it did. -/
def satStaysSpec : ChangeSpec := { name := "satStays", fn := fun _ => fun
  | [d1, d2, d3, d4] => { results := [.lit (.bool true)], args := [d1, d2, d3, d4] }
  | _ => none }
def satStaysRow : OpenClaim := { program := "ytkbcakjppajopaa", sum := "56ff452621a3fc7caf2c73dc18435303df8ebae0f4b95c78200ed42ea5e83d83", func := "proofmark/proofmarklaw19.SatStays", spec := "satStays", unfollowed := true, recurses := true, apart := false }
def SatStaysSaid : Prop := satStaysRow.holds Try.pinned (OpenSpec.ofChange satStaysSpec)

/-- ITS FALSE NEIGHBOUR: 'it returns false'. Refute it at one input. -/
def satStaysWrong : ChangeSpec := { name := "satStays", fn := fun _ => fun
  | [d1, d2, d3, d4] => { results := [.lit (.bool false)], args := [d1, d2, d3, d4] }
  | _ => none }
def SatStaysWrongFalsely : Prop := satStaysRow.holds Try.pinned (OpenSpec.ofChange satStaysWrong)

/-- 'proofmarklaw19.SatFuel': WHATEVER THE INPUT: true; the input reads as it did. -/
def satFuelSpec : ChangeSpec := { name := "satFuel", fn := fun _ => fun
  | [d1, d2] => { results := [.lit (.bool true)], args := [d1, d2] }
  | _ => none }
def satFuelRow : OpenClaim := { program := "ytkbcakjppajopaa", sum := "56ff452621a3fc7caf2c73dc18435303df8ebae0f4b95c78200ed42ea5e83d83", func := "proofmark/proofmarklaw19.SatFuel", spec := "satFuel", unfollowed := true, recurses := true, apart := false }
def SatFuelSaid : Prop := satFuelRow.holds Try.pinned (OpenSpec.ofChange satFuelSpec)

/-- ITS FALSE NEIGHBOUR: 'it returns false'. Refute it at one input. -/
def satFuelWrong : ChangeSpec := { name := "satFuel", fn := fun _ => fun
  | [d1, d2] => { results := [.lit (.bool false)], args := [d1, d2] }
  | _ => none }
def SatFuelWrongFalsely : Prop := satFuelRow.holds Try.pinned (OpenSpec.ofChange satFuelWrong)

/-- 'proofmarklaw19.SatMore': WHATEVER THE INPUT: true; the input reads as it did. -/
def satMoreSpec : ChangeSpec := { name := "satMore", fn := fun _ => fun
  | [d1, d2, d3, d4] => { results := [.lit (.bool true)], args := [d1, d2, d3, d4] }
  | _ => none }
def satMoreRow : OpenClaim := { program := "ytkbcakjppajopaa", sum := "56ff452621a3fc7caf2c73dc18435303df8ebae0f4b95c78200ed42ea5e83d83", func := "proofmark/proofmarklaw19.SatMore", spec := "satMore", unfollowed := true, recurses := true, apart := false }
def SatMoreSaid : Prop := satMoreRow.holds Try.pinned (OpenSpec.ofChange satMoreSpec)

/-- ITS FALSE NEIGHBOUR: 'it returns false'. Refute it at one input. -/
def satMoreWrong : ChangeSpec := { name := "satMore", fn := fun _ => fun
  | [d1, d2, d3, d4] => { results := [.lit (.bool false)], args := [d1, d2, d3, d4] }
  | _ => none }
def SatMoreWrongFalsely : Prop := satMoreRow.holds Try.pinned (OpenSpec.ofChange satMoreWrong)

/-- 'proofmarklaw19.SatSame': WHATEVER THE INPUT: true; the input reads as it did. -/
def satSameSpec : ChangeSpec := { name := "satSame", fn := fun _ => fun
  | [d1, d2] => { results := [.lit (.bool true)], args := [d1, d2] }
  | _ => none }
def satSameRow : OpenClaim := { program := "ytkbcakjppajopaa", sum := "56ff452621a3fc7caf2c73dc18435303df8ebae0f4b95c78200ed42ea5e83d83", func := "proofmark/proofmarklaw19.SatSame", spec := "satSame", unfollowed := true, recurses := true, apart := false }
def SatSameSaid : Prop := satSameRow.holds Try.pinned (OpenSpec.ofChange satSameSpec)

/-- ITS FALSE NEIGHBOUR: 'it returns false'. Refute it at one input. -/
def satSameWrong : ChangeSpec := { name := "satSame", fn := fun _ => fun
  | [d1, d2] => { results := [.lit (.bool false)], args := [d1, d2] }
  | _ => none }
def SatSameWrongFalsely : Prop := satSameRow.holds Try.pinned (OpenSpec.ofChange satSameWrong)

/-- 'proofmarklaw19.SatOrder': WHATEVER THE INPUT: true; the input reads as it did. -/
def satOrderSpec : ChangeSpec := { name := "satOrder", fn := fun _ => fun
  | [d1, d2, d3] => { results := [.lit (.bool true)], args := [d1, d2, d3] }
  | _ => none }
def satOrderRow : OpenClaim := { program := "ytkbcakjppajopaa", sum := "56ff452621a3fc7caf2c73dc18435303df8ebae0f4b95c78200ed42ea5e83d83", func := "proofmark/proofmarklaw19.SatOrder", spec := "satOrder", unfollowed := true, recurses := true, apart := false }
def SatOrderSaid : Prop := satOrderRow.holds Try.pinned (OpenSpec.ofChange satOrderSpec)

/-- ITS FALSE NEIGHBOUR: 'it returns false'. Refute it at one input. -/
def satOrderWrong : ChangeSpec := { name := "satOrder", fn := fun _ => fun
  | [d1, d2, d3] => { results := [.lit (.bool false)], args := [d1, d2, d3] }
  | _ => none }
def SatOrderWrongFalsely : Prop := satOrderRow.holds Try.pinned (OpenSpec.ofChange satOrderWrong)

/- THE SECOND FORM. 'bulk': how many values and letters a reading holds, each counted each time it is reached (what is shared counts as often as it is met; a slice's spare places count too). A statement '..UptoSaid' is the law's where the arguments, and the package variables that the reading takes, are together of bulk at most 1048576: NARROWER than '..Said'. Prove '..Said' where nothing that the law and all that it calls make is longer than what came in: it says more and counts as full. Else prove '..UptoSaid'. A law counts once. -/
mutual
def uptoBulk {H : Type} : DataW H → Nat
  | .lit (.string bytes) => bytes.length + 1
  | .lit _ => 1
  | .nil => 1
  | .ptr d => uptoBulk d + 1
  | .slice elems spare => uptoBulkAll elems + uptoBulkAll spare + 1
  | .agg parts => uptoBulkAll parts + 1
  | .iface _ d => uptoBulk d + 1
  | .map entries => uptoBulkEntries entries + 1
  | .held _ => 1
def uptoBulkAll {H : Type} : List (DataW H) → Nat
  | [] => 0
  | d :: r => uptoBulk d + uptoBulkAll r
def uptoBulkEntries {H : Type} : List (Lit × DataW H) → Nat
  | [] => 0
  | x :: r => uptoBulkEntry x + uptoBulkEntries r
def uptoBulkEntry {H : Type} : Lit × DataW H → Nat
  | (.string bytes, d) => bytes.length + uptoBulk d + 1
  | (_, d) => uptoBulk d + 1
 end
def uptoSmall : (H : Type) → List (DataW H) → Bool := fun _ ds => decide (uptoBulkAll ds ≤ 1048576)
def OpenSpec.upto (s : _root_.Go.ChangeSpec) : _root_.Go.OpenSpec := { _root_.Go.OpenSpec.ofChange s with cond := some uptoSmall }

/-- 'proofmarklaw19.SatTells', WHERE WHAT IT READS IS OF BULK AT MOST 1048576: true; the input reads as it did. -/
def satTellsUptoRow : OpenClaim := { program := "ytkbcakjppajopaa", sum := "56ff452621a3fc7caf2c73dc18435303df8ebae0f4b95c78200ed42ea5e83d83", func := "proofmark/proofmarklaw19.SatTells", spec := "satTells", unfollowed := true, recurses := true, apart := false, narrowed := true }
def SatTellsUptoSaid : Prop := satTellsUptoRow.holds Try.pinned (OpenSpec.upto satTellsSpec)

/-- 'proofmarklaw19.SatMeets', WHERE WHAT IT READS IS OF BULK AT MOST 1048576: true; the input reads as it did. -/
def satMeetsUptoRow : OpenClaim := { program := "ytkbcakjppajopaa", sum := "56ff452621a3fc7caf2c73dc18435303df8ebae0f4b95c78200ed42ea5e83d83", func := "proofmark/proofmarklaw19.SatMeets", spec := "satMeets", unfollowed := true, recurses := true, apart := false, narrowed := true }
def SatMeetsUptoSaid : Prop := satMeetsUptoRow.holds Try.pinned (OpenSpec.upto satMeetsSpec)

/-- 'proofmarklaw19.SatCore', WHERE WHAT IT READS IS OF BULK AT MOST 1048576: true; the input reads as it did. -/
def satCoreUptoRow : OpenClaim := { program := "ytkbcakjppajopaa", sum := "56ff452621a3fc7caf2c73dc18435303df8ebae0f4b95c78200ed42ea5e83d83", func := "proofmark/proofmarklaw19.SatCore", spec := "satCore", unfollowed := true, recurses := true, apart := false, narrowed := true }
def SatCoreUptoSaid : Prop := satCoreUptoRow.holds Try.pinned (OpenSpec.upto satCoreSpec)

/-- 'proofmarklaw19.SatProof', WHERE WHAT IT READS IS OF BULK AT MOST 1048576: true; the input reads as it did. -/
def satProofUptoRow : OpenClaim := { program := "ytkbcakjppajopaa", sum := "56ff452621a3fc7caf2c73dc18435303df8ebae0f4b95c78200ed42ea5e83d83", func := "proofmark/proofmarklaw19.SatProof", spec := "satProof", unfollowed := true, recurses := true, apart := false, narrowed := true }
def SatProofUptoSaid : Prop := satProofUptoRow.holds Try.pinned (OpenSpec.upto satProofSpec)

/-- 'proofmarklaw19.SatStays', WHERE WHAT IT READS IS OF BULK AT MOST 1048576: true; the input reads as it did. -/
def satStaysUptoRow : OpenClaim := { program := "ytkbcakjppajopaa", sum := "56ff452621a3fc7caf2c73dc18435303df8ebae0f4b95c78200ed42ea5e83d83", func := "proofmark/proofmarklaw19.SatStays", spec := "satStays", unfollowed := true, recurses := true, apart := false, narrowed := true }
def SatStaysUptoSaid : Prop := satStaysUptoRow.holds Try.pinned (OpenSpec.upto satStaysSpec)

/-- 'proofmarklaw19.SatFuel', WHERE WHAT IT READS IS OF BULK AT MOST 1048576: true; the input reads as it did. -/
def satFuelUptoRow : OpenClaim := { program := "ytkbcakjppajopaa", sum := "56ff452621a3fc7caf2c73dc18435303df8ebae0f4b95c78200ed42ea5e83d83", func := "proofmark/proofmarklaw19.SatFuel", spec := "satFuel", unfollowed := true, recurses := true, apart := false, narrowed := true }
def SatFuelUptoSaid : Prop := satFuelUptoRow.holds Try.pinned (OpenSpec.upto satFuelSpec)

/-- 'proofmarklaw19.SatMore', WHERE WHAT IT READS IS OF BULK AT MOST 1048576: true; the input reads as it did. -/
def satMoreUptoRow : OpenClaim := { program := "ytkbcakjppajopaa", sum := "56ff452621a3fc7caf2c73dc18435303df8ebae0f4b95c78200ed42ea5e83d83", func := "proofmark/proofmarklaw19.SatMore", spec := "satMore", unfollowed := true, recurses := true, apart := false, narrowed := true }
def SatMoreUptoSaid : Prop := satMoreUptoRow.holds Try.pinned (OpenSpec.upto satMoreSpec)

/-- 'proofmarklaw19.SatSame', WHERE WHAT IT READS IS OF BULK AT MOST 1048576: true; the input reads as it did. -/
def satSameUptoRow : OpenClaim := { program := "ytkbcakjppajopaa", sum := "56ff452621a3fc7caf2c73dc18435303df8ebae0f4b95c78200ed42ea5e83d83", func := "proofmark/proofmarklaw19.SatSame", spec := "satSame", unfollowed := true, recurses := true, apart := false, narrowed := true }
def SatSameUptoSaid : Prop := satSameUptoRow.holds Try.pinned (OpenSpec.upto satSameSpec)

/-- 'proofmarklaw19.SatOrder', WHERE WHAT IT READS IS OF BULK AT MOST 1048576: true; the input reads as it did. -/
def satOrderUptoRow : OpenClaim := { program := "ytkbcakjppajopaa", sum := "56ff452621a3fc7caf2c73dc18435303df8ebae0f4b95c78200ed42ea5e83d83", func := "proofmark/proofmarklaw19.SatOrder", spec := "satOrder", unfollowed := true, recurses := true, apart := false, narrowed := true }
def SatOrderUptoSaid : Prop := satOrderUptoRow.holds Try.pinned (OpenSpec.upto satOrderSpec)

end Rows
end Go.Proofs.Ytkbcakjppajopaa
