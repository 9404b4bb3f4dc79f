/- The texts PTm, RowSatMeets, one behind the other. -/
import Derived.Test.YtkbcakjppajopaaGC2
import Derived.Test.YtkbcakjppajopaaRows
set_option linter.unusedVariables false
set_option linter.unusedSimpArgs false
section
/- The pure claim of SatMeets, over what fits. -/
namespace GoSx
open Go
theorem satMeets_pure_fit (x : (inTy [.sl ints, ints]).den) (_ : inFit [.sl ints, ints] x) : SatMeets x.1 x.2.1 = some ((true, ()), (), ()) := satMeets_pure x.1 x.2.1
end GoSx
end
section
/- The row of SatMeets: whatever the input, it returns true, and the input reads as it did. -/
namespace Go.Proofs.Ytkbcakjppajopaa
open Go GoSx Go.ChangeShapes Go.WideShapes Go.ChangeAt Go.RowKit

theorem Try.own : ownKnob Try.prog.godebug = none := by kernel_rfl
theorem Try.laidOut : laidOutB Try.prog = true := by kernel_rfl

theorem satMeets_run (x : (inTy [.sl ints, ints]).den) (hx : inFit [.sl ints, ints] x) : ∃ o, ((SatMeets_s.summ fun xa xo => GoSx.SatMeets xa.1 xa.2.1) (inAV [.sl ints, ints] x) 64).run (fun _ => .none) = some o ∧ o.obls = [] ∧ o.res = .dat .bool true := by
  have e : ((SatMeets_s.summ fun xa xo => GoSx.SatMeets xa.1 xa.2.1) (inAV [.sl ints, ints] x) 64).run (fun _ => .none) =
      (match GoSx.SatMeets x.1 x.2.1 with
        | some y => some ⟨[], .dat .bool y.1.1, []⟩
        | Option.none => Option.none) := by kernel_rfl
  rw [GoSx.satMeets_pure_fit x hx] at e
  exact ⟨_, e, rfl, rfl⟩

theorem satMeets_lifted (os : Os) (started : os.Started) (H : Type) (enc : TypeId × Value → H) :
    ReturnsInHanded {} Try.checked os 4 .any (Rows.satMeetsSpec.pre6 enc Try.prog Try.f4 Rows.satMeetsRow.domain false) (Rows.satMeetsSpec.post enc Try.prog Try.f4 false true false false) :=
  law_lifted (C := Try.checked) (Ts := [.sl ints, ints]) (tb := 4) Try.own started (by kernel_rfl) Try.func4
    (ChangeSpec.witness6 (enc := enc) (C := Try.checked) false ⟨#[], #[.slice none 0 0, .slice none 0 0], []⟩ 8 (by kernel_rfl) (by kernel_rfl) (by kernel_rfl) (by kernel_rfl))
    Try.laidOut rfl (fun ds h => by match ds, h with | [a, b], _ => rfl) (by kernel_rfl) (by kernel_rfl) (by kernel_rfl) (summ_at T_SatSame_ok 4 (S := SatMeets_s.summ fun xa xo => GoSx.SatMeets xa.1 xa.2.1) (by kernel_rfl)) satMeets_run

theorem satMeets_holds : Rows.SatMeetsSaid :=
  OpenClaim.holds_of_wide 4 Try.f4 rfl rfl rfl rfl rfl rfl rfl ⟨rfl, rfl, rfl, rfl, rfl⟩ rfl rfl rfl rfl rfl (by kernel_rfl) Try.func4 (by kernel_rfl)
    (of_decide_eq_true (by kernel_rfl)) (by unfold Func.isWrapper; first | (rw [if_pos (by decide +kernel)]; kernel_rfl) | (rw [if_neg (by decide +kernel)]; exact ⟨rfl, rfl⟩))
    (fun os started H enc _ => satMeets_lifted os started H enc)
end Go.Proofs.Ytkbcakjppajopaa
end
