/- CertTraceSaid: whatever the input, the law returns true, and the input reads as it did. Conditions: none. (The texts RowCertTrace, one behind the other.) -/
import Derived.Test.YtjoemkjibcfgnaaGreatGC1
import Derived.Test.YtjoemkjibcfgnaaGreatRows
set_option linter.unusedVariables false
set_option linter.unusedSimpArgs false
section
/- The row of CertTrace: whatever the input, it returns true, and the input reads as it did. -/
namespace Go.Proofs.YtjoemkjibcfgnaaGreat
open Go GoSx Go.ChangeShapes Go.WideShapes Go.ChangeAt Go.RowKit

theorem Tryz.own : ownKnob Tryz.prog.godebug = none := by kernel_rfl
theorem Tryz.laidOut : laidOutB Tryz.prog = true := by kernel_rfl

theorem certTrace_run (x : (inTy [netN, .int .u8, .sl (.sl (.int .u16)), .int .u16]).den) (hx : inFit [netN, .int .u8, .sl (.sl (.int .u16)), .int .u16] x) : ∃ o, ((CertTrace_s.summ fun xa xo => GoSx.CertTrace xa.1.1 xa.1.2.1 xa.1.2.2.1 xa.1.2.2.2.1 xa.1.2.2.2.2.1 xa.2.1 xa.2.2.1 xa.2.2.2.1) (inAV [netN, .int .u8, .sl (.sl (.int .u16)), .int .u16] x) 64).run (fun _ => .none) = some o ∧ o.obls = [] ∧ o.res = .dat .bool true := by
  have e : ((CertTrace_s.summ fun xa xo => GoSx.CertTrace xa.1.1 xa.1.2.1 xa.1.2.2.1 xa.1.2.2.2.1 xa.1.2.2.2.2.1 xa.2.1 xa.2.2.1 xa.2.2.2.1) (inAV [netN, .int .u8, .sl (.sl (.int .u16)), .int .u16] x) 64).run (fun _ => .none) =
      (match GoSx.CertTrace x.1.1 x.1.2.1 x.1.2.2.1 x.1.2.2.2.1 x.1.2.2.2.2.1 x.2.1 x.2.2.1 x.2.2.2.1 with
        | some y => some ⟨[], .dat .bool y.1.1, []⟩
        | Option.none => Option.none) := by kernel_rfl
  rw [GoSx.certTrace_pure_fit x hx] at e
  exact ⟨_, e, rfl, rfl⟩

theorem certTrace_lifted (os : Os) (started : os.Started) (H : Type) (enc : TypeId × Value → H) :
    ReturnsInHanded {} Tryz.checked os 3 .any (Rows.certTraceSpec.pre6 enc Tryz.prog Tryz.f3 Rows.certTraceRow.domain false) (Rows.certTraceSpec.post enc Tryz.prog Tryz.f3 false true false false) :=
  law_lifted (C := Tryz.checked) (Ts := [netN, .int .u8, .sl (.sl (.int .u16)), .int .u16]) (tb := 4) Tryz.own started (by kernel_rfl) Tryz.func3
    (ChangeSpec.witness6 (enc := enc) (C := Tryz.checked) false ⟨#[], #[.agg #[.slice none 0 0, .slice none 0 0, .slice none 0 0, .slice none 0 0, .slice none 0 0], .int .u8 0, .slice none 0 0, .int .u16 0], []⟩ 8 (by kernel_rfl) (by kernel_rfl) (by kernel_rfl) (by kernel_rfl))
    Tryz.laidOut rfl (fun ds h => by match ds, h with | [a, b, c, d], _ => rfl) (by kernel_rfl) (by kernel_rfl) (by kernel_rfl) (summ_at T_CertTrace_ok 3 (S := CertTrace_s.summ fun xa xo => GoSx.CertTrace xa.1.1 xa.1.2.1 xa.1.2.2.1 xa.1.2.2.2.1 xa.1.2.2.2.2.1 xa.2.1 xa.2.2.1 xa.2.2.2.1) (by kernel_rfl)) certTrace_run

theorem certTrace_holds : Rows.CertTraceSaid :=
  OpenClaim.holds_of_wide 3 Tryz.f3 rfl rfl rfl rfl rfl rfl rfl ⟨rfl, rfl, rfl, rfl, rfl⟩ rfl rfl rfl rfl rfl (by kernel_rfl) Tryz.func3 (by kernel_rfl)
    (of_decide_eq_true (by kernel_rfl)) (by unfold Func.isWrapper; first | (rw [if_pos (by decide +kernel)]; kernel_rfl) | (rw [if_neg (by decide +kernel)]; exact ⟨rfl, rfl⟩))
    (fun os started H enc _ => certTrace_lifted os started H enc)
end Go.Proofs.YtjoemkjibcfgnaaGreat
end
