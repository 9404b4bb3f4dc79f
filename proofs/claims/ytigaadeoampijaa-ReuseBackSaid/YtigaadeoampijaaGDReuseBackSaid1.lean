/- ReuseBackSaid: whatever the input, the law returns true, and the input reads as it did. Conditions: none. (The texts RowReuseBack, one behind the other.) -/
import Derived.Test.YtigaadeoampijaaGC1
import Derived.Test.YtigaadeoampijaaRows
set_option linter.unusedVariables false
set_option linter.unusedSimpArgs false
section
/- The row of ReuseBack: whatever the input, it returns true, and the input reads as it did. -/
namespace Go.Proofs.Ytigaadeoampijaa
open Go GoSx Go.ChangeShapes Go.WideShapes Go.ChangeAt Go.RowKit

theorem Try.own : ownKnob Try.prog.godebug = none := by kernel_rfl
theorem Try.laidOut : laidOutB Try.prog = true := by kernel_rfl

theorem reuseBack_run (x : (inTy [.sl .str, circN, .sl .str, circN, .sl ints]).den) (hx : inFit [.sl .str, circN, .sl .str, circN, .sl ints] x) : ∃ o, ((ReuseBack_s.summ fun xa xo => GoSx.ReuseBack xa.1 xa.2.1.1 xa.2.1.2.1 xa.2.1.2.2.1 xa.2.1.2.2.2.1 xa.2.1.2.2.2.2.1 xa.2.2.1 xa.2.2.2.1.1 xa.2.2.2.1.2.1 xa.2.2.2.1.2.2.1 xa.2.2.2.1.2.2.2.1 xa.2.2.2.1.2.2.2.2.1 xa.2.2.2.2.1) (inAV [.sl .str, circN, .sl .str, circN, .sl ints] x) 64).run (fun _ => .none) = some o ∧ o.obls = [] ∧ o.res = .dat .bool true := by
  have e : ((ReuseBack_s.summ fun xa xo => GoSx.ReuseBack xa.1 xa.2.1.1 xa.2.1.2.1 xa.2.1.2.2.1 xa.2.1.2.2.2.1 xa.2.1.2.2.2.2.1 xa.2.2.1 xa.2.2.2.1.1 xa.2.2.2.1.2.1 xa.2.2.2.1.2.2.1 xa.2.2.2.1.2.2.2.1 xa.2.2.2.1.2.2.2.2.1 xa.2.2.2.2.1) (inAV [.sl .str, circN, .sl .str, circN, .sl ints] x) 64).run (fun _ => .none) =
      (match GoSx.ReuseBack x.1 x.2.1.1 x.2.1.2.1 x.2.1.2.2.1 x.2.1.2.2.2.1 x.2.1.2.2.2.2.1 x.2.2.1 x.2.2.2.1.1 x.2.2.2.1.2.1 x.2.2.2.1.2.2.1 x.2.2.2.1.2.2.2.1 x.2.2.2.1.2.2.2.2.1 x.2.2.2.2.1 with
        | some y => some ⟨[], .dat .bool y.1.1, []⟩
        | Option.none => Option.none) := by kernel_rfl
  rw [GoSx.reuseBack_pure_fit x hx] at e
  exact ⟨_, e, rfl, rfl⟩

theorem reuseBack_lifted (os : Os) (started : os.Started) (H : Type) (enc : TypeId × Value → H) :
    ReturnsInHanded {} Try.checked os 4 .any (Rows.reuseBackSpec.pre6 enc Try.prog Try.f4 Rows.reuseBackRow.domain false) (Rows.reuseBackSpec.post enc Try.prog Try.f4 false true false false) :=
  law_lifted (C := Try.checked) (Ts := [.sl .str, circN, .sl .str, circN, .sl ints]) (tb := 4) Try.own started (by kernel_rfl) Try.func4
    (ChangeSpec.witness6 (enc := enc) (C := Try.checked) false ⟨#[], #[.slice none 0 0, .agg #[.int .i64 0, .slice none 0 0, .slice none 0 0, .slice none 0 0, .slice none 0 0], .slice none 0 0, .agg #[.int .i64 0, .slice none 0 0, .slice none 0 0, .slice none 0 0, .slice none 0 0], .slice none 0 0], []⟩ 8 (by kernel_rfl) (by kernel_rfl) (by kernel_rfl) (by kernel_rfl))
    Try.laidOut rfl (fun ds h => by match ds, h with | [a, b, c, d, e], _ => rfl) (by kernel_rfl) (by kernel_rfl) (by kernel_rfl) (summ_at T_ReuseBack_ok 4 (S := ReuseBack_s.summ fun xa xo => GoSx.ReuseBack xa.1 xa.2.1.1 xa.2.1.2.1 xa.2.1.2.2.1 xa.2.1.2.2.2.1 xa.2.1.2.2.2.2.1 xa.2.2.1 xa.2.2.2.1.1 xa.2.2.2.1.2.1 xa.2.2.2.1.2.2.1 xa.2.2.2.1.2.2.2.1 xa.2.2.2.1.2.2.2.2.1 xa.2.2.2.2.1) (by kernel_rfl)) reuseBack_run

theorem reuseBack_holds : Rows.ReuseBackSaid :=
  OpenClaim.holds_of_wide 4 Try.f4 rfl rfl rfl rfl rfl rfl rfl ⟨rfl, rfl, rfl, rfl, rfl⟩ rfl rfl rfl rfl rfl (by kernel_rfl) Try.func4 (by kernel_rfl)
    (of_decide_eq_true (by kernel_rfl)) (by unfold Func.isWrapper; first | (rw [if_pos (by decide +kernel)]; kernel_rfl) | (rw [if_neg (by decide +kernel)]; exact ⟨rfl, rfl⟩))
    (fun os started H enc _ => reuseBack_lifted os started H enc)
end Go.Proofs.Ytigaadeoampijaa
end
