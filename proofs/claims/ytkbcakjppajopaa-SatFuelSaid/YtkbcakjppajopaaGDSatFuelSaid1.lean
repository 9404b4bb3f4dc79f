/- The texts LFuel, RowSatFuel, one behind the other. -/
import Derived.Test.YtkbcakjppajopaaGC2
import Derived.Test.YtkbcakjppajopaaRows
set_option linter.unusedVariables false
set_option linter.unusedSimpArgs false
section
/- The pure claim of SatFuel. -/
set_option linter.unusedVariables false
set_option linter.unusedSimpArgs false
namespace GoSx
open Go
abbrev XFuel := (Int × Int) × (Int × Int × Int × Bool × Int) × List (List Int) × List (List Int) × List Int × List Int × List Int × List Int × List Int × List Int × List Int × List Int × List (List Int) × List Int × List Bool
def fuelX (r n : Int) (s : Sol) : XFuel := ((r, n), (s.vars, s.cold, s.done, s.empty, s.answer), s.all, s.watch, s.is, s.depth, s.why, s.old, s.hot, s.warm, s.row, s.begin, s.proof, s.core, s.model)
set_option maxHeartbeats 2000000 in
theorem satFuel_pure (l : List (List Int)) (assume : List Int) : SatFuel l assume = some ((true, ()), (), ()) := by
  suffices hs : Runs (SatFuel l assume) (fun o => o = ((true, ()), (), ())) by
    obtain ⟨_, e, rfl⟩ := hs; exact e
  obtain ⟨c, ec, hc⟩ := rSmalls_ok l
  obtain ⟨a, ea, ha⟩ := rCut_ok (l := assume) (k := 12) (by omega) (by omega)
  obtain ⟨x, ex, hxl, hx⟩ := rSmall_ok (c := a) (by omega)
  obtain ⟨s, es, id, hv, hp⟩ := small_made hc
  have hcl := hc.1
  have hp0 : s.proof.length = 0 := by rw [hp]; rfl
  obtain ⟨rf, s3, rf1, pf, qf⟩ := ask8 id (by omega) (x := x) 6561 (by omega) (by omega)
  have hxv : ∀ y ∈ x, lit s.vars y := by rw [hv]; exact hx
  have f3 : rf ≠ 3 := fun h => by have := qf h; omega
  obtain ⟨r1, s1, r11, p1, q1⟩ := ask8 id (by omega) (x := x) 1 (by omega) (by omega)
  have h38 : (3 : Nat) ^ (Int.toNat 8) = 6561 := by decide
  unfold SatFuel SatFuelF
  refine Runs.bind head_ok (Runs.bind ec (Runs.bind ea (Runs.bind ex (Runs.bind es (Runs.bind es (Runs.bind rFuel_ok (Runs.bind rf1 (Runs.bind r11 ?_))))))))
  simp only [cond_t, cond_f]
  refine Runs.iter (fun X : XFuel => ∃ (r n : Int) (t : Sol), X = fuelX r n t ∧ 0 ≤ n ∧ n ≤ 6561 ∧ Idle c t ∧ t.vars = 8 ∧ (r = 3 → (t.proof.length : Int) = n + 1) ∧ (r ≠ 3 → r = rf)) (fun X => (6562 - X.1.2).toNat) ?_ ⟨r1, 0, s1, rfl, by omega, by omega, p1.id, by rw [p1.va]; exact hv, fun h => by have := (p1.u3 h).2.1; omega, fun h => answers_same p1 pf hxv hxv h f3 Iff.rfl⟩ (fuelN_gt (by dsimp only; omega))
  rintro _ ⟨r, n, t, rfl, n0, n1, idt, tv, hr3, hrn⟩
  have hpl := proof_len idt
  rw [tv, h38] at hpl
  have hf12 : rf = 1 ∨ rf = 2 := by
    have := pf.rr; have := (pf.truth hxv).1; omega
  dsimp only [fuelX]
  refine Runs.bind rFuel_ok ?_
  dsimp only
  have out : r ≠ 3 → ∀ (Q : XFuel → Prop) m, Runs (bif r == rf then bif r == 1 then some (Sum.inr ((true, ()), (), ())) else some (Sum.inr ((r == 2, ()), (), ())) else some (Sum.inr ((false, ()), (), ())) : Option (XFuel ⊕ ((Bool × Unit) × Unit × Unit))) (Stp Q (fun o => o = ((true, ()), (), ())) m (fuelX r n t)) := by
    intro h Q m
    have e := hrn h
    subst e
    refine Runs.eqI (fun _ => ?_) (fun h2 => absurd rfl h2)
    refine Runs.eqI (fun _ => Runs.ret rfl) (fun h1 => Runs.ret ?_)
    have : r = 2 := by omega
    rw [this]; rfl
  refine Runs.dec (fun hn => ?_) (fun hn => ?_)
  · refine Runs.eqI (fun h3 => ?_) (fun h3 => out h3 _ _)
    obtain ⟨r2, t2, e2, p2, q2⟩ := ask8 idt (by omega) (x := x) 1 (by omega) (by omega)
    have htv : ∀ y ∈ x, lit t.vars y := by rw [tv]; exact hx
    refine Runs.bind e2 (Runs.inK ⟨by omega, by omega⟩ (Runs.ret ⟨⟨r2, n + 1, t2, rfl, by omega, by omega, p2.id, by rw [p2.va]; exact tv, fun h => ?_, fun h => ?_⟩, by dsimp only [fuelX]; omega⟩))
    · have := (p2.u3 h).2.1; have := hr3 h3; omega
    · exact answers_same p2 pf htv hxv h f3 (by rw [tv, hv])
  · refine out (fun h3 => ?_) _ _
    have := hr3 h3; omega
theorem satFuel_pure_fit (x : (inTy [.sl ints, ints]).den) (h : inFit [.sl ints, ints] x) : SatFuel x.1 x.2.1 = some ((true, ()), (), ()) := satFuel_pure _ _
end GoSx
end
section
/- The row of SatFuel: whatever the input, it returns true, and the input reads as it did. -/
namespace Go.Proofs.Ytkbcakjppajopaa
open Go GoSx Go.ChangeShapes Go.WideShapes Go.ChangeAt Go.RowKit

theorem Try.own : ownKnob Try.prog.godebug = none := by kernel_rfl
theorem Try.laidOut : laidOutB Try.prog = true := by kernel_rfl

theorem satFuel_run (x : (inTy [.sl ints, ints]).den) (hx : inFit [.sl ints, ints] x) : ∃ o, ((SatFuel_s.summ fun xa xo => GoSx.SatFuel xa.1 xa.2.1) (inAV [.sl ints, ints] x) 64).run (fun _ => .none) = some o ∧ o.obls = [] ∧ o.res = .dat .bool true := by
  have e : ((SatFuel_s.summ fun xa xo => GoSx.SatFuel xa.1 xa.2.1) (inAV [.sl ints, ints] x) 64).run (fun _ => .none) =
      (match GoSx.SatFuel x.1 x.2.1 with
        | some y => some ⟨[], .dat .bool y.1.1, []⟩
        | Option.none => Option.none) := by kernel_rfl
  rw [GoSx.satFuel_pure_fit x hx] at e
  exact ⟨_, e, rfl, rfl⟩

theorem satFuel_lifted (os : Os) (started : os.Started) (H : Type) (enc : TypeId × Value → H) :
    ReturnsInHanded {} Try.checked os 8 .any (Rows.satFuelSpec.pre6 enc Try.prog Try.f8 Rows.satFuelRow.domain false) (Rows.satFuelSpec.post enc Try.prog Try.f8 false true false false) :=
  law_lifted (C := Try.checked) (Ts := [.sl ints, ints]) (tb := 4) Try.own started (by kernel_rfl) Try.func8
    (ChangeSpec.witness6 (enc := enc) (C := Try.checked) false ⟨#[], #[.slice none 0 0, .slice none 0 0], []⟩ 8 (by kernel_rfl) (by kernel_rfl) (by kernel_rfl) (by kernel_rfl))
    Try.laidOut rfl (fun ds h => by match ds, h with | [a, b], _ => rfl) (by kernel_rfl) (by kernel_rfl) (by kernel_rfl) (summ_at T_SatSame_ok 8 (S := SatFuel_s.summ fun xa xo => GoSx.SatFuel xa.1 xa.2.1) (by kernel_rfl)) satFuel_run

theorem satFuel_holds : Rows.SatFuelSaid :=
  OpenClaim.holds_of_wide 8 Try.f8 rfl rfl rfl rfl rfl rfl rfl ⟨rfl, rfl, rfl, rfl, rfl⟩ rfl rfl rfl rfl rfl (by kernel_rfl) Try.func8 (by kernel_rfl)
    (of_decide_eq_true (by kernel_rfl)) (by unfold Func.isWrapper; first | (rw [if_pos (by decide +kernel)]; kernel_rfl) | (rw [if_neg (by decide +kernel)]; exact ⟨rfl, rfl⟩))
    (fun os started H enc _ => satFuel_lifted os started H enc)
end Go.Proofs.Ytkbcakjppajopaa
end
