/- The texts LMore, RowSatMore, one behind the other. -/
import Derived.Test.YtkbcakjppajopaaGC2
import Derived.Test.YtkbcakjppajopaaRows
set_option linter.unusedVariables false
set_option linter.unusedSimpArgs false
section
/- The pure claim of SatMore. -/
set_option linter.unusedVariables false
set_option linter.unusedSimpArgs false
namespace GoSx
open Go
theorem iterO_more {X R : Type} {b b' : X → Option (X ⊕ R)} (P : R → Prop) (h : ∀ x o, b x = some o → (∃ r, o = .inr r ∧ P r) ∨ b' x = some o) : ∀ n x r, iterO b n x = some r → P r ∨ iterO b' n x = some r := by
  intro n
  induction n with
  | zero => intro x r e; cases e
  | succ n ih =>
    intro x r e
    unfold iterO at e ⊢
    cases hb : b x with
    | none => rw [hb] at e; cases e
    | some o =>
      rw [hb] at e
      rcases h x o hb with ⟨q, rfl, hp⟩ | h2
      · injection e with e; subst e; exact .inl hp
      · rw [h2]
        cases o with
        | inl y => exact ih y r e
        | inr q => exact .inr e
set_option maxHeartbeats 2000000 in
/-- With more fuel an answer stays. -/
theorem search_more {assume : List Int} {f f' vars : Int} {all watch : List (List Int)} {is depth why old hot warm : List Int} {cold : Int} {row begin : List Int} {done : Int} {empty : Bool} {proof : List (List Int)} {core : List Int} {o : SearchOut} (h0 : 0 ≤ f) (hf : f ≤ f')
    (h : search assume f vars all watch is depth why old hot warm cold row begin done empty proof core = some o) : o.1.1 = 3 ∨ search assume f' vars all watch is depth why old hot warm cold row begin done empty proof core = some o := by
  unfold search searchF at h ⊢
  refine iterO_more (fun o : SearchOut => o.1.1 = 3) ?_ fuelN _ o h
  intro y0 q hq
  cases hu : unit y0.2.2.1 y0.2.2.2.1 y0.2.2.2.2.1 y0.2.2.2.2.2.1 y0.2.2.2.2.2.2.1 y0.2.2.2.2.2.2.2.2.2.2.1 y0.2.2.2.2.2.2.2.2.2.2.2.1 y0.2.1.2.2.1 with
  | none => rw [hu] at hq; cases hq
  | some y1 =>
    rw [hu, bindO_some] at hq
    rw [bindO_some]
    cases hr : y1.1.1 != -1 with
    | false => rw [hr, cond_f] at hq; rw [cond_f]; exact .inr hq
    | true =>
      rw [hr, cond_t] at hq
      rw [cond_t]
      cases hb : nI y0.2.2.2.2.2.2.2.2.2.2.2.1.length == 0 with
      | true => rw [hb, cond_t] at hq; rw [cond_t]; exact .inr hq
      | false =>
        rw [hb, cond_f, cond_dec, if_pos (by omega), cond_t, cond_dec] at hq
        rw [cond_f, cond_dec, if_pos (by omega), cond_t, cond_dec]
        by_cases hs : y0.1 ≥ f
        · rw [if_pos hs] at hq
          injection hq with hq
          exact .inl ⟨_, hq.symm, rfl⟩
        · rw [if_neg hs] at hq
          rw [if_neg (by omega)]
          exact .inr hq
set_option maxHeartbeats 2000000 in
theorem ask_more {G : List (List Int)} {s : Sol} (h : Idle G s) {x : List Int} {f f' : Int} (h0 : 0 ≤ f) (hf : f ≤ f') (hv : s.vars ≤ 8) (hx : x.length ≤ 4398046511104) (hG : G.length + s.proof.length ≤ 4294967296) {r r' : Int} {s1 s2 : Sol}
    (e : Ask x f s.vars s.all s.watch s.is s.depth s.why s.old s.hot s.warm s.cold s.row s.begin s.done s.empty s.proof s.answer s.core s.model = some ((r, ()), (s1.tup, ()), ()))
    (e' : Ask x f' s.vars s.all s.watch s.is s.depth s.why s.old s.hot s.warm s.cold s.row s.begin s.done s.empty s.proof s.answer s.core s.model = some ((r', ()), (s2.tup, ()), ())) (hr : r ≠ 3) : r' = r := by
  have hN0 := h.tr.n0
  obtain ⟨b, eo, hb⟩ := own_ok (l := x) hN0 (by omega) (by omega)
  have eb : back 0 s.is s.old s.cold s.row s.begin s.done = some ((), ((s.is, s.old, s.cold, s.row, s.begin, s.done, ()), ()), ()) := back_none (by rw [h.bg]; simp)
  unfold Ask AskF forget at e e'
  rw [bindO_some] at e e'
  simp only [eo, bindO_some, eb] at e e'
  cases b with
  | false => simp only [Bool.not_false, cond_t] at e e'; rw [e] at e'; injection e' with e'; injection e' with e' _; injection e' with e' _; exact e'.symm
  | true =>
    simp only [Bool.not_true, cond_f] at e e'
    cases hem : s.empty with
    | true =>
      simp only [hem, Bool.not_true, cond_f] at e e'
      rw [e] at e'; injection e' with e'; injection e' with e' _; injection e' with e' _; exact e'.symm
    | false =>
      simp only [hem, Bool.not_false, cond_t] at e e'
      cases hse : search x f s.vars s.all s.watch s.is s.depth s.why s.old s.hot s.warm s.cold s.row s.begin s.done false s.proof [] with
      | none => rw [hse] at e; cases e
      | some o =>
        rcases search_more h0 hf hse with h3 | hse'
        · exfalso
          rw [hse, bindO_some, joinO_inl] at e
          dsimp only at e
          rw [h3] at e
          apply hr
          rw [cond_eqI, if_neg (by omega), cond_eqI, if_neg (by omega)] at e
          cases hbk : back 0 o.2.1.1.2.2.2.1 o.2.1.1.2.2.2.2.2.2.1 o.2.1.1.2.2.2.2.2.2.2.2.2.1 o.2.1.1.2.2.2.2.2.2.2.2.2.2.1 o.2.1.1.2.2.2.2.2.2.2.2.2.2.2.1 o.2.1.1.2.2.2.2.2.2.2.2.2.2.2.2.1 with
          | none => rw [hbk] at e; cases e
          | some y4 =>
            rw [hbk, bindO_some] at e
            injection e with e
            injection e with e _
            injection e with e _
            exact e.symm
        · rw [hse] at e
          rw [hse', e] at e'
          injection e' with e'; injection e' with e' _; injection e' with e' _; exact e'.symm
set_option maxHeartbeats 2000000 in
theorem satMore_pure (l : List (List Int)) (assume : List Int) (few more : Int) (hf : 0 ≤ few ∧ few ≤ 255) (hm : 0 ≤ more ∧ more ≤ 255) : SatMore l assume few more = some ((true, ()), (), ()) := by
  suffices hs : Runs (SatMore l assume few more) (fun o => o = ((true, ()), (), ())) by
    obtain ⟨_, e, rfl⟩ := hs; exact e
  obtain ⟨c, ec, hc⟩ := rSmalls_ok l
  obtain ⟨a, ea, ha⟩ := rCut_ok (l := assume) (k := 12) (by omega) (by omega)
  obtain ⟨x, ex, hxl, hx⟩ := rSmall_ok (c := a) (by omega)
  obtain ⟨s, es, id, hv, hp⟩ := small_made hc
  have hcl := hc.1
  have hG : c.length + s.proof.length ≤ 4294967296 := by rw [hp]; simp only [List.length_nil]; omega
  have wf : IntKind.i64.wrap few = few := by rw [IntKind.wrap_i64]; omega
  have wm : IntKind.i64.wrap more = more := by rw [IntKind.wrap_i64]; omega
  obtain ⟨ra, s1, ra1, pa, qa⟩ := ask8 id (by omega) (x := x) few (by omega) hG
  obtain ⟨rb, s2, rb1, pb, qb⟩ := ask8 id (by omega) (x := x) (few + more) (by omega) hG
  obtain ⟨rf, s3, rf1, pf, qf⟩ := ask8 id (by omega) (x := x) 6561 (by omega) hG
  obtain ⟨rw', s4, rw1, pw, qw⟩ := ask8 id (by omega) (x := x) (0 - more - 1) (by omega) hG
  have hxv : ∀ y ∈ x, lit s.vars y := by rw [hv]; exact hx
  have f3 : rf ≠ 3 := fun h => by have := qf h; omega
  have w3 : rw' ≠ 3 := fun h => by have := qw h; omega
  have ea2 : ra ≠ 3 → ra = rf := fun h => answers_same pa pf hxv hxv h f3 Iff.rfl
  have eb2 : rb ≠ 3 → rb = rf := fun h => answers_same pb pf hxv hxv h f3 Iff.rfl
  have eab : ra ≠ 3 → rb = ra := fun h => ask_more id hf.1 (by omega) (by omega) (by omega) hG ra1 rb1 h
  have ew2 : rw' = rf := answers_same pw pf hxv hxv w3 f3 Iff.rfl
  unfold SatMore SatMoreF
  rw [wf, wm]
  refine Runs.bind head_ok (Runs.bind ec (Runs.bind ea (Runs.bind ex (Runs.bind es (Runs.bind es (Runs.bind es (Runs.bind es (Runs.bind ra1 (Runs.inK ⟨by omega, by omega⟩ (Runs.bind rb1 (Runs.bind rFuel_ok (Runs.bind rf1 ?_))))))))))))
  simp only [cond_t, cond_f]
  have fin : Runs (gd (inK IntKind.i64 (0 - more)) <| gd (inK IntKind.i64 (0 - more - 1)) <| bindO (Ask x (0 - more - 1) s.vars s.all s.watch s.is s.depth s.why s.old s.hot s.warm s.cold s.row s.begin s.done s.empty s.proof s.answer s.core s.model) fun y12 => some ((y12.1.1 == rf, ()), (), ())) (fun o : (Bool × Unit) × Unit × Unit => o = ((true, ()), (), ())) := by
    refine Runs.inK ⟨by omega, by omega⟩ (Runs.inK ⟨by omega, by omega⟩ (Runs.bind rw1 (Runs.ret ?_)))
    dsimp only
    rw [ew2, beq_self_eq_true]
  repeat' (first | refine Runs.eqI (fun h => ?_) (fun h => ?_) | refine Runs.neI (fun h => ?_) (fun h => ?_))
  all_goals first | exact fin | (exfalso; omega)
theorem satMore_pure_fit (x : (inTy [.sl ints, ints, .int .u8, .int .u8]).den) (h : inFit [.sl ints, ints, .int .u8, .int .u8] x) : SatMore x.1 x.2.1 x.2.2.1 x.2.2.2.1 = some ((true, ()), (), ()) := by
  obtain ⟨_, _, h3, h4, _⟩ := h
  exact satMore_pure _ _ _ _ h3 h4
end GoSx
end
section
/- The row of SatMore: whatever the input, it returns true, and the input reads as it did. -/
namespace Go.Proofs.Ytkbcakjppajopaa
open Go GoSx Go.ChangeShapes Go.WideShapes Go.ChangeAt Go.RowKit

theorem Try.own : ownKnob Try.prog.godebug = none := by kernel_rfl
theorem Try.laidOut : laidOutB Try.prog = true := by kernel_rfl

theorem satMore_run (x : (inTy [.sl ints, ints, .int .u8, .int .u8]).den) (hx : inFit [.sl ints, ints, .int .u8, .int .u8] x) : ∃ o, ((SatMore_s.summ fun xa xo => GoSx.SatMore xa.1 xa.2.1 xa.2.2.1 xa.2.2.2.1) (inAV [.sl ints, ints, .int .u8, .int .u8] x) 64).run (fun _ => .none) = some o ∧ o.obls = [] ∧ o.res = .dat .bool true := by
  have e : ((SatMore_s.summ fun xa xo => GoSx.SatMore xa.1 xa.2.1 xa.2.2.1 xa.2.2.2.1) (inAV [.sl ints, ints, .int .u8, .int .u8] x) 64).run (fun _ => .none) =
      (match GoSx.SatMore x.1 x.2.1 x.2.2.1 x.2.2.2.1 with
        | some y => some ⟨[], .dat .bool y.1.1, []⟩
        | Option.none => Option.none) := by kernel_rfl
  rw [GoSx.satMore_pure_fit x hx] at e
  exact ⟨_, e, rfl, rfl⟩

theorem satMore_lifted (os : Os) (started : os.Started) (H : Type) (enc : TypeId × Value → H) :
    ReturnsInHanded {} Try.checked os 9 .any (Rows.satMoreSpec.pre6 enc Try.prog Try.f9 Rows.satMoreRow.domain false) (Rows.satMoreSpec.post enc Try.prog Try.f9 false true false false) :=
  law_lifted (C := Try.checked) (Ts := [.sl ints, ints, .int .u8, .int .u8]) (tb := 4) Try.own started (by kernel_rfl) Try.func9
    (ChangeSpec.witness6 (enc := enc) (C := Try.checked) false ⟨#[], #[.slice none 0 0, .slice none 0 0, .int .u8 0, .int .u8 0], []⟩ 8 (by kernel_rfl) (by kernel_rfl) (by kernel_rfl) (by kernel_rfl))
    Try.laidOut rfl (fun ds h => by match ds, h with | [a, b, c, d], _ => rfl) (by kernel_rfl) (by kernel_rfl) (by kernel_rfl) (summ_at T_SatSame_ok 9 (S := SatMore_s.summ fun xa xo => GoSx.SatMore xa.1 xa.2.1 xa.2.2.1 xa.2.2.2.1) (by kernel_rfl)) satMore_run

theorem satMore_holds : Rows.SatMoreSaid :=
  OpenClaim.holds_of_wide 9 Try.f9 rfl rfl rfl rfl rfl rfl rfl ⟨rfl, rfl, rfl, rfl, rfl⟩ rfl rfl rfl rfl rfl (by kernel_rfl) Try.func9 (by kernel_rfl)
    (of_decide_eq_true (by kernel_rfl)) (by unfold Func.isWrapper; first | (rw [if_pos (by decide +kernel)]; kernel_rfl) | (rw [if_neg (by decide +kernel)]; exact ⟨rfl, rfl⟩))
    (fun os started H enc _ => satMore_lifted os started H enc)
end Go.Proofs.Ytkbcakjppajopaa
end
