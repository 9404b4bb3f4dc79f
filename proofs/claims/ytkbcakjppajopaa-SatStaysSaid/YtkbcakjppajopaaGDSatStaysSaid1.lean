/- The texts LStays, RowSatStays, one behind the other. -/
import Derived.Test.YtkbcakjppajopaaGC2
import Derived.Test.YtkbcakjppajopaaRows
set_option linter.unusedVariables false
set_option linter.unusedSimpArgs false
section
/- The pure claim of SatStays. -/
set_option linter.unusedVariables false
set_option linter.unusedSimpArgs false
namespace GoSx
open Go
abbrev XStay := Int × (Int × Int × Int × Bool × Int) × List (List Int) × List (List Int) × List Int × List Int × List Int × List Int × List Int × List Int × List Int × List Int × List (List Int) × List Int × List Bool
def stayX (i : Int) (s : Sol) : XStay := (i, (s.vars, s.cold, s.done, s.empty, s.answer), s.all, s.watch, s.is, s.depth, s.why, s.old, s.hot, s.warm, s.row, s.begin, s.proof, s.core, s.model)
theorem add_keeps {G : List (List Int)} {s s' : Sol} {c : List Int} (p : AddPost G s s' c) : s'.hot = s.hot ∧ s'.warm = s.warm ∧ s'.proof = s.proof := ⟨p.ht, p.wm, p.pf⟩
set_option maxHeartbeats 2000000 in
theorem satStays_pure (l asked : List (List Int)) (fl assume : List Int) : SatStays l asked fl assume = some ((true, ()), (), ()) := by
  suffices hs : Runs (SatStays l asked fl assume) (fun o => o = ((true, ()), (), ())) by
    obtain ⟨_, e, rfl⟩ := hs; exact e
  obtain ⟨c, ec, hc⟩ := rSmalls_ok l
  obtain ⟨more, em, hmo⟩ := rSmalls_ok asked
  obtain ⟨a, ea, ha⟩ := rCut_ok (l := assume) (k := 12) (by omega) (by omega)
  obtain ⟨x, ex, hxl, hx⟩ := rSmall_ok (c := a) (by omega)
  obtain ⟨s, es, id, hv, hp⟩ := small_made hc
  obtain ⟨t0, et, it, vt, pt, _, _, _⟩ := new_ok (n := 8) 8 (by decide)
  have hcl := hc.1
  have hG : c.length + s.proof.length ≤ 4294967296 := by rw [hp]; simp only [List.length_nil]; omega
  obtain ⟨rf, s3, rf1, pf, qf⟩ := ask8 id (by omega) (x := x) 6561 (by omega) hG
  have hxv : ∀ y ∈ x, lit s.vars y := by rw [hv]; exact hx
  have f3 : rf ≠ 3 := fun h => by have := qf h; omega
  unfold SatStays SatStaysF
  refine Runs.bind head_ok (Runs.bind ec (Runs.bind ea (Runs.bind ex (Runs.bind em (Runs.bind es (Runs.bind et ?_))))))
  simp only [cond_t, cond_f]
  refine Runs.iter (fun X : XStay => ∃ (i : Int) (t : Sol), X = stayX i t ∧ 0 ≤ i ∧ i ≤ c.length ∧ Idle (c.take i.toNat) t ∧ t.vars = 8 ∧ t.proof.length ≤ 6561 * i) (fun X => ((c.length : Int) - X.1).toNat) ?_ ⟨0, t0, rfl, by omega, by omega, by simpa using it, vt, by rw [pt]; simp⟩ (fuelN_gt (by dsimp only; omega))
  rintro _ ⟨i, t, rfl, i0, i1, idt, tv, tp⟩
  have htl : (c.take i.toNat).length ≤ 40 := by rw [List.length_take]; omega
  dsimp only [stayX]
  refine Runs.dec (fun hi => ?_) (fun hi => ?_)
  · simp only [nI] at hi
    have hcm := hc.2 _ (getL_mem i0 hi)
    obtain ⟨t', e', ap⟩ := add_ok idt (c := getL c i) (by omega) (by omega) (by have := hcm.1; omega)
    have id' : Idle (c.take (i + 1).toNat) t' := by rw [take_getL i0 hi]; exact ap.idy (by rw [tv]; exact hcm.2)
    have hht := ap.ht; have hwm := ap.wm; have hpf := ap.pf
    have hva := ap.va
    refine Runs.gd i0 (Runs.gd (by simp only [nI]; omega) (Runs.bind e' ?_))
    dsimp only [Sol.addT]
    have plain : ∀ Q : ((Bool × Unit) × Unit × Unit) → Prop, Runs (gd (inK IntKind.i64 (i + 1)) (some (Sum.inl (i + 1, (t'.vars, t'.cold, t'.done, t'.empty, t'.answer), t'.all, t'.watch, t'.is, t'.depth, t'.why, t'.old, t.hot, t.warm, t'.row, t'.begin, t.proof, t'.core, t'.model))) : Option (XStay ⊕ ((Bool × Unit) × Unit × Unit)))
        (Stp (fun X : XStay => ∃ (i : Int) (t : Sol), X = stayX i t ∧ 0 ≤ i ∧ i ≤ c.length ∧ Idle (c.take i.toNat) t ∧ t.vars = 8 ∧ t.proof.length ≤ 6561 * i) Q (fun X => ((c.length : Int) - X.1).toNat) (stayX i t)) := by
      intro Q
      rw [← hht, ← hwm, ← hpf]
      exact Runs.inK ⟨by omega, by omega⟩ (Runs.ret ⟨⟨i + 1, t', rfl, by omega, by omega, id', by rw [hva]; exact tv, by rw [hpf]; omega⟩, by dsimp only [stayX]; omega⟩)
    refine Runs.dec (fun h1 => ?_) (fun h1 => plain _)
    refine Runs.dec (fun h2 => ?_) (fun h2 => plain _)
    have hta : (c.take (i + 1).toNat).length ≤ 40 := by rw [List.length_take]; omega
    have hmm := (hmo.2 _ (getL_mem i0 (by simpa only [nI] using h1))).1
    obtain ⟨r, t'', er, pr, _⟩ := ask8 id' (by rw [hva]; omega) (x := getL more i) (IntKind.i64.wrap (get (Ty.int IntKind.u8) fl i)) (by omega) (by rw [hpf]; omega)
    rw [hht, hwm, hpf] at er
    refine Runs.gd i0 (Runs.gd (by omega) (Runs.gd i0 (Runs.gd (by omega) (Runs.bind er ?_))))
    have h2 := pr.pl.2
    exact Runs.inK ⟨by omega, by omega⟩ (Runs.ret ⟨⟨i + 1, t'', rfl, by omega, by omega, pr.id, by rw [pr.va, hva]; exact tv, by rw [hpf] at h2; omega⟩, by dsimp only [stayX]; omega⟩)
  · simp only [nI] at hi
    have e : i.toNat = c.length := by omega
    rw [e, List.take_length] at idt
    obtain ⟨rt, t3, rt1, pt3, qt⟩ := ask8 idt (by omega) (x := x) 6561 (by omega) (by omega)
    refine Runs.bind rFuel_ok (Runs.bind rf1 (Runs.bind rFuel_ok (Runs.bind rt1 (Runs.ret ?_))))
    have : rf = rt := answers_same pf pt3 hxv (by rw [tv]; exact hx) f3 (fun h => by have := qt h; omega) (by rw [hv, tv])
    show _ = _
    rw [this, beq_self_eq_true]
theorem satStays_pure_fit (x : (inTy [.sl ints, .sl ints, .sl (.int .u8), ints]).den) (h : inFit [.sl ints, .sl ints, .sl (.int .u8), ints] x) : SatStays x.1 x.2.1 x.2.2.1 x.2.2.2.1 = some ((true, ()), (), ()) := satStays_pure _ _ _ _
end GoSx
end
section
/- The row of SatStays: whatever the input, it returns true, and the input reads as it did. -/
namespace Go.Proofs.Ytkbcakjppajopaa
open Go GoSx Go.ChangeShapes Go.WideShapes Go.ChangeAt Go.RowKit

theorem Try.own : ownKnob Try.prog.godebug = none := by kernel_rfl
theorem Try.laidOut : laidOutB Try.prog = true := by kernel_rfl

theorem satStays_run (x : (inTy [.sl ints, .sl ints, .sl (.int .u8), ints]).den) (hx : inFit [.sl ints, .sl ints, .sl (.int .u8), ints] x) : ∃ o, ((SatStays_s.summ fun xa xo => GoSx.SatStays xa.1 xa.2.1 xa.2.2.1 xa.2.2.2.1) (inAV [.sl ints, .sl ints, .sl (.int .u8), ints] x) 64).run (fun _ => .none) = some o ∧ o.obls = [] ∧ o.res = .dat .bool true := by
  have e : ((SatStays_s.summ fun xa xo => GoSx.SatStays xa.1 xa.2.1 xa.2.2.1 xa.2.2.2.1) (inAV [.sl ints, .sl ints, .sl (.int .u8), ints] x) 64).run (fun _ => .none) =
      (match GoSx.SatStays x.1 x.2.1 x.2.2.1 x.2.2.2.1 with
        | some y => some ⟨[], .dat .bool y.1.1, []⟩
        | Option.none => Option.none) := by kernel_rfl
  rw [GoSx.satStays_pure_fit x hx] at e
  exact ⟨_, e, rfl, rfl⟩

theorem satStays_lifted (os : Os) (started : os.Started) (H : Type) (enc : TypeId × Value → H) :
    ReturnsInHanded {} Try.checked os 7 .any (Rows.satStaysSpec.pre6 enc Try.prog Try.f7 Rows.satStaysRow.domain false) (Rows.satStaysSpec.post enc Try.prog Try.f7 false true false false) :=
  law_lifted (C := Try.checked) (Ts := [.sl ints, .sl ints, .sl (.int .u8), ints]) (tb := 4) Try.own started (by kernel_rfl) Try.func7
    (ChangeSpec.witness6 (enc := enc) (C := Try.checked) false ⟨#[], #[.slice none 0 0, .slice none 0 0, .slice none 0 0, .slice none 0 0], []⟩ 8 (by kernel_rfl) (by kernel_rfl) (by kernel_rfl) (by kernel_rfl))
    Try.laidOut rfl (fun ds h => by match ds, h with | [a, b, c, d], _ => rfl) (by kernel_rfl) (by kernel_rfl) (by kernel_rfl) (summ_at T_SatSame_ok 7 (S := SatStays_s.summ fun xa xo => GoSx.SatStays xa.1 xa.2.1 xa.2.2.1 xa.2.2.2.1) (by kernel_rfl)) satStays_run

theorem satStays_holds : Rows.SatStaysSaid :=
  OpenClaim.holds_of_wide 7 Try.f7 rfl rfl rfl rfl rfl rfl rfl ⟨rfl, rfl, rfl, rfl, rfl⟩ rfl rfl rfl rfl rfl (by kernel_rfl) Try.func7 (by kernel_rfl)
    (of_decide_eq_true (by kernel_rfl)) (by unfold Func.isWrapper; first | (rw [if_pos (by decide +kernel)]; kernel_rfl) | (rw [if_neg (by decide +kernel)]; exact ⟨rfl, rfl⟩))
    (fun os started H enc _ => satStays_lifted os started H enc)
end Go.Proofs.Ytkbcakjppajopaa
end
