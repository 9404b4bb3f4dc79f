/- The texts LCore, RowSatCore, one behind the other. -/
import Derived.Test.YtkbcakjppajopaaGC2
import Derived.Test.YtkbcakjppajopaaRows
set_option linter.unusedVariables false
set_option linter.unusedSimpArgs false
section
/- The pure claim of SatCore. -/
set_option linter.unusedVariables false
set_option linter.unusedSimpArgs false
namespace GoSx
open Go
/-- Where those stand that are told: in order, each where it first stands. -/
theorem dedup_pos {out : List Int} {l : List Int} : ∀ (n : Nat), n ≤ l.length → (dedup out (l.take n)).Nodup ∧ ∀ i : Int, 0 ≤ i → i < (dedup out (l.take n)).length → ∃ p : Int, 0 ≤ p ∧ p < n ∧ getI l p = getI (dedup out (l.take n)) i ∧ getI (dedup out (l.take n)) i ∉ l.take p.toNat ∧ ∀ j : Int, 0 ≤ j → j < i → getI (dedup out (l.take n)) j ∈ l.take p.toNat := by
  intro n
  induction n with
  | zero =>
    intro _
    refine ⟨by simp [dedup], fun i a b => ?_⟩
    simp [dedup] at b
    omega
  | succ n ih =>
    intro hn
    obtain ⟨h1, h2⟩ := ih (by omega)
    have st := dedup_step (out := out) (l := l) (i := n) (by omega) (by omega)
    rw [show ((n : Int) + 1).toNat = n + 1 by omega, show (n : Int).toNat = n by omega] at st
    rw [st]
    split
    · rename_i hc
      refine ⟨?_, fun i a b => ?_⟩
      · rw [List.nodup_append]
        refine ⟨h1, by simp, fun u hu v hv e => ?_⟩
        rw [List.mem_singleton] at hv
        subst hv; subst e
        exact hc.2 hu
      · rw [List.length_append, List.length_singleton] at b
        by_cases e : i = (dedup out (l.take n)).length
        · have gi : getI (dedup out (l.take n) ++ [getI l n]) i = getI l n := by rw [getI_push a (by omega), if_pos e]
          rw [gi]
          have hnin : getI l n ∉ l.take n := fun hm => hc.2 ((dedup_mem _ _).mpr ⟨hm, hc.1⟩)
          refine ⟨n, by omega, by omega, rfl, by rw [show (n : Int).toNat = n by omega]; exact hnin, fun j j0 j1 => ?_⟩
          rw [getI_push j0 (by omega), if_neg (by omega), show (n : Int).toNat = n by omega]
          exact ((dedup_mem _ _).mp (getI_mem j0 (by omega))).1
        · have gi : ∀ j : Int, 0 ≤ j → j < (dedup out (l.take n)).length → getI (dedup out (l.take n) ++ [getI l n]) j = getI (dedup out (l.take n)) j := fun j x y => by rw [getI_push x (by omega), if_neg (by omega)]
          obtain ⟨p, p0, p1, p2, p3, p4⟩ := h2 i a (by omega)
          rw [gi i a (by omega)]
          exact ⟨p, p0, by omega, p2, p3, fun j x y => by rw [gi j x (by omega)]; exact p4 j x y⟩
    · refine ⟨h1, fun i a b => ?_⟩
      obtain ⟨p, p0, p1, p2, p3, p4⟩ := h2 i a b
      exact ⟨p, p0, by omega, p2, p3, p4⟩
theorem mem_takeI {l : List Int} {p : Int} {x : Int} (h0 : 0 ≤ p) (h1 : p ≤ l.length) : x ∈ l.take p.toNat ↔ ∃ q : Int, 0 ≤ q ∧ q < p ∧ getI l q = x := by
  constructor
  · intro h
    obtain ⟨q, q0, q1, q2⟩ := mem_getI h
    rw [List.length_take] at q1
    rw [getI_take q0 (by omega)] at q2
    exact ⟨q, q0, by omega, q2⟩
  · rintro ⟨q, q0, q1, rfl⟩
    rw [← getI_take (n := p.toNat) q0 (by omega)]
    exact getI_mem q0 (by rw [List.length_take]; omega)
set_option maxHeartbeats 2000000 in
theorem satCore_pure (l : List (List Int)) (assume : List Int) : SatCore l assume = some ((true, ()), (), ()) := by
  suffices hs : Runs (SatCore l assume) (fun o => o = ((true, ()), (), ())) by
    obtain ⟨_, e, rfl⟩ := hs; exact e
  obtain ⟨c, ec, hc⟩ := rSmalls_ok l
  obtain ⟨a, ea, ha⟩ := rCut_ok (l := assume) (k := 12) (by omega) (by omega)
  obtain ⟨x, ex, hxl, hx⟩ := rSmall_ok (c := a) (by omega)
  obtain ⟨s, es, id, hv, hp⟩ := small_made hc
  have hcl := hc.1
  have hp0 : s.proof.length = 0 := by rw [hp]; rfl
  obtain ⟨r, s', er, p, q⟩ := ask8 id (by omega) (x := x) 6561 (by omega) (by omega)
  have hxv : ∀ y ∈ x, lit s.vars y := by rw [hv]; exact hx
  have r3 : r ≠ 3 := fun h => by have := q h; omega
  have r0 := (p.truth hxv).1
  unfold SatCore SatCoreF
  refine Runs.bind head_ok (Runs.bind ec (Runs.bind ea (Runs.bind ex (Runs.bind es (Runs.bind rFuel_ok (Runs.bind er ?_))))))
  simp only [cond_t, cond_f]
  dsimp only [Sol.tup]
  refine Runs.neI (fun h2 => ?_) (fun h2 => ?_)
  · refine Runs.ret ?_
    have : r = 1 := by have := p.rr; omega
    rw [this]; rfl
  obtain ⟨out, eco, hno⟩ := p.c2 h2
  have hcol := dedup_len (out := out) x
  rw [← eco] at hcol
  refine Runs.bind (Core_ok (by omega)) ?_
  dsimp only
  have dp := dedup_pos (out := out) (l := x) x.length (Nat.le_refl _)
  rw [List.take_length, ← eco] at dp
  obtain ⟨hnd, hpos⟩ := dp
  generalize hco : s'.core = co at *
  refine Runs.iter (fun X : Int × Int => 0 ≤ X.2 ∧ X.2 ≤ co.length ∧ 0 ≤ X.1 ∧ X.1 ≤ x.length ∧ (X.2 = 0 ∧ X.1 = 0 ∨ 1 ≤ X.2 ∧ getI co (X.2 - 1) ∉ x.take X.1.toNat)) (fun X => ((co.length : Int) - X.2).toNat) ?_ ⟨by dsimp only; omega, by dsimp only; omega, by dsimp only; omega, by dsimp only; omega, .inl ⟨rfl, rfl⟩⟩ (fuelN_gt (by dsimp only; omega))
  rintro ⟨at_', i⟩ ⟨i0, i1, a0, a1, hi⟩
  dsimp only at i0 i1 a0 a1 hi ⊢
  refine Runs.dec (fun hic => ?_) (fun hic => ?_)
  · simp only [nI] at hic
    obtain ⟨pp, p0, p1, p2, p3, p4⟩ := hpos i i0 hic
    have hap : at_' ≤ pp := by
      rcases hi with ⟨_, h⟩ | ⟨h1, h2⟩
      · omega
      · have := p4 (i - 1) (by omega) (by omega)
        rw [mem_takeI p0 (by omega)] at this
        obtain ⟨q, q0, q1, q2⟩ := this
        rw [mem_takeI a0 a1] at h2
        rcases Int.lt_or_le pp at_' with h | h
        · exact absurd ⟨q, q0, by omega, q2⟩ h2
        · exact h
    refine Runs.iter (fun z : Int => 0 ≤ z ∧ z ≤ pp) (fun z => (pp - z).toNat) ?_ ⟨a0, hap⟩ (fuelN_gt (by omega))
    rintro z ⟨z0, z1⟩
    refine Runs.dec (fun hz => ?_) (fun hz => by simp only [nI] at hz; omega)
    refine Runs.gd z0 (Runs.gd hz (Runs.gd i0 (Runs.gd (by simp only [nI]; omega) ?_)))
    refine Runs.neI (fun hne => ?_) (fun heq => ?_)
    · have : z ≠ pp := fun e => hne (by rw [e]; exact p2)
      exact Runs.inK ⟨by omega, by omega⟩ (Runs.ret ⟨⟨by omega, by omega⟩, by dsimp only; omega⟩)
    · have hzp : z = pp := by
        rcases Int.lt_or_le z pp with h | h
        · exact absurd ((mem_takeI p0 (by omega)).mpr ⟨z, z0, h, heq⟩) p3
        · omega
      subst hzp
      refine Runs.eqI (fun hzl => by simp only [nI] at hzl; omega) (fun _ => ?_)
      have n1 : getI co i ∉ List.drop 0 (List.take i.toNat co) := by
        rw [List.drop_zero, mem_takeI i0 (by omega)]
        rintro ⟨q, q0, q1, q2⟩
        rw [List.nodup_iff_pairwise_ne, List.pairwise_iff_getElem] at hnd
        have g1 := getI_nat co q.toNat (by omega)
        have g2 := getI_nat co i.toNat (by omega)
        rw [Int.toNat_of_nonneg q0] at g1
        rw [Int.toNat_of_nonneg i0] at g2
        exact hnd q.toNat i.toNat (by omega) (by omega) (by omega) (by rw [← g1, ← g2, q2])
      have n2 : getI co i ∉ List.drop 0 (List.take z.toNat x) := by rw [List.drop_zero]; exact p3
      refine Runs.gd i0 (Runs.gd (by simp only [nI]; omega) (Runs.gd i0 (Runs.gd (by simp only [nI]; omega) (Runs.bind (rHas_ok (by rw [List.drop_zero, List.length_take]; omega)) ?_))))
      refine Runs.dec (fun h => absurd h n1) (fun _ => ?_)
      refine Runs.gd z0 (Runs.gd (by simp only [nI]; omega) (Runs.gd i0 (Runs.gd (by simp only [nI]; omega) (Runs.bind (rHas_ok (by rw [List.drop_zero, List.length_take]; omega)) ?_))))
      refine Runs.dec (fun h => absurd h n2) (fun _ => ?_)
      refine Runs.inK ⟨by omega, by omega⟩ (Runs.ret ⟨⟨by dsimp only; omega, by dsimp only; omega, by dsimp only; omega, by dsimp only; omega, .inr ⟨by dsimp only; omega, ?_⟩⟩, by dsimp only; omega⟩)
      dsimp only
      rw [show i + 1 - 1 = i by omega]; exact p3
  · have hcol2 : ∀ y ∈ co, lit 8 y := by
      intro y hy
      rw [eco] at hy
      exact hx y ((dedup_mem _ _).mp hy).1
    obtain ⟨b, eb, hb⟩ := rCan_ok (N := 8) (l := c) (assume := co) (by omega) (by omega) (by omega) (fun d hd => ⟨by have := (hc.2 d hd).1; omega, (hc.2 d hd).2⟩) (by omega) hcol2
    have hbf : b = false := by
      cases hbb : b with
      | false => rfl
      | true =>
        exfalso
        have h := hb.mp hbb
        have := p.coreNo hxv h2
        rw [hv, hco] at this
        exact this h
    refine Runs.bind eb (Runs.ret ?_)
    show _ = _
    rw [hbf]; rfl
theorem satCore_pure_fit (x : (inTy [.sl ints, ints]).den) (h : inFit [.sl ints, ints] x) : SatCore x.1 x.2.1 = some ((true, ()), (), ()) := satCore_pure _ _
end GoSx
end
section
/- The row of SatCore: whatever the input, it returns true, and the input reads as it did. -/
namespace Go.Proofs.Ytkbcakjppajopaa
open Go GoSx Go.ChangeShapes Go.WideShapes Go.ChangeAt Go.RowKit

theorem Try.own : ownKnob Try.prog.godebug = none := by kernel_rfl
theorem Try.laidOut : laidOutB Try.prog = true := by kernel_rfl

theorem satCore_run (x : (inTy [.sl ints, ints]).den) (hx : inFit [.sl ints, ints] x) : ∃ o, ((SatCore_s.summ fun xa xo => GoSx.SatCore xa.1 xa.2.1) (inAV [.sl ints, ints] x) 64).run (fun _ => .none) = some o ∧ o.obls = [] ∧ o.res = .dat .bool true := by
  have e : ((SatCore_s.summ fun xa xo => GoSx.SatCore xa.1 xa.2.1) (inAV [.sl ints, ints] x) 64).run (fun _ => .none) =
      (match GoSx.SatCore x.1 x.2.1 with
        | some y => some ⟨[], .dat .bool y.1.1, []⟩
        | Option.none => Option.none) := by kernel_rfl
  rw [GoSx.satCore_pure_fit x hx] at e
  exact ⟨_, e, rfl, rfl⟩

theorem satCore_lifted (os : Os) (started : os.Started) (H : Type) (enc : TypeId × Value → H) :
    ReturnsInHanded {} Try.checked os 5 .any (Rows.satCoreSpec.pre6 enc Try.prog Try.f5 Rows.satCoreRow.domain false) (Rows.satCoreSpec.post enc Try.prog Try.f5 false true false false) :=
  law_lifted (C := Try.checked) (Ts := [.sl ints, ints]) (tb := 4) Try.own started (by kernel_rfl) Try.func5
    (ChangeSpec.witness6 (enc := enc) (C := Try.checked) false ⟨#[], #[.slice none 0 0, .slice none 0 0], []⟩ 8 (by kernel_rfl) (by kernel_rfl) (by kernel_rfl) (by kernel_rfl))
    Try.laidOut rfl (fun ds h => by match ds, h with | [a, b], _ => rfl) (by kernel_rfl) (by kernel_rfl) (by kernel_rfl) (summ_at T_SatSame_ok 5 (S := SatCore_s.summ fun xa xo => GoSx.SatCore xa.1 xa.2.1) (by kernel_rfl)) satCore_run

theorem satCore_holds : Rows.SatCoreSaid :=
  OpenClaim.holds_of_wide 5 Try.f5 rfl rfl rfl rfl rfl rfl rfl ⟨rfl, rfl, rfl, rfl, rfl⟩ rfl rfl rfl rfl rfl (by kernel_rfl) Try.func5 (by kernel_rfl)
    (of_decide_eq_true (by kernel_rfl)) (by unfold Func.isWrapper; first | (rw [if_pos (by decide +kernel)]; kernel_rfl) | (rw [if_neg (by decide +kernel)]; exact ⟨rfl, rfl⟩))
    (fun os started H enc _ => satCore_lifted os started H enc)
end Go.Proofs.Ytkbcakjppajopaa
end
