/- CubeCoversSaid: whatever the input, the law returns true, and the input reads as it did. Conditions: none. (The texts LCovers, RowCubeCovers, one behind the other.) -/
import Derived.Test.YtcnjjmnjnpoklaaGC1
import Derived.Test.YtcnjjmnjnpoklaaRows
set_option linter.unusedVariables false
set_option linter.unusedSimpArgs false
section
/- The pure claim of CubeCovers. -/
set_option linter.unusedVariables false
set_option linter.unusedSimpArgs false
namespace GoSx
open Go

theorem hb_iff {s : List Bool} {x : Int} : hb s x = true ↔ ab x ≤ s.length ∧ (getB s (ab x - 1) = decide (x > 0)) := by
  unfold hb
  simp
theorem sm6 {x : Int} (h : x ≠ 0 ∧ -6 ≤ x ∧ x ≤ 6) : Sm x := ⟨h.1, by omega, by omega⟩
theorem getB_nat (l : List Bool) (i : Nat) (h : i < l.length) : getB l i = l[i] := by
  simp [getB_def, h]

/-- A state that is in a cube, and not in a number. -/
theorem apart_st {b : List Int} (hi : Inc b) (hb6 : ∀ x ∈ b, x ≠ 0 ∧ -6 ≤ x ∧ x ≤ 6) {x : Int} (hx : x ≠ 0 ∧ -6 ≤ x ∧ x ≤ 6) (hn : x ∉ b) : ∃ k : Nat, k < 64 ∧ b.all (hb (bitsL k)) = true ∧ hb (bitsL k) x = false := by
  let f : Nat → Bool := fun i => decide (((i : Int) + 1) ∈ b ∨ ((i : Int) + 1) = -x)
  obtain ⟨k, hk, ek⟩ := bits_any (f 0) (f 1) (f 2) (f 3) (f 4) (f 5)
  have hf : ∀ i : Int, 0 ≤ i → i < 6 → getB (bitsL k) i = decide ((i + 1) ∈ b ∨ i + 1 = -x) := by
    intro i h0 h1
    rw [ek]
    have : i = 0 ∨ i = 1 ∨ i = 2 ∨ i = 3 ∨ i = 4 ∨ i = 5 := by omega
    rcases this with rfl | rfl | rfl | rfl | rfl | rfl <;> rfl
  have hlen := bitsL_len k
  refine ⟨k, hk, ?_, ?_⟩
  · rw [List.all_eq_true]
    intro y hy
    have h6 := hb6 y hy
    have ha := ab_def y
    rw [hb_iff, hlen, hf _ (by omega) (by omega)]
    refine ⟨by omega, ?_⟩
    rw [decide_eq_decide]
    constructor
    · intro h
      rcases Int.lt_or_gt_of_ne h6.1 with h0 | h0
      · exfalso
        have e : ab y - 1 + 1 = -y := by omega
        rw [e] at h
        rcases h with h | h
        · -- y and -y in b
          obtain ⟨i, i0, i1, i2⟩ := mem_getI hy
          obtain ⟨j, j0, j1, j2⟩ := mem_getI h
          have hay := ab_def (-y)
          rcases Int.lt_trichotomy i j with hij | hij | hij
          · have := hi.idx i0 hij j1; rw [i2, j2] at this; omega
          · rw [hij, j2] at i2; omega
          · have := hi.idx j0 hij i1; rw [i2, j2] at this; omega
        · have : y = x := by omega
          exact hn (this ▸ hy)
      · exact h0
    · intro h
      left
      have e : ab y - 1 + 1 = y := by omega
      rw [e]; exact hy
  · have ha := ab_def x
    rw [← Bool.not_eq_true, hb_iff, hlen, hf _ (by omega) (by omega), decide_eq_decide]
    rintro ⟨_, h⟩
    rcases Int.lt_or_gt_of_ne hx.1 with h0 | h0
    · have := h.1 (.inr (by omega))
      omega
    · have h2 := h.2 h0
      have e : ab x - 1 + 1 = x := by omega
      rw [e] at h2
      rcases h2 with h2 | h2
      · exact hn h2
      · omega

set_option maxHeartbeats 1000000 in
theorem cubeCovers_pure (l m : List Int) : CubeCovers l m = some ((true, ()), (), ()) := by
  suffices hs : Runs (CubeCovers l m) (fun o => o = ((true, ()), (), ())) by
    obtain ⟨_, e, rfl⟩ := hs; exact e
  obtain ⟨x, ex, hxl, hx⟩ := narrow_ok l
  obtain ⟨y, ey, hyl, hy⟩ := narrow_ok m
  obtain ⟨a, oka, ea, ha1, ha2⟩ := norm_ok hxl fun e he => sm6 (hx e he)
  obtain ⟨b, okb, eb, hb1, hb2⟩ := norm_ok hyl fun e he => sm6 (hy e he)
  unfold CubeCovers CubeCoversF
  refine Runs.bind head24_true (Runs.bind ex (Runs.bind ea (Runs.bind ey (Runs.bind eb ?_))))
  dsimp only
  cases oka with
  | false => exact Runs.ret rfl
  | true =>
  cases okb with
  | false => exact Runs.ret rfl
  | true =>
  obtain ⟨ia, ma, la⟩ := ha1 rfl
  obtain ⟨ib, mb, lb⟩ := hb1 rfl
  have ha6 : ∀ e ∈ a, e ≠ 0 ∧ -6 ≤ e ∧ e ≤ 6 := fun e he => hx e ((ma e).1 he)
  have hb6 : ∀ e ∈ b, e ≠ 0 ∧ -6 ≤ e ∧ e ≤ 6 := fun e he => hy e ((mb e).1 he)
  simp only [Bool.not_true, cond_f]
  refine Runs.iter (fun s : Bool × Int => 0 ≤ s.2 ∧ s.2 ≤ 64 ∧ (s.1 = true ↔ ∀ k : Nat, (k : Int) < s.2 → b.all (hb (bitsL k)) = true → a.all (hb (bitsL k)) = true)) (fun s => (64 - s.2).toNat) ?_ ⟨by dsimp only; omega, by dsimp only; omega, ⟨fun _ k hk => by dsimp only at hk; omega, fun _ => rfl⟩⟩ (fuelN_gt (by dsimp only; omega))
  rintro ⟨all, k⟩ ⟨k0, k1, k2⟩
  dsimp only at k0 k1 k2 ⊢
  refine Runs.dec (fun hk => ?_) (fun hk => ?_)
  · obtain ⟨n, rfl⟩ : ∃ n : Nat, k = (n : Int) := ⟨k.toNat, (Int.toNat_of_nonneg k0).symm⟩
    refine Runs.bind (Bits16_ok k0 hk) (Runs.bind (holds_ok (by omega) fun e he => sm6 (hb6 e he)) ?_)
    dsimp only [Int.toNat_natCast]
    have ext : ∀ r : Bool, (r = true ↔ (∀ k : Nat, (k : Int) < n → b.all (hb (bitsL k)) = true → a.all (hb (bitsL k)) = true) ∧ (b.all (hb (bitsL n)) = true → a.all (hb (bitsL n)) = true)) → (r = true ↔ ∀ k : Nat, (k : Int) < n + 1 → b.all (hb (bitsL k)) = true → a.all (hb (bitsL k)) = true) := by
      intro r hr
      rw [hr]
      constructor
      · rintro ⟨h1, h2⟩ k hk
        by_cases e : k = n
        · rw [e]; exact h2
        · exact h1 k (by omega)
      · intro h
        exact ⟨fun k hk => h k (by omega), h n (by omega)⟩
    refine Runs.bool (fun c => ?_) (fun c => ?_)
    · refine Runs.bind (holds_ok (by omega) fun e he => sm6 (ha6 e he)) ?_
      rw [cond_t]
      refine Runs.bool (fun d => ?_) (fun d => ?_)
      · refine Runs.inK ⟨by omega, by omega⟩ (Runs.ret ⟨⟨by dsimp only; omega, by dsimp only; omega, ?_⟩, by dsimp only; omega⟩)
        refine ext false ⟨(fun h => by cases h), fun h => ?_⟩
        have := h.2 c
        dsimp only at d
        rw [this] at d
        cases d
      · refine Runs.inK ⟨by omega, by omega⟩ (Runs.ret ⟨⟨by dsimp only; omega, by dsimp only; omega, ?_⟩, by dsimp only; omega⟩)
        refine ext all ?_
        rw [k2]
        dsimp only at d
        exact ⟨fun h => ⟨h, fun _ => by simpa using d⟩, fun h => h.1⟩
    · refine Runs.inK ⟨by omega, by omega⟩ (Runs.ret ⟨⟨by dsimp only; omega, by dsimp only; omega, ?_⟩, by dsimp only; omega⟩)
      refine ext all ?_
      rw [k2]
      exact ⟨fun h => ⟨h, fun h2 => absurd (h2.symm.trans c) (by decide)⟩, fun h => h.1⟩
  · rw [cond_t]
    refine Runs.bind (covers_ok (by omega) (by omega)) (Runs.ret ?_)
    have key : a.all (fun x => decide (x ∈ b)) = all := by
      rw [Bool.eq_iff_iff, k2, List.all_eq_true]
      constructor
      · intro h k _ hB
        rw [List.all_eq_true] at hB ⊢
        intro e he
        exact hB e (by simpa using h e he)
      · intro h e he
        rw [decide_eq_true_eq]
        by_cases hn : e ∈ b
        · exact hn
        · exfalso
          obtain ⟨k, hk', h1, h2⟩ := apart_st ib hb6 (ha6 e he) hn
          have := h k (by omega) h1
          rw [List.all_eq_true] at this
          rw [this e he] at h2
          cases h2
    show _ = _
    rw [key]
    simp
theorem cubeCovers_pure_fit (x : (inTy [.sl (.int .i8), .sl (.int .i8)]).den) (h : inFit [.sl (.int .i8), .sl (.int .i8)] x) : CubeCovers x.1 x.2.1 = some ((true, ()), (), ()) := cubeCovers_pure _ _
end GoSx
end
section
/- The row of CubeCovers: whatever the input, it returns true, and the input reads as it did. -/
namespace Go.Proofs.Ytcnjjmnjnpoklaa
open Go GoSx Go.ChangeShapes Go.WideShapes Go.ChangeAt Go.RowKit

theorem Try.own : ownKnob Try.prog.godebug = none := by kernel_rfl
theorem Try.laidOut : laidOutB Try.prog = true := by kernel_rfl

theorem cubeCovers_run (x : (inTy [.sl (.int .i8), .sl (.int .i8)]).den) (hx : inFit [.sl (.int .i8), .sl (.int .i8)] x) : ∃ o, ((CubeCovers_s.summ fun xa xo => GoSx.CubeCovers xa.1 xa.2.1) (inAV [.sl (.int .i8), .sl (.int .i8)] x) 64).run (fun _ => .none) = some o ∧ o.obls = [] ∧ o.res = .dat .bool true := by
  have e : ((CubeCovers_s.summ fun xa xo => GoSx.CubeCovers xa.1 xa.2.1) (inAV [.sl (.int .i8), .sl (.int .i8)] x) 64).run (fun _ => .none) =
      (match GoSx.CubeCovers x.1 x.2.1 with
        | some y => some ⟨[], .dat .bool y.1.1, []⟩
        | Option.none => Option.none) := by kernel_rfl
  rw [GoSx.cubeCovers_pure_fit x hx] at e
  exact ⟨_, e, rfl, rfl⟩

theorem cubeCovers_lifted (os : Os) (started : os.Started) (H : Type) (enc : TypeId × Value → H) :
    ReturnsInHanded {} Try.checked os 3 .any (Rows.cubeCoversSpec.pre6 enc Try.prog Try.f3 Rows.cubeCoversRow.domain false) (Rows.cubeCoversSpec.post enc Try.prog Try.f3 false true false false) :=
  law_lifted (C := Try.checked) (Ts := [.sl (.int .i8), .sl (.int .i8)]) (tb := 4) Try.own started (by kernel_rfl) Try.func3
    (ChangeSpec.witness6 (enc := enc) (C := Try.checked) false ⟨#[], #[.slice none 0 0, .slice none 0 0], []⟩ 8 (by kernel_rfl) (by kernel_rfl) (by kernel_rfl) (by kernel_rfl))
    Try.laidOut rfl (fun ds h => by match ds, h with | [a, b], _ => rfl) (by kernel_rfl) (by kernel_rfl) (by kernel_rfl) (summ_at T_CubeClause_ok 3 (S := CubeCovers_s.summ fun xa xo => GoSx.CubeCovers xa.1 xa.2.1) (by kernel_rfl)) cubeCovers_run

theorem cubeCovers_holds : Rows.CubeCoversSaid :=
  OpenClaim.holds_of_wide 3 Try.f3 rfl rfl rfl rfl rfl rfl rfl ⟨rfl, rfl, rfl, rfl, rfl⟩ rfl rfl rfl rfl rfl (by kernel_rfl) Try.func3 (by kernel_rfl)
    (of_decide_eq_true (by kernel_rfl)) (by unfold Func.isWrapper; first | (rw [if_pos (by decide +kernel)]; kernel_rfl) | (rw [if_neg (by decide +kernel)]; exact ⟨rfl, rfl⟩))
    (fun os started H enc _ => cubeCovers_lifted os started H enc)
end Go.Proofs.Ytcnjjmnjnpoklaa
end
