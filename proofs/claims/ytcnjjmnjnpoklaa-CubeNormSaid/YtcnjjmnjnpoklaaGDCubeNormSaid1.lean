/- CubeNormSaid: whatever the input, the law returns true, and the input reads as it did. Conditions: none. (The texts LCovers, LNorm, RowCubeNorm, one behind the other.) -/
import Derived.Test.YtcnjjmnjnpoklaaGC1
import Derived.Test.YtcnjjmnjnpoklaaRows
set_option linter.unusedVariables false
set_option linter.unusedSimpArgs false
section
/- The pure claim of CubeCovers. -/
set_option linter.unusedVariables false
set_option linter.unusedSimpArgs false
namespace GoSx
open Go

theorem hb_iff {s : List Bool} {x : Int} : hb s x = true ↔ ab x ≤ s.length ∧ (getB s (ab x - 1) = decide (x > 0)) := by
  unfold hb
  simp
theorem sm6 {x : Int} (h : x ≠ 0 ∧ -6 ≤ x ∧ x ≤ 6) : Sm x := ⟨h.1, by omega, by omega⟩
theorem getB_nat (l : List Bool) (i : Nat) (h : i < l.length) : getB l i = l[i] := by
  simp [getB_def, h]

/-- A state that is in a cube, and not in a number. -/
theorem apart_st {b : List Int} (hi : Inc b) (hb6 : ∀ x ∈ b, x ≠ 0 ∧ -6 ≤ x ∧ x ≤ 6) {x : Int} (hx : x ≠ 0 ∧ -6 ≤ x ∧ x ≤ 6) (hn : x ∉ b) : ∃ k : Nat, k < 64 ∧ b.all (hb (bitsL k)) = true ∧ hb (bitsL k) x = false := by
  let f : Nat → Bool := fun i => decide (((i : Int) + 1) ∈ b ∨ ((i : Int) + 1) = -x)
  obtain ⟨k, hk, ek⟩ := bits_any (f 0) (f 1) (f 2) (f 3) (f 4) (f 5)
  have hf : ∀ i : Int, 0 ≤ i → i < 6 → getB (bitsL k) i = decide ((i + 1) ∈ b ∨ i + 1 = -x) := by
    intro i h0 h1
    rw [ek]
    have : i = 0 ∨ i = 1 ∨ i = 2 ∨ i = 3 ∨ i = 4 ∨ i = 5 := by omega
    rcases this with rfl | rfl | rfl | rfl | rfl | rfl <;> rfl
  have hlen := bitsL_len k
  refine ⟨k, hk, ?_, ?_⟩
  · rw [List.all_eq_true]
    intro y hy
    have h6 := hb6 y hy
    have ha := ab_def y
    rw [hb_iff, hlen, hf _ (by omega) (by omega)]
    refine ⟨by omega, ?_⟩
    rw [decide_eq_decide]
    constructor
    · intro h
      rcases Int.lt_or_gt_of_ne h6.1 with h0 | h0
      · exfalso
        have e : ab y - 1 + 1 = -y := by omega
        rw [e] at h
        rcases h with h | h
        · -- y and -y in b
          obtain ⟨i, i0, i1, i2⟩ := mem_getI hy
          obtain ⟨j, j0, j1, j2⟩ := mem_getI h
          have hay := ab_def (-y)
          rcases Int.lt_trichotomy i j with hij | hij | hij
          · have := hi.idx i0 hij j1; rw [i2, j2] at this; omega
          · rw [hij, j2] at i2; omega
          · have := hi.idx j0 hij i1; rw [i2, j2] at this; omega
        · have : y = x := by omega
          exact hn (this ▸ hy)
      · exact h0
    · intro h
      left
      have e : ab y - 1 + 1 = y := by omega
      rw [e]; exact hy
  · have ha := ab_def x
    rw [← Bool.not_eq_true, hb_iff, hlen, hf _ (by omega) (by omega), decide_eq_decide]
    rintro ⟨_, h⟩
    rcases Int.lt_or_gt_of_ne hx.1 with h0 | h0
    · have := h.1 (.inr (by omega))
      omega
    · have h2 := h.2 h0
      have e : ab x - 1 + 1 = x := by omega
      rw [e] at h2
      rcases h2 with h2 | h2
      · exact hn h2
      · omega

set_option maxHeartbeats 1000000 in
theorem cubeCovers_pure (l m : List Int) : CubeCovers l m = some ((true, ()), (), ()) := by
  suffices hs : Runs (CubeCovers l m) (fun o => o = ((true, ()), (), ())) by
    obtain ⟨_, e, rfl⟩ := hs; exact e
  obtain ⟨x, ex, hxl, hx⟩ := narrow_ok l
  obtain ⟨y, ey, hyl, hy⟩ := narrow_ok m
  obtain ⟨a, oka, ea, ha1, ha2⟩ := norm_ok hxl fun e he => sm6 (hx e he)
  obtain ⟨b, okb, eb, hb1, hb2⟩ := norm_ok hyl fun e he => sm6 (hy e he)
  unfold CubeCovers CubeCoversF
  refine Runs.bind head24_true (Runs.bind ex (Runs.bind ea (Runs.bind ey (Runs.bind eb ?_))))
  dsimp only
  cases oka with
  | false => exact Runs.ret rfl
  | true =>
  cases okb with
  | false => exact Runs.ret rfl
  | true =>
  obtain ⟨ia, ma, la⟩ := ha1 rfl
  obtain ⟨ib, mb, lb⟩ := hb1 rfl
  have ha6 : ∀ e ∈ a, e ≠ 0 ∧ -6 ≤ e ∧ e ≤ 6 := fun e he => hx e ((ma e).1 he)
  have hb6 : ∀ e ∈ b, e ≠ 0 ∧ -6 ≤ e ∧ e ≤ 6 := fun e he => hy e ((mb e).1 he)
  simp only [Bool.not_true, cond_f]
  refine Runs.iter (fun s : Bool × Int => 0 ≤ s.2 ∧ s.2 ≤ 64 ∧ (s.1 = true ↔ ∀ k : Nat, (k : Int) < s.2 → b.all (hb (bitsL k)) = true → a.all (hb (bitsL k)) = true)) (fun s => (64 - s.2).toNat) ?_ ⟨by dsimp only; omega, by dsimp only; omega, ⟨fun _ k hk => by dsimp only at hk; omega, fun _ => rfl⟩⟩ (fuelN_gt (by dsimp only; omega))
  rintro ⟨all, k⟩ ⟨k0, k1, k2⟩
  dsimp only at k0 k1 k2 ⊢
  refine Runs.dec (fun hk => ?_) (fun hk => ?_)
  · obtain ⟨n, rfl⟩ : ∃ n : Nat, k = (n : Int) := ⟨k.toNat, (Int.toNat_of_nonneg k0).symm⟩
    refine Runs.bind (Bits16_ok k0 hk) (Runs.bind (holds_ok (by omega) fun e he => sm6 (hb6 e he)) ?_)
    dsimp only [Int.toNat_natCast]
    have ext : ∀ r : Bool, (r = true ↔ (∀ k : Nat, (k : Int) < n → b.all (hb (bitsL k)) = true → a.all (hb (bitsL k)) = true) ∧ (b.all (hb (bitsL n)) = true → a.all (hb (bitsL n)) = true)) → (r = true ↔ ∀ k : Nat, (k : Int) < n + 1 → b.all (hb (bitsL k)) = true → a.all (hb (bitsL k)) = true) := by
      intro r hr
      rw [hr]
      constructor
      · rintro ⟨h1, h2⟩ k hk
        by_cases e : k = n
        · rw [e]; exact h2
        · exact h1 k (by omega)
      · intro h
        exact ⟨fun k hk => h k (by omega), h n (by omega)⟩
    refine Runs.bool (fun c => ?_) (fun c => ?_)
    · refine Runs.bind (holds_ok (by omega) fun e he => sm6 (ha6 e he)) ?_
      rw [cond_t]
      refine Runs.bool (fun d => ?_) (fun d => ?_)
      · refine Runs.inK ⟨by omega, by omega⟩ (Runs.ret ⟨⟨by dsimp only; omega, by dsimp only; omega, ?_⟩, by dsimp only; omega⟩)
        refine ext false ⟨(fun h => by cases h), fun h => ?_⟩
        have := h.2 c
        dsimp only at d
        rw [this] at d
        cases d
      · refine Runs.inK ⟨by omega, by omega⟩ (Runs.ret ⟨⟨by dsimp only; omega, by dsimp only; omega, ?_⟩, by dsimp only; omega⟩)
        refine ext all ?_
        rw [k2]
        dsimp only at d
        exact ⟨fun h => ⟨h, fun _ => by simpa using d⟩, fun h => h.1⟩
    · refine Runs.inK ⟨by omega, by omega⟩ (Runs.ret ⟨⟨by dsimp only; omega, by dsimp only; omega, ?_⟩, by dsimp only; omega⟩)
      refine ext all ?_
      rw [k2]
      exact ⟨fun h => ⟨h, fun h2 => absurd (h2.symm.trans c) (by decide)⟩, fun h => h.1⟩
  · rw [cond_t]
    refine Runs.bind (covers_ok (by omega) (by omega)) (Runs.ret ?_)
    have key : a.all (fun x => decide (x ∈ b)) = all := by
      rw [Bool.eq_iff_iff, k2, List.all_eq_true]
      constructor
      · intro h k _ hB
        rw [List.all_eq_true] at hB ⊢
        intro e he
        exact hB e (by simpa using h e he)
      · intro h e he
        rw [decide_eq_true_eq]
        by_cases hn : e ∈ b
        · exact hn
        · exfalso
          obtain ⟨k, hk', h1, h2⟩ := apart_st ib hb6 (ha6 e he) hn
          have := h k (by omega) h1
          rw [List.all_eq_true] at this
          rw [this e he] at h2
          cases h2
    show _ = _
    rw [key]
    simp
theorem cubeCovers_pure_fit (x : (inTy [.sl (.int .i8), .sl (.int .i8)]).den) (h : inFit [.sl (.int .i8), .sl (.int .i8)] x) : CubeCovers x.1 x.2.1 = some ((true, ()), (), ()) := cubeCovers_pure _ _
end GoSx
end
section
/- The pure claim of CubeNorm. -/
set_option linter.unusedVariables false
set_option linter.unusedSimpArgs false
namespace GoSx
open Go

/-- Turned round. -/
theorem turned (x : List Int) (t : Int) (ht : 0 ≤ t) {y : List Int} (hl : y.length = x.length) (hy : ∀ i : Int, 0 ≤ i → i < x.length → getI y i = getI x (Int.tmod (i + t) x.length)) : ∀ e, e ∈ y ↔ e ∈ x := by
  intro e
  constructor
  · intro h
    obtain ⟨i, i0, i1, i2⟩ := mem_getI h
    rw [hy i i0 (by omega)] at i2
    rw [← i2]
    have h1 := Int.tmod_nonneg (a := i + t) x.length (by omega)
    have h2 := Int.tmod_lt_of_pos (i + t) (b := x.length) (by omega)
    exact getI_mem h1 h2
  · intro h
    obtain ⟨j, j0, j1, j2⟩ := mem_getI h
    have hn : (0 : Int) < x.length := by omega
    have h1 := Int.emod_nonneg (j - t) (b := x.length) (by omega)
    have h2 := Int.emod_lt_of_pos (j - t) (b := x.length) hn
    have h3 : Int.tmod ((j - t) % x.length + t) x.length = j := by
      rw [Int.tmod_eq_emod_of_nonneg (by omega), Int.emod_add_emod, show j - t + t = j by omega]
      exact Int.emod_eq_of_lt j0 j1
    have := hy ((j - t) % x.length) h1 h2
    rw [h3, j2] at this
    rw [← this]
    exact getI_mem h1 (by omega)

set_option maxHeartbeats 4000000 in
theorem cubeNorm_pure (l : List Int) (turn : Int) (ht : 0 ≤ turn ∧ turn ≤ 255) (state : List Bool) : CubeNorm l turn state = some ((true, ()), (), ()) := by
  suffices hs : Runs (CubeNorm l turn state) (fun o => o = ((true, ()), (), ())) by
    obtain ⟨_, e, rfl⟩ := hs; exact e
  obtain ⟨x, ex, hxl, hx⟩ := narrow_ok l
  have hsx : ∀ e ∈ x, Sm e := fun e he => sm6 (hx e he)
  obtain ⟨a, oka, ea, ha1, ha2⟩ := norm_ok hxl hsx
  obtain ⟨s, es, hsl⟩ := bits24_ok state
  unfold CubeNorm CubeNormF
  rw [wrap_id (x := turn) (by omega) (by omega)]
  refine Runs.bind head24_true (Runs.bind ex (Runs.bind ea ?_))
  dsimp only
  refine Runs.iter (fun q : Int × List Int => 0 ≤ q.1 ∧ q.1 ≤ x.length ∧ (q.2.length : Int) = q.1 ∧ ∀ i : Int, 0 ≤ i → i < q.1 → getI q.2 i = getI x (Int.tmod (i + turn) x.length)) (fun q => ((x.length : Int) - q.1).toNat) ?_ ⟨by dsimp only; omega, by dsimp only; omega, rfl, fun i a b => by dsimp only at b; omega⟩ (fuelN_gt (by dsimp only; omega))
  rintro ⟨i, y⟩ ⟨i0, i1, i2, i3⟩
  dsimp only at i0 i1 i2 i3 ⊢
  refine Runs.dec (fun hi => ?_) (fun hi => ?_)
  · simp only [nI] at hi ⊢
    have h1 := Int.tmod_nonneg (a := i + turn) x.length (by omega)
    have h2 := Int.tmod_lt_of_pos (i + turn) (b := x.length) (by omega)
    refine Runs.inK ⟨by omega, by omega⟩ (Runs.gd (by omega) (Runs.gd h1 (Runs.gd h2 (Runs.gd (by simp only [lim, List.length_singleton]; omega) (Runs.gd (by simp only [lim, List.length_singleton]; omega) (Runs.inK ⟨by omega, by omega⟩ (Runs.ret ⟨⟨by dsimp only; omega, by dsimp only; omega, by simp; omega, fun j a b => ?_⟩, by dsimp only; omega⟩)))))))
    dsimp only at b ⊢
    rw [getI_push a (by omega)]
    split
    · rename_i e
      have : j = i := by omega
      rw [this]
    · exact i3 j a (by omega)
  · simp only [nI] at hi
    have hyl : y.length = x.length := by omega
    have hm := turned x turn ht.1 hyl fun j a b => i3 j a (by omega)
    have hsy : ∀ e ∈ y, Sm e := fun e he => hsx e ((hm e).1 he)
    obtain ⟨b, okb, eb, hb1, hb2⟩ := norm_ok (by omega) hsy
    have clash : ∀ {c : List Int}, Inc c → (∀ e ∈ c, Sm e) → ∀ e ∈ c, -e ∈ c → False := by
      intro c hc hs e h1 h2
      obtain ⟨i, i0, i1, i2⟩ := mem_getI h1
      obtain ⟨j, j0, j1, j2⟩ := mem_getI h2
      have hay := ab_def (-e)
      have hae := ab_def e
      have := (hs e h1).1
      rcases Int.lt_trichotomy i j with hij | hij | hij
      · have := hc.idx i0 hij j1; rw [i2, j2] at this; omega
      · rw [hij, j2] at i2; omega
      · have := hc.idx j0 hij i1; rw [i2, j2] at this; omega
    have hok : oka = okb := by
      cases oka <;> cases okb
      · rfl
      · exfalso
        obtain ⟨_, e, e1, e2⟩ := ha2 rfl
        obtain ⟨q1, q2, _⟩ := hb1 rfl
        exact clash q1 (fun e he => hsy e ((q2 e).1 he)) e ((q2 e).2 ((hm e).2 e1)) ((q2 _).2 ((hm _).2 e2))
      · exfalso
        obtain ⟨_, e, e1, e2⟩ := hb2 rfl
        obtain ⟨q1, q2, _⟩ := ha1 rfl
        exact clash q1 (fun e he => hsx e ((q2 e).1 he)) e ((q2 e).2 ((hm e).1 e1)) ((q2 _).2 ((hm _).1 e2))
      · rfl
    have hab : a = b := by
      cases oka
      · rw [(ha2 rfl).1, (hb2 hok.symm).1]
      · obtain ⟨p1, p2, _⟩ := ha1 rfl
        obtain ⟨q1, q2, _⟩ := hb1 hok.symm
        exact Inc.eq p1 q1 fun e => ((p2 e).trans (hm e).symm).trans (q2 e).symm
    have hal : a.length ≤ 12 := by
      cases oka
      · rw [(ha2 rfl).1]; simp
      · exact (ha1 rfl).2.2
    refine Runs.bind eb ?_
    dsimp only
    rw [← hok]
    have hbe : (!oka == oka) = false := by cases oka <;> rfl
    rw [hbe, cond_f]
    refine Runs.bind (sameInts_ok (a := a) (b := b) (by omega)) ?_
    rw [decide_eq_true hab, cond_f]
    simp only [Bool.not_true, cond_f]
    refine Runs.bind es ?_
    dsimp only
    cases oka with
    | false =>
      obtain ⟨h0, e, e1, e2⟩ := ha2 rfl
      simp only [Bool.not_false, cond_t]
      rw [h0]
      have hl0 : (nI ([] : List Int).length == 0) = true := rfl
      rw [hl0, cond_t]
      refine Runs.bind (holds_ok (by omega) hsx) (Runs.ret ?_)
      have : x.all (hb s) = false := by
        rw [← Bool.not_eq_true, List.all_eq_true]
        intro hall
        have g1 := hb_iff.1 (hall e e1)
        have g2 := hb_iff.1 (hall (-e) e2)
        have a1 := ab_def e
        have a2 := ab_def (-e)
        have hne := (hx e e1).1
        have : ab e = ab (-e) := by omega
        rw [this, g2.2] at g1
        have g3 := decide_eq_decide.1 g1.2
        omega
      show _ = _
      rw [this]; rfl
    | true =>
      obtain ⟨ia, ma, _⟩ := ha1 rfl
      have hsa : ∀ e ∈ a, Sm e := fun e he => hsx e ((ma e).1 he)
      obtain ⟨c, okc, ec, hc1, hc2⟩ := norm_ok hal hsa
      have hoc : okc = true := by
        cases okc
        · exfalso
          obtain ⟨_, e, e1, e2⟩ := hc2 rfl
          exact clash ia hsa e e1 e2
        · rfl
      subst hoc
      obtain ⟨ic, mc, _⟩ := hc1 rfl
      have hca : a = c := Inc.eq ia ic fun e => (mc e).symm
      simp only [Bool.not_true, cond_f]
      refine Runs.bind ec ?_
      refine Runs.mono (Q := fun o : (Int × List Int) ⊕ ((Bool × Unit) × Unit × Unit) => o = Sum.inr ((true, ()), (), ())) ?_ (fun r hr => by rw [hr]; rfl)
      refine Runs.iter (fun q : Int × Int => 0 ≤ q.2 ∧ q.2 ≤ a.length ∧ (q.2 = 0 → q.1 = 0) ∧ (0 < q.2 → q.1 = ab (getI a (q.2 - 1)))) (fun q => ((a.length : Int) - q.2).toNat) ?_ ⟨by dsimp only; omega, by dsimp only; omega, fun _ => rfl, fun h => by dsimp only at h; omega⟩ (fuelN_gt (by dsimp only; omega))
      rintro ⟨last, k⟩ ⟨k0, k1, k2, k3⟩
      dsimp only at k0 k1 k2 k3 ⊢
      refine Runs.dec (fun hk => ?_) (fun hk => ?_)
      · simp only [nI] at hk ⊢
        have hsm := hsa _ (getI_mem k0 hk)
        have hak := ab_def (getI a k)
        obtain ⟨n1, n2, n3⟩ := hsm
        have hmx : max2 (getI a k) (0 - getI a k) = ab (getI a k) := by unfold max2 ab; split <;> split <;> omega
        have hlast : last < ab (getI a k) := by
          by_cases e : k = 0
          · rw [k2 e]; omega
          · rw [k3 (by omega)]
            exact ia.idx (by omega) (by omega) hk
        rw [hmx]
        refine Runs.gd k0 (Runs.gd hk (Runs.gd k0 (Runs.gd hk (Runs.inK ⟨by omega, by omega⟩ (Runs.dec (fun hle => by omega) (fun _ => Runs.gd k0 (Runs.gd hk (Runs.gd k0 (Runs.gd hk (Runs.inK ⟨by omega, by omega⟩ (Runs.inK ⟨by omega, by omega⟩ (Runs.ret ⟨⟨by dsimp only; omega, by dsimp only; omega, fun e => by dsimp only at e; omega, fun _ => ?_⟩, by dsimp only; omega⟩))))))))))))
        dsimp only
        rw [show k + 1 - 1 = k by omega]
      · rw [cond_t, cond_t, cond_t]
        refine Runs.bind (sameInts_ok (a := a) (b := c) (by omega)) ?_
        rw [decide_eq_true hca, cond_t, cond_t]
        refine Runs.bind (holds_ok (by omega) hsa) (Runs.bind (holds_ok (by omega) hsx) ?_)
        have he : a.all (hb s) = x.all (hb s) := by
          rw [Bool.eq_iff_iff, List.all_eq_true, List.all_eq_true]
          exact ⟨fun h e he => h e ((ma e).2 he), fun h e he => h e ((ma e).1 he)⟩
        dsimp only
        rw [he, beq_self_eq_true, cond_t, cond_t]
        refine Runs.bind (covers_ok (by omega) (by omega)) ?_
        have c1 : a.all (fun e => decide (e ∈ x)) = true := by
          rw [List.all_eq_true]; exact fun e he => decide_eq_true ((ma e).1 he)
        have c2 : x.all (fun e => decide (e ∈ a)) = true := by
          rw [List.all_eq_true]; exact fun e he => decide_eq_true ((ma e).2 he)
        rw [c1, cond_t, cond_t]
        refine Runs.bind (covers_ok (by omega) (by omega)) (Runs.ret ?_)
        show _ = _
        rw [c2]; rfl
theorem cubeNorm_pure_fit (x : (inTy [.sl (.int .i8), .int .u8, .sl .bool]).den) (h : inFit [.sl (.int .i8), .int .u8, .sl .bool] x) : CubeNorm x.1 x.2.1 x.2.2.1 = some ((true, ()), (), ()) := by
  obtain ⟨_, h2, _⟩ := h
  exact cubeNorm_pure _ _ h2 _
end GoSx
end
section
/- The row of CubeNorm: whatever the input, it returns true, and the input reads as it did. -/
namespace Go.Proofs.Ytcnjjmnjnpoklaa
open Go GoSx Go.ChangeShapes Go.WideShapes Go.ChangeAt Go.RowKit

theorem Try.own : ownKnob Try.prog.godebug = none := by kernel_rfl
theorem Try.laidOut : laidOutB Try.prog = true := by kernel_rfl

theorem cubeNorm_run (x : (inTy [.sl (.int .i8), .int .u8, .sl .bool]).den) (hx : inFit [.sl (.int .i8), .int .u8, .sl .bool] x) : ∃ o, ((CubeNorm_s.summ fun xa xo => GoSx.CubeNorm xa.1 xa.2.1 xa.2.2.1) (inAV [.sl (.int .i8), .int .u8, .sl .bool] x) 64).run (fun _ => .none) = some o ∧ o.obls = [] ∧ o.res = .dat .bool true := by
  have e : ((CubeNorm_s.summ fun xa xo => GoSx.CubeNorm xa.1 xa.2.1 xa.2.2.1) (inAV [.sl (.int .i8), .int .u8, .sl .bool] x) 64).run (fun _ => .none) =
      (match GoSx.CubeNorm x.1 x.2.1 x.2.2.1 with
        | some y => some ⟨[], .dat .bool y.1.1, []⟩
        | Option.none => Option.none) := by kernel_rfl
  rw [GoSx.cubeNorm_pure_fit x hx] at e
  exact ⟨_, e, rfl, rfl⟩

theorem cubeNorm_lifted (os : Os) (started : os.Started) (H : Type) (enc : TypeId × Value → H) :
    ReturnsInHanded {} Try.checked os 5 .any (Rows.cubeNormSpec.pre6 enc Try.prog Try.f5 Rows.cubeNormRow.domain false) (Rows.cubeNormSpec.post enc Try.prog Try.f5 false true false false) :=
  law_lifted (C := Try.checked) (Ts := [.sl (.int .i8), .int .u8, .sl .bool]) (tb := 4) Try.own started (by kernel_rfl) Try.func5
    (ChangeSpec.witness6 (enc := enc) (C := Try.checked) false ⟨#[], #[.slice none 0 0, .int .u8 0, .slice none 0 0], []⟩ 8 (by kernel_rfl) (by kernel_rfl) (by kernel_rfl) (by kernel_rfl))
    Try.laidOut rfl (fun ds h => by match ds, h with | [a, b, c], _ => rfl) (by kernel_rfl) (by kernel_rfl) (by kernel_rfl) (summ_at T_CubeClause_ok 5 (S := CubeNorm_s.summ fun xa xo => GoSx.CubeNorm xa.1 xa.2.1 xa.2.2.1) (by kernel_rfl)) cubeNorm_run

theorem cubeNorm_holds : Rows.CubeNormSaid :=
  OpenClaim.holds_of_wide 5 Try.f5 rfl rfl rfl rfl rfl rfl rfl ⟨rfl, rfl, rfl, rfl, rfl⟩ rfl rfl rfl rfl rfl (by kernel_rfl) Try.func5 (by kernel_rfl)
    (of_decide_eq_true (by kernel_rfl)) (by unfold Func.isWrapper; first | (rw [if_pos (by decide +kernel)]; kernel_rfl) | (rw [if_neg (by decide +kernel)]; exact ⟨rfl, rfl⟩))
    (fun os started H enc _ => cubeNorm_lifted os started H enc)
end Go.Proofs.Ytcnjjmnjnpoklaa
end
