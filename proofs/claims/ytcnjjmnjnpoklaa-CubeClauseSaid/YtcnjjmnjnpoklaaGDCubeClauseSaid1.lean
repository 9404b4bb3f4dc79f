/- CubeClauseSaid: whatever the input, the law returns true, and the input reads as it did. Conditions: none. (The texts LCovers, LClause, RowCubeClause, one behind the other.) -/
import Derived.Test.YtcnjjmnjnpoklaaGC1
import Derived.Test.YtcnjjmnjnpoklaaRows
set_option linter.unusedVariables false
set_option linter.unusedSimpArgs false
section
/- The pure claim of CubeCovers. -/
set_option linter.unusedVariables false
set_option linter.unusedSimpArgs false
namespace GoSx
open Go

theorem hb_iff {s : List Bool} {x : Int} : hb s x = true ↔ ab x ≤ s.length ∧ (getB s (ab x - 1) = decide (x > 0)) := by
  unfold hb
  simp
theorem sm6 {x : Int} (h : x ≠ 0 ∧ -6 ≤ x ∧ x ≤ 6) : Sm x := ⟨h.1, by omega, by omega⟩
theorem getB_nat (l : List Bool) (i : Nat) (h : i < l.length) : getB l i = l[i] := by
  simp [getB_def, h]

/-- A state that is in a cube, and not in a number. -/
theorem apart_st {b : List Int} (hi : Inc b) (hb6 : ∀ x ∈ b, x ≠ 0 ∧ -6 ≤ x ∧ x ≤ 6) {x : Int} (hx : x ≠ 0 ∧ -6 ≤ x ∧ x ≤ 6) (hn : x ∉ b) : ∃ k : Nat, k < 64 ∧ b.all (hb (bitsL k)) = true ∧ hb (bitsL k) x = false := by
  let f : Nat → Bool := fun i => decide (((i : Int) + 1) ∈ b ∨ ((i : Int) + 1) = -x)
  obtain ⟨k, hk, ek⟩ := bits_any (f 0) (f 1) (f 2) (f 3) (f 4) (f 5)
  have hf : ∀ i : Int, 0 ≤ i → i < 6 → getB (bitsL k) i = decide ((i + 1) ∈ b ∨ i + 1 = -x) := by
    intro i h0 h1
    rw [ek]
    have : i = 0 ∨ i = 1 ∨ i = 2 ∨ i = 3 ∨ i = 4 ∨ i = 5 := by omega
    rcases this with rfl | rfl | rfl | rfl | rfl | rfl <;> rfl
  have hlen := bitsL_len k
  refine ⟨k, hk, ?_, ?_⟩
  · rw [List.all_eq_true]
    intro y hy
    have h6 := hb6 y hy
    have ha := ab_def y
    rw [hb_iff, hlen, hf _ (by omega) (by omega)]
    refine ⟨by omega, ?_⟩
    rw [decide_eq_decide]
    constructor
    · intro h
      rcases Int.lt_or_gt_of_ne h6.1 with h0 | h0
      · exfalso
        have e : ab y - 1 + 1 = -y := by omega
        rw [e] at h
        rcases h with h | h
        · -- y and -y in b
          obtain ⟨i, i0, i1, i2⟩ := mem_getI hy
          obtain ⟨j, j0, j1, j2⟩ := mem_getI h
          have hay := ab_def (-y)
          rcases Int.lt_trichotomy i j with hij | hij | hij
          · have := hi.idx i0 hij j1; rw [i2, j2] at this; omega
          · rw [hij, j2] at i2; omega
          · have := hi.idx j0 hij i1; rw [i2, j2] at this; omega
        · have : y = x := by omega
          exact hn (this ▸ hy)
      · exact h0
    · intro h
      left
      have e : ab y - 1 + 1 = y := by omega
      rw [e]; exact hy
  · have ha := ab_def x
    rw [← Bool.not_eq_true, hb_iff, hlen, hf _ (by omega) (by omega), decide_eq_decide]
    rintro ⟨_, h⟩
    rcases Int.lt_or_gt_of_ne hx.1 with h0 | h0
    · have := h.1 (.inr (by omega))
      omega
    · have h2 := h.2 h0
      have e : ab x - 1 + 1 = x := by omega
      rw [e] at h2
      rcases h2 with h2 | h2
      · exact hn h2
      · omega

set_option maxHeartbeats 1000000 in
theorem cubeCovers_pure (l m : List Int) : CubeCovers l m = some ((true, ()), (), ()) := by
  suffices hs : Runs (CubeCovers l m) (fun o => o = ((true, ()), (), ())) by
    obtain ⟨_, e, rfl⟩ := hs; exact e
  obtain ⟨x, ex, hxl, hx⟩ := narrow_ok l
  obtain ⟨y, ey, hyl, hy⟩ := narrow_ok m
  obtain ⟨a, oka, ea, ha1, ha2⟩ := norm_ok hxl fun e he => sm6 (hx e he)
  obtain ⟨b, okb, eb, hb1, hb2⟩ := norm_ok hyl fun e he => sm6 (hy e he)
  unfold CubeCovers CubeCoversF
  refine Runs.bind head24_true (Runs.bind ex (Runs.bind ea (Runs.bind ey (Runs.bind eb ?_))))
  dsimp only
  cases oka with
  | false => exact Runs.ret rfl
  | true =>
  cases okb with
  | false => exact Runs.ret rfl
  | true =>
  obtain ⟨ia, ma, la⟩ := ha1 rfl
  obtain ⟨ib, mb, lb⟩ := hb1 rfl
  have ha6 : ∀ e ∈ a, e ≠ 0 ∧ -6 ≤ e ∧ e ≤ 6 := fun e he => hx e ((ma e).1 he)
  have hb6 : ∀ e ∈ b, e ≠ 0 ∧ -6 ≤ e ∧ e ≤ 6 := fun e he => hy e ((mb e).1 he)
  simp only [Bool.not_true, cond_f]
  refine Runs.iter (fun s : Bool × Int => 0 ≤ s.2 ∧ s.2 ≤ 64 ∧ (s.1 = true ↔ ∀ k : Nat, (k : Int) < s.2 → b.all (hb (bitsL k)) = true → a.all (hb (bitsL k)) = true)) (fun s => (64 - s.2).toNat) ?_ ⟨by dsimp only; omega, by dsimp only; omega, ⟨fun _ k hk => by dsimp only at hk; omega, fun _ => rfl⟩⟩ (fuelN_gt (by dsimp only; omega))
  rintro ⟨all, k⟩ ⟨k0, k1, k2⟩
  dsimp only at k0 k1 k2 ⊢
  refine Runs.dec (fun hk => ?_) (fun hk => ?_)
  · obtain ⟨n, rfl⟩ : ∃ n : Nat, k = (n : Int) := ⟨k.toNat, (Int.toNat_of_nonneg k0).symm⟩
    refine Runs.bind (Bits16_ok k0 hk) (Runs.bind (holds_ok (by omega) fun e he => sm6 (hb6 e he)) ?_)
    dsimp only [Int.toNat_natCast]
    have ext : ∀ r : Bool, (r = true ↔ (∀ k : Nat, (k : Int) < n → b.all (hb (bitsL k)) = true → a.all (hb (bitsL k)) = true) ∧ (b.all (hb (bitsL n)) = true → a.all (hb (bitsL n)) = true)) → (r = true ↔ ∀ k : Nat, (k : Int) < n + 1 → b.all (hb (bitsL k)) = true → a.all (hb (bitsL k)) = true) := by
      intro r hr
      rw [hr]
      constructor
      · rintro ⟨h1, h2⟩ k hk
        by_cases e : k = n
        · rw [e]; exact h2
        · exact h1 k (by omega)
      · intro h
        exact ⟨fun k hk => h k (by omega), h n (by omega)⟩
    refine Runs.bool (fun c => ?_) (fun c => ?_)
    · refine Runs.bind (holds_ok (by omega) fun e he => sm6 (ha6 e he)) ?_
      rw [cond_t]
      refine Runs.bool (fun d => ?_) (fun d => ?_)
      · refine Runs.inK ⟨by omega, by omega⟩ (Runs.ret ⟨⟨by dsimp only; omega, by dsimp only; omega, ?_⟩, by dsimp only; omega⟩)
        refine ext false ⟨(fun h => by cases h), fun h => ?_⟩
        have := h.2 c
        dsimp only at d
        rw [this] at d
        cases d
      · refine Runs.inK ⟨by omega, by omega⟩ (Runs.ret ⟨⟨by dsimp only; omega, by dsimp only; omega, ?_⟩, by dsimp only; omega⟩)
        refine ext all ?_
        rw [k2]
        dsimp only at d
        exact ⟨fun h => ⟨h, fun _ => by simpa using d⟩, fun h => h.1⟩
    · refine Runs.inK ⟨by omega, by omega⟩ (Runs.ret ⟨⟨by dsimp only; omega, by dsimp only; omega, ?_⟩, by dsimp only; omega⟩)
      refine ext all ?_
      rw [k2]
      exact ⟨fun h => ⟨h, fun h2 => absurd (h2.symm.trans c) (by decide)⟩, fun h => h.1⟩
  · rw [cond_t]
    refine Runs.bind (covers_ok (by omega) (by omega)) (Runs.ret ?_)
    have key : a.all (fun x => decide (x ∈ b)) = all := by
      rw [Bool.eq_iff_iff, k2, List.all_eq_true]
      constructor
      · intro h k _ hB
        rw [List.all_eq_true] at hB ⊢
        intro e he
        exact hB e (by simpa using h e he)
      · intro h e he
        rw [decide_eq_true_eq]
        by_cases hn : e ∈ b
        · exact hn
        · exfalso
          obtain ⟨k, hk', h1, h2⟩ := apart_st ib hb6 (ha6 e he) hn
          have := h k (by omega) h1
          rw [List.all_eq_true] at this
          rw [this e he] at h2
          cases h2
    show _ = _
    rw [key]
    simp
theorem cubeCovers_pure_fit (x : (inTy [.sl (.int .i8), .sl (.int .i8)]).den) (h : inFit [.sl (.int .i8), .sl (.int .i8)] x) : CubeCovers x.1 x.2.1 = some ((true, ()), (), ()) := cubeCovers_pure _ _
end GoSx
end
section
/- The pure claim of CubeClause. -/
set_option linter.unusedVariables false
set_option linter.unusedSimpArgs false
namespace GoSx
open Go

set_option maxHeartbeats 4000000 in
theorem cubeClause_pure (l : List Int) (state : List Bool) (pos : Int) (hp : 0 ≤ pos ∧ pos ≤ 255) : CubeClause l state pos = some ((true, ()), (), ()) := by
  suffices hs : Runs (CubeClause l state pos) (fun o => o = ((true, ()), (), ())) by
    obtain ⟨_, e, rfl⟩ := hs; exact e
  unfold CubeClause CubeClauseF
  rw [wrap_id (x := pos) (by omega) (by omega)]
  refine Runs.bind head24_true (Runs.dec (fun h => Runs.ret rfl) (fun h => ?_))
  rw [cond_f]
  refine Runs.eqI (fun h0 => Runs.ret rfl) (fun h0 => ?_)
  simp only [nI] at h h0
  refine Runs.join (Q1 := fun o => ∃ k x, o = Sum.inl (k, x) ∧ x.length ≤ 40 ∧ ∀ e ∈ x, e ≠ 0 ∧ -(state.length : Int) ≤ e ∧ e ≤ state.length) ?_ ?_ (fun r hr => by obtain ⟨_, _, h, _⟩ := hr; cases h)
  · refine Runs.iter (fun q : Int × List Int => 0 ≤ q.1 ∧ q.1 ≤ 40 ∧ (q.2.length : Int) ≤ q.1 ∧ ∀ e ∈ q.2, e ≠ 0 ∧ -(state.length : Int) ≤ e ∧ e ≤ state.length) (fun q => (40 - q.1).toNat) ?_ ⟨by dsimp only; omega, by dsimp only; omega, by simp, fun e he => by cases he⟩ (fuelN_gt (by dsimp only; omega))
    rintro ⟨i, x⟩ ⟨i0, i1, i2, i3⟩
    dsimp only at i0 i1 i2 i3 ⊢
    refine Runs.dec (fun hi => ?_) (fun hi => Runs.ret ⟨i, x, rfl, by omega, i3⟩)
    rw [cond_t]
    refine Runs.dec (fun h40 => ?_) (fun h40 => Runs.ret ⟨i, x, rfl, by omega, i3⟩)
    simp only [nI] at hi ⊢
    refine Runs.gd i0 (Runs.gd hi (Runs.inK ⟨by omega, by omega⟩ ?_))
    generalize hz : (getI l i).tmod ((state.length : Int) + 1) = z
    have hz1 : -(state.length : Int) ≤ z ∧ z ≤ state.length := by
      rw [← hz]
      rcases Int.le_total 0 (getI l i) with g0 | g0
      · have := Int.tmod_nonneg ((state.length : Int) + 1) g0
        have := Int.tmod_lt_of_pos (getI l i) (b := (state.length : Int) + 1) (by omega)
        omega
      · have h1 := Int.neg_tmod (a := getI l i) (b := (state.length : Int) + 1)
        have := Int.tmod_nonneg (a := -(getI l i)) ((state.length : Int) + 1) (by omega)
        have := Int.tmod_lt_of_pos (-(getI l i)) (b := (state.length : Int) + 1) (by omega)
        omega
    refine Runs.neI (fun c => ?_) (fun c => ?_)
    · refine Runs.gd (by simp only [lim, List.length_singleton]; omega) (Runs.gd (by simp only [lim, List.length_singleton]; omega) (Runs.inK ⟨by omega, by omega⟩ (Runs.ret ⟨⟨by dsimp only; omega, by dsimp only; omega, by simp; omega, fun e he => ?_⟩, by dsimp only; omega⟩)))
      dsimp only at he
      rcases List.mem_append.1 he with h | h
      · exact i3 e h
      · rw [List.mem_singleton.1 h]; exact ⟨c, hz1⟩
    · exact Runs.inK ⟨by omega, by omega⟩ (Runs.ret ⟨⟨by dsimp only; omega, by dsimp only; omega, by dsimp only; omega, i3⟩, by dsimp only; omega⟩)
  rintro ⟨k, x⟩ ⟨_, _, he, hxl, hx⟩
  injection he with he
  injection he with he1 he2
  subst he2
  dsimp only
  have hsx : ∀ e ∈ x, Sm e := fun e he => ⟨(hx e he).1, by have := hx e he; omega, by have := hx e he; omega⟩
  refine Runs.bind (clause_ok (by omega) hsx) ?_
  dsimp only
  have hcl : (x.map (fun e => -e)).length = x.length := List.length_map ..
  have hsc : ∀ e ∈ x.map (fun e => -e), Sm e := fun e he => by
    obtain ⟨y, hy, rfl⟩ := List.mem_map.1 he
    have := hsx y hy
    unfold Sm at this ⊢
    omega
  -- a number or its opposite
  have opp : ∀ e ∈ x, hb state (-e) = !hb state e := fun e he => by
    have h1 := hx e he
    have a1 := ab_def e
    have a2 := ab_def (-e)
    have ea : ab (-e) = ab e := by omega
    rw [Bool.eq_iff_iff, hb_iff, ea, Bool.not_eq_true', ← Bool.not_eq_true, hb_iff]
    have hle : ab e ≤ state.length := by omega
    cases hg : getB state (ab e - 1)
    · simp only [hle, true_and]
      constructor
      · intro g g2
        have e1 : ¬ (-e > 0) := of_decide_eq_false g.symm
        have e2 : ¬ (e > 0) := of_decide_eq_false g2.symm
        omega
      · intro g
        refine (decide_eq_false ?_).symm
        intro g3
        exact g (decide_eq_false (by omega)).symm
    · simp only [hle, true_and]
      constructor
      · intro g g2
        have e1 : (-e > 0) := of_decide_eq_true g.symm
        have e2 : (e > 0) := of_decide_eq_true g2.symm
        omega
      · intro g
        refine (decide_eq_true ?_).symm
        by_cases g3 : e > 0
        · exact absurd (decide_eq_true g3).symm g
        · omega
  refine Runs.iter (fun q : Bool × Int => 0 ≤ q.2 ∧ q.2 ≤ x.length ∧ (q.1 = true ↔ ∃ i : Int, 0 ≤ i ∧ i < q.2 ∧ hb state (getI (x.map (fun e => -e)) i) = true)) (fun q => ((x.length : Int) - q.2).toNat) ?_ ⟨by dsimp only; omega, by dsimp only; omega, ⟨(fun h => by cases h), fun ⟨i, a, b, _⟩ => by dsimp only at b; omega⟩⟩ (fuelN_gt (by dsimp only; omega))
  rintro ⟨one, i⟩ ⟨i0, i1, i2⟩
  dsimp only at i0 i1 i2 ⊢
  refine Runs.dec (fun hi => ?_) (fun hi => ?_)
  · simp only [nI] at hi ⊢
    refine Runs.bool (fun c => ?_) (fun c => ?_)
    · refine Runs.inK ⟨by omega, by omega⟩ (Runs.ret ⟨⟨by dsimp only; omega, by dsimp only; omega, ⟨fun _ => ?_, fun _ => rfl⟩⟩, by dsimp only; omega⟩)
      obtain ⟨j, a, b, d⟩ := i2.1 c
      exact ⟨j, a, by dsimp only; omega, d⟩
    · refine Runs.gd i0 (Runs.gd hi (Runs.bind (holds_ok (by simp) fun e he => ?_) (Runs.inK ⟨by omega, by omega⟩ (Runs.ret ⟨⟨by dsimp only; omega, by dsimp only; omega, ?_⟩, by dsimp only; omega⟩))))
      · rw [List.mem_singleton.1 he]
        exact hsc _ (getI_mem i0 hi)
      · dsimp only
        simp only [cond_f, List.all_cons, List.all_nil, Bool.and_true]
        constructor
        · intro g
          exact ⟨i, i0, by omega, g⟩
        · rintro ⟨j, a, b, d⟩
          by_cases e : j = i
          · rw [← e]; exact d
          · have := i2.2 ⟨j, a, by omega, d⟩
            rw [c] at this; cases this
  · simp only [nI] at hi
    obtain ⟨_, eo, own, rfl, hol, ho⟩ := of_ok (s := state) (by omega)
    refine Runs.bind eo ?_
    simp only [List.nil_append, nI]
    have h1 := Int.tmod_nonneg (a := pos) state.length hp.1
    have h2 := Int.tmod_lt_of_pos pos (b := state.length) (by omega)
    refine Runs.gd (by simp only [lim]; omega) (Runs.gd (by simp only [lim]; omega) (Runs.gd h0 (Runs.gd h0 (Runs.gd h1 (Runs.gd h2 (Runs.gd h1 (Runs.gd h2 ?_)))))))
    rw [cond_t]
    refine Runs.bind (holds_ok (by omega) hsx) ?_
    have hone : one = !x.all (hb state) := by
      rw [Bool.eq_iff_iff, i2, Bool.not_eq_true', ← Bool.not_eq_true, List.all_eq_true]
      constructor
      · rintro ⟨j, a, b, d⟩ hall
        have hj : getI (x.map (fun e => -e)) j ∈ x.map (fun e => -e) := getI_mem a (by omega)
        obtain ⟨y, hy, ey⟩ := List.mem_map.1 hj
        rw [← ey, opp y hy, hall y hy] at d
        cases d
      · intro hn
        have : ∃ y ∈ x, hb state y = false := by
          apply Classical.byContradiction
          intro hno
          apply hn
          intro y hy
          cases hy2 : hb state y
          · exact absurd ⟨y, hy, hy2⟩ hno
          · rfl
        obtain ⟨y, hy, hf⟩ := this
        obtain ⟨j, a, b, d⟩ := mem_getI (List.mem_map_of_mem (f := fun e => -e) hy)
        refine ⟨j, a, by omega, ?_⟩
        rw [d, opp y hy, hf]
        rfl
    dsimp only
    rw [hone, cond_t]
    have : (!(!x.all (hb state)) == x.all (hb state)) = true := by cases x.all (hb state) <;> rfl
    rw [this, cond_t]
    refine Runs.bind (clause_ok (by omega) hsc) ?_
    dsimp only
    have hnn : (x.map (fun e => -e)).map (fun e => -e) = x := by
      rw [List.map_map]
      refine (List.map_congr_left fun e _ => ?_).trans (List.map_id _)
      simp
    rw [hnn]
    refine Runs.bind (sameInts_ok (a := x) (b := x) (by omega)) ?_
    rw [decide_eq_true rfl, cond_t, cond_t]
    have hso : ∀ e ∈ own, Sm e := fun e he => by
      obtain ⟨j, a, b, d⟩ := mem_getI he
      rw [ho j a (by omega)] at d
      unfold Sm
      split at d <;> omega
    refine Runs.bind (holds_ok (by omega) hso) ?_
    have hgen : ∀ (st : List Bool) (j : Int), st.length = state.length → 0 ≤ j → j < state.length → hb st (getI own j) = (getB st j == getB state j) := fun st j hl a b => by
      rw [ho j a b]
      have hab : ab (if getB state j = true then j + 1 else -j - 1) = j + 1 := by
        have b1 := ab_def (j + 1)
        have b2 := ab_def (-j - 1)
        split <;> omega
      have hpos : decide ((if getB state j = true then j + 1 else -j - 1) > 0) = getB state j := by
        cases getB state j
        · simp; omega
        · simp; omega
      unfold hb
      rw [hab, hpos, show j + 1 - 1 = j by omega, hl, decide_eq_true (by omega : j + 1 ≤ (state.length : Int)), Bool.true_and]
    have hown : own.all (hb state) = true := by
      rw [List.all_eq_true]
      intro e he
      obtain ⟨j, a, b, d⟩ := mem_getI he
      rw [← d, hgen state j rfl a (by omega), beq_self_eq_true]
    rw [hown, cond_t, cond_t]
    refine Runs.bind (holds_ok (by omega) hso) ?_
    have hoth : own.all (hb (state.set (pos.tmod state.length).toNat (!getB state (pos.tmod state.length)))) = false := by
      rw [← Bool.not_eq_true, List.all_eq_true]
      intro hall
      have g := hall _ (getI_mem (l := own) h1 (by omega))
      rw [hgen _ _ (by rw [List.length_set]) h1 h2] at g
      have hgs : getB (state.set (pos.tmod state.length).toNat (!getB state (pos.tmod state.length))) (pos.tmod state.length) = !getB state (pos.tmod state.length) := by
        have hlt : (pos.tmod state.length).toNat < state.length := by omega
        rw [getB_def (state.set _ _), List.getD_eq_getElem?_getD, List.getElem?_set_self hlt]
        rfl
      rw [hgs] at g
      cases getB state (pos.tmod state.length) <;> simp at g
    rw [hoth]
    simp only [Bool.not_false, cond_t]
    refine Runs.ret ?_
    show _ = _
    rw [hol, beq_self_eq_true]
theorem cubeClause_pure_fit (x : (inTy [ints, .sl .bool, .int .u8]).den) (h : inFit [ints, .sl .bool, .int .u8] x) : CubeClause x.1 x.2.1 x.2.2.1 = some ((true, ()), (), ()) := by
  obtain ⟨_, _, h2, _⟩ := h
  exact cubeClause_pure _ _ _ h2
end GoSx
end
section
/- The row of CubeClause: whatever the input, it returns true, and the input reads as it did. -/
namespace Go.Proofs.Ytcnjjmnjnpoklaa
open Go GoSx Go.ChangeShapes Go.WideShapes Go.ChangeAt Go.RowKit

theorem Try.own : ownKnob Try.prog.godebug = none := by kernel_rfl
theorem Try.laidOut : laidOutB Try.prog = true := by kernel_rfl

theorem cubeClause_run (x : (inTy [ints, .sl .bool, .int .u8]).den) (hx : inFit [ints, .sl .bool, .int .u8] x) : ∃ o, ((CubeClause_s.summ fun xa xo => GoSx.CubeClause xa.1 xa.2.1 xa.2.2.1) (inAV [ints, .sl .bool, .int .u8] x) 64).run (fun _ => .none) = some o ∧ o.obls = [] ∧ o.res = .dat .bool true := by
  have e : ((CubeClause_s.summ fun xa xo => GoSx.CubeClause xa.1 xa.2.1 xa.2.2.1) (inAV [ints, .sl .bool, .int .u8] x) 64).run (fun _ => .none) =
      (match GoSx.CubeClause x.1 x.2.1 x.2.2.1 with
        | some y => some ⟨[], .dat .bool y.1.1, []⟩
        | Option.none => Option.none) := by kernel_rfl
  rw [GoSx.cubeClause_pure_fit x hx] at e
  exact ⟨_, e, rfl, rfl⟩

theorem cubeClause_lifted (os : Os) (started : os.Started) (H : Type) (enc : TypeId × Value → H) :
    ReturnsInHanded {} Try.checked os 4 .any (Rows.cubeClauseSpec.pre6 enc Try.prog Try.f4 Rows.cubeClauseRow.domain false) (Rows.cubeClauseSpec.post enc Try.prog Try.f4 false true false false) :=
  law_lifted (C := Try.checked) (Ts := [ints, .sl .bool, .int .u8]) (tb := 4) Try.own started (by kernel_rfl) Try.func4
    (ChangeSpec.witness6 (enc := enc) (C := Try.checked) false ⟨#[], #[.slice none 0 0, .slice none 0 0, .int .u8 0], []⟩ 8 (by kernel_rfl) (by kernel_rfl) (by kernel_rfl) (by kernel_rfl))
    Try.laidOut rfl (fun ds h => by match ds, h with | [a, b, c], _ => rfl) (by kernel_rfl) (by kernel_rfl) (by kernel_rfl) (summ_at T_CubeClause_ok 4 (S := CubeClause_s.summ fun xa xo => GoSx.CubeClause xa.1 xa.2.1 xa.2.2.1) (by kernel_rfl)) cubeClause_run

theorem cubeClause_holds : Rows.CubeClauseSaid :=
  OpenClaim.holds_of_wide 4 Try.f4 rfl rfl rfl rfl rfl rfl rfl ⟨rfl, rfl, rfl, rfl, rfl⟩ rfl rfl rfl rfl rfl (by kernel_rfl) Try.func4 (by kernel_rfl)
    (of_decide_eq_true (by kernel_rfl)) (by unfold Func.isWrapper; first | (rw [if_pos (by decide +kernel)]; kernel_rfl) | (rw [if_neg (by decide +kernel)]; exact ⟨rfl, rfl⟩))
    (fun os started H enc _ => cubeClause_lifted os started H enc)
end Go.Proofs.Ytcnjjmnjnpoklaa
end
