/- The texts PR, PS, PT, PU, one behind the other. -/
import Derived.Test.YtkbcakjppajopaaGC1
import Derived.KernelRfl
set_option linter.unusedVariables false
set_option linter.unusedSimpArgs false
section
/- The pure theory, part R: New, Grow; how many clauses may be learned; solvers made of clauses. -/
set_option linter.unusedVariables false
set_option linter.unusedSimpArgs false
namespace GoSx
open Go

theorem getI_zeros {l : List Int} {k : Nat} {v : Int} : getI (l ++ List.replicate k 0) v = getI l v := by
  rw [getI_def, getI_def, List.getD_eq_getElem?_getD, List.getD_eq_getElem?_getD]
  by_cases h : v.toNat < l.length
  · rw [List.getElem?_append_left h]
  · rw [List.getElem?_append_right (by omega), List.getElem?_eq_none (l := l) (by omega), List.getElem?_replicate]
    split <;> rfl
theorem getL_nils {l : List (List Int)} {k : Nat} {v : Int} : getL (l ++ List.replicate k []) v = getL l v := by
  rw [getL_def, getL_def, List.getD_eq_getElem?_getD, List.getD_eq_getElem?_getD]
  by_cases h : v.toNat < l.length
  · rw [List.getElem?_append_left h]
  · rw [List.getElem?_append_right (by omega), List.getElem?_eq_none (l := l) (by omega), List.getElem?_replicate]
    split <;> rfl
theorem val_zeros {l : List Int} {k : Nat} {x : Int} : val (l ++ List.replicate k 0) x = val l x := by
  unfold val; rw [getI_zeros, getI_zeros]
theorem getL_ge {l : List (List Int)} {i : Int} (h : (l.length : Int) ≤ i) : getL l i = [] := by
  rw [getL_def, List.getD_eq_getElem?_getD, List.getElem?_eq_none (by omega)]; rfl

theorem more_ok {l : List Int} {n : Int} (h : l.length ≤ n) (hn : n ≤ 1048577) : more l n = some ((l ++ List.replicate (n - l.length).toNat 0, ()), (), ()) := by
  unfold more
  rw [gd_inK (by simp only [nI]; omega) (by simp only [nI]; omega), gd_pos (by simp only [nI]; omega), gd_pos (by simp only [nI, lim]; omega), gd_pos (by simp only [nI, lim]; omega)]

/-- A solver with more variables. -/
def Sol.grown (s : Sol) (n : Int) : Sol := { s with vars := n, watch := s.watch ++ List.replicate (2 * n + 2 - s.watch.length).toNat [], is := s.is ++ List.replicate (n + 1 - s.is.length).toNat 0, depth := s.depth ++ List.replicate (n + 1 - s.depth.length).toNat 0, why := s.why ++ List.replicate (n + 1 - s.why.length).toNat 0, old := s.old ++ List.replicate (n + 1 - s.old.length).toNat 0, hot := s.hot ++ List.replicate (n + 1 - s.hot.length).toNat 0 }
theorem lit_le {N N' x : Int} (h : lit N x) (hN : N ≤ N') : lit N' x := by unfold lit at *; omega
theorem Idle.grown {G : List (List Int)} {s : Sol} (h : Idle G s) {n : Int} (hn : s.vars ≤ n) (hn2 : n ≤ 1048576) (ans : Int) : Idle G { s.grown n with answer := ans, core := [], model := [] } := by
  have tr := h.tr
  have l1 := tr.lis; have l2 := tr.ldep; have l3 := tr.lwhy; have l4 := h.he.lold; have l5 := h.he.lhot; have l6 := h.wt.1
  have n0 := tr.n0
  refine ⟨h.bg, ⟨by dsimp only [Sol.grown]; omega, hn2, ?_, ?_, ?_, fun v => ?_, fun i a b => ?_, fun v a b c => ?_, tr.rinj, fun i a b => ?_, fun L a b => ?_, fun i a b => ?_⟩, fun m a b => ?_, ⟨?_, fun z hz => ?_⟩, ⟨?_, ?_, fun v => ?_, fun v hv => ?_, h.he.wnd, fun v a b => ?_, h.he.c1, ?_, fun v a b => ?_⟩, ⟨h.se.s1, fun i a b c d => ?_, h.se.s3, fun g hg => ?_, h.se.s5, fun p hp => ?_, fun p hp => ?_, h.se.s8⟩, h.dn, fun e m a b => ?_, fun g hg y hy => lit_le (h.gl g hg y hy) hn, h.al⟩
  · dsimp only [Sol.grown]; rw [List.length_append, List.length_replicate]; omega
  · dsimp only [Sol.grown]; rw [List.length_append, List.length_replicate]; omega
  · dsimp only [Sol.grown]; rw [List.length_append, List.length_replicate]; omega
  · dsimp only [Sol.grown]; rw [getI_zeros]; exact tr.tri v
  · dsimp only [Sol.grown] at *; rw [val_zeros]; exact ⟨lit_le (tr.rlit i a b).1 hn, (tr.rlit i a b).2⟩
  · dsimp only [Sol.grown] at *
    rw [getI_zeros] at c
    refine tr.rall v a ?_ c
    rcases Int.lt_or_le s.vars v with q | q
    · exact absurd (getI_ge (by omega)) c
    · exact q
  · dsimp only [Sol.grown] at *; rw [getI_zeros]; exact tr.dlo i a b
  · simp only [List.length_nil] at b; omega
  · dsimp only [Sol.grown] at *; rw [getI_zeros, getI_zeros]; exact tr.rsn i a b
  · have := h.gd m a b
    exact ⟨this.1, fun y hy => lit_le (this.2.1 y hy) hn, this.2.2⟩
  · dsimp only [Sol.grown]; rw [List.length_append, List.length_replicate]; omega
  · dsimp only [Sol.grown] at *
    rw [getL_nils]
    by_cases hz2 : lit s.vars z
    · exact h.wt.2 z hz2
    · rw [getL_ge]
      · refine ⟨by simp, fun m => ⟨by simp, fun ⟨a, b, c⟩ => ?_⟩⟩
        exfalso
        have hg := h.gd m a b
        have q0 := hg.lit (Int.le_refl 0) (by have := hg.1; omega)
        have q1 := hg.lit (i := 1) (by omega) (by have := hg.1; omega)
        rcases c with c | c
        · exact hz2 (c ▸ q0)
        · exact hz2 (c ▸ q1)
      · unfold lit at hz hz2; unfold wa; split <;> omega
  · dsimp only [Sol.grown]; rw [List.length_append, List.length_replicate]; omega
  · dsimp only [Sol.grown]; rw [List.length_append, List.length_replicate]; omega
  · dsimp only [Sol.grown]; rw [getI_zeros]; exact h.he.hot0 v
  · have := h.he.wlit v hv; dsimp only [Sol.grown]; omega
  · dsimp only [Sol.grown] at *
    rw [getI_zeros]
    rcases Int.lt_or_le s.vars v with q | q
    · rw [getI_ge (by omega)]
      exact ⟨fun h => absurd rfl h, fun hm => by have := h.he.wlit v hm; omega⟩
    · exact h.he.wiff v a q
  · have := h.he.c2; dsimp only [Sol.grown]; omega
  · dsimp only [Sol.grown] at *; rw [getI_zeros, getI_zeros]; exact h.he.ccov v a b
  · dsimp only [Sol.grown] at *; rw [getI_zeros] at c d; exact h.se.s2 i a b c d
  · dsimp only [Sol.grown] at *; simp only [getI_zeros]; exact h.se.s4 g hg
  · have := h.se.s6 p hp
    exact ⟨this.1, fun y hy => lit_le (this.2.1 y hy) hn, this.2.2⟩
  · dsimp only [Sol.grown] at *; simp only [getI_zeros]; exact h.se.s7 p hp
  · have hw := h.w2 e m a b
    dsimp only [Sol.grown] at *
    unfold W2 W2h at *
    simp only [getI_zeros, val_zeros]
    exact hw

theorem grow_ok {s : Sol} {n : Int} (l1 : (s.is.length : Int) ≤ n + 1) (l2 : (s.depth.length : Int) ≤ n + 1) (l3 : (s.why.length : Int) ≤ n + 1) (l4 : (s.old.length : Int) ≤ n + 1) (l5 : (s.hot.length : Int) ≤ n + 1) (l6 : (s.watch.length : Int) ≤ 2 * n + 2) (hn : n ≤ 1048576) :
    grow n s.vars s.watch s.is s.depth s.why s.old s.hot = some ((), (((s.grown n).vars, (s.grown n).watch, (s.grown n).is, (s.grown n).depth, (s.grown n).why, (s.grown n).old, (s.grown n).hot, ()), ()), ()) := by
  unfold grow
  have hn0 : -1 ≤ n := by omega
  simp only [more_ok l1 (by omega), more_ok l2 (by omega), more_ok l3 (by omega), more_ok l4 (by omega), more_ok l5 (by omega), bindO_some]
  rw [gd_inK (by omega) (by omega), gd_inK (by omega) (by omega), gd_inK (by omega) (by omega), gd_inK (by omega) (by omega), gd_inK (by omega) (by omega), gd_inK (by omega) (by omega), gd_inK (by omega) (by omega), gd_inK (by simp only [nI]; omega) (by simp only [nI]; omega), gd_pos (by simp only [nI]; omega), gd_pos (by simp only [nI, lim]; omega), gd_pos (by simp only [nI, lim]; omega)]
  rfl

def Sol.none : Sol := ⟨0, [], [], [], [], [], [], [], [], 1, [], [], 0, false, [], 0, [], []⟩
/-- A new one. -/
theorem new_ok {n : Int} (N : Int) (hN : N = min2 (max2 n 0) 1048576) : ∃ s, New n = some ((), (), s.tup, ()) ∧ Idle [] s ∧ s.vars = N ∧ s.proof = [] ∧ s.answer = 0 ∧ s.core = [] ∧ s.model = [] := by
  have hb : 0 ≤ N ∧ N ≤ 1048576 := by
    rw [hN]; unfold min2 max2; split <;> split <;> omega
  have z : ∀ (k : Nat) (v : Int), getI (([] : List Int) ++ List.replicate k 0) v = 0 := fun k v => by rw [getI_zeros]; rfl
  have zl : ∀ (k : Nat) (v : Int), getL (([] : List (List Int)) ++ List.replicate k []) v = [] := fun k v => by rw [getL_nils]; rfl
  have h0 : Idle [] (Sol.none.grown N) := by
    have er : ((Sol.none.grown N).row.length : Int) = 0 := rfl
    have ea : ((Sol.none.grown N).all.length : Int) = 0 := rfl
    have eb : (([] : List Int).length : Int) = 0 := rfl
    have len : ∀ k : Int, 0 ≤ k → (((([] : List Int) ++ List.replicate (k - ([] : List Int).length).toNat 0).length : Nat) : Int) = k := fun k hk => by
      rw [List.length_append, List.length_replicate]; simp only [List.length_nil]; omega
    have lenW : ∀ k : Int, 0 ≤ k → (((([] : List (List Int)) ++ List.replicate (k - ([] : List (List Int)).length).toNat []).length : Nat) : Int) = k := fun k hk => by
      rw [List.length_append, List.length_replicate]; simp only [List.length_nil]; omega
    have nob : ∀ {p : Prop} (i : Int), 0 ≤ i → i < (Sol.none.grown N).row.length → p := fun i a b => absurd b (by rw [er]; omega)
    have noa : ∀ {p : Prop} (i : Int), 0 ≤ i → i < (Sol.none.grown N).all.length → p := fun i a b => absurd b (by rw [ea]; omega)
    exact ⟨rfl, ⟨hb.1, hb.2, len (N + 1) (by omega), len (N + 1) (by omega), len (N + 1) (by omega), fun v => .inr (.inl (z _ v)), fun i a b => nob i a b, fun v a b c => absurd (z _ v) c, fun i j a b => nob i a b, fun i a b => nob i a b, fun L a b => absurd b (by rw [eb]; omega), fun i a b => nob i a b⟩, fun m a b => noa m a b,
      ⟨lenW (2 * N + 2) (by omega), fun x hx => by
        have : getL (Sol.none.grown N).watch (wa x) = [] := zl _ _
        rw [this]
        exact ⟨List.nodup_nil, fun m => ⟨fun h => (by cases h), fun ⟨a, b, _⟩ => noa m a b⟩⟩⟩,
      ⟨len (N + 1) (by omega), len (N + 1) (by omega), fun v => by
        have : getI (Sol.none.grown N).hot v = 0 := z _ _
        rw [this]; exact ⟨Int.le_refl _, Int.le_refl _⟩, fun v hv => (by cases hv), List.nodup_nil, fun v a b => by
        have : getI (Sol.none.grown N).hot v = 0 := z _ _
        rw [this]; exact ⟨fun h => absurd rfl h, fun h => by cases h⟩, (by show (1 : Int) ≤ 1; decide), (by show (1 : Int) ≤ N + 1; omega), fun v a b => absurd b (by show ¬ v < 1; omega)⟩,
      ⟨fun m a b => noa m a b, fun i a b => nob i a b, fun e => (by cases e), fun g hg => (by cases hg), fun k hk => absurd hk (Nat.not_lt_zero k), fun p hp => (by cases hp), fun p hp => (by cases hp), List.Pairwise.nil⟩, ⟨Int.le_refl _, Int.le_refl _⟩, fun e m a b => noa m a b, fun g hg => (by cases hg), Nat.zero_le _⟩
  refine ⟨Sol.none.grown N, ?_, h0, rfl, rfl, rfl, rfl, rfl⟩
  unfold New
  rw [← hN]
  have := grow_ok (s := Sol.none) (n := N) (by simp [Sol.none]; omega) (by simp [Sol.none]; omega) (by simp [Sol.none]; omega) (by simp [Sol.none]; omega) (by simp [Sol.none]; omega) (by simp [Sol.none]; omega) hb.2
  have e2 : grow N 0 [] [] [] [] [] [] = grow N Sol.none.vars Sol.none.watch Sol.none.is Sol.none.depth Sol.none.why Sol.none.old Sol.none.hot := rfl
  rw [e2, this, bindO_some]
  rfl

abbrev GrowT := Int × List (List Int) × List Int × List Int × List Int × List Int × List Int × Int × List Int × List Bool × Unit
def Sol.growT (s : Sol) : GrowT := (s.vars, s.watch, s.is, s.depth, s.why, s.old, s.hot, s.answer, s.core, s.model, ())
theorem Grow_ok {G : List (List Int)} {s : Sol} (h : Idle G s) (n : Int) :
    ∃ s', Grow n s.vars s.watch s.is s.depth s.why s.old s.hot s.answer s.core s.model = some ((), (s'.growT, ()), ()) ∧ Idle G s' ∧ s'.vars = (if s.vars < n ∧ n ≤ 1048576 then n else s.vars) ∧
      s'.all = s.all ∧ s'.warm = s.warm ∧ s'.cold = s.cold ∧ s'.row = s.row ∧ s'.begin = s.begin ∧ s'.done = s.done ∧ s'.empty = s.empty ∧ s'.proof = s.proof ∧ s'.answer = 0 ∧ s'.core = [] ∧ s'.model = [] := by
  have tr := h.tr
  have l1 := tr.lis; have l2 := tr.ldep; have l3 := tr.lwhy; have l4 := h.he.lold; have l5 := h.he.lhot; have l6 := h.wt.1
  have same : Idle G { s with answer := 0, core := [], model := [] } := ⟨h.bg, h.tr, h.gd, h.wt, h.he, h.se, h.dn, h.w2, h.gl, h.al⟩
  unfold Grow forget
  rw [bindO_some, cond_dec]
  by_cases h1 : n > s.vars
  · rw [if_pos h1, cond_t, cond_dec]
    by_cases h2 : n ≤ 1048576
    · rw [if_pos h2, grow_ok (by omega) (by omega) (by omega) (by omega) (by omega) (by omega) h2, bindO_some]
      exact ⟨{ s.grown n with answer := 0, core := [], model := [] }, rfl, h.grown (by omega) h2 0, by rw [if_pos ⟨by omega, h2⟩]; rfl, rfl, rfl, rfl, rfl, rfl, rfl, rfl, rfl, rfl, rfl, rfl⟩
    · rw [if_neg h2]
      exact ⟨_, rfl, same, by rw [if_neg (by omega)], rfl, rfl, rfl, rfl, rfl, rfl, rfl, rfl, rfl, rfl, rfl⟩
  · rw [if_neg h1]
    exact ⟨_, rfl, same, by rw [if_neg (by omega)], rfl, rfl, rfl, rfl, rfl, rfl, rfl, rfl, rfl, rfl, rfl⟩

/-! ### How many clauses may be learned -/
def dg (p : List Int) (v : Int) : Nat := if v ∈ p then 1 else if -v ∈ p then 2 else 0
def code (p : List Int) : Nat → Nat
  | 0 => 0
  | n + 1 => 3 * code p n + dg p (n + 1)
theorem dg_lt (p : List Int) (v : Int) : dg p v < 3 := by unfold dg; split <;> (try split) <;> omega
theorem code_lt (p : List Int) : ∀ n, code p n < 3 ^ n
  | 0 => by simp [code]
  | n + 1 => by
    have := code_lt p n
    have := dg_lt p (n + 1)
    rw [show code p (n + 1) = 3 * code p n + dg p (n + 1) from rfl, Nat.pow_succ]
    omega
theorem code_inj {p q : List Int} : ∀ {n : Nat}, code p n = code q n → ∀ v : Nat, 1 ≤ v → v ≤ n → dg p v = dg q v
  | 0, _ => fun v a b => by omega
  | n + 1, h => by
    intro v a b
    rw [show code p (n + 1) = 3 * code p n + dg p (n + 1) from rfl, show code q (n + 1) = 3 * code q n + dg q (n + 1) from rfl] at h
    have h1 := dg_lt p (n + 1); have h2 := dg_lt q (n + 1)
    by_cases e : v = n + 1
    · subst e
      have e2 : ((n + 1 : Nat) : Int) = (n : Int) + 1 := by omega
      rw [e2]; omega
    · exact code_inj (n := n) (by omega) v a (by omega)
theorem proof_len {G : List (List Int)} {s : Sol} (h : Idle G s) : s.proof.length ≤ 3 ^ s.vars.toNat := by
  have n0 := h.tr.n0
  have := nodup_le (3 ^ s.vars.toNat) (s.proof.map fun p => (code p s.vars.toNat : Int)) (by
    rw [List.nodup_iff_pairwise_ne, List.pairwise_map]
    refine List.Pairwise.imp_of_mem ?_ h.se.s8
    intro p q hp hq hex e
    obtain ⟨y, hy, hyq⟩ := hex
    have hc := code_inj (p := p) (q := q) (n := s.vars.toNat) (by omega)
    have hly := (h.se.s6 p hp).2.1 y hy
    have hb := lit_ab hly
    have hv := hc (ab y).toNat (by omega) (by omega)
    rw [Int.toNat_of_nonneg (by omega)] at hv
    have nd := (h.se.s6 p hp).2.2
    have hnn : -y ∉ p := by
      intro hny
      obtain ⟨i, i0, i1, i2⟩ := mem_getI hy
      obtain ⟨j, j0, j1, j2⟩ := mem_getI hny
      rw [List.nodup_iff_pairwise_ne, List.pairwise_map, List.pairwise_iff_getElem] at nd
      have gi := getI_nat p i.toNat (by omega)
      have gj := getI_nat p j.toNat (by omega)
      rw [Int.toNat_of_nonneg i0, i2] at gi
      rw [Int.toNat_of_nonneg j0, j2] at gj
      rcases Nat.lt_trichotomy i.toNat j.toNat with c | c | c
      · exact nd i.toNat j.toNat (by omega) (by omega) c (by rw [← gi, ← gj, ab_neg])
      · have : i = j := by omega
        have hz := hly.1
        rw [this] at i2
        omega
      · exact nd j.toNat i.toNat (by omega) (by omega) c (by rw [← gi, ← gj, ab_neg])
    unfold dg at hv
    by_cases hpos : 0 < y
    · have e2 : ab y = y := by unfold ab; omega
      rw [e2, if_pos hy, if_neg hyq] at hv
      split at hv <;> omega
    · have e2 : ab y = -y := by unfold ab; omega
      rw [e2, Int.neg_neg, if_neg hnn, if_pos hy, if_neg hyq] at hv
      split at hv <;> omega) (by
    intro x hx
    obtain ⟨p, hp, rfl⟩ := List.mem_map.mp hx
    have := code_lt p s.vars.toNat
    omega)
  rw [List.length_map] at this
  exact this

/-! ### What is told of it -/
theorem Core_ok {l : List Int} (h : l.length ≤ 4398046511104) : Core l = some ((l, ()), ((l, ()), ()), ()) := by
  unfold Core; rw [Clone_ok h, bindO_some]
theorem Model_ok {l : List Bool} (h : l.length ≤ 4398046511104) : Model l = some ((l, ()), ((l, ()), ()), ()) := by
  unfold Model; rw [CloneB_ok h, bindO_some]
theorem take_getL {l : List (List Int)} {i : Int} (h0 : 0 ≤ i) (h1 : i < l.length) : l.take (i + 1).toNat = l.take i.toNat ++ [getL l i] := by
  have e2 : getL l i = l[i.toNat]'(by omega) := by
    have := getL_nat l i.toNat (by omega)
    rwa [Int.toNat_of_nonneg (by omega)] at this
  rw [show (i + 1).toNat = i.toNat + 1 by omega, List.take_add_one, e2, List.getElem?_eq_getElem (by omega)]
  rfl
theorem take_getI {l : List Int} {i : Int} (h0 : 0 ≤ i) (h1 : i < l.length) : l.take (i + 1).toNat = l.take i.toNat ++ [getI l i] := by
  have e2 : getI l i = l[i.toNat]'(by omega) := by
    have := getI_nat l i.toNat (by omega)
    rwa [Int.toNat_of_nonneg (by omega)] at this
  rw [show (i + 1).toNat = i.toNat + 1 by omega, List.take_add_one, e2, List.getElem?_eq_getElem (by omega)]
  rfl
theorem Proof_ok {l : List (List Int)} {a : Int} (h : l.length ≤ 4398046511104) (hc : ∀ c ∈ l, c.length ≤ 4398046511104) : Proof l a = some ((if a = 2 then l else [], ()), ((l, a, ()), ()), ()) := by
  unfold Proof ProofF
  rw [cond_neI]
  by_cases ha : a = 2
  · rw [if_pos ha, if_pos ha]
    have := iterO_inv (X := Int × List (List Int)) (R := (List (List Int) × Unit) × ((List (List Int) × Int × Unit) × Unit) × Unit) (fun y0 =>
      bif decide (y0.1 < nI l.length) then
        gd (0 ≤ y0.1) <|
        gd (y0.1 < nI l.length) <|
        bindO (Clone_ (getL l y0.1)) fun y1 =>
        gd ((y0.2.length + [y1.1.1].length) * 24 ≤ lim) <|
        gd (y0.2.length + [y1.1.1].length ≤ lim) <|
        gd (inK IntKind.i64 (y0.1 + 1)) <|
        some (Sum.inl (y0.1 + 1, y0.2 ++ [y1.1.1]))
      else
        some (Sum.inr ((y0.2, ()), ((l, a, ()), ()), ()))) (fun x => 0 ≤ x.1 ∧ x.1 ≤ l.length ∧ x.2 = l.take x.1.toNat) (fun r => r = ((l, ()), ((l, a, ()), ()), ())) (fun x => ((l.length : Int) - x.1).toNat) (by
        rintro ⟨i, o⟩ ⟨i0, i1, e⟩
        dsimp only at i0 i1 e ⊢
        rw [cond_dec]
        by_cases hi : i < nI l.length
        · left
          simp only [nI] at hi
          have hol : (o.length : Int) = i := by rw [e, List.length_take]; omega
          rw [if_pos hi, gd_pos i0, gd_pos hi, Clone_ok (hc _ (getL_mem i0 hi)), bindO_some, gd_pos (by simp only [lim, List.length_singleton]; omega), gd_pos (by simp only [lim, List.length_singleton]; omega), gd_inK (by omega) (by omega)]
          exact ⟨_, rfl, ⟨by dsimp only; omega, by dsimp only; omega, by dsimp only; rw [take_getL i0 hi, e]⟩, by dsimp only; omega⟩
        · right
          rw [if_neg hi]
          simp only [nI] at hi
          refine ⟨_, rfl, ?_⟩
          rw [e, show i.toNat = l.length by omega, List.take_length]) fuelN (0, []) ⟨by dsimp only; omega, by dsimp only; omega, by simp⟩ (fuelN_gt (by dsimp only; omega))
    obtain ⟨r, e1, e2⟩ := this
    rw [e2] at e1
    exact e1
  · rw [if_neg ha, if_neg ha]

theorem rFuel_ok : rFuel 8 = some ((6561, ()), (), ()) := by
  have : Runs (rFuel 8) (fun o => o = ((6561, ()), (), ())) := by
    unfold rFuel rFuelF
    refine Runs.iter (fun x : Int × Int => 0 ≤ x.2 ∧ x.2 ≤ 8 ∧ x.1 = 3 ^ x.2.toNat) (fun x => (8 - x.2).toNat) ?_ ⟨by decide, by decide, by decide⟩ (fuelN_gt (by decide))
    rintro ⟨a, k⟩ ⟨k0, k1, e⟩
    dsimp only at k0 k1 e ⊢
    have hp : (3 : Int) ^ k.toNat ≤ 3 ^ 8 := by
      have : (3 : Nat) ^ k.toNat ≤ 3 ^ 8 := Nat.pow_le_pow_right (by omega) (by omega)
      have h2 : ((3 ^ k.toNat : Nat) : Int) ≤ ((3 ^ 8 : Nat) : Int) := by omega
      rw [Int.natCast_pow, Int.natCast_pow] at h2
      exact h2
    have hp0 : (0 : Int) < 3 ^ k.toNat := Int.pow_pos (by omega)
    have h38 : (3 : Int) ^ 8 = 6561 := by decide
    refine Runs.dec (fun h => ?_) (fun h => ?_)
    · refine Runs.inK ⟨by omega, by omega⟩ (Runs.inK ⟨by omega, by omega⟩ (Runs.ret ⟨⟨by dsimp only; omega, by dsimp only; omega, ?_⟩, by dsimp only; omega⟩))
      dsimp only
      rw [show (k + 1).toNat = k.toNat + 1 by omega, Int.pow_succ, e]
    · have : k = 8 := by omega
      subst this
      refine Runs.ret ?_
      rw [e]; rfl
  obtain ⟨_, e, rfl⟩ := this
  exact e

/-- A solver of eight variables, with clauses. -/
theorem made_ok {l : List (List Int)} (hl : l.length ≤ 4294967296) (hc : ∀ c ∈ l, c.length ≤ 4294967296 ∧ ∀ x ∈ c, lit 8 x) : ∃ s, made l = some ((), (), s.tup, ()) ∧ Idle l s ∧ s.vars = 8 ∧ s.proof = [] := by
  suffices hs : Runs (made l) (fun o => ∃ s, o = ((), (), Sol.tup s, ()) ∧ Idle l s ∧ s.vars = 8 ∧ s.proof = []) by
    obtain ⟨_, e, s, rfl, p⟩ := hs
    exact ⟨s, e, p⟩
  obtain ⟨s0, e0, i0, v0, p0, a0, c0, m0⟩ := new_ok (n := 8) 8 (by decide)
  unfold made madeF
  refine Runs.bind e0 ?_
  dsimp only
  refine Runs.iter (fun X : Int × (Int × Int × Int × Bool × Int) × List (List Int) × List (List Int) × List Int × List Int × List Int × List Int × List Int × List Int × List Int × List Bool =>
      ∃ (i : Int) (s : Sol), X = (i, (s.vars, s.cold, s.done, s.empty, s.answer), s.all, s.watch, s.is, s.depth, s.why, s.old, s.row, s.begin, s.core, s.model) ∧ 0 ≤ i ∧ i ≤ l.length ∧ Idle (l.take i.toNat) s ∧ s.vars = 8 ∧ s.proof = [] ∧ s.hot = s0.hot ∧ s.warm = s0.warm)
    (fun X => ((l.length : Int) - X.1).toNat) ?_ ⟨0, s0, rfl, by omega, by omega, by simpa using i0, v0, p0, rfl, rfl⟩ (fuelN_gt (by dsimp only; omega))
  rintro _ ⟨i, s, rfl, j0, j1, id, va, pf, ht, wm⟩
  dsimp only
  refine Runs.dec (fun hi => ?_) (fun hi => ?_)
  · simp only [nI] at hi
    have hm := getL_mem j0 hi
    have hcm := hc _ hm
    have htl : (l.take i.toNat).length ≤ 4294967296 := by rw [List.length_take]; omega
    obtain ⟨s', es, ap⟩ := add_ok id (c := getL l i) (by omega) (by rw [pf]; simp only [List.length_nil]; omega) (by omega)
    refine Runs.gd j0 (Runs.gd (by simp only [nI]; omega) (Runs.bind es ?_))
    refine Runs.inK ⟨by omega, by omega⟩ (Runs.ret ⟨⟨i + 1, s', rfl, by omega, by omega, ?_, by rw [ap.va]; exact va, by rw [ap.pf]; exact pf, by rw [ap.ht]; exact ht, by rw [ap.wm]; exact wm⟩, by dsimp only; omega⟩)
    rw [take_getL j0 hi]
    exact ap.idy (by rw [va]; exact hcm.2)
  · simp only [nI] at hi
    have e : i.toNat = l.length := by omega
    rw [e, List.take_length] at id
    refine Runs.ret ⟨s, ?_, id, va, pf⟩
    have : s0.proof = s.proof := by rw [p0, pf]
    show ((), (), (s.vars, s.all, s.watch, s.is, s.depth, s.why, s.old, s0.hot, s0.warm, s.cold, s.row, s.begin, s.done, s.empty, s0.proof, s.answer, s.core, s.model, ()), ()) = _
    rw [this, ← ht, ← wm]; rfl
end GoSx
end
section
/- The pure theory, part S: what the references compute. -/
set_option linter.unusedVariables false
set_option linter.unusedSimpArgs false
namespace GoSx
open Go

theorem rOf_is (x : Int) : rOf x = some ((if x < 0 then (if IntKind.i64.wrap (0 - x) < 0 then 0 else IntKind.i64.wrap (0 - x)) else x, ()), (), ()) := by
  unfold rOf
  rw [cond_dec, cond_dec, cond_dec]
  by_cases h : x < 0
  · rw [if_pos h, if_pos h]; split <;> rfl
  · rw [if_neg h, if_neg h, if_neg h]
theorem rOf_any (x : Int) : ∃ v, rOf x = some ((v, ()), (), ()) ∧ 0 ≤ v := by
  refine ⟨_, rOf_is x, ?_⟩
  split
  · split <;> omega
  · omega
theorem rOf_lit {N x : Int} (h : lit N x) (hN : N ≤ 1048576) : rOf x = some ((ab x, ()), (), ()) := by
  unfold lit at h
  rw [rOf_is]
  split
  · have e : IntKind.i64.wrap (0 - x) = -x := by rw [IntKind.wrap_i64]; omega
    rw [e, if_neg (by omega)]
    have : ab x = -x := by unfold ab; omega
    rw [this]
  · have : ab x = x := by unfold ab; omega
    rw [this]
/-- Of a number that fits: it is a literal, or its variable is none of so many. -/
theorem rOf_fit {N x : Int} (h0 : -9223372036854775808 ≤ x) (h1 : x ≤ 9223372036854775807) (hN0 : 0 ≤ N) (hN : N ≤ 1048576) : ∃ v, rOf x = some ((v, ()), (), ()) ∧ (lit N x ↔ 1 ≤ v ∧ v ≤ N) := by
  refine ⟨_, rOf_is x, ?_⟩
  unfold lit
  split
  · by_cases hm : x = -9223372036854775808
    · have e : IntKind.i64.wrap (0 - x) = -9223372036854775808 := by rw [IntKind.wrap_i64]; omega
      rw [e, if_pos (by omega)]
      constructor <;> omega
    · have e : IntKind.i64.wrap (0 - x) = -x := by rw [IntKind.wrap_i64]; omega
      rw [e, if_neg (by omega)]
      constructor <;> omega
  · constructor <;> omega

theorem rHas_ok {l : List Int} {x : Int} (hl : l.length ≤ 4611686018427387904) : rHas l x = some ((decide (x ∈ l), ()), (), ()) := by
  have : Runs (rHas l x) (fun o => o = ((decide (x ∈ l), ()), (), ())) := by
    unfold rHas rHasF
    refine Runs.iter (fun i : Int => 0 ≤ i ∧ i ≤ l.length ∧ ∀ j : Int, 0 ≤ j → j < i → getI l j ≠ x) (fun i => ((l.length : Int) - i).toNat) ?_ ⟨by omega, by omega, fun j a b => by omega⟩ (fuelN_gt (by omega))
    rintro i ⟨i0, i1, h⟩
    refine Runs.dec (fun hi => ?_) (fun hi => ?_)
    · simp only [nI] at hi
      refine Runs.gd i0 (Runs.gd (by simp only [nI]; omega) (Runs.eqI (fun e => ?_) (fun e => ?_)))
      · refine Runs.ret ?_
        show _ = _
        rw [decide_eq_true (e ▸ getI_mem i0 hi)]
      · refine Runs.inK ⟨by omega, by omega⟩ (Runs.ret ⟨⟨by omega, by omega, fun j a b => ?_⟩, by dsimp only; omega⟩)
        by_cases ej : j = i
        · rw [ej]; exact e
        · exact h j a (by omega)
    · simp only [nI] at hi
      refine Runs.ret ?_
      have : x ∉ l := by
        intro hm
        obtain ⟨j, j0, j1, j2⟩ := mem_getI hm
        exact h j j0 (by omega) j2
      show _ = _
      rw [decide_eq_false this]
  obtain ⟨_, e, rfl⟩ := this
  exact e

/-- Numbers that fit. -/
def fits (x : Int) : Prop := -9223372036854775808 ≤ x ∧ x ≤ 9223372036854775807
theorem lit_fits {N x : Int} (h : lit N x) (hN : N ≤ 1048576) : fits x := by unfold lit at h; unfold fits; omega

theorem rRight_ok {l : List (List Int)} {N : Int} (hN0 : 0 ≤ N) (hN : N ≤ 1048576) (hl : l.length ≤ 4398046511104) (hc : ∀ c ∈ l, c.length ≤ 4398046511104 ∧ ∀ x ∈ c, fits x) : ∃ b, rRight l N = some ((b, ()), (), ()) ∧ (b = true ↔ ∀ c ∈ l, ∀ x ∈ c, lit N x) := by
  have : Runs (rRight l N) (fun o => ∃ b, o = ((b, ()), (), ()) ∧ (b = true ↔ ∀ c ∈ l, ∀ x ∈ c, lit N x)) := by
    unfold rRight rRightF
    rw [cond_f]
    refine Runs.dec (fun h => by omega) (fun _ => Runs.dec (fun h => by omega) (fun _ => ?_))
    refine Runs.iter (fun i : Int => 0 ≤ i ∧ i ≤ l.length ∧ ∀ j : Int, 0 ≤ j → j < i → ∀ x ∈ getL l j, lit N x) (fun i => ((l.length : Int) - i).toNat) ?_ ⟨by omega, by omega, fun j a b => by omega⟩ (fuelN_gt (by omega))
    rintro i ⟨i0, i1, h⟩
    refine Runs.dec (fun hi => ?_) (fun hi => ?_)
    · simp only [nI] at hi
      have hm := getL_mem i0 hi
      obtain ⟨hcl, hcf⟩ := hc _ hm
      refine Runs.iter (fun k : Int => 0 ≤ k ∧ k ≤ (getL l i).length ∧ ∀ j : Int, 0 ≤ j → j < k → lit N (getI (getL l i) j)) (fun k => (((getL l i).length : Int) - k).toNat) ?_ ⟨by omega, by omega, fun j a b => by omega⟩ (fuelN_gt (by omega))
      rintro k ⟨k0, k1, hk⟩
      refine Runs.gd i0 (Runs.gd (by simp only [nI]; omega) (Runs.dec (fun hkl => ?_) (fun hkl => ?_)))
      · simp only [nI] at hkl
        have hxm := getI_mem k0 hkl
        obtain ⟨v, ev, hv⟩ := rOf_fit (N := N) (hcf _ hxm).1 (hcf _ hxm).2 hN0 hN
        refine Runs.gd i0 (Runs.gd (by simp only [nI]; omega) (Runs.gd k0 (Runs.gd (by simp only [nI]; omega) (Runs.bind ev ?_))))
        dsimp only
        rw [cond_f]
        refine Runs.dec (fun h1 => ?_) (fun h1 => Runs.dec (fun h2 => ?_) (fun h2 => ?_))
        · exact Runs.ret ⟨false, rfl, fun h => (by cases h), fun hall => by have := hv.mp (hall _ hm _ hxm); omega⟩
        · exact Runs.ret ⟨false, rfl, fun h => (by cases h), fun hall => by have := hv.mp (hall _ hm _ hxm); omega⟩
        · refine Runs.inK ⟨by omega, by omega⟩ (Runs.ret ⟨⟨by omega, by omega, fun j a b => ?_⟩, by dsimp only; omega⟩)
          by_cases ej : j = k
          · rw [ej]; exact hv.mpr ⟨by omega, by omega⟩
          · exact hk j a (by omega)
      · simp only [nI] at hkl
        refine Runs.inK ⟨by omega, by omega⟩ (Runs.ret ⟨⟨by omega, by omega, fun j a b => ?_⟩, by dsimp only; omega⟩)
        by_cases ej : j = i
        · rw [ej]
          intro x hx
          obtain ⟨q, q0, q1, rfl⟩ := mem_getI hx
          exact hk q q0 (by omega)
        · exact h j a (by omega)
    · simp only [nI] at hi
      refine Runs.ret ⟨true, rfl, fun _ c hcm => ?_, fun _ => rfl⟩
      obtain ⟨j, j0, j1, rfl⟩ := mem_getL hcm
      exact h j j0 (by omega)
  obtain ⟨_, e, b, rfl, h⟩ := this
  exact ⟨b, e, h⟩

instance (model : List Bool) (x : Int) : Decidable (tru model x) := inferInstanceAs (Decidable (_ = _))
theorem rTrue_ok {model : List Bool} {x : Int} (hx : lit model.length x) (hm : model.length ≤ 1048576) : rTrue model x = some ((decide (tru model x), ()), (), ()) := by
  have hb := lit_ab hx
  unfold rTrue
  rw [rOf_lit hx (by omega), bindO_some]
  dsimp only
  rw [cond_dec, if_pos (by omega), cond_t, cond_dec, if_pos (by simp only [nI]; omega), gd_inK (by omega) (by omega), gd_pos (by omega), gd_pos (by simp only [nI]; omega), cond_t]
  have e : (getB model (ab x - 1) == decide (x > 0)) = decide (tru model x) := by
    by_cases h : tru model x
    · rw [decide_eq_true h]; exact beq_iff_eq.mpr h
    · rw [decide_eq_false h]; exact beq_eq_false_iff_ne.mpr h
  rw [e]

theorem rMet_ok {l : List (List Int)} {model : List Bool} (hm : model.length ≤ 1048576) (hl : l.length ≤ 4398046511104) (hc : ∀ c ∈ l, c.length ≤ 4398046511104 ∧ ∀ x ∈ c, lit model.length x) : ∃ b, rMet l model = some ((b, ()), (), ()) ∧ (b = true ↔ ∀ c ∈ l, ∃ x ∈ c, tru model x) := by
  have : Runs (rMet l model) (fun o => ∃ b, o = ((b, ()), (), ()) ∧ (b = true ↔ ∀ c ∈ l, ∃ x ∈ c, tru model x)) := by
    unfold rMet rMetF
    refine Runs.iter (fun i : Int => 0 ≤ i ∧ i ≤ l.length ∧ ∀ j : Int, 0 ≤ j → j < i → ∃ x ∈ getL l j, tru model x) (fun i => ((l.length : Int) - i).toNat) ?_ ⟨by omega, by omega, fun j a b => by omega⟩ (fuelN_gt (by omega))
    rintro i ⟨i0, i1, h⟩
    refine Runs.dec (fun hi => ?_) (fun hi => ?_)
    · simp only [nI] at hi
      have hmm := getL_mem i0 hi
      obtain ⟨hcl, hcf⟩ := hc _ hmm
      refine Runs.iter (fun k : Bool × Int => 0 ≤ k.2 ∧ k.2 ≤ (getL l i).length ∧ (k.1 = true ↔ ∃ j : Int, 0 ≤ j ∧ j < k.2 ∧ tru model (getI (getL l i) j))) (fun k => (((getL l i).length : Int) - k.2).toNat) ?_ ⟨by dsimp only; omega, by dsimp only; omega, fun h => (by cases h), fun ⟨j, a, b, _⟩ => by dsimp only at b; omega⟩ (fuelN_gt (by dsimp only; omega))
      rintro ⟨met, k⟩ ⟨k0, k1, hk⟩
      dsimp only at k0 k1 hk ⊢
      refine Runs.gd i0 (Runs.gd (by simp only [nI]; omega) (Runs.dec (fun hkl => ?_) (fun hkl => ?_)))
      · simp only [nI] at hkl
        have hxm := getI_mem k0 hkl
        refine Runs.bool (fun hmt => ?_) (fun hmf => ?_)
        · refine Runs.inK ⟨by omega, by omega⟩ (Runs.ret ⟨⟨by dsimp only; omega, by dsimp only; omega, fun _ => ?_, fun _ => rfl⟩, by dsimp only; omega⟩)
          obtain ⟨j, a, b, c⟩ := hk.mp hmt
          exact ⟨j, a, by dsimp only; omega, c⟩
        · refine Runs.gd i0 (Runs.gd (by simp only [nI]; omega) (Runs.gd k0 (Runs.gd (by simp only [nI]; omega) (Runs.bind (rTrue_ok (hcf _ hxm) hm) (Runs.inK ⟨by omega, by omega⟩ (Runs.ret ⟨⟨by dsimp only; omega, by dsimp only; omega, ?_⟩, by dsimp only; omega⟩))))))
          dsimp only
          rw [cond_f, decide_eq_true_iff]
          constructor
          · exact fun ht => ⟨k, k0, by omega, ht⟩
          · rintro ⟨j, a, b, c⟩
            by_cases ej : j = k
            · rw [← ej]; exact c
            · have := hk.mpr ⟨j, a, by omega, c⟩
              rw [hmf] at this; cases this
      · simp only [nI] at hkl
        refine Runs.bool (fun hmt => ?_) (fun hmf => ?_)
        · have hmf : met = false := by cases met <;> simp_all
          refine Runs.ret ⟨false, rfl, fun h => (by cases h), fun hall => ?_⟩
          obtain ⟨x, hx, ht⟩ := hall _ hmm
          obtain ⟨q, q0, q1, rfl⟩ := mem_getI hx
          have := hk.mpr ⟨q, q0, by omega, ht⟩
          rw [hmf] at this; cases this
        · have hmt : met = true := by cases met <;> simp_all
          refine Runs.inK ⟨by omega, by omega⟩ (Runs.ret ⟨⟨by omega, by omega, fun j a b => ?_⟩, by dsimp only; omega⟩)
          by_cases ej : j = i
          · rw [ej]
            obtain ⟨q, q0, q1, ht⟩ := hk.mp hmt
            exact ⟨_, getI_mem q0 (by omega), ht⟩
          · exact h j a (by omega)
    · simp only [nI] at hi
      refine Runs.ret ⟨true, rfl, fun _ c hcm => ?_, fun _ => rfl⟩
      obtain ⟨j, j0, j1, rfl⟩ := mem_getL hcm
      exact h j j0 (by omega)
  obtain ⟨_, e, b, rfl, h⟩ := this
  exact ⟨b, e, h⟩

theorem take_map {α : Type} {l : List Int} {f : Int → α} {i : Int} (h0 : 0 ≤ i) (h1 : i < l.length) : (l.take (i + 1).toNat).map f = (l.take i.toNat).map f ++ [f (getI l i)] := by
  rw [take_getI h0 h1, List.map_append]; rfl

theorem units_run {l : List Int} (hl : l.length ≤ 4294967296) {e : Option ((List (List Int) × Unit) × Unit × Unit)} (he : e = iterO (X := Int × List (List Int) × List (List Int)) (fun y0 =>
    bif decide (y0.1 < nI l.length) then
      gd (0 ≤ y0.1) <|
      gd (y0.1 < nI l.length) <|
      gd ((y0.2.1.length + [[getI l y0.1]].length) * 24 ≤ lim) <|
      gd (y0.2.1.length + [[getI l y0.1]].length ≤ lim) <|
      gd (inK IntKind.i64 (y0.1 + 1)) <|
      some (Sum.inl (y0.1 + 1, y0.2.1 ++ [[getI l y0.1]], y0.2.1 ++ [[getI l y0.1]]))
    else
      some (Sum.inr ((y0.2.1, ()), (), ()))) fuelN (0, [], [])) : e = some ((l.map (fun x => [x]), ()), (), ()) := by
  have : Runs e (fun o => o = ((l.map (fun x => [x]), ()), (), ())) := by
    rw [he]
    refine Runs.iter (fun X : Int × List (List Int) × List (List Int) => 0 ≤ X.1 ∧ X.1 ≤ l.length ∧ X.2.1 = (l.take X.1.toNat).map (fun x => [x])) (fun X => ((l.length : Int) - X.1).toNat) ?_ ⟨by dsimp only; omega, by dsimp only; omega, by simp⟩ (fuelN_gt (by dsimp only; omega))
    rintro ⟨i, o, o2⟩ ⟨i0, i1, ho⟩
    dsimp only at i0 i1 ho ⊢
    refine Runs.dec (fun hi => ?_) (fun hi => ?_)
    · simp only [nI] at hi
      have hol : (o.length : Int) = i := by rw [ho, List.length_map, List.length_take]; omega
      refine Runs.gd i0 (Runs.gd (by simp only [nI]; omega) (Runs.gd (by simp only [lim, List.length_singleton]; omega) (Runs.gd (by simp only [lim, List.length_singleton]; omega) (Runs.inK ⟨by omega, by omega⟩ (Runs.ret ⟨⟨by dsimp only; omega, by dsimp only; omega, ?_⟩, by dsimp only; omega⟩)))))
      dsimp only
      rw [take_map i0 hi, ho]
    · simp only [nI] at hi
      refine Runs.ret ?_
      show _ = _
      rw [ho, show i.toNat = l.length by omega, List.take_length]
  obtain ⟨_, e1, rfl⟩ := this
  exact e1
theorem runits_ok {l : List Int} (hl : l.length ≤ 4294967296) : runits l = some ((l.map (fun x => [x]), ()), (), ()) := units_run hl rfl
theorem units_ok {l : List Int} (hl : l.length ≤ 4294967296) : units l = some ((l.map (fun x => [x]), ()), (), ()) := units_run hl rfl

/-! ### Small clauses -/
theorem rCut_ok {l : List Int} {k : Int} (h0 : 0 ≤ k) (hk : k ≤ 4294967296) : ∃ d, rCut l k = some ((d, ()), (), ()) ∧ (d.length : Int) ≤ k := by
  have hmin : 0 ≤ min2 (l.length : Int) k ∧ min2 (l.length : Int) k ≤ l.length ∧ min2 (l.length : Int) k ≤ k := by
    unfold min2; split <;> omega
  unfold rCut
  simp only [nI]
  generalize min2 (l.length : Int) k = m at hmin
  have hlen : (List.drop 0 (List.take m.toNat l)).length ≤ m.toNat := by rw [List.drop_zero, List.length_take]; omega
  refine ⟨[] ++ List.drop 0 (List.take m.toNat l), ?_, ?_⟩
  · rw [gd_pos hmin.1, gd_pos (by omega), gd_pos (by simp only [lim]; omega), gd_pos (by simp only [lim]; omega)]
  · rw [List.nil_append]; omega
theorem rFew_ok {l : List (List Int)} : ∃ d, rFew l = some ((d, ()), (), ()) ∧ d.length ≤ 40 ∧ ∀ c ∈ d, c.length ≤ 8 := by
  have : Runs (rFew l) (fun o => ∃ d, o = ((d, ()), (), ()) ∧ d.length ≤ 40 ∧ ∀ c ∈ d, c.length ≤ 8) := by
    unfold rFew rFewF
    refine Runs.iter (fun X : Int × List (List Int) × List (List Int) => 0 ≤ X.1 ∧ X.1 ≤ 40 ∧ (X.2.1.length : Int) = X.1 ∧ ∀ c ∈ X.2.1, c.length ≤ 8) (fun X => (40 - X.1).toNat) ?_ ⟨by dsimp only; omega, by dsimp only; omega, rfl, by simp⟩ (fuelN_gt (by dsimp only; omega))
    rintro ⟨i, o, o2⟩ ⟨i0, i1, i2, ho⟩
    dsimp only at i0 i1 i2 ho ⊢
    have fin : ∀ (Q : Int × List (List Int) × List (List Int) → Prop) (m), Runs (some (Sum.inr ((o, ()), (), ())) : Option ((Int × List (List Int) × List (List Int)) ⊕ ((List (List Int) × Unit) × Unit × Unit))) (Stp Q (fun o => ∃ d, o = ((d, ()), (), ()) ∧ d.length ≤ 40 ∧ ∀ c ∈ d, c.length ≤ 8) m (i, o, o2)) := fun Q m => Runs.ret ⟨o, rfl, by omega, ho⟩
    refine Runs.dec (fun hi => ?_) (fun hi => fin _ _)
    rw [cond_t]
    refine Runs.dec (fun h40 => ?_) (fun h40 => fin _ _)
    simp only [nI] at hi
    obtain ⟨d, ed, hd⟩ := rCut_ok (l := getL l i) (k := 8) (by omega) (by omega)
    refine Runs.gd i0 (Runs.gd (by simp only [nI]; omega) (Runs.bind ed (Runs.gd (by simp only [lim, List.length_singleton]; omega) (Runs.gd (by simp only [lim, List.length_singleton]; omega) (Runs.inK ⟨by omega, by omega⟩ (Runs.ret ⟨⟨by dsimp only; omega, by dsimp only; omega, by dsimp only; rw [List.length_append, List.length_singleton]; omega, fun c hc => ?_⟩, by dsimp only; omega⟩))))))
    dsimp only at hc
    rw [List.mem_append, List.mem_singleton] at hc
    rcases hc with hc | rfl
    · exact ho c hc
    · omega
  obtain ⟨_, e, d, rfl, h⟩ := this
  exact ⟨d, e, h⟩
theorem rSmall_ok {c : List Int} (hc : c.length ≤ 4294967296) : ∃ d, rSmall c = some ((d, ()), (), ()) ∧ d.length ≤ c.length ∧ ∀ x ∈ d, lit 8 x := by
  have : Runs (rSmall c) (fun o => ∃ d, o = ((d, ()), (), ()) ∧ d.length ≤ c.length ∧ ∀ x ∈ d, lit 8 x) := by
    unfold rSmall rSmallF
    refine Runs.iter (fun X : Int × List Int × List Int => 0 ≤ X.1 ∧ X.1 ≤ c.length ∧ (X.2.1.length : Int) ≤ X.1 ∧ ∀ x ∈ X.2.1, lit 8 x) (fun X => ((c.length : Int) - X.1).toNat) ?_ ⟨by dsimp only; omega, by dsimp only; omega, by simp, by simp⟩ (fuelN_gt (by dsimp only; omega))
    rintro ⟨i, o, o2⟩ ⟨i0, i1, i2, ho⟩
    dsimp only at i0 i1 i2 ho ⊢
    refine Runs.dec (fun hi => ?_) (fun hi => ?_)
    · simp only [nI] at hi
      obtain ⟨v, ev, hv⟩ := rOf_any (getI c i)
      have hm : 0 ≤ v.tmod 8 ∧ v.tmod 8 < 8 := by rw [Int.tmod_eq_emod_of_nonneg hv]; omega
      refine Runs.gd i0 (Runs.gd (by simp only [nI]; omega) (Runs.bind ev ?_))
      dsimp only
      generalize v.tmod 8 = r at hm
      have add : ∀ y, lit 8 y → ∀ (Q : ((List Int × Unit) × Unit × Unit) → Prop), Stp (fun X : Int × List Int × List Int => 0 ≤ X.1 ∧ X.1 ≤ c.length ∧ (X.2.1.length : Int) ≤ X.1 ∧ ∀ x ∈ X.2.1, lit 8 x) Q (fun X => ((c.length : Int) - X.1).toNat) (i, o, o2) (Sum.inl (i + 1, o ++ [y], o ++ [y])) := by
        intro y hy Q
        refine ⟨⟨by dsimp only; omega, by dsimp only; omega, by dsimp only; rw [List.length_append, List.length_singleton]; omega, fun x hx => ?_⟩, by dsimp only; omega⟩
        dsimp only at hx
        rw [List.mem_append, List.mem_singleton] at hx
        rcases hx with hx | rfl
        · exact ho x hx
        · exact hy
      have keep : ∀ (Q : ((List Int × Unit) × Unit × Unit) → Prop), Stp (fun X : Int × List Int × List Int => 0 ≤ X.1 ∧ X.1 ≤ c.length ∧ (X.2.1.length : Int) ≤ X.1 ∧ ∀ x ∈ X.2.1, lit 8 x) Q (fun X => ((c.length : Int) - X.1).toNat) (i, o, o2) (Sum.inl (i + 1, o, o)) := fun Q =>
        ⟨⟨by dsimp only; omega, by dsimp only; omega, by dsimp only; omega, ho⟩, by dsimp only; omega⟩
      refine Runs.inK ⟨by omega, by omega⟩ (Runs.gd i0 (Runs.gd (by simp only [nI]; omega) ?_))
      refine Runs.dec (fun hneg => ?_) (fun hneg => ?_)
      · refine Runs.inK ⟨by omega, by omega⟩ (Runs.neI (fun hz => ?_) (fun hz => ?_))
        · exact Runs.gd (by simp only [lim, List.length_singleton]; omega) (Runs.gd (by simp only [lim, List.length_singleton]; omega) (Runs.inK ⟨by omega, by omega⟩ (Runs.ret (add _ (by unfold lit; omega) _))))
        · exact Runs.inK ⟨by omega, by omega⟩ (Runs.ret (keep _))
      · refine Runs.neI (fun hz => ?_) (fun hz => ?_)
        · exact Runs.gd (by simp only [lim, List.length_singleton]; omega) (Runs.gd (by simp only [lim, List.length_singleton]; omega) (Runs.inK ⟨by omega, by omega⟩ (Runs.ret (add _ (by unfold lit; omega) _))))
        · exact Runs.inK ⟨by omega, by omega⟩ (Runs.ret (keep _))
    · simp only [nI] at hi
      exact Runs.ret ⟨o, rfl, by omega, ho⟩
  obtain ⟨_, e, d, rfl, h⟩ := this
  exact ⟨d, e, h⟩
/-- Small clauses, few of them. -/
def small (c : List (List Int)) : Prop := c.length ≤ 40 ∧ ∀ d ∈ c, d.length ≤ 8 ∧ ∀ x ∈ d, lit 8 x
theorem rSmalls_ok (l : List (List Int)) : ∃ d, rSmalls l = some ((d, ()), (), ()) ∧ small d := by
  have : Runs (rSmalls l) (fun o => ∃ d, o = ((d, ()), (), ()) ∧ small d) := by
    obtain ⟨f, ef, f1, f2⟩ := rFew_ok (l := l)
    unfold rSmalls rSmallsF
    refine Runs.bind ef ?_
    dsimp only
    refine Runs.iter (fun X : Int × List (List Int) × List (List Int) => 0 ≤ X.1 ∧ X.1 ≤ f.length ∧ (X.2.1.length : Int) = X.1 ∧ ∀ c ∈ X.2.1, c.length ≤ 8 ∧ ∀ x ∈ c, lit 8 x) (fun X => ((f.length : Int) - X.1).toNat) ?_ ⟨by dsimp only; omega, by dsimp only; omega, rfl, by simp⟩ (fuelN_gt (by dsimp only; omega))
    rintro ⟨i, o, o2⟩ ⟨i0, i1, i2, ho⟩
    dsimp only at i0 i1 i2 ho ⊢
    refine Runs.dec (fun hi => ?_) (fun hi => ?_)
    · simp only [nI] at hi
      have h8 := f2 _ (getL_mem i0 hi)
      obtain ⟨d, ed, hd, hd2⟩ := rSmall_ok (c := getL f i) (by omega)
      refine Runs.gd i0 (Runs.gd (by simp only [nI]; omega) (Runs.bind ed (Runs.gd (by simp only [lim, List.length_singleton]; omega) (Runs.gd (by simp only [lim, List.length_singleton]; omega) (Runs.inK ⟨by omega, by omega⟩ (Runs.ret ⟨⟨by dsimp only; omega, by dsimp only; omega, by dsimp only; rw [List.length_append, List.length_singleton]; omega, fun c hc => ?_⟩, by dsimp only; omega⟩))))))
      dsimp only at hc
      rw [List.mem_append, List.mem_singleton] at hc
      rcases hc with hc | rfl
      · exact ho c hc
      · exact ⟨by omega, hd2⟩
    · exact Runs.ret ⟨o, rfl, by simp only [nI] at hi; omega, ho⟩
  obtain ⟨_, e, d, rfl, h⟩ := this
  exact ⟨d, e, h⟩
end GoSx
end
section
/- The pure theory, part T: what answers mean; the first law. -/
set_option linter.unusedVariables false
set_option linter.unusedSimpArgs false
namespace GoSx
open Go

theorem head_ok : head = some ((true, ()), (), ()) := by kernel_rfl

/-- Can all be met, by so many variables, while literals are true? -/
def Can (N : Int) (G : List (List Int)) (assume : List Int) : Prop := ∃ m : List Bool, (m.length : Int) = N ∧ (∀ g ∈ G, ∃ x ∈ g, tru m x) ∧ ∀ x ∈ assume, tru m x

theorem tru_neg {m : List Bool} {x : Int} (hx : x ≠ 0) : tru m (-x) ↔ ¬ tru m x := by
  unfold tru
  rw [ab_neg]
  by_cases h : 0 < x
  · rw [decide_eq_true h, decide_eq_false (by omega)]
    cases getB m (ab x - 1) <;> simp
  · rw [decide_eq_false h, decide_eq_true (by omega)]
    cases getB m (ab x - 1) <;> simp

theorem cc_of_model {G : List (List Int)} {s : Sol} (h : Idle G s) {m : List Bool} (hm : ∀ g ∈ G, ∃ x ∈ g, tru m x) : CC (G ++ s.proof) (fun x => lit s.vars x ∧ tru m x) := by
  have hc : Cons (fun x => lit s.vars x ∧ tru m x) := fun x h1 h2 => (tru_neg h1.1.1).mp h2.2 h1.2
  have base : CC G (fun x => lit s.vars x ∧ tru m x) := ⟨hc, fun g hg => by
    obtain ⟨x, hx, ht⟩ := hm g hg
    exact .inl ⟨x, hx, h.gl g hg x hx, ht⟩⟩
  have main : ∀ k, k ≤ s.proof.length → CC (G ++ s.proof.take k) (fun x => lit s.vars x ∧ tru m x) := by
    intro k
    induction k with
    | zero => intro _; simpa using base
    | succ k ih =>
      intro hk
      have hT := ih (by omega)
      refine ⟨hc, fun c hcm => ?_⟩
      rw [List.take_add_one, List.getElem?_eq_getElem (by omega), ← List.append_assoc, List.mem_append] at hcm
      rcases hcm with hcm | hcm
      · exact hT.2 c hcm
      · simp only [Option.toList_some, List.mem_singleton] at hcm
        subst hcm
        have h5 := h.se.s5 k (by omega) _ hT
        have hl := (h.se.s6 _ (List.getElem_mem (l := s.proof) (n := k) (by omega))).2.1
        apply Classical.byContradiction
        intro hno
        apply h5
        intro x hx
        refine ⟨lit_neg (hl x hx), (tru_neg (hl x hx).1).mpr fun ht => hno (.inl ⟨x, hx, hl x hx, ht⟩)⟩
  have := main s.proof.length (Nat.le_refl _)
  rwa [List.take_length] at this

theorem dedup_mem {out : List Int} : ∀ (l : List Int) (a : Int), a ∈ dedup out l ↔ a ∈ l ∧ a ∈ out := by
  have gen : ∀ (l acc : List Int) (a : Int), a ∈ (l.foldl (fun core x => if x ∈ out ∧ x ∉ core then core ++ [x] else core) acc) ↔ (a ∈ acc ∨ (a ∈ l ∧ a ∈ out)) := by
    intro l
    induction l with
    | nil => intro acc a; simp
    | cons b l ih =>
      intro acc a
      rw [List.foldl_cons, ih]
      by_cases hb : b ∈ out ∧ b ∉ acc
      · rw [if_pos hb, List.mem_append, List.mem_singleton, List.mem_cons]
        constructor
        · rintro ((h | h) | h)
          · exact .inl h
          · exact .inr ⟨.inl h, by rw [h]; exact hb.1⟩
          · exact .inr ⟨.inr h.1, h.2⟩
        · rintro (h | ⟨h | h, h2⟩)
          · exact .inl (.inl h)
          · exact .inl (.inr h)
          · exact .inr ⟨h, h2⟩
      · rw [if_neg hb, List.mem_cons]
        constructor
        · rintro (h | h)
          · exact .inl h
          · exact .inr ⟨.inr h.1, h.2⟩
        · rintro (h | ⟨h | h, h2⟩)
          · exact .inl h
          · left
            apply Classical.byContradiction
            intro hn
            exact hb ⟨by rw [← h]; exact h2, by rw [← h]; exact hn⟩
          · exact .inr ⟨h, h2⟩
  intro l a
  have := gen l [] a
  simpa [dedup] using this

/-- Yes and no are what is so. -/
theorem AskPost.yes {G : List (List Int)} {s s' : Sol} {assume : List Int} {fuel : Int} {B : Nat} {r : Int} (p : AskPost G s s' assume fuel B r) (h : r = 1) : Can s.vars G assume := by
  obtain ⟨h1, h2, h3⟩ := p.m1 h
  exact ⟨s'.model, h1, h3, h2⟩
theorem AskPost.coreNo {G : List (List Int)} {s s' : Sol} {assume : List Int} {fuel : Int} {B : Nat} {r : Int} (p : AskPost G s s' assume fuel B r) (ha : ∀ x ∈ assume, lit s.vars x) (h : r = 2) : ¬ Can s.vars G s'.core := by
  rintro ⟨m, hm, hg, hc⟩
  obtain ⟨out, ec, hno⟩ := p.c2 h
  have hT := cc_of_model p.id hg
  refine hno _ hT fun a ha1 ha2 => ?_
  rw [p.va]
  exact ⟨ha a ha1, hc a (by rw [ec]; exact (dedup_mem _ _).mpr ⟨ha1, ha2⟩)⟩
theorem AskPost.no {G : List (List Int)} {s s' : Sol} {assume : List Int} {fuel : Int} {B : Nat} {r : Int} (p : AskPost G s s' assume fuel B r) (ha : ∀ x ∈ assume, lit s.vars x) (h : r = 2) : ¬ Can s.vars G assume := by
  rintro ⟨m, hm, hg, hc⟩
  refine p.coreNo ha h ⟨m, hm, hg, fun x hx => hc x ?_⟩
  obtain ⟨out, ec, _⟩ := p.c2 h
  rw [ec] at hx
  exact ((dedup_mem _ _).mp hx).1

/-- What is asked of a solver of small clauses, with fuel enough. -/
theorem ask_small {G : List (List Int)} {s : Sol} (h : Idle G s) (hv : s.vars = 8) {x : List Int} (hx : x.length ≤ 4398046511104) (hG : G.length + s.proof.length ≤ 4294967296) :
    ∃ r s', Ask x 6561 s.vars s.all s.watch s.is s.depth s.why s.old s.hot s.warm s.cold s.row s.begin s.done s.empty s.proof s.answer s.core s.model = some ((r, ()), (s'.tup, ()), ()) ∧ AskPost G s s' x 6561 6561 r ∧ r ≠ 3 := by
  obtain ⟨r, s', e, p⟩ := ask_ok h (assume := x) (fuel := 6561) (B := 6561) (by omega) (.inr ⟨by omega, by omega⟩) (by omega) hx
  refine ⟨r, s', e, p, fun h3 => ?_⟩
  have := (p.u3 h3).2.2
  rw [hv] at this
  have h38 : (3 : Int) ^ (Int.toNat 8) = 6561 := by decide
  omega

theorem small_made {c : List (List Int)} (h : small c) : ∃ s, made c = some ((), (), s.tup, ()) ∧ Idle c s ∧ s.vars = 8 ∧ s.proof = [] :=
  made_ok (by have := h.1; omega) (fun d hd => ⟨by have := (h.2 d hd).1; omega, (h.2 d hd).2⟩)

theorem satMeets_pure (l : List (List Int)) (assume : List Int) : SatMeets l assume = some ((true, ()), (), ()) := by
  suffices hs : Runs (SatMeets l assume) (fun o => o = ((true, ()), (), ())) by
    obtain ⟨_, e, rfl⟩ := hs; exact e
  obtain ⟨c, ec, hc⟩ := rSmalls_ok l
  obtain ⟨a, ea, ha⟩ := rCut_ok (l := assume) (k := 12) (by omega) (by omega)
  obtain ⟨x, ex, hxl, hx⟩ := rSmall_ok (c := a) (by omega)
  obtain ⟨s, es, id, hv, hp⟩ := small_made hc
  have hcl := hc.1
  obtain ⟨r, s', er, p, h3⟩ := ask_small id hv (x := x) (by omega) (by rw [hp]; simp only [List.length_nil]; omega)
  unfold SatMeets SatMeetsF
  refine Runs.bind head_ok (Runs.bind ec (Runs.bind ea (Runs.bind ex (Runs.bind es (Runs.bind rFuel_ok (Runs.bind er ?_))))))
  dsimp only [Sol.tup]
  have hxv : ∀ y ∈ x, lit s.vars y := by rw [hv]; exact hx
  have h0 : r ≠ 0 := fun h => p.ow.mp h hxv
  refine Runs.neI (fun h1 => ?_) (fun h1 => ?_)
  · rw [cond_t]
    refine Runs.ret ?_
    have : r = 2 := by have := p.rr; omega
    rw [this]; rfl
  · obtain ⟨m1, m2, m3⟩ := p.m1 h1
    rw [hv] at m1
    refine Runs.bind (Model_ok (by omega)) ?_
    dsimp only
    rw [cond_t, cond_t]
    refine Runs.eqI (fun h8 => ?_) (fun h8 => absurd m1 (by simpa only [nI] using h8))
    have hlit : ∀ y, lit 8 y → lit s'.model.length y := fun y hy => by rw [m1]; exact hy
    obtain ⟨b, eb, hb⟩ := rMet_ok (l := c) (model := s'.model) (by omega) (by omega) (fun d hd => ⟨by have := (hc.2 d hd).1; omega, fun y hy => hlit y ((hc.2 d hd).2 y hy)⟩)
    have hbt : b = true := hb.mpr m3
    refine Runs.bind eb ?_
    dsimp only
    rw [hbt, cond_t, cond_t]
    refine Runs.bind (units_ok (l := x) (by omega)) ?_
    dsimp only
    obtain ⟨b2, eb2, hb2⟩ := rMet_ok (l := x.map fun y => [y]) (model := s'.model) (by omega) (by rw [List.length_map]; omega) (fun d hd => by
      obtain ⟨y, hy, rfl⟩ := List.mem_map.mp hd
      exact ⟨by simp, fun z hz => by rw [List.mem_singleton] at hz; rw [hz]; exact hlit y (hx y hy)⟩)
    have hb2t : b2 = true := hb2.mpr fun d hd => by
      obtain ⟨y, hy, rfl⟩ := List.mem_map.mp hd
      exact ⟨y, by simp, m2 y hy⟩
    refine Runs.bind eb2 (Runs.ret ?_)
    dsimp only
    rw [hb2t, cond_t]
end GoSx
end
section
/- The pure theory, part U: trying all models; answers that are alike. -/
set_option linter.unusedVariables false
set_option linter.unusedSimpArgs false
namespace GoSx
open Go

/-- The bits of a number. -/
def mbits (n : Int) : Nat → List Bool
  | 0 => []
  | k + 1 => (n.tmod 2 == 1) :: mbits (n.tdiv 2) k
theorem mbits_len (n : Int) : ∀ k, (mbits n k).length = k
  | 0 => rfl
  | k + 1 => by unfold mbits; rw [List.length_cons, mbits_len]
theorem mbits_all : ∀ (m : List Bool), ∃ n : Int, 0 ≤ n ∧ n < 2 ^ m.length ∧ mbits n m.length = m
  | [] => ⟨0, by simp, by simp, rfl⟩
  | b :: m => by
    obtain ⟨n, h0, h1, e⟩ := mbits_all m
    refine ⟨2 * n + (if b then 1 else 0), by split <;> omega, ?_, ?_⟩
    · rw [List.length_cons, Int.pow_succ]; split <;> omega
    · rw [List.length_cons]
      unfold mbits
      have e1 : (2 * n + (if b then 1 else 0)).tmod 2 = if b then 1 else 0 := by
        rw [Int.tmod_eq_emod_of_nonneg (by split <;> omega)]; split <;> omega
      have e2 : (2 * n + (if b then 1 else 0)).tdiv 2 = n := by
        rw [Int.tdiv_eq_ediv_of_nonneg (by split <;> omega)]; split <;> omega
      rw [e1, e2, e]
      cases b <;> rfl

theorem rModel_ok {n N : Int} (h0 : 0 ≤ n) (h1 : n < 4294967296) (hN : 0 ≤ N) (hN2 : N ≤ 1048576) : rModel n N = some ((mbits n N.toNat, ()), (), ()) := by
  have : Runs (rModel n N) (fun o => o = ((mbits n N.toNat, ()), (), ())) := by
    unfold rModel rModelF
    refine Runs.iter (fun X : (Int × Int) × List Bool × List Bool => 0 ≤ X.1.1 ∧ X.1.1 < 4294967296 ∧ 0 ≤ X.1.2 ∧ X.1.2 ≤ N ∧ (X.2.1.length : Int) = X.1.2 ∧ X.2.1 ++ mbits X.1.1 (N - X.1.2).toNat = mbits n N.toNat) (fun X => (N - X.1.2).toNat) ?_ ⟨h0, h1, by dsimp only; omega, by dsimp only; omega, rfl, by simp⟩ (fuelN_gt (by dsimp only; omega))
    rintro ⟨⟨a, i⟩, o, o2⟩ ⟨a0, a1, i0, i1, ol, e⟩
    dsimp only at a0 a1 i0 i1 ol e ⊢
    refine Runs.dec (fun hi => ?_) (fun hi => ?_)
    · have hw : IntKind.i64.wrap (a.tdiv 2) = a.tdiv 2 := by
        rw [IntKind.wrap_i64, Int.tdiv_eq_ediv_of_nonneg a0]; omega
      have hd : 0 ≤ a.tdiv 2 ∧ a.tdiv 2 < 4294967296 := by rw [Int.tdiv_eq_ediv_of_nonneg a0]; omega
      refine Runs.gd (by simp only [lim, List.length_singleton]; omega) (Runs.gd (by simp only [lim, List.length_singleton]; omega) (Runs.inK ⟨by omega, by omega⟩ (Runs.ret ⟨⟨?_, ?_, by dsimp only; omega, by dsimp only; omega, by dsimp only; rw [List.length_append, List.length_singleton]; omega, ?_⟩, by dsimp only; omega⟩)))
      · dsimp only; rw [hw]; exact hd.1
      · dsimp only; rw [hw]; exact hd.2
      · dsimp only
        rw [hw, ← e, List.append_assoc]
        congr 1
        rw [show (N - i).toNat = (N - (i + 1)).toNat + 1 by omega]
        rfl
    · have : (N - i).toNat = 0 := by omega
      rw [this] at e
      refine Runs.ret ?_
      show _ = _
      rw [← e]; simp [mbits]
  obtain ⟨_, e, rfl⟩ := this
  exact e

theorem rCan_ok {N : Int} {l : List (List Int)} {assume : List Int} (hN : 0 ≤ N) (hN8 : N ≤ 8) (hl : l.length ≤ 4294967296) (hc : ∀ c ∈ l, c.length ≤ 4294967296 ∧ ∀ x ∈ c, lit N x) (ha : assume.length ≤ 4294967296) (hal : ∀ x ∈ assume, lit N x) :
    ∃ b, rCan l N assume = some ((b, ()), (), ()) ∧ (b = true ↔ Can N l assume) := by
  have : Runs (rCan l N assume) (fun o => ∃ b, o = ((b, ()), (), ()) ∧ (b = true ↔ Can N l assume)) := by
    unfold rCan rCanF
    refine Runs.gd (by simp only [lim]; omega) (Runs.gd (by simp only [lim]; omega) (Runs.bind (runits_ok ha) ?_))
    dsimp only
    rw [List.nil_append]
    refine Runs.gd (by rw [List.length_map]; simp only [lim]; omega) (Runs.gd (by rw [List.length_map]; simp only [lim]; omega) ?_)
    have hp : ∀ k : Int, 0 ≤ k → k ≤ 8 → (1 : Int) ≤ 2 ^ k.toNat ∧ (2 : Int) ^ k.toNat ≤ 256 := by
      intro k k0 k1
      have h1 : (2 : Nat) ^ k.toNat ≤ 2 ^ 8 := Nat.pow_le_pow_right (by omega) (by omega)
      have h2 : 0 < (2 : Nat) ^ k.toNat := Nat.pow_pos (by omega)
      have e : ((2 ^ k.toNat : Nat) : Int) = (2 : Int) ^ k.toNat := by rw [Int.natCast_pow]; rfl
      rw [← e]
      have : (2 : Nat) ^ 8 = 256 := by decide
      omega
    refine Runs.iter (fun X : Int × Int => 0 ≤ X.2 ∧ X.2 ≤ N ∧ X.1 = 2 ^ X.2.toNat) (fun X => (N - X.2).toNat) ?_ ⟨by dsimp only; omega, by dsimp only; omega, by simp⟩ (fuelN_gt (by dsimp only; omega))
    rintro ⟨many, i⟩ ⟨i0, i1, em⟩
    dsimp only at i0 i1 em ⊢
    have hpi := hp i i0 (by omega)
    refine Runs.dec (fun hi => ?_) (fun hi => ?_)
    · refine Runs.inK ⟨by omega, by omega⟩ (Runs.inK ⟨by omega, by omega⟩ (Runs.ret ⟨⟨by dsimp only; omega, by dsimp only; omega, ?_⟩, by dsimp only; omega⟩))
      dsimp only
      rw [show (i + 1).toNat = i.toNat + 1 by omega, Int.pow_succ, em]
    · have ei : i = N := by omega
      subst ei
      have met : ∀ m : List Bool, (m.length : Int) = i → ∃ b, rMet (l ++ assume.map fun x => [x]) m = some ((b, ()), (), ()) ∧ (b = true ↔ (∀ g ∈ l, ∃ x ∈ g, tru m x) ∧ ∀ x ∈ assume, tru m x) := by
        intro m hm
        obtain ⟨b, eb, hb⟩ := rMet_ok (l := l ++ assume.map fun x => [x]) (model := m) (by omega) (by rw [List.length_append, List.length_map]; omega) (fun c hcm => by
          rw [List.mem_append] at hcm
          rcases hcm with hcm | hcm
          · exact ⟨by have := (hc c hcm).1; omega, fun x hx => by rw [hm]; exact (hc c hcm).2 x hx⟩
          · obtain ⟨y, hy, rfl⟩ := List.mem_map.mp hcm
            exact ⟨by simp, fun z hz => by rw [List.mem_singleton] at hz; rw [hz, hm]; exact hal y hy⟩)
        refine ⟨b, eb, hb.trans ⟨fun h => ⟨fun g hg => h g (List.mem_append_left _ hg), fun x hx => ?_⟩, fun h c hcm => ?_⟩⟩
        · obtain ⟨y, hy, ht⟩ := h [x] (List.mem_append_right _ (List.mem_map.mpr ⟨x, hx, rfl⟩))
          rw [List.mem_singleton] at hy
          rw [← hy]; exact ht
        · rw [List.mem_append] at hcm
          rcases hcm with hcm | hcm
          · exact h.1 c hcm
          · obtain ⟨y, hy, rfl⟩ := List.mem_map.mp hcm
            exact ⟨y, by simp, h.2 y hy⟩
      refine Runs.iter (fun n : Int => 0 ≤ n ∧ n ≤ many ∧ ∀ k : Int, 0 ≤ k → k < n → ¬ ((∀ g ∈ l, ∃ x ∈ g, tru (mbits k i.toNat) x) ∧ ∀ x ∈ assume, tru (mbits k i.toNat) x)) (fun n => (many - n).toNat) ?_ ⟨Int.le_refl _, by omega, fun k a b => by omega⟩ (fuelN_gt (by omega))
      rintro n ⟨n0, n1, hno⟩
      have hlen : ((mbits n i.toNat).length : Int) = i := by rw [mbits_len]; omega
      refine Runs.dec (fun hn => ?_) (fun hn => ?_)
      · obtain ⟨b, eb, hb⟩ := met _ hlen
        refine Runs.bind (rModel_ok n0 (by omega) hN (by omega)) ?_
        dsimp only
        refine Runs.bind eb ?_
        dsimp only
        refine Runs.bool (fun hbt => ?_) (fun hbf => ?_)
        · obtain ⟨h1, h2⟩ := hb.mp hbt
          exact Runs.ret ⟨true, rfl, fun _ => ⟨_, hlen, h1, h2⟩, fun _ => rfl⟩
        · refine Runs.inK ⟨by omega, by omega⟩ (Runs.ret ⟨⟨by omega, by omega, fun k a c => ?_⟩, by dsimp only; omega⟩)
          by_cases ek : k = n
          · rw [ek]; intro h; rw [hb.mpr h] at hbf; cases hbf
          · exact hno k a (by omega)
      · refine Runs.ret ⟨false, rfl, fun h => (by cases h), ?_⟩
        rintro ⟨m, hm, h1, h2⟩
        exfalso
        obtain ⟨k, k0, k1, ek⟩ := mbits_all m
        have hml : m.length = i.toNat := by omega
        rw [hml] at k1 ek
        refine hno k k0 (by omega) ?_
        rw [ek]; exact ⟨h1, h2⟩
  obtain ⟨_, e, b, rfl, h⟩ := this
  exact ⟨b, e, h⟩

/-- Asked, with whatever fuel, of eight variables at most. -/
theorem ask8 {G : List (List Int)} {s : Sol} (h : Idle G s) (hv : s.vars ≤ 8) {x : List Int} (fuel : Int) (hx : x.length ≤ 4398046511104) (hG : G.length + s.proof.length ≤ 4294967296) :
    ∃ r s', Ask x fuel s.vars s.all s.watch s.is s.depth s.why s.old s.hot s.warm s.cold s.row s.begin s.done s.empty s.proof s.answer s.core s.model = some ((r, ()), (s'.tup, ()), ()) ∧ AskPost G s s' x fuel 6561 r ∧ (r = 3 → 0 ≤ fuel ∧ fuel < 6561) := by
  have h0 := h.tr.n0
  have hp : (3 : Nat) ^ s.vars.toNat ≤ 3 ^ 8 := Nat.pow_le_pow_right (by omega) (by omega)
  have h38 : (3 : Nat) ^ 8 = 6561 := by decide
  obtain ⟨r, s', e, p⟩ := ask_ok h (assume := x) (fuel := fuel) (B := 6561) (by omega) (.inl (by omega)) (by omega) hx
  refine ⟨r, s', e, p, fun h3 => ?_⟩
  obtain ⟨u1, u2, u3⟩ := p.u3 h3
  have e2 : ((3 ^ s.vars.toNat : Nat) : Int) = (3 : Int) ^ s.vars.toNat := by rw [Int.natCast_pow]; rfl
  exact ⟨u1, by omega⟩

theorem AskPost.truth {G : List (List Int)} {s s' : Sol} {assume : List Int} {fuel : Int} {B : Nat} {r : Int} (p : AskPost G s s' assume fuel B r) (ha : ∀ x ∈ assume, lit s.vars x) : r ≠ 0 ∧ (r = 1 → Can s.vars G assume) ∧ (r = 2 → ¬ Can s.vars G assume) :=
  ⟨fun h => p.ow.mp h ha, p.yes, p.no ha⟩
/-- Answers to what means the same are the same. -/
theorem answers_same {G G' : List (List Int)} {s s' t t' : Sol} {x x' : List Int} {f f' : Int} {B B' : Nat} {r r' : Int} (p : AskPost G s s' x f B r) (q : AskPost G' t t' x' f' B' r') (hx : ∀ y ∈ x, lit s.vars y) (hx' : ∀ y ∈ x', lit t.vars y) (h3 : r ≠ 3) (h3' : r' ≠ 3) (e : Can s.vars G x ↔ Can t.vars G' x') : r = r' := by
  obtain ⟨a0, a1, a2⟩ := p.truth hx
  obtain ⟨b0, b1, b2⟩ := q.truth hx'
  have := p.rr; have := q.rr
  by_cases h1 : r = 1
  · have : r' ≠ 2 := fun h2 => b2 h2 (e.mp (a1 h1))
    omega
  · have : r' ≠ 1 := fun h2 => a2 (by omega) (e.mpr (b1 h2))
    omega
theorem can_congr {N : Int} {G G' : List (List Int)} {x x' : List Int} (h : ∀ m : List Bool, (∀ g ∈ G, ∃ y ∈ g, tru m y) ↔ (∀ g ∈ G', ∃ y ∈ g, tru m y)) (hx : ∀ y, y ∈ x ↔ y ∈ x') : Can N G x ↔ Can N G' x' := by
  constructor
  · rintro ⟨m, a, b, c⟩; exact ⟨m, a, (h m).mp b, fun y hy => c y ((hx y).mpr hy)⟩
  · rintro ⟨m, a, b, c⟩; exact ⟨m, a, (h m).mpr b, fun y hy => c y ((hx y).mp hy)⟩
end GoSx
end
