/- The texts VA, VB, VC, VD, VE, VF, VG, VH, VI, VJ, VK, one behind the other. -/
import Derived.Test.YtjoemkjibcfgnaaGreatGB2
import Derived.KernelRfl
set_option linter.unusedVariables false
set_option linter.unusedSimpArgs false
section
/- CertTrace, the pure theory, part A: words, loops, bits, graphs. -/
set_option linter.unusedVariables false
set_option linter.unusedSimpArgs false
namespace GoSx
open Go

/-! ### Words of models -/
theorem gd_pos {p : Prop} [d : Decidable p] {R : Type} {k : Option R} (h : p) : gd p k = k := by
  unfold gd; exact if_pos h
theorem inK_i64 (n : Int) : inK IntKind.i64 n ↔ -9223372036854775808 ≤ n ∧ n ≤ 9223372036854775807 := Iff.rfl
theorem gd_inK {n : Int} {R : Type} {k : Option R} (h : -9223372036854775808 ≤ n) (h' : n ≤ 9223372036854775807) : gd (inK IntKind.i64 n) k = k := gd_pos ⟨h, h'⟩
theorem bindO_some {X R : Type} (x : X) (k : X → Option R) : bindO (some x) k = k x := rfl
theorem joinO_inl {X R : Type} (x : X) (k : X → Option R) : joinO (some (Sum.inl x)) k = k x := rfl
theorem joinO_inr {X R : Type} (r : R) (k : X → Option R) : joinO (some (Sum.inr r)) k = some r := rfl
theorem cond_dec {p : Prop} [Decidable p] {α : Type} (a b : α) : (bif decide p then a else b) = if p then a else b := by
  by_cases h : p <;> simp [h]
theorem cond_t {α : Type} (a b : α) : (bif true then a else b) = a := rfl
theorem cond_f {α : Type} (a b : α) : (bif false then a else b) = b := rfl
theorem cond_eqI {α : Type} (x y : Int) (a b : α) : (bif x == y then a else b) = if x = y then a else b := by
  by_cases h : x = y
  · simp [h]
  · rw [if_neg h, beq_eq_false_iff_ne.mpr h]; rfl
theorem cond_neI {α : Type} (x y : Int) (a b : α) : (bif x != y then a else b) = if x = y then b else a := by
  by_cases h : x = y
  · simp [h]
  · rw [if_neg h, bne_iff_ne.mpr h]; rfl

/-- Loops: an invariant, a measure. -/
theorem iterO_inv {X R : Type} (b : X → Option (X ⊕ R)) (I : X → Prop) (Q : R → Prop) (m : X → Nat)
    (step : ∀ x, I x → (∃ y, b x = some (.inl y) ∧ I y ∧ m y < m x) ∨ (∃ r, b x = some (.inr r) ∧ Q r)) :
    ∀ n x, I x → m x < n → ∃ r, iterO b n x = some r ∧ Q r := by
  intro n
  induction n with
  | zero => intro x _ h; omega
  | succ n ih =>
    intro x hx hn
    rcases step x hx with ⟨y, h1, h2, h3⟩ | ⟨r, h1, h2⟩
    · obtain ⟨r, h4, h5⟩ := ih y h2 (by omega)
      exact ⟨r, by unfold iterO; rw [h1]; exact h4, h5⟩
    · exact ⟨r, by unfold iterO; rw [h1], h2⟩
/-- Loops: what they compute is one function of what they begin with. -/
theorem iterO_eq {X R : Type} (b : X → Option (X ⊕ R)) (I : X → Prop) (f : X → R) (m : X → Nat)
    (step : ∀ x, I x → (∃ y, b x = some (.inl y) ∧ I y ∧ m y < m x ∧ f y = f x) ∨ b x = some (.inr (f x))) :
    ∀ n x, I x → m x < n → iterO b n x = some (f x) := by
  intro n
  induction n with
  | zero => intro x _ h; omega
  | succ n ih =>
    intro x hx hn
    rcases step x hx with ⟨y, h1, h2, h3, h4⟩ | h1
    · unfold iterO; rw [h1, ← h4]; exact ih y h2 (by omega)
    · unfold iterO; rw [h1]
theorem fuelN_gt {n : Nat} (h : n < 2 ^ 128) : n < fuelN := by
  have : (2:Nat) ^ 128 ≤ 2 ^ 200 := Nat.pow_le_pow_right (by omega) (by omega)
  unfold fuelN; omega

/-! ### Rows -/
theorem getI_def (l : List Int) (i : Int) : getI l i = l.getD i.toNat 0 := rfl
theorem getL_def (l : List (List Int)) (i : Int) : getL l i = l.getD i.toNat [] := rfl
theorem getB_def (l : List Bool) (i : Int) : getB l i = l.getD i.toNat false := rfl
theorem getI_nat (l : List Int) (i : Nat) (h : i < l.length) : getI l i = l[i] := by
  simp [getI_def, h]
theorem getL_nat (l : List (List Int)) (i : Nat) (h : i < l.length) : getL l i = l[i] := by
  simp [getL_def, h]
theorem getI_mem {l : List Int} {i : Int} (h0 : 0 ≤ i) (h : i < l.length) : getI l i ∈ l := by
  have : i.toNat < l.length := by omega
  rw [getI_def]; simp [this]
theorem mem_getI {l : List Int} {x : Int} (h : x ∈ l) : ∃ i : Int, 0 ≤ i ∧ i < l.length ∧ getI l i = x := by
  obtain ⟨n, hn, e⟩ := List.getElem_of_mem h
  exact ⟨n, by omega, by omega, by rw [getI_nat l n hn]; exact e⟩
theorem getL_mem {l : List (List Int)} {i : Int} (h0 : 0 ≤ i) (h : i < l.length) : getL l i ∈ l := by
  have : i.toNat < l.length := by omega
  rw [getL_def]; simp [this]
theorem mem_getL {l : List (List Int)} {x : List Int} (h : x ∈ l) : ∃ i : Int, 0 ≤ i ∧ i < l.length ∧ getL l i = x := by
  obtain ⟨n, hn, e⟩ := List.getElem_of_mem h
  exact ⟨n, by omega, by omega, by rw [getL_nat l n hn]; exact e⟩
theorem getI_set {l : List Int} {i j x : Int} (hi : 0 ≤ i) (hi' : i < l.length) (hj : 0 ≤ j) : getI (l.set i.toNat x) j = if j = i then x else getI l j := by
  rw [getI_def, getI_def, List.getD_eq_getElem?_getD, List.getD_eq_getElem?_getD, List.getElem?_set]
  have : (i.toNat = j.toNat) ↔ j = i := by omega
  have h2 : i.toNat < l.length := by omega
  by_cases h : j = i
  · subst h; simp [h2]
  · simp [h, mt this.mp h]
theorem getL_set {l : List (List Int)} {i j : Int} {x : List Int} (hi : 0 ≤ i) (hi' : i < l.length) (hj : 0 ≤ j) : getL (l.set i.toNat x) j = if j = i then x else getL l j := by
  rw [getL_def, getL_def, List.getD_eq_getElem?_getD, List.getD_eq_getElem?_getD, List.getElem?_set]
  have : (i.toNat = j.toNat) ↔ j = i := by omega
  have h2 : i.toNat < l.length := by omega
  by_cases h : j = i
  · subst h; simp [h2]
  · simp [h, mt this.mp h]
theorem getI_append {l r : List Int} {i : Int} (hi : 0 ≤ i) : getI (l ++ r) i = if i < l.length then getI l i else getI r (i - l.length) := by
  rw [getI_def, getI_def, getI_def, List.getD_eq_getElem?_getD, List.getD_eq_getElem?_getD, List.getD_eq_getElem?_getD]
  by_cases h : i < l.length
  · rw [if_pos h, List.getElem?_append_left (by omega)]
  · rw [if_neg h, List.getElem?_append_right (by omega)]
    have : (i - l.length).toNat = i.toNat - l.length := by omega
    rw [this]
theorem getL_append {l r : List (List Int)} {i : Int} (hi : 0 ≤ i) : getL (l ++ r) i = if i < l.length then getL l i else getL r (i - l.length) := by
  rw [getL_def, getL_def, getL_def, List.getD_eq_getElem?_getD, List.getD_eq_getElem?_getD, List.getD_eq_getElem?_getD]
  by_cases h : i < l.length
  · rw [if_pos h, List.getElem?_append_left (by omega)]
  · rw [if_neg h, List.getElem?_append_right (by omega)]
    have : (i - l.length).toNat = i.toNat - l.length := by omega
    rw [this]
theorem getI_push {l : List Int} {x i : Int} (hi : 0 ≤ i) (hi' : i ≤ l.length) : getI (l ++ [x]) i = if i = l.length then x else getI l i := by
  rw [getI_append hi]
  by_cases h : i = l.length
  · rw [if_neg (by omega), if_pos h]
    have : i - l.length = 0 := by omega
    rw [this]; rfl
  · rw [if_pos (by omega), if_neg h]
theorem getL_push {l : List (List Int)} {x : List Int} {i : Int} (hi : 0 ≤ i) (hi' : i ≤ l.length) : getL (l ++ [x]) i = if i = l.length then x else getL l i := by
  rw [getL_append hi]
  by_cases h : i = l.length
  · rw [if_neg (by omega), if_pos h]
    have : i - l.length = 0 := by omega
    rw [this]; rfl
  · rw [if_pos (by omega), if_neg h]
theorem getI_take {l : List Int} {i : Int} {n : Nat} (hi : 0 ≤ i) (h : i < n) : getI (l.take n) i = getI l i := by
  rw [getI_def, getI_def, List.getD_eq_getElem?_getD, List.getD_eq_getElem?_getD, List.getElem?_take_of_lt (by omega)]
theorem getI_ge {l : List Int} {i : Int} (h : (l.length : Int) ≤ i) : getI l i = 0 := by
  rw [getI_def, List.getD_eq_getElem?_getD, List.getElem?_eq_none (by omega)]; rfl
theorem set_getL {l : List (List Int)} {i : Int} (h0 : 0 ≤ i) (h : i < l.length) : l.set i.toNat (getL l i) = l := by
  have h2 : i.toNat < l.length := by omega
  have : getL l i = l[i.toNat] := by rw [getL_def]; simp [h2]
  rw [this]; exact List.set_getElem_self h2
theorem list_ext_getI {l r : List Int} (h : l.length = r.length) (e : ∀ i : Int, 0 ≤ i → i < l.length → getI l i = getI r i) : l = r := by
  apply List.ext_getElem h
  intro n h1 h2
  have := e n (by omega) (by omega)
  rw [getI_nat l n h1, getI_nat r n h2] at this
  exact this


/-! ### What a model computes, told by a condition -/
def Runs {R : Type} (e : Option R) (Q : R → Prop) : Prop := ∃ r, e = some r ∧ Q r
theorem Runs.ret {R : Type} {Q : R → Prop} {r : R} (h : Q r) : Runs (some r) Q := ⟨r, rfl, h⟩
theorem Runs.gd {R : Type} {Q : R → Prop} {p : Prop} [Decidable p] {k : Option R} (h : p) (hk : Runs k Q) : Runs (GoSx.gd p k) Q := by rw [gd_pos h]; exact hk
theorem Runs.inK {R : Type} {Q : R → Prop} {n : Int} {k : Option R} (h : -9223372036854775808 ≤ n ∧ n ≤ 9223372036854775807) (hk : Runs k Q) : Runs (GoSx.gd (GoSx.inK IntKind.i64 n) k) Q := by rw [gd_inK h.1 h.2]; exact hk
theorem Runs.bind {X R : Type} {Q : R → Prop} {m : Option X} {k : X → Option R} {x : X} (h : m = some x) (hk : Runs (k x) Q) : Runs (bindO m k) Q := by rw [h]; exact hk
theorem Runs.bindQ {X R : Type} {Q : R → Prop} {m : Option X} {k : X → Option R} {Q1 : X → Prop} (h : Runs m Q1) (hk : ∀ x, Q1 x → Runs (k x) Q) : Runs (bindO m k) Q := by
  obtain ⟨x, e, q⟩ := h; rw [e]; exact hk x q
theorem Runs.join {X R : Type} {Q : R → Prop} {a : Option (X ⊕ R)} {k : X → Option R} {Q1 : X ⊕ R → Prop} (h : Runs a Q1) (hk : ∀ x, Q1 (.inl x) → Runs (k x) Q) (hr : ∀ r, Q1 (.inr r) → Q r) : Runs (joinO a k) Q := by
  obtain ⟨o, e, q⟩ := h
  rw [e]
  cases o with
  | inl x => exact hk x q
  | inr r => exact ⟨r, rfl, hr r q⟩
theorem Runs.dec {R : Type} {Q : R → Prop} {p : Prop} [Decidable p] {a b : Option R} (h : p → Runs a Q) (h' : ¬ p → Runs b Q) : Runs (bif decide p then a else b) Q := by
  rw [cond_dec]; split <;> rename_i hp
  · exact h hp
  · exact h' hp
theorem Runs.eqI {R : Type} {Q : R → Prop} {x y : Int} {a b : Option R} (h : x = y → Runs a Q) (h' : x ≠ y → Runs b Q) : Runs (bif x == y then a else b) Q := by
  rw [cond_eqI]; split <;> rename_i hp
  · exact h hp
  · exact h' hp
theorem Runs.neI {R : Type} {Q : R → Prop} {x y : Int} {a b : Option R} (h : x ≠ y → Runs a Q) (h' : x = y → Runs b Q) : Runs (bif x != y then a else b) Q := by
  rw [cond_neI]; split <;> rename_i hp
  · exact h' hp
  · exact h hp
theorem Runs.bool {R : Type} {Q : R → Prop} {c : Bool} {a b : Option R} (h : c = true → Runs a Q) (h' : c = false → Runs b Q) : Runs (bif c then a else b) Q := by
  cases c
  · exact h' rfl
  · exact h rfl
theorem Runs.mono {R : Type} {Q Q' : R → Prop} {e : Option R} (h : Runs e Q) (hq : ∀ r, Q r → Q' r) : Runs e Q' := by
  obtain ⟨r, e, q⟩ := h; exact ⟨r, e, hq r q⟩
/-- One round. -/
def Stp {X R : Type} (I : X → Prop) (Q : R → Prop) (m : X → Nat) (x0 : X) : X ⊕ R → Prop
  | .inl y => I y ∧ m y < m x0
  | .inr r => Q r
theorem Runs.iter {X R : Type} {b : X → Option (X ⊕ R)} {Q : R → Prop} {n : Nat} {x : X} (I : X → Prop) (m : X → Nat) (step : ∀ x, I x → Runs (b x) (Stp I Q m x)) (hx : I x) (hn : m x < n) : Runs (iterO b n x) Q := by
  refine iterO_inv b I Q m ?_ n x hx hn
  intro y hy
  obtain ⟨o, e, q⟩ := step y hy
  cases o with
  | inl z => exact .inl ⟨z, e, q.1, q.2⟩
  | inr r => exact .inr ⟨r, e, q⟩


/-! ### Bits -/
theorem wrapS {n : Int} (h1 : -9223372036854775808 ≤ n) (h2 : n ≤ 9223372036854775807) : IntKind.i64.wrap n = n := by
  revert h1 h2
  unfold IntKind.wrap
  simp only [IntKind.signed, IntKind.bits]
  simp
  intro h1 h2
  (try split) <;> omega
/-- A literal, turned. -/
def tw (x : Int) : Int := IntKind.i64.wrap (nI (BitVec.ofInt 64 x ^^^ BitVec.ofInt 64 1).toNat)
theorem ofInt_nat {n : Nat} (h : n < 2 ^ 64) : (BitVec.ofInt 64 (n : Int)).toNat = n := by
  simp [BitVec.toNat_ofInt]
  omega
theorem tw_ok {x : Int} (h0 : 0 ≤ x) (h : x < 4611686018427387904) : 0 ≤ tw x ∧ tw x / 2 = x / 2 := by
  obtain ⟨n, rfl⟩ := Int.eq_ofNat_of_zero_le h0
  have e : (BitVec.ofInt 64 (n : Int) ^^^ BitVec.ofInt 64 1).toNat = n ^^^ 1 := by
    rw [BitVec.toNat_xor, ofInt_nat (by omega)]
    rfl
  have hx : n ^^^ 1 < 2 ^ 62 := Nat.xor_lt_two_pow (by omega) (by omega)
  have hd : (n ^^^ 1) / 2 = n / 2 := by
    rw [Nat.xor_div_two]
    simp
  unfold tw
  rw [e, wrapS (by unfold nI; omega) (by unfold nI; omega)]
  unfold nI
  omega
/-- A number's last bit. -/
def lb1 (x : Int) : Int := IntKind.i64.wrap (nI (BitVec.ofInt 64 x &&& BitVec.ofInt 64 1).toNat)
theorem lb1_ok (x : Int) : 0 ≤ lb1 x ∧ lb1 x ≤ 1 := by
  have e : (BitVec.ofInt 64 x &&& BitVec.ofInt 64 1).toNat ≤ 1 := by
    rw [BitVec.toNat_and]
    exact Nat.and_le_right
  unfold lb1
  rw [wrapS (by unfold nI; omega) (by unfold nI; omega)]
  unfold nI
  omega

/-! ### Graphs -/
abbrev P2 := Int × Int × Unit
/-- A literal of a graph. -/
def Lit (gi : Int) (ga : List P2) (x : Int) : Prop := 0 ≤ x ∧ x / 2 ≤ gi + ga.length
/-- A graph: its ands hang on what stands ahead of them. -/
def Gr (gi : Int) (ga : List P2) : Prop := 0 ≤ gi ∧ gi ≤ 1000000 ∧ ∀ j : Int, 0 ≤ j → j < ga.length → 0 ≤ (get pair2 ga j).1 ∧ (get pair2 ga j).1 / 2 ≤ gi + j ∧ 0 ≤ (get pair2 ga j).2.1 ∧ (get pair2 ga j).2.1 / 2 ≤ gi + j
theorem getP_append {l : List P2} {x : P2} {i : Int} (hi : 0 ≤ i) (h : i ≤ l.length) : get pair2 (l ++ [x]) i = if i = l.length then x else get pair2 l i := by
  unfold get
  rw [List.getD_eq_getElem?_getD, List.getD_eq_getElem?_getD]
  split
  · rename_i e
    have : i.toNat = l.length := by omega
    rw [this]; simp
  · rw [List.getElem?_append_left (by omega)]
theorem Gr.push {gi : Int} {ga : List P2} (h : Gr gi ga) {a b : Int} (ha : Lit gi ga a) (hb : Lit gi ga b) : Gr gi (ga ++ [(a, b, ())]) := by
  refine ⟨h.1, h.2.1, fun j h0 h1 => ?_⟩
  rw [List.length_append, List.length_singleton] at h1
  rw [getP_append h0 (by omega)]
  split
  · rename_i e
    subst e
    exact ⟨ha.1, ha.2, hb.1, hb.2⟩
  · exact h.2.2 j h0 (by omega)
theorem Lit.mono {gi : Int} {ga ga' : List P2} {x : Int} (h : Lit gi ga x) (hl : ga.length ≤ ga'.length) : Lit gi ga' x := ⟨h.1, by have := h.2; omega⟩
theorem Lit.zero {gi : Int} {ga : List P2} (h : Gr gi ga) : Lit gi ga 0 := ⟨by omega, by have := h.1; omega⟩
theorem Lit.one {gi : Int} {ga : List P2} (h : Gr gi ga) : Lit gi ga 1 := ⟨by omega, by have := h.1; omega⟩
theorem Lit.turn {gi : Int} {ga : List P2} {x : Int} (hg : Gr gi ga) (hl : ga.length ≤ 100000000) (h : Lit gi ga x) : Lit gi ga (tw x) := by
  have := h.1; have := h.2; have := hg.2.1
  obtain ⟨h1, h2⟩ := tw_ok h.1 (by omega)
  exact ⟨h1, by omega⟩

/-- A graph that grew by k at most, and a literal of it. -/
def GL (gi : Int) (ga : List P2) (k : Nat) (r : ((Int × List P2 × Unit) × Int × Unit) × Unit × Unit) : Prop :=
  r.1.1.1 = gi ∧ Gr gi r.1.1.2.1 ∧ ga.length ≤ r.1.1.2.1.length ∧ r.1.1.2.1.length ≤ ga.length + k ∧ Lit gi r.1.1.2.1 r.1.2.1

theorem lim_val : lim = 140737488355328 := rfl
theorem nI_def (n : Nat) : nI n = (n : Int) := rfl

theorem find13_runs {gi : Int} {ga : List P2} {a b : Int} (hl : ga.length ≤ 100000000) : Runs (find13 gi ga a b (nI ga.length)) fun r => r.1.1 = -1 ∨ (0 ≤ r.1.1 ∧ r.1.1 < ga.length) := by
  unfold find13 find13F
  refine Runs.iter (fun y => 0 ≤ y ∧ y ≤ ga.length) (fun y => (ga.length - y).toNat) ?_ ⟨by omega, by omega⟩ (fuelN_gt (by omega))
  rintro y ⟨h0, h1⟩
  simp only [nI_def]
  refine Runs.dec (fun hlt => ?_) (fun hlt => Runs.ret (.inl rfl))
  refine Runs.gd h0 (Runs.gd hlt ?_)
  have nxt : Runs (gd (inK IntKind.i64 (y + 1)) (some (Sum.inl (y + 1) : Int ⊕ ((Int × Unit) × Unit × Unit)))) (Stp (fun y => 0 ≤ y ∧ y ≤ (ga.length : Int)) (fun r => r.1.1 = -1 ∨ (0 ≤ r.1.1 ∧ r.1.1 < (ga.length : Int))) (fun y => ((ga.length : Int) - y).toNat) y) :=
    Runs.inK (by omega) (Runs.ret ⟨⟨by omega, by omega⟩, by dsimp only; omega⟩)
  refine Runs.eqI (fun _ => ?_) (fun _ => nxt)
  refine Runs.gd h0 (Runs.gd hlt ?_)
  rw [cond_t]
  refine Runs.eqI (fun _ => Runs.ret (.inr ⟨h0, hlt⟩)) (fun _ => nxt)

theorem and13_runs {gi : Int} {ga : List P2} {a b : Int} (hg : Gr gi ga) (hl : ga.length ≤ 100000000) (ha : Lit gi ga a) (hb : Lit gi ga b) : Runs (and13 gi ga a b) (GL gi ga 1) := by
  have h2 := hg.2.1
  have h1 := hg.1
  have same : ∀ x, Lit gi ga x → GL gi ga 1 (((gi, ga, ()), x, ()), (), ()) := fun x hx => ⟨rfl, hg, Nat.le_refl _, Nat.le_succ _, hx⟩
  have add : ∀ x y, Lit gi ga x → Lit gi ga y → Runs (bindO (find13 gi ga x y (nI ga.length)) fun y0 =>
      bif decide (y0.1.1 < 0) then
        gd ((0 + ga.length) * 16 ≤ lim) <|
        gd (0 + ga.length ≤ lim) <|
        gd ((([] ++ ga).length + [(x, y, ())].length) * 16 ≤ lim) <|
        gd (([] ++ ga).length + [(x, y, ())].length ≤ lim) <|
        gd (inK IntKind.i64 (gi + 1)) <|
        gd (inK IntKind.i64 (gi + 1 + nI ga.length)) <|
        gd (inK IntKind.i64 (2 * (gi + 1 + nI ga.length))) <|
        some (((gi, [] ++ ga ++ [(x, y, ())], ()), 2 * (gi + 1 + nI ga.length), ()), (), ())
      else
        gd (inK IntKind.i64 (gi + 1)) <|
        gd (inK IntKind.i64 (gi + 1 + y0.1.1)) <|
        gd (inK IntKind.i64 (2 * (gi + 1 + y0.1.1))) <|
        some (((gi, ga, ()), 2 * (gi + 1 + y0.1.1), ()), (), ())) (GL gi ga 1) := by
    intro x y hx hy
    refine Runs.bindQ (find13_runs hl) ?_
    rintro ⟨⟨i, ⟨⟩⟩, ⟨⟩, ⟨⟩⟩ hi
    dsimp only at hi ⊢
    simp only [nI_def, List.nil_append, List.length_singleton, lim_val]
    refine Runs.dec (fun h => ?_) (fun h => ?_)
    · refine Runs.gd (by omega) (Runs.gd (by omega) (Runs.gd (by omega) (Runs.gd (by omega) (Runs.inK (by omega) (Runs.inK (by omega) (Runs.inK (by omega) (Runs.ret ?_)))))))
      refine ⟨rfl, hg.push hx hy, by simp, by simp, ?_⟩
      simp only [Lit, List.length_append, List.length_singleton]
      omega
    · refine Runs.inK (by omega) (Runs.inK (by omega) (Runs.inK (by omega) (Runs.ret ?_)))
      refine same _ ?_
      unfold Lit
      omega
  unfold and13
  simp only [cond_t, cond_f]
  refine Runs.dec (fun _ => ?_) (fun _ => ?_)
  · refine Runs.eqI (fun _ => Runs.ret (same _ (Lit.zero hg))) (fun _ => ?_)
    refine Runs.eqI (fun _ => ?_) (fun _ => ?_)
    · refine Runs.neI (fun _ => Runs.ret (same _ (Lit.zero hg))) (fun _ => ?_)
      refine Runs.eqI (fun _ => Runs.ret (same _ ha)) (fun _ => ?_)
      exact Runs.eqI (fun _ => Runs.ret (same _ ha)) (fun _ => add _ _ hb ha)
    · refine Runs.eqI (fun _ => Runs.ret (same _ ha)) (fun _ => ?_)
      exact Runs.eqI (fun _ => Runs.ret (same _ ha)) (fun _ => add _ _ hb ha)
  · refine Runs.eqI (fun _ => Runs.ret (same _ (Lit.zero hg))) (fun _ => ?_)
    refine Runs.eqI (fun _ => ?_) (fun _ => ?_)
    · refine Runs.neI (fun _ => Runs.ret (same _ (Lit.zero hg))) (fun _ => ?_)
      refine Runs.eqI (fun _ => Runs.ret (same _ hb)) (fun _ => ?_)
      exact Runs.eqI (fun _ => Runs.ret (same _ hb)) (fun _ => add _ _ ha hb)
    · refine Runs.eqI (fun _ => Runs.ret (same _ hb)) (fun _ => ?_)
      exact Runs.eqI (fun _ => Runs.ret (same _ hb)) (fun _ => add _ _ ha hb)

theorem or13_runs {gi : Int} {ga : List P2} {a b : Int} (hg : Gr gi ga) (hl : ga.length ≤ 90000000) (ha : Lit gi ga a) (hb : Lit gi ga b) : Runs (or13 gi ga a b) (GL gi ga 1) := by
  unfold or13
  refine Runs.bind (x := ((tw a, ()), (), ())) rfl (Runs.bind (x := ((tw b, ()), (), ())) rfl ?_)
  refine Runs.bindQ (and13_runs hg (by omega) (ha.turn hg (by omega)) (hb.turn hg (by omega))) ?_
  rintro ⟨⟨⟨g', l', ⟨⟩⟩, x, ⟨⟩⟩, ⟨⟩, ⟨⟩⟩ ⟨rfl, h1, h2, h3, h4⟩
  refine Runs.bind (x := ((tw x, ()), (), ())) rfl (Runs.ret ?_)
  dsimp only at *
  exact ⟨rfl, h1, h2, h3, Lit.turn (ga := l') h1 (by omega) h4⟩

theorem mux13_runs {gi : Int} {ga : List P2} {i a b : Int} (hg : Gr gi ga) (hl : ga.length ≤ 80000000) (hi : Lit gi ga i) (ha : Lit gi ga a) (hb : Lit gi ga b) : Runs (mux13 gi ga i a b) (GL gi ga 3) := by
  unfold mux13
  refine Runs.bindQ (and13_runs hg (by omega) hi ha) ?_
  rintro ⟨⟨⟨g1, l1, ⟨⟩⟩, x1, ⟨⟩⟩, ⟨⟩, ⟨⟩⟩ ⟨rfl, h1, h2, h3, h4⟩
  dsimp only at *
  refine Runs.bind (x := ((tw i, ()), (), ())) rfl ?_
  refine Runs.bindQ (and13_runs h1 (by omega) ((hi.mono h2).turn h1 (by omega)) (hb.mono h2)) ?_
  rintro ⟨⟨⟨g2, l2, ⟨⟩⟩, x2, ⟨⟩⟩, ⟨⟩, ⟨⟩⟩ ⟨rfl, k1, k2, k3, k4⟩
  dsimp only at *
  refine Runs.bindQ (or13_runs k1 (by omega) (h4.mono k2) k4) ?_
  rintro ⟨⟨⟨g3, l3, ⟨⟩⟩, x3, ⟨⟩⟩, ⟨⟩, ⟨⟩⟩ ⟨rfl, q1, q2, q3, q4⟩
  dsimp only at *
  exact Runs.ret ⟨rfl, q1, by dsimp only; omega, by dsimp only; omega, q4⟩

theorem xor13_runs {gi : Int} {ga : List P2} {a b : Int} (hg : Gr gi ga) (hl : ga.length ≤ 80000000) (ha : Lit gi ga a) (hb : Lit gi ga b) : Runs (xor13 gi ga a b) (GL gi ga 3) := by
  unfold xor13
  refine Runs.bind (x := ((tw b, ()), (), ())) rfl ?_
  refine Runs.bindQ (mux13_runs hg hl ha (hb.turn hg (by omega)) hb) ?_
  rintro ⟨⟨⟨g3, l3, ⟨⟩⟩, x3, ⟨⟩⟩, ⟨⟩, ⟨⟩⟩ h
  exact Runs.ret h

end GoSx
end
section
/- CertTrace, the pure theory, part B: nodes, bit by bit. -/
set_option linter.unusedVariables false
set_option linter.unusedSimpArgs false
namespace GoSx
open Go

def Lits (gi : Int) (ga : List P2) (l : List Int) : Prop := ∀ x ∈ l, Lit gi ga x
theorem Lits.mono {gi : Int} {ga ga' : List P2} {l : List Int} (h : Lits gi ga l) (hl : ga.length ≤ ga'.length) : Lits gi ga' l := fun x hx => (h x hx).mono hl
theorem Lits.nil {gi : Int} {ga : List P2} : Lits gi ga [] := fun x hx => by cases hx
theorem Lits.push {gi : Int} {ga : List P2} {l : List Int} {x : Int} (h : Lits gi ga l) (hx : Lit gi ga x) : Lits gi ga (l ++ [x]) := by
  intro y hy
  rcases List.mem_append.1 hy with hy | hy
  · exact h y hy
  · rw [List.mem_singleton.1 hy]; exact hx
theorem Lits.app {gi : Int} {ga : List P2} {l r : List Int} (h : Lits gi ga l) (h' : Lits gi ga r) : Lits gi ga (l ++ r) := fun y hy => (List.mem_append.1 hy).elim (h y) (h' y)
theorem Lits.get {gi : Int} {ga : List P2} {l : List Int} {i : Int} (h : Lits gi ga l) (h0 : 0 ≤ i) (h1 : i < l.length) : Lit gi ga (getI l i) := h _ (getI_mem h0 h1)

/-- A graph that grew by k at most, and n literals of it. -/
def GS (gi : Int) (ga : List P2) (k n : Nat) (r : ((Int × List P2 × Unit) × List Int × Unit) × Unit × Unit) : Prop :=
  r.1.1.1 = gi ∧ Gr gi r.1.1.2.1 ∧ ga.length ≤ r.1.1.2.1.length ∧ r.1.1.2.1.length ≤ ga.length + k ∧ r.1.2.1.length = n ∧ Lits gi r.1.1.2.1 r.1.2.1

/-- Rounds over bits: the graph grows by k in each at most. -/
def GI (gi : Int) (ga : List P2) (k n : Nat) (i : Int) (g : Int) (l : List P2) (o : List Int) : Prop :=
  0 ≤ i ∧ i ≤ n ∧ g = gi ∧ Gr gi l ∧ ga.length ≤ l.length ∧ (l.length : Int) ≤ ga.length + k * i ∧ (o.length : Int) = i ∧ Lits gi l o
theorem GI.zero {gi : Int} {ga : List P2} {k n : Nat} (hg : Gr gi ga) : GI gi ga k n 0 gi ga [] := ⟨by omega, by omega, rfl, hg, Nat.le_refl _, by simp, rfl, Lits.nil⟩
theorem GI.step {gi : Int} {ga : List P2} {k n : Nat} {i g : Int} {l l' : List P2} {o : List Int} {x : Int} (h : GI gi ga k n i g l o) (hi : i < n) (hg : Gr gi l') (h1 : l.length ≤ l'.length) (h2 : l'.length ≤ l.length + k) (hx : Lit gi l' x) : GI gi ga k n (i + 1) gi l' (o ++ [x]) := by
  obtain ⟨a, b, c, d, e, f, p, q⟩ := h
  refine ⟨by omega, by omega, rfl, hg, by omega, ?_, by simp; omega, (q.mono h1).push hx⟩
  rw [Int.mul_add]
  omega
theorem GI.done {gi : Int} {ga : List P2} {k n : Nat} {i g : Int} {l : List P2} {o : List Int} (h : GI gi ga k n i g l o) (hi : ¬ i < n) : GS gi ga (k * n) n (((g, l, ()), o, ()), (), ()) := by
  obtain ⟨a, b, c, d, e, f, p, q⟩ := h
  obtain rfl : i = n := by omega
  subst c
  refine ⟨rfl, d, e, ?_, by dsimp only; omega, q⟩
  dsimp only
  have : ((k * n : Nat) : Int) = (k : Int) * (n : Int) := by simp
  omega
theorem GI.room {gi : Int} {ga : List P2} {k n : Nat} {i g : Int} {l : List P2} {o : List Int} (h : GI gi ga k n i g l o) (hk : k ≤ 16) (hn : n ≤ 64) : l.length ≤ ga.length + 1024 := by
  obtain ⟨a, b, c, d, e, f, p, q⟩ := h
  have : (k : Int) * i ≤ 16 * 64 := by
    calc (k : Int) * i ≤ 16 * i := Int.mul_le_mul_of_nonneg_right (by omega) a
      _ ≤ 16 * 64 := Int.mul_le_mul_of_nonneg_left (by omega) (by omega)
  omega

theorem sum14_runs {gi : Int} {ga : List P2} {a b : List Int} {ci : Int} (hg : Gr gi ga) (hl : ga.length ≤ 50000000) (ha : Lits gi ga a) (hb : Lits gi ga b) (hab : a.length = b.length) (hn : a.length ≤ 64) (hc : Lit gi ga ci) : Runs (sum14 gi ga a b ci) (GS gi ga (9 * a.length) a.length) := by
  unfold sum14 sum14F
  refine Runs.iter (fun y => GI gi ga 9 a.length y.1.2 y.2.1.1 y.2.1.2 y.2.2 ∧ Lit gi y.2.1.2 y.1.1) (fun y => (a.length - y.1.2).toNat) ?_ ⟨GI.zero hg, hc⟩ (fuelN_gt (by dsimp only; omega))
  rintro ⟨⟨c, i⟩, ⟨g, l⟩, o⟩ ⟨h, h5⟩
  dsimp only at h h5 ⊢
  obtain ⟨h0, h1, rfl, h2, h3, h4, h6, h7⟩ := id h
  have hr := h.room (by omega) hn
  simp only [nI_def]
  refine Runs.dec (fun hlt => ?_) (fun hlt => Runs.ret (h.done hlt))
  have la := (ha.mono h3).get h0 hlt
  have lb := (hb.mono h3).get h0 (by omega)
  refine Runs.gd h0 (Runs.gd hlt (Runs.gd h0 (Runs.gd (by omega) ?_)))
  refine Runs.bindQ (xor13_runs h2 (by omega) la lb) ?_
  rintro ⟨⟨⟨g1, l1, ⟨⟩⟩, x1, ⟨⟩⟩, ⟨⟩, ⟨⟩⟩ ⟨rfl, p1, p2, p3, p4⟩
  dsimp only at *
  refine Runs.bindQ (xor13_runs p1 (by omega) p4 (h5.mono p2)) ?_
  rintro ⟨⟨⟨g2, l2, ⟨⟩⟩, x2, ⟨⟩⟩, ⟨⟩, ⟨⟩⟩ ⟨rfl, q1, q2, q3, q4⟩
  dsimp only at *
  refine Runs.gd h0 (Runs.gd hlt (Runs.gd h0 (Runs.gd (by omega) ?_)))
  refine Runs.bindQ (and13_runs q1 (by omega) (la.mono (by omega)) (lb.mono (by omega))) ?_
  rintro ⟨⟨⟨g3, l3, ⟨⟩⟩, x3, ⟨⟩⟩, ⟨⟩, ⟨⟩⟩ ⟨rfl, r1, r2, r3, r4⟩
  dsimp only at *
  refine Runs.bindQ (and13_runs r1 (by omega) (p4.mono (by omega)) (h5.mono (by omega))) ?_
  rintro ⟨⟨⟨g4, l4, ⟨⟩⟩, x4, ⟨⟩⟩, ⟨⟩, ⟨⟩⟩ ⟨rfl, s1, s2, s3, s4⟩
  dsimp only at *
  refine Runs.bindQ (or13_runs s1 (by omega) (r4.mono s2) s4) ?_
  rintro ⟨⟨⟨g5, l5, ⟨⟩⟩, x5, ⟨⟩⟩, ⟨⟩, ⟨⟩⟩ ⟨rfl, t1, t2, t3, t4⟩
  dsimp only at *
  simp only [List.length_singleton, lim_val]
  refine Runs.gd (by omega) (Runs.gd (by omega) (Runs.inK (by omega) (Runs.ret ⟨⟨?_, t4⟩, by dsimp only; omega⟩)))
  exact GI.step (l' := l5) h hlt t1 (by omega) (by omega) (Lit.mono (ga := l2) q4 (by omega))

theorem turned14_runs {gi : Int} {ga : List P2} {a : List Int} (hg : Gr gi ga) (hl : ga.length ≤ 50000000) (ha : Lits gi ga a) (hn : a.length ≤ 64) : Runs (turned14 a) fun r => r.1.1.length = a.length ∧ Lits gi ga r.1.1 := by
  unfold turned14 turned14F
  refine Runs.iter (fun y => 0 ≤ y.1 ∧ y.1 ≤ a.length ∧ (y.2.length : Int) = y.1 ∧ Lits gi ga y.2) (fun y => (a.length - y.1).toNat) ?_ ⟨by dsimp only; omega, by dsimp only; omega, rfl, Lits.nil⟩ (fuelN_gt (by dsimp only; omega))
  rintro ⟨i, o⟩ ⟨h0, h1, h2, h3⟩
  dsimp only at *
  simp only [nI_def]
  refine Runs.dec (fun hlt => ?_) (fun hlt => Runs.ret ⟨by dsimp only; omega, h3⟩)
  refine Runs.gd h0 (Runs.gd hlt ?_)
  simp only [List.length_singleton, lim_val]
  refine Runs.gd (by omega) (Runs.gd (by omega) (Runs.inK (by omega) (Runs.ret ⟨⟨by dsimp only; omega, by dsimp only; omega, by simp; omega, ?_⟩, by dsimp only; omega⟩)))
  exact h3.push ((ha.get h0 hlt).turn hg (by omega))

/-- Rounds over bits that make one literal. -/
def GJ (gi : Int) (ga : List P2) (k n : Nat) (i : Int) (g : Int) (l : List P2) (x : Int) : Prop :=
  0 ≤ i ∧ i ≤ n ∧ g = gi ∧ Gr gi l ∧ ga.length ≤ l.length ∧ (l.length : Int) ≤ ga.length + k * i ∧ Lit gi l x
theorem GJ.zero {gi : Int} {ga : List P2} {k n : Nat} {x : Int} (hg : Gr gi ga) (hx : Lit gi ga x) : GJ gi ga k n 0 gi ga x := ⟨by omega, by omega, rfl, hg, Nat.le_refl _, by simp, hx⟩
theorem GJ.step {gi : Int} {ga : List P2} {k n : Nat} {i g : Int} {l l' : List P2} {x y : Int} (h : GJ gi ga k n i g l y) (hi : i < n) (hg : Gr gi l') (h1 : l.length ≤ l'.length) (h2 : l'.length ≤ l.length + k) (hx : Lit gi l' x) : GJ gi ga k n (i + 1) gi l' x := by
  obtain ⟨a, b, c, d, e, f, q⟩ := h
  refine ⟨by omega, by omega, rfl, hg, by omega, ?_, hx⟩
  rw [Int.mul_add]
  omega
theorem GJ.done {gi : Int} {ga : List P2} {k n : Nat} {i g : Int} {l : List P2} {x : Int} (h : GJ gi ga k n i g l x) (hi : ¬ i < n) : GL gi ga (k * n) (((g, l, ()), x, ()), (), ()) := by
  obtain ⟨a, b, c, d, e, f, q⟩ := h
  obtain rfl : i = n := by omega
  subst c
  refine ⟨rfl, d, e, ?_, q⟩
  dsimp only
  have : ((k * n : Nat) : Int) = (k : Int) * (n : Int) := by simp
  omega
theorem GJ.room {gi : Int} {ga : List P2} {k n : Nat} {i g : Int} {l : List P2} {x : Int} (h : GJ gi ga k n i g l x) (hk : k ≤ 16) (hn : n ≤ 64) : l.length ≤ ga.length + 1024 := by
  obtain ⟨a, b, c, d, e, f, q⟩ := h
  have : (k : Int) * i ≤ 16 * 64 := by
    calc (k : Int) * i ≤ 16 * i := Int.mul_le_mul_of_nonneg_right (by omega) a
      _ ≤ 16 * 64 := Int.mul_le_mul_of_nonneg_left (by omega) (by omega)
  omega

theorem all14_runs {gi : Int} {ga : List P2} {a : List Int} (hg : Gr gi ga) (hl : ga.length ≤ 50000000) (ha : Lits gi ga a) (hn : a.length ≤ 64) : Runs (all14 gi ga a) (GL gi ga (1 * a.length)) := by
  unfold all14 all14F
  refine Runs.iter (fun y => GJ gi ga 1 a.length y.1.2 y.2.1 y.2.2 y.1.1) (fun y => (a.length - y.1.2).toNat) ?_ (GJ.zero hg (Lit.one hg)) (fuelN_gt (by dsimp only; omega))
  rintro ⟨⟨x, i⟩, g, l⟩ h
  dsimp only at h ⊢
  obtain ⟨h0, h1, rfl, h2, h3, h4, h5⟩ := id h
  have hr := h.room (by omega) hn
  simp only [nI_def]
  refine Runs.dec (fun hlt => ?_) (fun hlt => Runs.ret (h.done hlt))
  refine Runs.gd h0 (Runs.gd hlt ?_)
  refine Runs.bindQ (and13_runs h2 (by omega) h5 ((ha.mono h3).get h0 hlt)) ?_
  rintro ⟨⟨⟨g1, l1, ⟨⟩⟩, x1, ⟨⟩⟩, ⟨⟩, ⟨⟩⟩ ⟨rfl, p1, p2, p3, p4⟩
  dsimp only at *
  exact Runs.inK (by omega) (Runs.ret ⟨h.step hlt p1 p2 p3 p4, by dsimp only; omega⟩)

theorem less14_runs {gi : Int} {ga : List P2} {a b : List Int} {x : Int} (hg : Gr gi ga) (hl : ga.length ≤ 50000000) (ha : Lits gi ga a) (hb : Lits gi ga b) (hab : a.length = b.length) (hn : a.length ≤ 64) (hx : Lit gi ga x) : Runs (less14 gi ga a b x) (GL gi ga (6 * a.length)) := by
  unfold less14 less14F
  refine Runs.iter (fun y => GJ gi ga 6 a.length y.1.2 y.2.1 y.2.2 y.1.1) (fun y => (a.length - y.1.2).toNat) ?_ (GJ.zero hg hx) (fuelN_gt (by dsimp only; omega))
  rintro ⟨⟨x, i⟩, g, l⟩ h
  dsimp only at h ⊢
  obtain ⟨h0, h1, rfl, h2, h3, h4, h5⟩ := id h
  have hr := h.room (by omega) hn
  simp only [nI_def]
  refine Runs.dec (fun hlt => ?_) (fun hlt => Runs.ret (h.done hlt))
  have la := (ha.mono h3).get h0 hlt
  have lb := (hb.mono h3).get h0 (by omega)
  refine Runs.gd h0 (Runs.gd hlt (Runs.gd h0 (Runs.gd (by omega) ?_)))
  refine Runs.bindQ (xor13_runs h2 (by omega) la lb) ?_
  rintro ⟨⟨⟨g1, l1, ⟨⟩⟩, x1, ⟨⟩⟩, ⟨⟩, ⟨⟩⟩ ⟨rfl, p1, p2, p3, p4⟩
  dsimp only at *
  refine Runs.gd h0 (Runs.gd (by omega) ?_)
  refine Runs.bindQ (mux13_runs p1 (by omega) p4 (lb.mono p2) (h5.mono p2)) ?_
  rintro ⟨⟨⟨g2, l2, ⟨⟩⟩, x2, ⟨⟩⟩, ⟨⟩, ⟨⟩⟩ ⟨rfl, q1, q2, q3, q4⟩
  dsimp only at *
  exact Runs.inK (by omega) (Runs.ret ⟨GJ.step (l' := l2) h hlt q1 (by omega) (by omega) q4, by dsimp only; omega⟩)

theorem each14_runs {gi : Int} {ga : List P2} {op : Int} {a b : List Int} (hg : Gr gi ga) (hl : ga.length ≤ 50000000) (ha : Lits gi ga a) (hb : Lits gi ga b) (hab : a.length = b.length) (hn : a.length ≤ 64) : Runs (each14 gi ga op a b) (GS gi ga (3 * a.length) a.length) := by
  unfold each14 each14F
  refine Runs.iter (fun y => GI gi ga 3 a.length y.1 y.2.1.1 y.2.1.2 y.2.2) (fun y => (a.length - y.1).toNat) ?_ (GI.zero hg) (fuelN_gt (by dsimp only; omega))
  rintro ⟨i, ⟨g, l⟩, o⟩ h
  dsimp only at h ⊢
  obtain ⟨h0, h1, rfl, h2, h3, h4, h6, h7⟩ := id h
  have hr := h.room (by omega) hn
  simp only [nI_def]
  refine Runs.dec (fun hlt => ?_) (fun hlt => Runs.ret (h.done hlt))
  have la := (ha.mono h3).get h0 hlt
  have lb := (hb.mono h3).get h0 (by omega)
  have fin : ∀ (m : Option (((Int × List P2 × Unit) × Int × Unit) × Unit × Unit)), Runs m (GL g l 3) → Runs (gd (0 ≤ i) <| gd (i < (a.length : Int)) <| gd (0 ≤ i) <| gd (i < (b.length : Int)) <| bindO m fun y1 =>
      gd ((o.length + [y1.1.2.1].length) * 8 ≤ lim) <|
      gd (o.length + [y1.1.2.1].length ≤ lim) <|
      gd (inK IntKind.i64 (i + 1)) <|
      some (Sum.inl (i + 1, (y1.1.1.1, y1.1.1.2.1), o ++ [y1.1.2.1]) : (Int × (Int × List P2) × List Int) ⊕ (((Int × List P2 × Unit) × List Int × Unit) × Unit × Unit)))
      (Stp (fun y => GI g ga 3 a.length y.1 y.2.1.1 y.2.1.2 y.2.2) (GS g ga (3 * a.length) a.length) (fun y => ((a.length : Int) - y.1).toNat) (i, (g, l), o)) := by
    intro m hm
    refine Runs.gd h0 (Runs.gd hlt (Runs.gd h0 (Runs.gd (by omega) ?_)))
    refine Runs.bindQ hm ?_
    rintro ⟨⟨⟨g1, l1, ⟨⟩⟩, x1, ⟨⟩⟩, ⟨⟩, ⟨⟩⟩ ⟨rfl, p1, p2, p3, p4⟩
    dsimp only at *
    simp only [List.length_singleton, lim_val]
    exact Runs.gd (by omega) (Runs.gd (by omega) (Runs.inK (by omega) (Runs.ret ⟨h.step hlt p1 p2 p3 p4, by dsimp only; omega⟩)))
  have one : ∀ {m}, Runs m (GL g l 1) → Runs m (GL g l 3) := fun h => h.mono fun r ⟨q1, q2, q3, q4, q5⟩ => ⟨q1, q2, q3, by omega, q5⟩
  refine Runs.eqI (fun _ => fin _ (one (and13_runs h2 (by omega) la lb))) (fun _ => ?_)
  exact Runs.eqI (fun _ => fin _ (one (or13_runs h2 (by omega) la lb))) (fun _ => fin _ (xor13_runs h2 (by omega) la lb))

theorem lit14_runs {n w : Int} {gi : Int} {ga : List P2} (hg : Gr gi ga) (h0 : 0 ≤ w) (h1 : w ≤ 64) : Runs (lit14 n w) fun r => (r.1.1.length : Int) = w ∧ Lits gi ga r.1.1 := by
  unfold lit14 lit14F
  refine Runs.iter (fun y => 0 ≤ y.1 ∧ y.1 ≤ w ∧ (y.2.length : Int) = y.1 ∧ Lits gi ga y.2) (fun y => (w - y.1).toNat) ?_ ⟨by dsimp only; omega, by dsimp only; omega, rfl, Lits.nil⟩ (fuelN_gt (by dsimp only; omega))
  rintro ⟨i, o⟩ ⟨h2, h3, h4, h5⟩
  dsimp only at *
  refine Runs.dec (fun hlt => ?_) (fun hlt => Runs.ret ⟨by dsimp only; omega, h5⟩)
  simp only [List.length_singleton, lim_val]
  have hb := lb1_ok (n.fdiv (2 ^ min i.toNat 64))
  refine Runs.gd h2 (Runs.gd (by omega) (Runs.gd (by omega) (Runs.inK (by omega) (Runs.ret ⟨⟨by dsimp only; omega, by dsimp only; omega, by simp; omega, ?_⟩, by dsimp only; omega⟩))))
  refine h5.push ⟨hb.1, ?_⟩
  have := hg.1
  have h6 := hb.2
  have h7 := hb.1
  unfold lb1 at h6 h7
  omega

end GoSx
end
section
/- CertTrace, the pure theory, part C: products, and nodes of all ops. -/
set_option linter.unusedVariables false
set_option linter.unusedSimpArgs false
namespace GoSx
open Go

theorem Lits.zeros {gi : Int} {ga : List P2} (hg : Gr gi ga) (n : Nat) : Lits gi ga (List.replicate n 0) := by
  intro x hx
  rw [List.eq_of_mem_replicate hx]
  exact Lit.zero hg

theorem times14_runs {gi : Int} {ga : List P2} {a b : List Int} (hg : Gr gi ga) (hl : ga.length ≤ 20000000) (ha : Lits gi ga a) (hb : Lits gi ga b) (hab : a.length = b.length) (hn : a.length ≤ 64) : Runs (times14 gi ga a b) (GS gi ga 50000 a.length) := by
  unfold times14 times14F
  simp only [nI_def, lim_val]
  refine Runs.gd (by omega) (Runs.gd (by omega) (Runs.gd (by omega) ?_))
  refine Runs.iter (fun y => 0 ≤ y.1 ∧ y.1 ≤ b.length ∧ y.2.1.1 = gi ∧ Gr gi y.2.1.2 ∧ ga.length ≤ y.2.1.2.length ∧ (y.2.1.2.length : Int) ≤ ga.length + 640 * y.1 ∧ y.2.2.1.length = a.length ∧ Lits gi y.2.1.2 y.2.2.1) (fun y => (b.length - y.1).toNat) ?_ ⟨by dsimp only; omega, by dsimp only; omega, rfl, hg, Nat.le_refl _, by dsimp only; omega, by simp, Lits.zeros hg _⟩ (fuelN_gt (by dsimp only; omega))
  rintro ⟨i, ⟨g, l⟩, o, o'⟩ ⟨h0, h1, h2, h3, h4, h5, h6, h7⟩
  dsimp only at *
  subst h2
  refine Runs.dec (fun hlt => ?_) (fun hlt => Runs.ret ⟨rfl, h3, h4, by dsimp only; omega, h6, h7⟩)
  refine Runs.iter (fun y => GI g l 1 a.length y.1 y.2.1.1 y.2.1.2 y.2.2) (fun y => (a.length - y.1).toNat) ?_ (GI.zero h3) (fuelN_gt (by dsimp only; omega))
  rintro ⟨k, ⟨g1, l1⟩, row⟩ hi
  dsimp only at hi ⊢
  obtain ⟨k0, k1, k2, k3, k4, k5, k6, k7⟩ := id hi
  subst k2
  have hr := hi.room (by omega) hn
  refine Runs.dec (fun hk => ?_) (fun hk => ?_)
  · refine Runs.dec (fun hki => ?_) (fun hki => ?_)
    · refine Runs.inK (by omega) (Runs.gd (by omega) (Runs.gd (by omega) (Runs.gd h0 (Runs.gd hlt ?_))))
      refine Runs.bindQ (and13_runs k3 (by omega) ((ha.mono (by omega)).get (by omega) (by omega)) ((hb.mono (by omega)).get h0 hlt)) ?_
      rintro ⟨⟨⟨g2, l2, ⟨⟩⟩, x2, ⟨⟩⟩, ⟨⟩, ⟨⟩⟩ ⟨rfl, p1, p2, p3, p4⟩
      dsimp only at *
      simp only [List.length_singleton]
      exact Runs.gd (by omega) (Runs.gd (by omega) (Runs.inK (by omega) (Runs.ret ⟨GI.step (l' := l2) hi hk p1 p2 p3 p4, by dsimp only; omega⟩)))
    · exact Runs.gd (by omega) (Runs.gd (by omega) (Runs.inK (by omega) (Runs.ret ⟨GI.step (l' := l1) hi hk k3 (Nat.le_refl _) (by omega) (Lit.zero k3), by dsimp only; omega⟩)))
  · refine Runs.bindQ (sum14_runs k3 (by omega) (h7.mono k4) k7 (by omega) (by omega) (Lit.zero k3)) ?_
    rintro ⟨⟨⟨g2, l2, ⟨⟩⟩, s, ⟨⟩⟩, ⟨⟩, ⟨⟩⟩ ⟨rfl, p1, p2, p3, p4, p5⟩
    dsimp only at *
    simp only [List.nil_append]
    refine Runs.gd (by omega) (Runs.gd (by omega) (Runs.inK (by omega) (Runs.ret ⟨⟨by dsimp only; omega, by dsimp only; omega, rfl, p1, by dsimp only; omega, by dsimp only; omega, by dsimp only; omega, p5⟩, by dsimp only; omega⟩)))

/-- What fits an op: its width, its operands' widths. -/
def DoFit (xo xw xn xl : Int) (la lb lc : Nat) : Prop :=
  1 ≤ xw ∧ xw ≤ 16 ∧ la ≤ 16 ∧ lb ≤ 16 ∧ lc ≤ 16 ∧
  (xo = 1 ∨ (xo = 3 ∧ (la : Int) = xw) ∨ ((xo = 6 ∨ xo = 7 ∨ xo = 8 ∨ xo = 9 ∨ xo = 10 ∨ xo = 11) ∧ (la : Int) = xw ∧ (lb : Int) = xw) ∨ (xo = 17 ∧ (la : Int) + lb = xw) ∨
    (xo = 18 ∧ 0 ≤ xl ∧ xl ≤ xn ∧ xn < la ∧ xw = xn - xl + 1) ∨ (xo = 16 ∧ la = 1 ∧ (lb : Int) = xw ∧ (lc : Int) = xw) ∨ ((xo = 4 ∨ xo = 5) ∧ xw = 1) ∨ ((xo = 12 ∨ xo = 13 ∨ xo = 14 ∨ xo = 15) ∧ xw = 1 ∧ la = lb))

theorem asked14_runs {gi : Int} {ga : List P2} {xo xw xa xb xc xn xl : Int} {a b : List Int} (hg : Gr gi ga) (hl : ga.length ≤ 20000000) (ha : Lits gi ga a) (hb : Lits gi ga b) (hn : a.length ≤ 64) (hab : xo = 4 ∨ xo = 5 ∨ a.length = b.length) : Runs (asked14 gi ga xo xw xa xb xc xn xl a b) (GL gi ga 50000) := by
  have weak : ∀ {k : Nat} {m}, k ≤ 50000 → Runs m (GL gi ga k) → Runs m (GL gi ga 50000) := fun hk h => h.mono fun r ⟨q1, q2, q3, q4, q5⟩ => ⟨q1, q2, q3, by omega, q5⟩
  unfold asked14
  refine Runs.eqI (fun _ => ?_) (fun h5 => ?_)
  · refine Runs.bindQ (weak (by omega) (all14_runs hg (by omega) ha hn)) ?_
    rintro ⟨⟨⟨g1, l1, ⟨⟩⟩, x1, ⟨⟩⟩, ⟨⟩, ⟨⟩⟩ h
    exact Runs.ret h
  refine Runs.eqI (fun _ => ?_) (fun h4 => ?_)
  · refine Runs.bindQ (turned14_runs hg (by omega) ha hn) ?_
    rintro ⟨⟨t, ⟨⟩⟩, ⟨⟩, ⟨⟩⟩ ⟨t1, t2⟩
    dsimp only at *
    refine Runs.bindQ (all14_runs hg (by omega) t2 (by omega)) ?_
    rintro ⟨⟨⟨g1, l1, ⟨⟩⟩, x1, ⟨⟩⟩, ⟨⟩, ⟨⟩⟩ ⟨rfl, p1, p2, p3, p4⟩
    dsimp only at *
    exact Runs.ret ⟨rfl, p1, p2, by dsimp only; omega, Lit.turn (ga := l1) p1 (by omega) p4⟩
  have hab : a.length = b.length := by
    rcases hab with h | h | h
    · exact absurd h h4
    · exact absurd h h5
    · exact h
  refine Runs.eqI (fun _ => ?_) (fun _ => ?_)
  · refine Runs.bindQ (weak (by omega) (less14_runs hg (by omega) ha hb hab hn (Lit.zero hg))) ?_
    rintro ⟨⟨⟨g1, l1, ⟨⟩⟩, x1, ⟨⟩⟩, ⟨⟩, ⟨⟩⟩ h
    exact Runs.ret h
  refine Runs.eqI (fun _ => ?_) (fun _ => ?_)
  · refine Runs.bindQ (weak (by omega) (less14_runs hg (by omega) ha hb hab hn (Lit.one hg))) ?_
    rintro ⟨⟨⟨g1, l1, ⟨⟩⟩, x1, ⟨⟩⟩, ⟨⟩, ⟨⟩⟩ h
    exact Runs.ret h
  refine Runs.bindQ (each14_runs hg (by omega) ha hb hab hn) ?_
  rintro ⟨⟨⟨g1, l1, ⟨⟩⟩, o, ⟨⟩⟩, ⟨⟩, ⟨⟩⟩ ⟨rfl, p1, p2, p3, p4, p5⟩
  dsimp only at *
  refine Runs.bindQ (turned14_runs p1 (by omega) p5 (by omega)) ?_
  rintro ⟨⟨t, ⟨⟩⟩, ⟨⟩, ⟨⟩⟩ ⟨t1, t2⟩
  dsimp only at *
  refine Runs.bindQ (all14_runs p1 (by omega) t2 (by omega)) ?_
  rintro ⟨⟨⟨g2, l2, ⟨⟩⟩, x2, ⟨⟩⟩, ⟨⟩, ⟨⟩⟩ ⟨rfl, q1, q2, q3, q4⟩
  dsimp only at *
  refine Runs.eqI (fun _ => ?_) (fun _ => ?_)
  · exact Runs.ret ⟨rfl, q1, by dsimp only; omega, by dsimp only; omega, Lit.turn (ga := l2) q1 (by omega) q4⟩
  · exact Runs.ret ⟨rfl, q1, by dsimp only; omega, by dsimp only; omega, q4⟩

theorem do14_runs {gi : Int} {ga : List P2} {xo xw xa xb xc xn xl : Int} {a b c : List Int} (hg : Gr gi ga) (hl : ga.length ≤ 20000000) (ha : Lits gi ga a) (hb : Lits gi ga b) (hc : Lits gi ga c) (hf : DoFit xo xw xn xl a.length b.length c.length) :
    Runs (do14 gi ga xo xw xa xb xc xn xl a b c) (GS gi ga 50000 xw.toNat) := by
  obtain ⟨w1, w2, la, lb, lc, hf⟩ := hf
  have same : ∀ {l : List Int}, l.length = xw.toNat → Lits gi ga l → GS gi ga 50000 xw.toNat (((gi, ga, ()), l, ()), (), ()) := fun h1 h2 => ⟨rfl, hg, Nat.le_refl _, by dsimp only; omega, h1, h2⟩
  have weak : ∀ {k n : Nat} {m}, k ≤ 50000 → n = xw.toNat → Runs m (GS gi ga k n) → Runs m (GS gi ga 50000 xw.toNat) := fun hk hn h => h.mono fun r ⟨q1, q2, q3, q4, q5, q6⟩ => ⟨q1, q2, q3, by omega, by omega, q6⟩
  have again : ∀ {m : Option (((Int × List P2 × Unit) × List Int × Unit) × Unit × Unit)}, Runs m (GS gi ga 50000 xw.toNat) → Runs (bindO m fun y0 => some (((y0.1.1.1, y0.1.1.2.1, ()), y0.1.2.1, ()), (), ())) (GS gi ga 50000 xw.toNat) := fun h => h.bindQ fun r hr => Runs.ret hr
  unfold do14 do14F
  refine Runs.eqI (fun e1 => ?_) (fun e1 => ?_)
  · refine Runs.bindQ (lit14_runs hg (by omega) (by omega)) ?_
    rintro ⟨⟨t, ⟨⟩⟩, ⟨⟩, ⟨⟩⟩ ⟨t1, t2⟩
    exact Runs.ret (same (by dsimp only at *; omega) t2)
  refine Runs.eqI (fun e2 => ?_) (fun e2 => ?_)
  · refine Runs.bindQ (turned14_runs hg (by omega) ha (by omega)) ?_
    rintro ⟨⟨t, ⟨⟩⟩, ⟨⟩, ⟨⟩⟩ ⟨t1, t2⟩
    exact Runs.ret (same (by dsimp only at *; omega) t2)
  refine Runs.eqI (fun e3 => again (weak (by omega) (by omega) (each14_runs hg (by omega) ha hb (by omega) (by omega)))) (fun e3 => ?_)
  refine Runs.eqI (fun e4 => again (weak (by omega) (by omega) (each14_runs hg (by omega) ha hb (by omega) (by omega)))) (fun e4 => ?_)
  refine Runs.eqI (fun e5 => again (weak (by omega) (by omega) (each14_runs hg (by omega) ha hb (by omega) (by omega)))) (fun e5 => ?_)
  refine Runs.eqI (fun e6 => again (weak (by omega) (by omega) (sum14_runs hg (by omega) ha hb (by omega) (by omega) (Lit.zero hg)))) (fun e6 => ?_)
  refine Runs.eqI (fun e7 => ?_) (fun e7 => ?_)
  · refine Runs.bindQ (turned14_runs hg (by omega) hb (by omega)) ?_
    rintro ⟨⟨t, ⟨⟩⟩, ⟨⟩, ⟨⟩⟩ ⟨t1, t2⟩
    dsimp only at *
    exact again (weak (by omega) (by omega) (sum14_runs hg (by omega) ha t2 (by omega) (by omega) (Lit.one hg)))
  refine Runs.eqI (fun e8 => again (weak (by omega) (by omega) (times14_runs hg (by omega) ha hb (by omega) (by omega)))) (fun e8 => ?_)
  refine Runs.eqI (fun e9 => ?_) (fun e9 => ?_)
  · simp only [List.nil_append, lim_val]
    refine Runs.gd (by omega) (Runs.gd (by omega) (Runs.gd (by omega) (Runs.gd (by omega) (Runs.ret (same ?_ (hb.app ha))))))
    rw [List.length_append]; omega
  refine Runs.eqI (fun e10 => ?_) (fun e10 => ?_)
  · obtain ⟨s1, s2, s3, s4⟩ : 0 ≤ xl ∧ xl ≤ xn ∧ xn < a.length ∧ xw = xn - xl + 1 := by omega
    simp only [List.nil_append, lim_val, nI_def]
    have hlen : (List.drop xl.toNat (List.take (Int.toNat (xn + 1)) a)).length = xw.toNat := by
      rw [List.length_drop, List.length_take]; omega
    refine Runs.inK (by omega) (Runs.gd (by omega) (Runs.gd (by omega) (Runs.gd (by omega) (Runs.gd (by omega) (Runs.gd (by omega) (Runs.ret (same hlen ?_)))))))
    exact fun x hx => ha x (List.mem_of_mem_take (List.mem_of_mem_drop hx))
  refine Runs.eqI (fun e11 => ?_) (fun e11 => ?_)
  · obtain ⟨s1, s2, s3⟩ : a.length = 1 ∧ (b.length : Int) = xw ∧ (c.length : Int) = xw := by omega
    refine weak (k := 3 * b.length) (n := b.length) (by omega) (by omega) ?_
    refine Runs.iter (fun y => GI gi ga 3 b.length y.1 y.2.1.1 y.2.1.2 y.2.2) (fun y => (b.length - y.1).toNat) ?_ (GI.zero hg) (fuelN_gt (by dsimp only; omega))
    rintro ⟨i, ⟨g, l⟩, o⟩ h
    dsimp only at h ⊢
    obtain ⟨h0, h1, rfl, h2, h3, h4, h6, h7⟩ := id h
    have hr := h.room (by omega) (by omega)
    simp only [nI_def]
    refine Runs.dec (fun hlt => ?_) (fun hlt => Runs.ret (h.done hlt))
    refine Runs.gd (by omega) (Runs.gd h0 (Runs.gd hlt (Runs.gd h0 (Runs.gd (by omega) ?_))))
    refine Runs.bindQ (mux13_runs h2 (by omega) ((ha.mono h3).get (by omega) (by omega)) ((hb.mono h3).get h0 hlt) ((hc.mono h3).get h0 (by omega))) ?_
    rintro ⟨⟨⟨g1, l1, ⟨⟩⟩, x1, ⟨⟩⟩, ⟨⟩, ⟨⟩⟩ ⟨rfl, p1, p2, p3, p4⟩
    dsimp only at *
    simp only [List.length_singleton, lim_val]
    exact Runs.gd (by omega) (Runs.gd (by omega) (Runs.inK (by omega) (Runs.ret ⟨GI.step (l' := l1) h hlt p1 p2 p3 p4, by dsimp only; omega⟩)))
  · refine Runs.bindQ (asked14_runs hg hl ha hb (by omega) (by omega)) ?_
    rintro ⟨⟨⟨g1, l1, ⟨⟩⟩, x1, ⟨⟩⟩, ⟨⟩, ⟨⟩⟩ ⟨rfl, p1, p2, p3, p4⟩
    dsimp only at *
    refine Runs.ret ⟨rfl, p1, p2, p3, ?_, ?_⟩
    · simp; omega
    · exact Lits.nil.push p4

end GoSx
end
section
/- CertTrace, the pure theory, part D: nets that are right. -/
set_option linter.unusedVariables false
set_option linter.unusedSimpArgs false
set_option maxHeartbeats 0
namespace GoSx
open Go

abbrev NodeL := List (Int × Int × Int × Int × Int × Int × Int × Unit)
abbrev PinL := List (ByteArray × Int × Unit)
abbrev CellL := List (ByteArray × Int × Int × Int × Unit)
abbrev PropL := List (Int × ByteArray × Int × Unit)

/-- What an op, a width, three operands' places and widths, and two fields may be, at place i. -/
def OpFit (i op w a b c n lo wa wb wc : Int) : Prop :=
  1 ≤ w ∧ w ≤ 16 ∧ (op = 1 ∨ op = 21 ∨ op = 22 ∨ (0 ≤ a ∧ a < i ∧ 0 ≤ b ∧ b < i ∧ 0 ≤ c ∧ c < i ∧
    ((op = 3 ∧ wa = w) ∨ ((op = 6 ∨ op = 7 ∨ op = 8 ∨ op = 9 ∨ op = 10 ∨ op = 11) ∧ wa = w ∧ wb = w) ∨ (op = 17 ∧ wa + wb = w) ∨ (op = 18 ∧ 0 ≤ lo ∧ lo ≤ n ∧ n < wa ∧ w = n - lo + 1) ∨
      (op = 16 ∧ wa = 1 ∧ wb = w ∧ wc = w) ∨ ((op = 4 ∨ op = 5) ∧ w = 1 ∧ lo = wa) ∨ ((op = 12 ∨ op = 13 ∨ op = 14 ∨ op = 15) ∧ w = 1 ∧ wa = wb ∧ lo = wa))))
def NodeOk (nn : NodeL) (i : Int) : Prop :=
  OpFit i (get nodeT nn i).1 (get nodeT nn i).2.1 (get nodeT nn i).2.2.1 (get nodeT nn i).2.2.2.1 (get nodeT nn i).2.2.2.2.1 (get nodeT nn i).2.2.2.2.2.1 (get nodeT nn i).2.2.2.2.2.2.1
    (get nodeT nn (get nodeT nn i).2.2.1).2.1 (get nodeT nn (get nodeT nn i).2.2.2.1).2.1 (get nodeT nn (get nodeT nn i).2.2.2.2.1).2.1

theorem wide9_runs {nn : NodeL} {ni : PinL} {nc : CellL} {np : PropL} {nm : PinL} {pos lm : Int} (hl : lm ≤ nn.length) :
    Runs (wide9 nn ni nc np nm pos lm) fun r => (r.1.1 = 0 ∧ ¬ (0 ≤ pos ∧ pos < lm)) ∨ (0 ≤ pos ∧ pos < lm ∧ r.1.1 = (get nodeT nn pos).2.1) := by
  unfold wide9
  simp only [cond_f, nI_def]
  refine Runs.dec (fun h => Runs.ret (.inl ⟨rfl, by omega⟩)) (fun h => ?_)
  refine Runs.dec (fun h => Runs.ret (.inl ⟨rfl, by omega⟩)) (fun h => ?_)
  exact Runs.gd (by omega) (Runs.gd (by omega) (Runs.ret (.inr ⟨by omega, by omega, rfl⟩)))

theorem operands_runs {op : Int} : Runs (operands op) fun r => (r.1.1 = -1) ∨ (r.1.1 = 0 ∧ (op = 1 ∨ op = 21 ∨ op = 22)) ∨ (r.1.1 = 1 ∧ (op = 3 ∨ op = 4 ∨ op = 5 ∨ op = 18)) ∨
    (r.1.1 = 2 ∧ (op = 6 ∨ op = 7 ∨ op = 8 ∨ op = 9 ∨ op = 10 ∨ op = 11 ∨ op = 12 ∨ op = 13 ∨ op = 14 ∨ op = 15 ∨ op = 17)) ∨ (r.1.1 = 3 ∧ op = 16) := by
  unfold operands
  repeat' refine Runs.eqI (fun _ => ?_) (fun _ => ?_)
  all_goals exact Runs.ret (by dsimp only; omega)

theorem mask_runs {w : Int} (h0 : 0 ≤ w) (h1 : w ≤ 16) : Runs (mask w) fun r => True := by
  unfold mask
  have hp : (2 : Int) ^ min w.toNat 64 ≤ 2 ^ 16 ∧ 1 ≤ (2 : Int) ^ min w.toNat 64 := by
    have : min w.toNat 64 ≤ 16 := by omega
    generalize min w.toNat 64 = k at this
    have h2 : 2 ^ k ≤ 2 ^ 16 := Nat.pow_le_pow_right (by omega) this
    have h3 : 1 ≤ 2 ^ k := Nat.one_le_two_pow
    exact ⟨by exact_mod_cast h2, by exact_mod_cast h3⟩
  have e : (2 : Int) ^ 16 = 65536 := by decide
  rw [wrapS (by omega) (by omega)]
  exact Runs.gd h0 (Runs.inK (by omega) (Runs.ret trivial))

theorem fits9_runs {nn : NodeL} {ni : PinL} {nc : CellL} {np : PropL} {nm : PinL} {i : Int} (h0 : 0 ≤ i) (h1 : i < nn.length) (hw : ∀ j, 0 ≤ j → j < i → 1 ≤ (get nodeT nn j).2.1 ∧ (get nodeT nn j).2.1 ≤ 16)
    (w1 : 1 ≤ (get nodeT nn i).2.1) (w2 : (get nodeT nn i).2.1 ≤ 16)
    (hk : ((get nodeT nn i).1 = 1 ∨ (get nodeT nn i).1 = 21 ∨ (get nodeT nn i).1 = 22) ∨
      (((get nodeT nn i).1 = 3 ∨ (get nodeT nn i).1 = 4 ∨ (get nodeT nn i).1 = 5 ∨ (get nodeT nn i).1 = 18) ∧ (get nodeT nn i).2.2.2.1 = 0 ∧ (get nodeT nn i).2.2.2.2.1 = 0) ∨
      (((get nodeT nn i).1 = 6 ∨ (get nodeT nn i).1 = 7 ∨ (get nodeT nn i).1 = 8 ∨ (get nodeT nn i).1 = 9 ∨ (get nodeT nn i).1 = 10 ∨ (get nodeT nn i).1 = 11 ∨ (get nodeT nn i).1 = 12 ∨ (get nodeT nn i).1 = 13 ∨ (get nodeT nn i).1 = 14 ∨ (get nodeT nn i).1 = 15 ∨ (get nodeT nn i).1 = 17) ∧ (get nodeT nn i).2.2.2.2.1 = 0) ∨
      (get nodeT nn i).1 = 16) :
    Runs (fits9 nn ni nc np nm i) fun r => r.1.1 = true → NodeOk nn i := by
  have rw9 : ∀ q : Int, Runs (wide9 nn ni nc np nm q i) fun r => r.1.1 = 0 ∨ (0 ≤ q ∧ q < i ∧ r.1.1 = (get nodeT nn q).2.1 ∧ 1 ≤ r.1.1 ∧ r.1.1 ≤ 16) := fun q => (wide9_runs (by omega)).mono fun r hr => by
    rcases hr with ⟨h, _⟩ | ⟨h, h', e⟩
    · exact .inl h
    · have := hw q h h'
      exact .inr ⟨h, h', e, by rw [e]; exact this.1, by rw [e]; exact this.2⟩
  obtain ⟨ra, ea, ha⟩ := rw9 (get nodeT nn i).2.2.1
  obtain ⟨rb, eb, hb⟩ := rw9 (get nodeT nn i).2.2.2.1
  obtain ⟨rc, ec, hc⟩ := rw9 (get nodeT nn i).2.2.2.2.1
  have no : ∀ {R : Prop}, Runs (some ((false, ()), (), ()) : Option ((Bool × Unit) × Unit × Unit)) fun r => r.1.1 = true → R := Runs.ret (fun h => by cases h)
  clear hw rw9
  unfold fits9 NodeOk OpFit
  simp only [cond_t, cond_f]
  rw [ea, eb, ec, gd_pos h0, gd_pos h1]
  simp only [bindO_some]
  dsimp only [int, Ty.den] at *
  clear ea eb ec h1
  generalize ra.1.1 = ya at *
  generalize rb.1.1 = yb at *
  generalize rc.1.1 = yc at *
  generalize (get nodeT nn (get nodeT nn i).2.2.1).2.1 = Wa at *
  generalize (get nodeT nn (get nodeT nn i).2.2.2.1).2.1 = Wb at *
  generalize (get nodeT nn (get nodeT nn i).2.2.2.2.1).2.1 = Wc at *
  generalize (get nodeT nn i).1 = op at *
  generalize (get nodeT nn i).2.1 = w at *
  generalize (get nodeT nn i).2.2.1 = a at *
  generalize (get nodeT nn i).2.2.2.1 = b at *
  generalize (get nodeT nn i).2.2.2.2.1 = c at *
  generalize (get nodeT nn i).2.2.2.2.2.1 = n at *
  generalize (get nodeT nn i).2.2.2.2.2.2.1 = lo at *
  rcases hk with (h | h | h) | ⟨h | h | h | h, z1, z2⟩ | ⟨h | h | h | h | h | h | h | h | h | h | h, z2⟩ | h
  all_goals subst h
  all_goals simp only [Int.reduceBEq, cond_t, cond_f]
  all_goals repeat' first
    | exact no
    | refine Runs.eqI (fun _ => ?_) (fun _ => ?_)
    | refine Runs.dec (fun _ => ?_) (fun _ => ?_)
    | refine Runs.inK ⟨by omega, by omega⟩ ?_
    | refine Runs.bindQ (mask_runs (by omega) (by omega)) (fun ym _ => ?_)
  all_goals refine Runs.ret (fun h => ?_)
  all_goals simp only [beq_iff_eq, decide_eq_true_eq] at h
  all_goals refine ⟨w1, w2, ?_⟩
  all_goals simp only [true_or, or_true, Int.reduceEq, false_or, or_false, false_and, true_and]
  all_goals omega

theorem node9_runs {nn : NodeL} {ni : PinL} {nc : CellL} {np : PropL} {nm : PinL} {i : Int} (h0 : 0 ≤ i) (h1 : i < nn.length) (hw : ∀ j, 0 ≤ j → j < i → 1 ≤ (get nodeT nn j).2.1 ∧ (get nodeT nn j).2.1 ≤ 16) :
    Runs (node9 nn ni nc np nm i) fun r => r.1.1 = true → NodeOk nn i := by
  unfold node9
  simp only [cond_t, cond_f]
  refine Runs.gd h0 (Runs.gd h1 ?_)
  refine Runs.bindQ operands_runs ?_
  rintro ⟨⟨k, ⟨⟩⟩, ⟨⟩, ⟨⟩⟩ hk
  dsimp only at hk ⊢
  have no : ∀ {R : Prop}, Runs (some ((false, ()), (), ()) : Option ((Bool × Unit) × Unit × Unit)) fun r => r.1.1 = true → R := Runs.ret (fun h => by cases h)
  have yes : 1 ≤ (get nodeT nn i).2.1 → (get nodeT nn i).2.1 ≤ 16 → _ → Runs (bindO (fits9 nn ni nc np nm i) fun y1 => some ((y1.1.1, ()), (), ())) fun r => r.1.1 = true → NodeOk nn i := fun h2 h3 h4 => Runs.bindQ (fits9_runs h0 h1 hw h2 h3 h4) fun r hr => Runs.ret hr
  clear hw
  dsimp only [int, Ty.den] at *
  refine Runs.dec (fun _ => no) (fun _ => ?_)
  refine Runs.dec (fun _ => no) (fun _ => ?_)
  refine Runs.dec (fun _ => no) (fun _ => ?_)
  repeat' first
    | exact no
    | refine Runs.neI (fun _ => ?_) (fun _ => ?_)
    | refine Runs.dec (fun _ => ?_) (fun _ => ?_)
  all_goals exact yes (by omega) (by omega) (by omega)

end GoSx
end
section
/- CertTrace, the pure theory, part E: nets that are right, and not too great. -/
set_option linter.unusedVariables false
set_option linter.unusedSimpArgs false
set_option maxHeartbeats 0
namespace GoSx
open Go

/-! ### Parts, as numbers -/
def nW (nn : NodeL) (j : Int) : Int := (get nodeT nn j).2.1
def nOp (nn : NodeL) (j : Int) : Int := (get nodeT nn j).1
def pN (ni : PinL) (k : Int) : Int := (get pinT ni k).2.1
def cN (nc : CellL) (k : Int) : Int := (get cellT nc k).2.1
def cX (nc : CellL) (k : Int) : Int := (get cellT nc k).2.2.1
def qK (np : PropL) (k : Int) : Int := (get propT np k).1
def qN (np : PropL) (k : Int) : Int := (get propT np k).2.2.1

theorem NodeOk.w {nn : NodeL} {j : Int} (h : NodeOk nn j) : 1 ≤ nW nn j ∧ nW nn j ≤ 16 := ⟨h.1, h.2.1⟩

def PinsOk (nn : NodeL) (ni : PinL) (m : Int) : Prop := ∀ k, 0 ≤ k → k < m → 0 ≤ pN ni k ∧ pN ni k < nn.length
def CellsOk (nn : NodeL) (nc : CellL) (m : Int) : Prop := ∀ k, 0 ≤ k → k < m → 0 ≤ cN nc k ∧ cN nc k < nn.length
def NextsOk (nn : NodeL) (nc : CellL) (m : Int) : Prop := ∀ k, 0 ≤ k → k < m → 0 ≤ cX nc k ∧ cX nc k < nn.length ∧ nW nn (cX nc k) = nW nn (cN nc k)
def PropsOk (nn : NodeL) (np : PropL) (m : Int) : Prop := ∀ k, 0 ≤ k → k < m → 8 ≤ qK np k ∧ qK np k ≤ 10 ∧ 0 ≤ qN np k ∧ qN np k < nn.length ∧ nW nn (qN np k) = 1
structure NetOk (nn : NodeL) (ni : PinL) (nc : CellL) (np : PropL) : Prop where
  node : ∀ j : Int, 0 ≤ j → j < (nn.length : Int) → NodeOk nn j
  pin : PinsOk nn ni ni.length
  cell : CellsOk nn nc nc.length
  nxt : NextsOk nn nc nc.length
  prop : PropsOk nn np np.length
  li : ni.length ≤ 64
  lc : nc.length ≤ 256
  lp : np.length ≤ 16

theorem there9_runs {nn : NodeL} {ni : PinL} {nc : CellL} {np : PropL} {nm : PinL} {pos : Int} :
    Runs (there9 nn ni nc np nm pos) fun r => (r.1.1 = 0 ∧ ¬ (0 ≤ pos ∧ pos < nn.length)) ∨ (0 ≤ pos ∧ pos < nn.length ∧ r.1.1 = nW nn pos) := by
  unfold there9
  refine Runs.bindQ (wide9_runs (by simp only [nI_def]; omega)) ?_
  rintro ⟨⟨y, ⟨⟩⟩, ⟨⟩, ⟨⟩⟩ h
  exact Runs.ret h

theorem pins9_runs {nn : NodeL} {ni : PinL} {nc : CellL} {np : PropL} {nm : PinL} (hl : nn.length ≤ 4000) (h1 : ni.length ≤ 64) (h2 : nc.length ≤ 256) :
    Runs (pins9 nn ni nc np nm) fun r => r.1.1 = true → PinsOk nn ni ni.length ∧ CellsOk nn nc nc.length := by
  unfold pins9 pins9F
  simp only [cond_t, cond_f, nI_def]
  refine Runs.iter (fun y => 0 ≤ y.2.2 ∧ y.2.2 ≤ nn.length ∧ 0 ≤ y.1 ∧ y.1 ≤ ni.length ∧ 0 ≤ y.2.1 ∧ y.2.1 ≤ nc.length ∧ PinsOk nn ni y.1 ∧ CellsOk nn nc y.2.1) (fun y => (nn.length - y.2.2).toNat) ?_
    ⟨by dsimp only; omega, by dsimp only; omega, by dsimp only; omega, by dsimp only; omega, by dsimp only; omega, by dsimp only; omega, fun k a b => by dsimp only at b; omega, fun k a b => by dsimp only at b; omega⟩ (fuelN_gt (by dsimp only; omega))
  rintro ⟨a, b, i⟩ ⟨i0, i1, a0, a1, b0, b1, hp, hc⟩
  dsimp only at *
  have no : Runs (some (Sum.inr ((false, ()), (), ())) : Option ((Int × Int × Int) ⊕ ((Bool × Unit) × Unit × Unit))) (Stp (fun y => 0 ≤ y.2.2 ∧ y.2.2 ≤ (nn.length : Int) ∧ 0 ≤ y.1 ∧ y.1 ≤ (ni.length : Int) ∧ 0 ≤ y.2.1 ∧ y.2.1 ≤ (nc.length : Int) ∧ PinsOk nn ni y.1 ∧ CellsOk nn nc y.2.1) (fun r => r.1.1 = true → PinsOk nn ni ni.length ∧ CellsOk nn nc nc.length) (fun y => ((nn.length : Int) - y.2.2).toNat) (a, b, i)) := Runs.ret (fun h => by cases h)
  have pinS : a < ni.length → pN ni a = i → i < nn.length → PinsOk nn ni (a + 1) := by
    intro ha he hi k k0 k1
    by_cases e : k = a
    · rw [e, he]; exact ⟨i0, hi⟩
    · exact hp k k0 (by omega)
  have cellS : b < nc.length → cN nc b = i → i < nn.length → CellsOk nn nc (b + 1) := by
    intro ha he hi k k0 k1
    by_cases e : k = b
    · rw [e, he]; exact ⟨i0, hi⟩
    · exact hc k k0 (by omega)
  refine Runs.dec (fun hi => ?_) (fun hi => ?_)
  · refine Runs.gd i0 (Runs.gd hi ?_)
    refine Runs.eqI (fun _ => ?_) (fun _ => ?_)
    · refine Runs.dec (fun _ => no) (fun ha => ?_)
      refine Runs.gd a0 (Runs.gd (by omega) ?_)
      refine Runs.neI (fun _ => no) (fun he => ?_)
      refine Runs.inK (by omega) (Runs.gd i0 (Runs.gd hi ?_))
      refine Runs.eqI (fun _ => ?_) (fun _ => ?_)
      · refine Runs.dec (fun _ => no) (fun hb => ?_)
        refine Runs.gd b0 (Runs.gd (by omega) ?_)
        refine Runs.neI (fun _ => no) (fun he2 => ?_)
        exact Runs.inK (by omega) (Runs.inK (by omega) (Runs.ret ⟨⟨by dsimp only; omega, by dsimp only; omega, by dsimp only; omega, by dsimp only; omega, by dsimp only; omega, by dsimp only; omega, pinS (by omega) he hi, cellS (by omega) he2 hi⟩, by dsimp only; omega⟩))
      · exact Runs.inK (by omega) (Runs.ret ⟨⟨by dsimp only; omega, by dsimp only; omega, by dsimp only; omega, by dsimp only; omega, by dsimp only; omega, by dsimp only; omega, pinS (by omega) he hi, hc⟩, by dsimp only; omega⟩)
    · refine Runs.gd i0 (Runs.gd hi ?_)
      refine Runs.eqI (fun _ => ?_) (fun _ => ?_)
      · refine Runs.dec (fun _ => no) (fun hb => ?_)
        refine Runs.gd b0 (Runs.gd (by omega) ?_)
        refine Runs.neI (fun _ => no) (fun he2 => ?_)
        exact Runs.inK (by omega) (Runs.inK (by omega) (Runs.ret ⟨⟨by dsimp only; omega, by dsimp only; omega, by dsimp only; omega, by dsimp only; omega, by dsimp only; omega, by dsimp only; omega, hp, cellS (by omega) he2 hi⟩, by dsimp only; omega⟩))
      · exact Runs.inK (by omega) (Runs.ret ⟨⟨by dsimp only; omega, by dsimp only; omega, by dsimp only; omega, by dsimp only; omega, by dsimp only; omega, by dsimp only; omega, hp, hc⟩, by dsimp only; omega⟩)
  · refine Runs.eqI (fun ea => ?_) (fun _ => no)
    refine Runs.ret (fun h => ?_)
    have eb : b = (nc.length : Int) := by simpa using h
    subst ea; subst eb
    exact ⟨hp, hc⟩


theorem right9_runs {nn : NodeL} {ni : PinL} {nc : CellL} {np : PropL} {nm : PinL} (hm : nm.length ≤ 1000) : Runs (right9 nn ni nc np nm) fun r => r.1.1 = true → NetOk nn ni nc np := by
  unfold right9 right9F
  simp only [cond_f, nI_def]
  have no : Runs (some ((false, ()), (), ()) : Option ((Bool × Unit) × Unit × Unit)) (fun r => r.1.1 = true → NetOk nn ni nc np) := Runs.ret (fun h => by cases h)
  refine Runs.dec (fun _ => no) (fun l1 => ?_)
  refine Runs.dec (fun _ => no) (fun l2 => ?_)
  refine Runs.dec (fun _ => no) (fun l3 => ?_)
  refine Runs.dec (fun _ => no) (fun l4 => ?_)
  refine Runs.iter (fun y => 0 ≤ y ∧ y ≤ nn.length ∧ ∀ j, 0 ≤ j → j < y → NodeOk nn j) (fun y => (nn.length - y).toNat) ?_ ⟨by omega, by omega, fun j a b => by omega⟩ (fuelN_gt (by omega))
  rintro i ⟨i0, i1, hn⟩
  refine Runs.dec (fun hi => ?_) (fun hi => ?_)
  · refine Runs.bindQ (node9_runs i0 hi (fun j a b => (hn j a b).w)) ?_
    rintro ⟨⟨b, ⟨⟩⟩, ⟨⟩, ⟨⟩⟩ hb
    dsimp only at hb ⊢
    cases b with
    | false => exact Runs.ret (fun h => by cases h)
    | true =>
      refine Runs.inK (by omega) (Runs.ret ⟨⟨by omega, by omega, fun j a b => ?_⟩, by dsimp only; omega⟩)
      by_cases e : j = i
      · rw [e]; exact hb rfl
      · exact hn j a (by omega)
  have hn : ∀ j : Int, 0 ≤ j → j < (nn.length : Int) → NodeOk nn j := fun j a b => hn j a (by omega)
  refine Runs.bindQ (pins9_runs (by omega) (by omega) (by omega)) ?_
  rintro ⟨⟨b, ⟨⟩⟩, ⟨⟩, ⟨⟩⟩ hb
  dsimp only at hb ⊢
  cases b with
  | false => exact Runs.ret (fun h => by cases h)
  | true =>
  obtain ⟨hp, hc⟩ := hb rfl
  simp only [Bool.not_true, cond_f]
  refine Runs.iter (fun y => 0 ≤ y.2 ∧ y.2 ≤ nc.length ∧ 0 ≤ y.1 ∧ y.1 ≤ 16 * y.2 ∧ NextsOk nn nc y.2) (fun y => (nc.length - y.2).toNat) ?_ ⟨by dsimp only; omega, by dsimp only; omega, by dsimp only; omega, by dsimp only; omega, fun k a b => by dsimp only at b; omega⟩ (fuelN_gt (by dsimp only; omega))
  rintro ⟨bits, k⟩ ⟨k0, k1, b0, b1, hx⟩
  dsimp only at k0 k1 b0 b1 hx ⊢
  refine Runs.dec (fun hk => ?_) (fun hk => ?_)
  · obtain ⟨c0, c1⟩ := hc k k0 hk
    obtain ⟨w1, w2⟩ := (hn _ c0 c1).w
    refine Runs.gd k0 (Runs.gd hk (Runs.gd c0 (Runs.gd c1 (Runs.inK (by change -9223372036854775808 ≤ bits + nW nn (cN nc k) ∧ bits + nW nn (cN nc k) ≤ 9223372036854775807; omega) ?_))))
    refine Runs.bindQ there9_runs ?_
    rintro ⟨⟨y, ⟨⟩⟩, ⟨⟩, ⟨⟩⟩ hy
    dsimp only at hy ⊢
    refine Runs.neI (fun _ => Runs.ret (fun h => by cases h)) (fun he => ?_)
    refine Runs.dec (fun _ => Runs.ret (fun h => by cases h)) (fun _ => ?_)
    refine Runs.bindQ (mask_runs (by change 0 ≤ nW nn (cN nc k); omega) (by change nW nn (cN nc k) ≤ 16; omega)) (fun ym _ => ?_)
    refine Runs.dec (fun _ => Runs.ret (fun h => by cases h)) (fun _ => ?_)
    have he' : y = nW nn (cN nc k) := he
    refine Runs.inK (by omega) (Runs.ret ⟨⟨by dsimp only; omega, by dsimp only; omega, ?_, ?_, ?_⟩, by dsimp only; omega⟩)
    · change 0 ≤ bits + nW nn (cN nc k); omega
    · change bits + nW nn (cN nc k) ≤ 16 * (k + 1); omega
    · intro j j0 j1
      by_cases e : j = k
      · rw [e]
        rcases hy with ⟨hy, _⟩ | ⟨h1, h2, h3⟩
        · omega
        · exact ⟨h1, h2, h3.symm.trans he'⟩
      · exact hx j j0 (by dsimp only at j1; omega)
  have hx : NextsOk nn nc nc.length := fun j j0 j1 => hx j j0 (by omega)
  refine Runs.iter (fun y => 0 ≤ y ∧ y ≤ np.length ∧ PropsOk nn np y) (fun y => (np.length - y).toNat) ?_ ⟨by omega, by omega, fun k a b => by omega⟩ (fuelN_gt (by omega))
  rintro q ⟨q0, q1, hq⟩
  refine Runs.dec (fun hlt => ?_) (fun hlt => ?_)
  · refine Runs.gd q0 (Runs.gd hlt ?_)
    refine Runs.dec (fun _ => Runs.ret (fun h => by cases h)) (fun e1 => ?_)
    refine Runs.dec (fun _ => Runs.ret (fun h => by cases h)) (fun e2 => ?_)
    refine Runs.bindQ there9_runs ?_
    rintro ⟨⟨y, ⟨⟩⟩, ⟨⟩, ⟨⟩⟩ hy
    dsimp only at hy ⊢
    refine Runs.neI (fun _ => Runs.ret (fun h => by cases h)) (fun he => ?_)
    refine Runs.inK (by omega) (Runs.ret ⟨⟨by omega, by omega, ?_⟩, by dsimp only; omega⟩)
    intro j j0 j1
    by_cases e : j = q
    · rw [e]
      rcases hy with ⟨hy, _⟩ | ⟨h1, h2, h3⟩
      · have he' : y = 1 := he
        omega
      · have e1' : ¬ qK np q < 8 := e1
        have e2' : ¬ qK np q > 10 := e2
        exact ⟨by omega, by omega, h1, h2, h3.symm.trans he⟩
    · exact hq j j0 (by omega)
  have hq : PropsOk nn np np.length := fun j j0 j1 => hq j j0 (by omega)
  refine Runs.iter (fun y => 0 ≤ y ∧ y ≤ nm.length) (fun y => (nm.length - y).toNat) ?_ ⟨by omega, by omega⟩ (fuelN_gt (by omega))
  rintro z ⟨z0, z1⟩
  refine Runs.dec (fun hlt => ?_) (fun hlt => ?_)
  · refine Runs.gd z0 (Runs.gd hlt ?_)
    refine Runs.bindQ there9_runs ?_
    rintro ⟨⟨y, ⟨⟩⟩, ⟨⟩, ⟨⟩⟩ hy
    dsimp only
    refine Runs.eqI (fun _ => Runs.ret (fun h => by cases h)) (fun he => ?_)
    exact Runs.inK (by omega) (Runs.ret ⟨⟨by omega, by omega⟩, by dsimp only; omega⟩)
  · exact Runs.ret (fun _ => ⟨hn, hp, hc, hx, hq, by omega, by omega, by omega⟩)

theorem weight14_gen {i op w a b c n lo wa wb wc : Int} (h : OpFit i op w a b c n lo wa wb wc) (haa : 0 ≤ a ∧ a < i → 1 ≤ wa ∧ wa ≤ 16) : Runs (weight14 op w a b c n lo) fun r => 0 ≤ r.1.1 ∧ r.1.1 ≤ 5120 := by
  unfold weight14
  obtain ⟨w1, w2, h⟩ := h
  refine Runs.eqI (fun _ => Runs.ret ⟨by dsimp only; omega, by dsimp only; omega⟩) (fun e1 => ?_)
  refine Runs.eqI (fun _ => Runs.ret ⟨by dsimp only; omega, by dsimp only; omega⟩) (fun e2 => ?_)
  refine Runs.eqI (fun _ => Runs.ret ⟨by dsimp only; omega, by dsimp only; omega⟩) (fun e3 => ?_)
  refine Runs.eqI (fun _ => ?_) (fun e4 => ?_)
  · have h1 : 20 * w * w ≤ 5120 := by
      calc 20 * w * w ≤ 20 * w * 16 := Int.mul_le_mul_of_nonneg_left w2 (by omega)
        _ ≤ 5120 := by omega
    have h2 : 0 ≤ 20 * w * w := Int.mul_nonneg (by omega) (by omega)
    exact Runs.inK (by omega) (Runs.inK (by omega) (Runs.ret ⟨h2, h1⟩))
  have hlo : op = 4 ∨ op = 5 ∨ op = 12 ∨ op = 13 ∨ op = 14 ∨ op = 15 → 1 ≤ lo ∧ lo ≤ 16 := by
    intro ho
    rcases h with h | h | h | ⟨a0, a1, _, _, _, _, h⟩
    · omega
    · omega
    · omega
    · have := haa ⟨a0, a1⟩
      rcases h with h | h | h | h | h | h | h <;> omega
  refine Runs.eqI (fun e => ?_) (fun e5 => ?_)
  · have := hlo (by omega)
    exact Runs.inK (by omega) (Runs.ret ⟨by dsimp only; omega, by dsimp only; omega⟩)
  refine Runs.eqI (fun e => ?_) (fun e6 => ?_)
  · have := hlo (by omega)
    exact Runs.inK (by omega) (Runs.ret ⟨by dsimp only; omega, by dsimp only; omega⟩)
  refine Runs.eqI (fun e => ?_) (fun e7 => ?_)
  · have := hlo (by omega)
    exact Runs.inK (by omega) (Runs.ret ⟨by dsimp only; omega, by dsimp only; omega⟩)
  refine Runs.eqI (fun e => ?_) (fun e8 => ?_)
  · have := hlo (by omega)
    exact Runs.inK (by omega) (Runs.ret ⟨by dsimp only; omega, by dsimp only; omega⟩)
  refine Runs.eqI (fun e => ?_) (fun e9 => ?_)
  · have := hlo (by omega)
    exact Runs.inK (by omega) (Runs.ret ⟨by dsimp only; omega, by dsimp only; omega⟩)
  refine Runs.eqI (fun e => ?_) (fun e10 => ?_)
  · have := hlo (by omega)
    exact Runs.inK (by omega) (Runs.ret ⟨by dsimp only; omega, by dsimp only; omega⟩)
  exact Runs.inK (by omega) (Runs.ret ⟨by dsimp only; omega, by dsimp only; omega⟩)

theorem weight14_runs {nn : NodeL} {j : Int} (h : NodeOk nn j) (ha : ∀ k, 0 ≤ k → k < j → 1 ≤ nW nn k ∧ nW nn k ≤ 16) : Runs (weight14 (get nodeT nn j).1 (get nodeT nn j).2.1 (get nodeT nn j).2.2.1 (get nodeT nn j).2.2.2.1 (get nodeT nn j).2.2.2.2.1 (get nodeT nn j).2.2.2.2.2.1 (get nodeT nn j).2.2.2.2.2.2.1) fun r => 0 ≤ r.1.1 ∧ r.1.1 ≤ 5120 :=
  weight14_gen h fun h => ha _ h.1 h.2

theorem great16_runs {nn : NodeL} {ni : PinL} {nc : CellL} {np : PropL} {nm : PinL} : Runs (great16 nn ni nc np nm) fun r => r.1.1 = false → NetOk nn ni nc np ∧ nn.length ≤ 100 ∧ nc.length ≤ 16 := by
  unfold great16
  simp only [cond_f, nI_def]
  have yes : Runs (some ((true, ()), (), ()) : Option ((Bool × Unit) × Unit × Unit)) (fun r => r.1.1 = false → NetOk nn ni nc np ∧ nn.length ≤ 100 ∧ nc.length ≤ 16) := Runs.ret (fun h => by cases h)
  have h9 : Runs (great9 nn ni nc np nm) fun r => r.1.1 = false → nm.length ≤ 300 := by
    unfold great9
    simp only [cond_f, nI_def]
    refine Runs.dec (fun _ => Runs.ret (fun h => by cases h)) (fun _ => ?_)
    refine Runs.dec (fun _ => Runs.ret (fun h => by cases h)) (fun _ => ?_)
    refine Runs.dec (fun _ => Runs.ret (fun h => by cases h)) (fun _ => ?_)
    refine Runs.dec (fun _ => Runs.ret (fun h => by cases h)) (fun _ => ?_)
    refine Runs.ret (fun h => ?_)
    simp only [decide_eq_false_iff_not] at h
    omega
  refine Runs.bindQ h9 ?_
  rintro ⟨⟨b, ⟨⟩⟩, ⟨⟩, ⟨⟩⟩ hb
  dsimp only at hb ⊢
  cases b with
  | true => exact yes
  | false =>
  have hm := hb rfl
  rw [cond_f]
  refine Runs.bindQ (right9_runs (by omega)) ?_
  rintro ⟨⟨b, ⟨⟩⟩, ⟨⟩, ⟨⟩⟩ hr
  dsimp only at hr ⊢
  cases b with
  | false => exact yes
  | true =>
  have hnet := hr rfl
  simp only [Bool.not_true, cond_f]
  refine Runs.dec (fun _ => yes) (fun l1 => ?_)
  refine Runs.dec (fun _ => yes) (fun l2 => ?_)
  have hw : Runs (weight15 nn ni nc np nm) fun _ => True := by
    unfold weight15 weight15F
    refine Runs.iter (fun y => 0 ≤ y.2 ∧ y.2 ≤ nn.length ∧ 0 ≤ y.1 ∧ y.1 ≤ 5120 * y.2) (fun y => (nn.length - y.2).toNat) ?_ ⟨by dsimp only; omega, by dsimp only; omega, by dsimp only; omega, by dsimp only; omega⟩ (fuelN_gt (by dsimp only; omega))
    rintro ⟨s, i⟩ ⟨i0, i1, s0, s1⟩
    dsimp only at i0 i1 s0 s1 ⊢
    simp only [nI_def]
    refine Runs.dec (fun hlt => ?_) (fun _ => Runs.ret trivial)
    refine Runs.gd i0 (Runs.gd hlt ?_)
    refine Runs.bindQ (weight14_runs (hnet.node i i0 hlt) (fun k a b => (hnet.node k a (by omega)).w)) ?_
    rintro ⟨⟨y, ⟨⟩⟩, ⟨⟩, ⟨⟩⟩ ⟨y0, y1⟩
    dsimp only at y0 y1 ⊢
    exact Runs.inK (by omega) (Runs.inK (by omega) (Runs.ret ⟨⟨by dsimp only; omega, by dsimp only; omega, by dsimp only; omega, by dsimp only; omega⟩, by dsimp only; omega⟩))
  refine Runs.bindQ hw (fun y _ => Runs.ret (fun _ => ⟨hnet, by omega, by omega⟩))

end GoSx
end
section
/- CertTrace, the pure theory, part F: nets as circuits. -/
set_option linter.unusedVariables false
set_option linter.unusedSimpArgs false
set_option maxHeartbeats 0
namespace GoSx
open Go

/-- The widths of an op's nodes, so many first ones. -/
def sumW (nn : NodeL) (op : Int) : Nat → Int
  | 0 => 0
  | m + 1 => sumW nn op m + if nOp nn m = op then nW nn m else 0
def Wide (nn : NodeL) : Prop := ∀ j : Int, 0 ≤ j → j < (nn.length : Int) → 1 ≤ nW nn j ∧ nW nn j ≤ 16
theorem sumW_bound {nn : NodeL} (h : Wide nn) (op : Int) : ∀ m : Nat, m ≤ nn.length → 0 ≤ sumW nn op m ∧ sumW nn op m ≤ 16 * m
  | 0, _ => ⟨Int.le_refl _, by simp [sumW]⟩
  | m + 1, hm => by
    have := sumW_bound h op m (by omega)
    have := h m (by omega) (by omega)
    unfold sumW
    split <;> constructor <;> push_cast <;> omega
theorem sumW_mono {nn : NodeL} (h : Wide nn) (op : Int) {k : Nat} : ∀ m : Nat, k ≤ m → m ≤ nn.length → sumW nn op k ≤ sumW nn op m
  | 0, hk, _ => by rw [Nat.le_zero.1 hk]; exact Int.le_refl _
  | m + 1, hk, hm => by
    by_cases e : k = m + 1
    · rw [e]; exact Int.le_refl _
    · have := sumW_mono h op (k := k) m (by omega) (by omega)
      have := h m (by omega) (by omega)
      have e2 : sumW nn op (m + 1) = sumW nn op m + if nOp nn m = op then nW nn m else 0 := rfl
      rw [e2]
      split <;> omega
theorem sumW_at {nn : NodeL} {op i : Int} (h0 : 0 ≤ i) : sumW nn op (i + 1).toNat = sumW nn op i.toNat + if nOp nn i = op then nW nn i else 0 := by
  have e : (i + 1).toNat = i.toNat + 1 := by omega
  rw [e, sumW, Int.toNat_of_nonneg h0]

theorem wide15_runs {nn : NodeL} {ni : PinL} {nc : CellL} {np : PropL} {nm : PinL} {op : Int} (h : Wide nn) (hl : nn.length ≤ 1000) : Runs (wide15 nn ni nc np nm op) fun r => r.1.1 = sumW nn op nn.length := by
  unfold wide15 wide15F
  refine Runs.iter (fun y => 0 ≤ y.2 ∧ y.2 ≤ nn.length ∧ y.1 = sumW nn op y.2.toNat) (fun y => (nn.length - y.2).toNat) ?_ ⟨by dsimp only; omega, by dsimp only; omega, rfl⟩ (fuelN_gt (by dsimp only; omega))
  rintro ⟨s, i⟩ ⟨i0, i1, hs⟩
  dsimp only at i0 i1 hs ⊢
  simp only [nI_def]
  have hb := sumW_bound h op i.toNat (by omega)
  refine Runs.dec (fun hlt => ?_) (fun hlt => Runs.ret ?_)
  · have hw := h i i0 hlt
    have ha := sumW_at (nn := nn) (op := op) i0
    refine Runs.gd i0 (Runs.gd hlt ?_)
    refine Runs.eqI (fun e => ?_) (fun e => ?_)
    · have e' : nOp nn i = op := e
      rw [if_pos e'] at ha
      refine Runs.gd i0 (Runs.gd hlt (Runs.inK (by change -9223372036854775808 ≤ s + nW nn i ∧ s + nW nn i ≤ 9223372036854775807; omega) (Runs.inK (by omega) (Runs.ret ⟨⟨by dsimp only; omega, by dsimp only; omega, ?_⟩, by dsimp only; omega⟩))))
      change s + nW nn i = sumW nn op (i + 1).toNat
      omega
    · have e' : ¬ nOp nn i = op := e
      rw [if_neg e'] at ha
      refine Runs.inK (by omega) (Runs.ret ⟨⟨by dsimp only; omega, by dsimp only; omega, ?_⟩, by dsimp only; omega⟩)
      change s = sumW nn op (i + 1).toNat
      omega
  · have : i.toNat = nn.length := by omega
    rw [hs, this]
    exact rfl

theorem bits15_runs {first w gi : Int} {ga : List P2} (hg : Gr gi ga) (h1 : 1 ≤ first) (h2 : first + w ≤ gi + 1) (w0 : 0 ≤ w) (w1 : w ≤ 16) : Runs (bits15 first w) fun r => (r.1.1.length : Int) = w ∧ Lits gi ga r.1.1 := by
  have hgi := hg.2.1
  unfold bits15 bits15F
  refine Runs.iter (fun y => 0 ≤ y.1 ∧ y.1 ≤ w ∧ (y.2.length : Int) = y.1 ∧ Lits gi ga y.2) (fun y => (w - y.1).toNat) ?_ ⟨by dsimp only; omega, by dsimp only; omega, rfl, Lits.nil⟩ (fuelN_gt (by dsimp only; omega))
  rintro ⟨i, o⟩ ⟨i0, i1, h3, h4⟩
  dsimp only at i0 i1 h3 h4 ⊢
  refine Runs.dec (fun hlt => ?_) (fun _ => Runs.ret ⟨by dsimp only; omega, h4⟩)
  simp only [List.length_singleton, lim_val]
  refine Runs.inK (by omega) (Runs.inK (by omega) (Runs.gd (by omega) (Runs.gd (by omega) (Runs.inK (by omega) (Runs.ret ⟨⟨by dsimp only; omega, by dsimp only; omega, by simp; omega, h4.push ?_⟩, by dsimp only; omega⟩)))))
  exact ⟨by omega, by omega⟩

/-- The bits of nodes. -/
def Bits (nn : NodeL) (gi : Int) (ga : List P2) (out : List (List Int)) (m : Int) : Prop := (out.length : Int) = m ∧ ∀ j, 0 ≤ j → j < m → ((getL out j).length : Int) = nW nn j ∧ Lits gi ga (getL out j)
theorem Bits.push {nn : NodeL} {gi : Int} {ga ga' : List P2} {out : List (List Int)} {m : Int} {x : List Int} (h : Bits nn gi ga out m) (hl : ga.length ≤ ga'.length) (hx : (x.length : Int) = nW nn m) (hx' : Lits gi ga' x) : Bits nn gi ga' (out ++ [x]) (m + 1) := by
  refine ⟨by have := h.1; simp; omega, fun j j0 j1 => ?_⟩
  have hlen := h.1
  rw [getL_push j0 (by omega)]
  split
  · rename_i e
    rw [show j = m by omega]
    exact ⟨hx, hx'⟩
  · obtain ⟨a, b⟩ := h.2 j j0 (by omega)
    exact ⟨a, b.mono hl⟩

theorem made15_runs {nn : NodeL} {ni : PinL} {nc : CellL} {np : PropL} {nm : PinL} (hn : ∀ j : Int, 0 ≤ j → j < (nn.length : Int) → NodeOk nn j) (hl : nn.length ≤ 100) :
    Runs (made15 nn ni nc np nm) fun r => Gr r.1.1.1 r.1.1.2.1 ∧ r.1.1.2.1.length ≤ 5000000 ∧ Bits nn r.1.1.1 r.1.1.2.1 r.1.2.1 nn.length := by
  have hw : Wide nn := fun j a b => (hn j a b).w
  have b1 := sumW_bound hw 21 nn.length (Nat.le_refl _)
  have b2 := sumW_bound hw 22 nn.length (Nat.le_refl _)
  unfold made15 made15F
  refine Runs.bindQ (wide15_runs hw (by omega)) ?_
  rintro ⟨⟨ins, ⟨⟩⟩, ⟨⟩, ⟨⟩⟩ h1
  refine Runs.bindQ (wide15_runs hw (by omega)) ?_
  rintro ⟨⟨sts, ⟨⟩⟩, ⟨⟩, ⟨⟩⟩ h2
  dsimp only at h1 h2 ⊢
  refine Runs.inK (by omega) ?_
  refine Runs.bind (x := (((ins + sts, [], ()), ()), (), ())) rfl ?_
  refine Runs.inK (by omega) ?_
  generalize hgi : ins + sts = gi
  have hg0 : Gr gi [] := ⟨by omega, by omega, fun j a b => by simp at b; omega⟩
  refine Runs.iter (fun y => 0 ≤ y.1.2.1 ∧ y.1.2.1 ≤ nn.length ∧ y.1.1 = 1 + sumW nn 21 y.1.2.1.toNat ∧ y.1.2.2 = 1 + ins + sumW nn 22 y.1.2.1.toNat ∧ y.2.1.1 = gi ∧ Gr gi y.2.1.2 ∧ (y.2.1.2.length : Int) ≤ 50000 * y.1.2.1 ∧ Bits nn gi y.2.1.2 y.2.2 y.1.2.1) (fun y => (nn.length - y.1.2.1).toNat) ?_
    ⟨by dsimp only; omega, by dsimp only; omega, rfl, by dsimp only; simp [sumW], rfl, hg0, by dsimp only; simp, ⟨rfl, fun j a b => by dsimp only at b; omega⟩⟩ (fuelN_gt (by dsimp only; omega))
  rintro ⟨⟨vi, i, vl⟩, ⟨g, l⟩, out⟩ ⟨i0, i1, hvi, hvl, hg, hgr, hln, hbits⟩
  dsimp only at i0 i1 hvi hvl hg hgr hln hbits ⊢
  subst hg
  simp only [nI_def]
  have c1 := sumW_bound hw 21 i.toNat (by omega)
  have c2 := sumW_bound hw 22 i.toNat (by omega)
  have hlen := hbits.1
  refine Runs.dec (fun hlt => ?_) (fun hlt => Runs.ret ?_)
  · have hno := hn i i0 hlt
    have hwi := hno.w
    have a1 := sumW_at (nn := nn) (op := 21) i0
    have a2 := sumW_at (nn := nn) (op := 22) i0
    have m1 := sumW_mono hw 21 (k := (i + 1).toNat) nn.length (by omega) (Nat.le_refl _)
    have m2 := sumW_mono hw 22 (k := (i + 1).toNat) nn.length (by omega) (Nat.le_refl _)
    refine Runs.gd i0 (Runs.gd hlt ?_)
    refine Runs.eqI (fun e => ?_) (fun e21 => ?_)
    · have e' : nOp nn i = 21 := e
      rw [if_pos e'] at a1
      rw [if_neg (by omega)] at a2
      refine Runs.bindQ (bits15_runs (gi := g) (ga := l) (w := nW nn i) hgr (by omega) (by omega) (by omega) (by omega)) ?_
      rintro ⟨⟨o, ⟨⟩⟩, ⟨⟩, ⟨⟩⟩ ⟨o1, o2⟩
      dsimp only at o1 o2 ⊢
      simp only [List.length_singleton, lim_val]
      refine Runs.gd (by omega) (Runs.gd (by omega) (Runs.inK (by change -9223372036854775808 ≤ vi + nW nn i ∧ vi + nW nn i ≤ 9223372036854775807; omega) (Runs.inK (by omega) (Runs.ret ⟨⟨by dsimp only; omega, by dsimp only; omega, ?_, by dsimp only; omega, rfl, hgr, by dsimp only; omega, hbits.push (Nat.le_refl _) o1 o2⟩, by dsimp only; omega⟩))))
      change vi + nW nn i = 1 + sumW nn 21 (i + 1).toNat
      omega
    have e21' : ¬ nOp nn i = 21 := e21
    rw [if_neg e21'] at a1
    refine Runs.eqI (fun e => ?_) (fun e22 => ?_)
    · have e' : nOp nn i = 22 := e
      rw [if_pos e'] at a2
      refine Runs.bindQ (bits15_runs (gi := g) (ga := l) (w := nW nn i) hgr (by omega) (by omega) (by omega) (by omega)) ?_
      rintro ⟨⟨o, ⟨⟩⟩, ⟨⟩, ⟨⟩⟩ ⟨o1, o2⟩
      dsimp only at o1 o2 ⊢
      simp only [List.length_singleton, lim_val]
      refine Runs.gd (by omega) (Runs.gd (by omega) (Runs.inK (by change -9223372036854775808 ≤ vl + nW nn i ∧ vl + nW nn i ≤ 9223372036854775807; omega) (Runs.inK (by omega) (Runs.ret ⟨⟨by dsimp only; omega, by dsimp only; omega, by dsimp only; omega, ?_, rfl, hgr, by dsimp only; omega, hbits.push (Nat.le_refl _) o1 o2⟩, by dsimp only; omega⟩))))
      change vl + nW nn i = 1 + ins + sumW nn 22 (i + 1).toNat
      omega
    have e22' : ¬ nOp nn i = 22 := e22
    rw [if_neg e22'] at a2
    have fin : ∀ {m : Option (((Int × List P2 × Unit) × List Int × Unit) × Unit × Unit)}, Runs m (GS g l 50000 (nW nn i).toNat) → Runs (bindO m fun y4 =>
        gd ((out.length + [y4.1.2.1].length) * 24 ≤ lim) <|
        gd (out.length + [y4.1.2.1].length ≤ lim) <|
        gd (inK IntKind.i64 (i + 1)) <|
        some (Sum.inl ((vi, i + 1, vl), (y4.1.1.1, y4.1.1.2.1), out ++ [y4.1.2.1]) : ((Int × Int × Int) × (Int × List P2) × List (List Int)) ⊕ (((Int × List P2 × Unit) × List (List Int) × Unit) × Unit × Unit)))
        (Stp (fun y => 0 ≤ y.1.2.1 ∧ y.1.2.1 ≤ (nn.length : Int) ∧ y.1.1 = 1 + sumW nn 21 y.1.2.1.toNat ∧ y.1.2.2 = 1 + ins + sumW nn 22 y.1.2.1.toNat ∧ y.2.1.1 = g ∧ Gr g y.2.1.2 ∧ (y.2.1.2.length : Int) ≤ 50000 * y.1.2.1 ∧ Bits nn g y.2.1.2 y.2.2 y.1.2.1)
          (fun r => Gr r.1.1.1 r.1.1.2.1 ∧ r.1.1.2.1.length ≤ 5000000 ∧ Bits nn r.1.1.1 r.1.1.2.1 r.1.2.1 nn.length) (fun y => ((nn.length : Int) - y.1.2.1).toNat) ((vi, i, vl), (g, l), out)) := by
      intro m hm
      refine Runs.bindQ hm ?_
      rintro ⟨⟨⟨g1, l1, ⟨⟩⟩, o, ⟨⟩⟩, ⟨⟩, ⟨⟩⟩ ⟨rfl, p1, p2, p3, p4, p5⟩
      dsimp only at p1 p2 p3 p4 p5 ⊢
      simp only [List.length_singleton, lim_val]
      exact Runs.gd (by omega) (Runs.gd (by omega) (Runs.inK (by omega) (Runs.ret ⟨⟨by dsimp only; omega, by dsimp only; omega, by dsimp only; omega, by dsimp only; omega, rfl, p1, by dsimp only; omega, hbits.push p2 (by omega) p5⟩, by dsimp only; omega⟩)))
    have hf : OpFit i (get nodeT nn i).1 (get nodeT nn i).2.1 (get nodeT nn i).2.2.1 (get nodeT nn i).2.2.2.1 (get nodeT nn i).2.2.2.2.1 (get nodeT nn i).2.2.2.2.2.1 (get nodeT nn i).2.2.2.2.2.2.1 (nW nn (get nodeT nn i).2.2.1) (nW nn (get nodeT nn i).2.2.2.1) (nW nn (get nodeT nn i).2.2.2.2.1) := hno
    have hgrow : l.length ≤ 20000000 := by omega
    refine Runs.eqI (fun e => fin (do14_runs hgr hgrow Lits.nil Lits.nil Lits.nil ?_)) (fun e1 => ?_)
    · exact ⟨hwi.1, hwi.2, by simp, by simp, by simp, .inl e⟩
    · have key : ∀ (op w a b c n lo : Int), OpFit i op w a b c n lo (nW nn a) (nW nn b) (nW nn c) → op ≠ 21 → op ≠ 22 → op ≠ 1 → (0 ≤ a ∧ a < i ∧ 0 ≤ b ∧ b < i ∧ 0 ≤ c ∧ c < i) ∧ DoFit op w n lo (getL out a).length (getL out b).length (getL out c).length := by
        intro op w a b c n lo hf x1 x2 x3
        obtain ⟨w1, w2, hf⟩ := hf
        rcases hf with hf | hf | hf | ⟨a0, a1, b0, b1, c0, c1, hf⟩
        · exact absurd hf x3
        · exact absurd hf x1
        · exact absurd hf x2
        obtain ⟨la, _⟩ := hbits.2 a a0 a1
        obtain ⟨lb, _⟩ := hbits.2 b b0 b1
        obtain ⟨lc, _⟩ := hbits.2 c c0 c1
        have wa := hw a a0 (by omega)
        have wb := hw b b0 (by omega)
        have wc := hw c c0 (by omega)
        refine ⟨⟨a0, a1, b0, b1, c0, c1⟩, w1, w2, by omega, by omega, by omega, ?_⟩
        rcases hf with ⟨h1, h2⟩ | ⟨h1, h2, h3⟩ | ⟨h1, h2⟩ | ⟨h1, h2, h3, h4, h5⟩ | ⟨h1, h2, h3, h4⟩ | ⟨h1, h2, _⟩ | ⟨h1, h2, h3, _⟩
        · exact .inr (.inl ⟨h1, by omega⟩)
        · exact .inr (.inr (.inl ⟨h1, by omega, by omega⟩))
        · exact .inr (.inr (.inr (.inl ⟨h1, by omega⟩)))
        · exact .inr (.inr (.inr (.inr (.inl ⟨h1, h2, h3, by omega, h5⟩))))
        · exact .inr (.inr (.inr (.inr (.inr (.inl ⟨h1, by omega, by omega, by omega⟩)))))
        · exact .inr (.inr (.inr (.inr (.inr (.inr (.inl ⟨h1, h2⟩))))))
        · exact .inr (.inr (.inr (.inr (.inr (.inr (.inr ⟨h1, h2, by omega⟩))))))
      obtain ⟨⟨a0, a1', b0, b1', c0, c1'⟩, hd⟩ := key _ _ _ _ _ _ _ hf e21 e22 e1
      refine Runs.gd a0 (Runs.gd (by rw [hlen]; exact a1') (Runs.gd b0 (Runs.gd (by rw [hlen]; exact b1') (Runs.gd c0 (Runs.gd (by rw [hlen]; exact c1') ?_)))))
      exact fin (do14_runs hgr hgrow (hbits.2 _ a0 a1').2 (hbits.2 _ b0 b1').2 (hbits.2 _ c0 c1').2 hd)
  · have e : i = nn.length := by omega
    rw [← e]
    exact ⟨hgr, by show l.length ≤ 5000000; omega, hbits⟩

end GoSx
end
section
/- CertTrace, the pure theory, part G: circuits, and rows. -/
set_option linter.unusedVariables false
set_option linter.unusedSimpArgs false
set_option maxHeartbeats 0
namespace GoSx
open Go

abbrev P3 := Int × Int × Int × Unit
abbrev LatT := Int × Int × Bool × Int × Int × Unit
def iP (ci : List P3) (j : Int) : Int := (get pair3 ci j).2.1
def iB (ci : List P3) (j : Int) : Int := (get pair3 ci j).2.2.1
def lN (cl : List LatT) (j : Int) : Int := (get latchT cl j).2.1
def oK (co : List P3) (j : Int) : Int := (get outT co j).1
def oL (co : List P3) (j : Int) : Int := (get outT co j).2.1

theorem get_push {T : Ty} {l : List T.den} {x : T.den} {i : Int} (h0 : 0 ≤ i) (h1 : i ≤ l.length) : get T (l ++ [x]) i = if i = l.length then x else get T l i := by
  unfold get
  rw [List.getD_eq_getElem?_getD, List.getD_eq_getElem?_getD]
  split
  · rename_i e
    have : i.toNat = l.length := by omega
    rw [this]; simp
  · rw [List.getElem?_append_left (by omega)]

/-- Pins' bits: none is below 0, or behind the last one's. -/
def InsI (ci : List P3) (m : Int) : Prop := ∀ j, 0 ≤ j → j < (ci.length : Int) → 0 ≤ iP ci j ∧ iP ci j ≤ m ∧ 0 ≤ iB ci j ∧ iP ci j ≤ iP ci (ci.length - 1)
theorem InsI.nil (m : Int) : InsI [] m := fun j a b => by simp at b; omega
theorem InsI.mono {ci : List P3} {m m' : Int} (h : InsI ci m) (hm : m ≤ m') : InsI ci m' := fun j a b => by
  obtain ⟨h1, h2, h3, h4⟩ := h j a b
  exact ⟨h1, by omega, h3, h4⟩
theorem InsI.push {ci : List P3} {m x k : Int} (h : InsI ci m) (h0 : 0 ≤ m) (hk : 0 ≤ k) : InsI (ci ++ [(x, m, k, ())]) m := by
  have hlast : iP (ci ++ [(x, m, k, ())]) (((ci ++ [(x, m, k, ())]).length : Int) - 1) = m := by
    unfold iP
    rw [show ((ci ++ [(x, m, k, ())]).length : Int) - 1 = (ci.length : Int) by simp]
    have := get_push (T := pair3) (l := ci) (x := (x, m, k, ())) (i := ci.length) (by omega) (Int.le_refl _)
    rw [this, if_pos rfl]
  intro j j0 j1
  rw [hlast]
  rw [List.length_append, List.length_singleton] at j1
  have hp := get_push (T := pair3) (l := ci) (x := (x, m, k, ())) (i := j) j0 (by omega)
  unfold iP iB
  rw [hp]
  split
  · exact ⟨h0, Int.le_refl _, hk, Int.le_refl _⟩
  · obtain ⟨h1, h2, h3, h4⟩ := h j j0 (by omega)
    exact ⟨h1, h2, h3, h2⟩

def LatsI (gi : Int) (ga : List P2) (cl : List LatT) : Prop := ∀ j, 0 ≤ j → j < (cl.length : Int) → Lit gi ga (lN cl j)
theorem LatsI.push {gi : Int} {ga : List P2} {cl : List LatT} {x : LatT} (h : LatsI gi ga cl) (hx : Lit gi ga x.2.1) : LatsI gi ga (cl ++ [x]) := by
  intro j j0 j1
  rw [List.length_append, List.length_singleton] at j1
  have hp := get_push (T := latchT) (l := cl) (x := x) (i := j) j0 (by omega)
  unfold lN
  rw [hp]
  split
  · exact hx
  · exact h j j0 (by omega)
def OutsI (gi : Int) (ga : List P2) (co : List P3) : Prop := ∀ j, 0 ≤ j → j < (co.length : Int) → Lit gi ga (oL co j) ∧ 8 ≤ oK co j ∧ oK co j ≤ 10
theorem OutsI.push {gi : Int} {ga : List P2} {co : List P3} {x : P3} (h : OutsI gi ga co) (hx : Lit gi ga x.2.1) (h8 : 8 ≤ x.1) (h10 : x.1 ≤ 10) : OutsI gi ga (co ++ [x]) := by
  intro j j0 j1
  rw [List.length_append, List.length_singleton] at j1
  have hp := get_push (T := outT) (l := co) (x := x) (i := j) j0 (by omega)
  unfold oL oK
  rw [hp]
  split
  · exact ⟨hx, h8, h10⟩
  · exact h j j0 (by omega)

structure CircOk (gi : Int) (ga : List P2) (ci : List P3) (cl : List LatT) (co : List P3) : Prop where
  gr : Gr gi ga
  lg : ga.length ≤ 5000000
  ins : InsI ci 64
  li : ci.length ≤ 2000
  lats : LatsI gi ga cl
  ll : cl.length ≤ 5000
  outs : OutsI gi ga co
  lo : co.length ≤ 16

theorem compile15_runs {nn : NodeL} {ni : PinL} {nc : CellL} {np : PropL} {nm : PinL} (h : NetOk nn ni nc np) (hl : nn.length ≤ 100) :
    Runs (compile15 nn ni nc np nm) fun r => CircOk r.1.1.1 r.1.1.2.1 r.1.1.2.2.1 r.1.1.2.2.2.1 r.1.1.2.2.2.2.1 := by
  have hw : Wide nn := fun j a b => (h.node j a b).w
  have hli := h.li
  have hlc := h.lc
  have hlp := h.lp
  unfold compile15 compile15F
  refine Runs.bindQ (made15_runs h.node hl) ?_
  rintro ⟨⟨⟨gi, ga, ⟨⟩⟩, all, ⟨⟩⟩, ⟨⟩, ⟨⟩⟩ ⟨hg, hlg, hall⟩
  dsimp only at hg hlg hall ⊢
  simp only [nI_def, lim_val, List.length_singleton]
  have hal := hall.1
  refine Runs.iter (fun y => 0 ≤ y.1 ∧ y.1 ≤ ni.length ∧ y.2.1 = (gi, ga) ∧ InsI y.2.2 y.1 ∧ (y.2.2.length : Int) ≤ 16 * y.1) (fun y => (ni.length - y.1).toNat) ?_ ⟨by dsimp only; omega, by dsimp only; omega, rfl, InsI.nil _, by dsimp only; simp⟩ (fuelN_gt (by dsimp only; omega))
  rintro ⟨i, ⟨g, l⟩, ci⟩ ⟨i0, i1, hgl, hci, hcl⟩
  dsimp only at i0 i1 hgl hci hcl ⊢
  injection hgl with e1 e2
  subst e1; subst e2
  refine Runs.dec (fun hlt => ?_) (fun hlt => ?_)
  · obtain ⟨p0, p1⟩ := h.pin i i0 hlt
    have hwp := hw _ p0 p1
    refine Runs.iter (fun y => 0 ≤ y.1 ∧ y.1 ≤ nW nn (pN ni i) ∧ y.2.1 = (g, l) ∧ InsI y.2.2 i ∧ (y.2.2.length : Int) ≤ 16 * i + y.1) (fun y => (nW nn (pN ni i) - y.1).toNat) ?_ ⟨by dsimp only; omega, by dsimp only; omega, rfl, hci, by dsimp only; omega⟩ (fuelN_gt (by dsimp only; omega))
    rintro ⟨k, ⟨g1, l1⟩, c1⟩ ⟨k0, k1, hgl, hc1, hc2⟩
    dsimp only at k0 k1 hgl hc1 hc2 ⊢
    injection hgl with e1 e2
    subst e1; subst e2
    refine Runs.gd i0 (Runs.gd hlt (Runs.gd p0 (Runs.gd p1 ?_)))
    refine Runs.dec (fun hk => ?_) (fun hk => ?_)
    · have hk' : k < nW nn (pN ni i) := hk
      refine Runs.inK (by omega) (Runs.gd (by omega) (Runs.gd (by omega) (Runs.inK (by omega) (Runs.ret ⟨⟨by dsimp only; omega, by dsimp only; omega, rfl, hc1.push i0 k0, by simp; omega⟩, by dsimp only; omega⟩))))
    · have hk' : ¬ k < nW nn (pN ni i) := hk
      refine Runs.inK (by omega) (Runs.ret ⟨⟨by dsimp only; omega, by dsimp only; omega, rfl, hc1.mono (by dsimp only; omega), by dsimp only; omega⟩, by dsimp only; omega⟩)
  have hci : InsI ci 64 := hci.mono (by omega)
  refine Runs.iter (fun y => 0 ≤ y.1 ∧ y.1 ≤ nc.length ∧ y.2.1 = (g, l) ∧ LatsI g l y.2.2 ∧ (y.2.2.length : Int) ≤ 16 * y.1) (fun y => (nc.length - y.1).toNat) ?_ ⟨by dsimp only; omega, by dsimp only; omega, rfl, fun j a b => by simp at b; omega, by dsimp only; simp⟩ (fuelN_gt (by dsimp only; omega))
  rintro ⟨j, ⟨g1, l1⟩, cl⟩ ⟨j0, j1, hgl, hlat, hll⟩
  dsimp only at j0 j1 hgl hlat hll ⊢
  injection hgl with e1 e2
  subst e1; subst e2
  refine Runs.dec (fun hjlt => ?_) (fun hjlt => ?_)
  · obtain ⟨c0, c1⟩ := h.cell j j0 hjlt
    obtain ⟨x0, x1, x2⟩ := h.nxt j j0 hjlt
    have hwc := hw _ c0 c1
    refine Runs.gd j0 (Runs.gd hjlt ?_)
    refine Runs.iter (fun y => 0 ≤ y.1 ∧ y.1 ≤ nW nn (cN nc j) ∧ y.2.1 = (g1, l1) ∧ LatsI g1 l1 y.2.2 ∧ (y.2.2.length : Int) ≤ 16 * j + y.1) (fun y => (nW nn (cN nc j) - y.1).toNat) ?_ ⟨by dsimp only; omega, by dsimp only; omega, rfl, hlat, by dsimp only; omega⟩ (fuelN_gt (by dsimp only; omega))
    rintro ⟨k, ⟨g2, l2⟩, c2⟩ ⟨k0, k1, hgl, hc1, hc2⟩
    dsimp only at k0 k1 hgl hc1 hc2 ⊢
    injection hgl with e1 e2
    subst e1; subst e2
    refine Runs.gd c0 (Runs.gd c1 ?_)
    refine Runs.dec (fun hk => ?_) (fun hk => ?_)
    · have hk' : k < nW nn (cN nc j) := hk
      obtain ⟨b1, b2⟩ := hall.2 (cX nc j) x0 x1
      refine Runs.inK (by omega) (Runs.inK (by omega) (Runs.gd x0 (Runs.gd (by rw [hal]; exact x1) (Runs.gd k0 (Runs.gd (by change k < ((getL all (cX nc j)).length : Int); omega) (Runs.gd k0 (Runs.gd (by omega) (Runs.gd (by omega) (Runs.inK (by omega) (Runs.ret ⟨⟨by dsimp only; omega, by dsimp only; omega, rfl, hc1.push (b2.get k0 (by omega)), by simp; omega⟩, by dsimp only; omega⟩))))))))))
    · have hk' : ¬ k < nW nn (cN nc j) := hk
      refine Runs.inK (by omega) (Runs.ret ⟨⟨by dsimp only; omega, by dsimp only; omega, rfl, hc1, by dsimp only; omega⟩, by dsimp only; omega⟩)
  refine Runs.iter (fun y => 0 ≤ y.1 ∧ y.1 ≤ np.length ∧ y.2.1 = (g1, l1) ∧ OutsI g1 l1 y.2.2 ∧ (y.2.2.length : Int) ≤ y.1) (fun y => (np.length - y.1).toNat) ?_ ⟨by dsimp only; omega, by dsimp only; omega, rfl, fun j a b => by simp at b; omega, by dsimp only; simp⟩ (fuelN_gt (by dsimp only; omega))
  rintro ⟨q, ⟨g2, l2⟩, co⟩ ⟨q0, q1, hgl, hout, hol⟩
  dsimp only at q0 q1 hgl hout hol ⊢
  injection hgl with e1 e2
  subst e1; subst e2
  refine Runs.dec (fun hq => ?_) (fun hq => ?_)
  · obtain ⟨t1, t2, t3, t4, t5⟩ := h.prop q q0 hq
    obtain ⟨b1, b2⟩ := hall.2 (qN np q) t3 t4
    refine Runs.gd q0 (Runs.gd hq (Runs.gd q0 (Runs.gd hq (Runs.gd t3 (Runs.gd (by rw [hal]; exact t4) (Runs.gd (by change (0:Int) < ((getL all (qN np q)).length : Int); omega) (Runs.gd (by omega) (Runs.gd (by omega) (Runs.inK (by omega) (Runs.ret ⟨⟨by dsimp only; omega, by dsimp only; omega, rfl, hout.push (b2.get (by omega) (by omega)) t1 t2, by simp; omega⟩, by dsimp only; omega⟩))))))))))
  · exact Runs.ret ⟨hg, hlg, hci, by dsimp only; omega, hlat, by dsimp only; omega, hout, by dsimp only; omega⟩

end GoSx
end
section
/- CertTrace, the pure theory, part H: what is told of a net, rows, steps. -/
set_option linter.unusedVariables false
set_option linter.unusedSimpArgs false
set_option maxHeartbeats 0
namespace GoSx
open Go

theorem few26_runs {nn : NodeL} {ni : PinL} {nc : CellL} {np : PropL} {nm : PinL} {p : Int} (p0 : 0 ≤ p) (p1 : p ≤ 255) :
    Runs (few26 nn ni nc np nm p) fun r => r.1.2.2.1 = true → CircOk r.1.1.1 r.1.1.2.1 r.1.1.2.2.1 r.1.1.2.2.2.1 r.1.1.2.2.2.2.1 ∧ 0 ≤ r.1.2.1 ∧ r.1.2.1 < r.1.1.2.2.2.2.1.length ∧ oK r.1.1.2.2.2.2.1 r.1.2.1 ≠ 9 := by
  unfold few26
  simp only [cond_f]
  refine Runs.bindQ great16_runs ?_
  rintro ⟨⟨b, ⟨⟩⟩, ⟨⟩, ⟨⟩⟩ hb
  dsimp only at hb ⊢
  cases b with
  | true => exact Runs.ret (fun h => by cases h)
  | false =>
  obtain ⟨hnet, hl, _⟩ := hb rfl
  rw [cond_f]
  refine Runs.bindQ (compile15_runs hnet hl) ?_
  rintro ⟨⟨⟨gi, ga, ci, cl, co, ⟨⟩⟩, ⟨⟩⟩, ⟨⟩, ⟨⟩⟩ hc
  dsimp only at hc ⊢
  simp only [nI_def]
  refine Runs.eqI (fun _ => Runs.ret (fun h => by cases h)) (fun e => ?_)
  refine Runs.dec (fun _ => Runs.ret (fun h => by cases h)) (fun _ => ?_)
  refine Runs.dec (fun _ => Runs.ret (fun h => by cases h)) (fun _ => ?_)
  rw [wrapS (by omega) (by omega)]
  have m0 : 0 ≤ p.tmod co.length := Int.tmod_nonneg _ p0
  have hpos : (0:Int) < co.length := by
    have : co.length ≠ 0 := fun h => e (by rw [h]; rfl)
    omega
  have m1 : p.tmod co.length < co.length := Int.tmod_lt_of_pos _ hpos
  refine Runs.gd e (Runs.gd m0 (Runs.gd m1 (Runs.ret ?_)))
  intro h
  refine ⟨hc, m0, m1, fun h9 => ?_⟩
  have h9' : (get outT co (p.tmod co.length)).1 = 9 := h9
  dsimp only at h
  rw [h9'] at h
  simp at h

/-- How many numbers a row has. -/
def pinsV (ci : List P3) : Int := if ci.length = 0 then 0 else iP ci (ci.length - 1) + 1

theorem cpins_runs {gi : Int} {ga : List P2} {ci : List P3} {cl : List LatT} {co : List P3} (h : CircOk gi ga ci cl co) : cpins gi ga ci cl co = some ((pinsV ci, ()), (), ()) := by
  have hli := h.li
  unfold cpins pinsV
  simp only [nI_def]
  rw [cond_eqI]
  split
  · rename_i e
    rw [if_pos (by omega)]
  · rename_i e
    rw [if_neg (by omega)]
    obtain ⟨a, b, c, d⟩ := h.ins (ci.length - 1) (by omega) (by omega)
    rw [gd_inK (by omega) (by omega), gd_pos (by omega), gd_pos (by omega), gd_inK (by change -9223372036854775808 ≤ iP ci (ci.length - 1) + 1; omega) (by change iP ci (ci.length - 1) + 1 ≤ 9223372036854775807; omega)]
    rfl

theorem pins26_runs {gi : Int} {ga : List P2} {ci : List P3} {cl : List LatT} {co : List P3} (h : CircOk gi ga ci cl co) : Runs (pins26 gi ga ci cl co) fun r => r.1.1 = pinsV ci := by
  have hli := h.li
  unfold pins26 pins26F
  refine Runs.iter (fun y => 0 ≤ y.2 ∧ y.2 ≤ ci.length ∧ (y.2 = 0 → y.1 = 0) ∧ (∀ j, 0 ≤ j → j < y.2 → iP ci j + 1 ≤ y.1) ∧ (0 < y.2 → ∃ j, 0 ≤ j ∧ j < y.2 ∧ y.1 = iP ci j + 1)) (fun y => (ci.length - y.2).toNat) ?_ ⟨by dsimp only; omega, by dsimp only; omega, fun _ => rfl, fun j a b => by dsimp only at b; omega, fun a => by dsimp only at a; omega⟩ (fuelN_gt (by dsimp only; omega))
  rintro ⟨m, i⟩ ⟨i0, i1, hz, hall, hex⟩
  dsimp only at i0 i1 hz hall hex ⊢
  simp only [nI_def]
  refine Runs.dec (fun hlt => ?_) (fun hlt => Runs.ret ?_)
  · obtain ⟨a, b, c, d⟩ := h.ins i i0 hlt
    refine Runs.gd i0 (Runs.gd hlt (Runs.inK (by change -9223372036854775808 ≤ iP ci i + 1 ∧ iP ci i + 1 ≤ 9223372036854775807; omega) (Runs.inK (by omega) (Runs.ret ⟨⟨by dsimp only; omega, by dsimp only; omega, ?_, ?_, ?_⟩, by dsimp only; omega⟩))))
    · intro e; dsimp only at e; omega
    · intro j j0 j1
      change iP ci j + 1 ≤ max2 m (iP ci i + 1)
      dsimp only at j1
      unfold max2
      by_cases e : j = i
      · subst e; split <;> omega
      · have := hall j j0 (by omega)
        split <;> omega
    · intro _
      change ∃ j, 0 ≤ j ∧ j < i + 1 ∧ max2 m (iP ci i + 1) = iP ci j + 1
      unfold max2
      split
      · exact ⟨i, i0, by omega, rfl⟩
      · by_cases e : i = 0
        · have := hz e
          exact ⟨i, i0, by omega, by omega⟩
        · obtain ⟨j, j0, j1, j2⟩ := hex (by omega)
          exact ⟨j, j0, by omega, j2⟩
  · show m = pinsV ci
    unfold pinsV
    split
    · exact hz (by omega)
    · obtain ⟨j, j0, j1, j2⟩ := hex (by omega)
      obtain ⟨a, b, c, d⟩ := h.ins j j0 (by omega)
      have := hall (ci.length - 1) (by omega) (by omega)
      omega

theorem rows26_runs {gi : Int} {ga : List P2} {ci : List P3} {cl : List LatT} {co : List P3} (h : CircOk gi ga ci cl co) {raw : List (List Int)} (hraw : ∀ r ∈ raw, ∀ x ∈ r, 0 ≤ x ∧ x ≤ 65535) :
    Runs (rows26 gi ga ci cl co raw) fun r => r.1.1.length ≤ 64 ∧ ∀ row ∈ r.1.1, (row.length : Int) = pinsV ci ∧ ∀ x ∈ row, 0 ≤ x ∧ x ≤ 65535 := by
  have hp0 : 0 ≤ pinsV ci ∧ pinsV ci ≤ 65 := by
    unfold pinsV
    split
    · omega
    · obtain ⟨a, b, c, d⟩ := h.ins (ci.length - 1) (by omega) (by omega)
      omega
  unfold rows26 rows26F
  simp only [cond_t]
  refine Runs.iter (fun y => 0 ≤ y.1 ∧ y.1 ≤ 64 ∧ (y.2.length : Int) = y.1 ∧ ∀ row ∈ y.2, (row.length : Int) = pinsV ci ∧ ∀ x ∈ row, 0 ≤ x ∧ x ≤ 65535) (fun y => (64 - y.1).toNat) ?_ ⟨by dsimp only; omega, by dsimp only; omega, rfl, fun r hr => by cases hr⟩ (fuelN_gt (by dsimp only; omega))
  rintro ⟨i, out⟩ ⟨i0, i1, hlen, hrows⟩
  dsimp only at i0 i1 hlen hrows ⊢
  simp only [nI_def]
  refine Runs.dec (fun hi => ?_) (fun hi => Runs.ret ⟨by dsimp only; omega, hrows⟩)
  refine Runs.dec (fun h64 => ?_) (fun h64 => Runs.ret ⟨by dsimp only; omega, hrows⟩)
  refine Runs.iter (fun y => 0 ≤ y.1 ∧ y.1 ≤ pinsV ci ∧ (y.2.length : Int) = y.1 ∧ ∀ x ∈ y.2, 0 ≤ x ∧ x ≤ 65535) (fun y => (pinsV ci - y.1).toNat) ?_ ⟨by dsimp only; omega, by dsimp only; omega, rfl, fun r hr => by cases hr⟩ (fuelN_gt (by dsimp only; omega))
  rintro ⟨k, row⟩ ⟨k0, k1, hkl, hx⟩
  dsimp only at k0 k1 hkl hx ⊢
  refine Runs.bindQ (pins26_runs h) ?_
  rintro ⟨⟨pv, ⟨⟩⟩, ⟨⟩, ⟨⟩⟩ hpv
  dsimp only at hpv ⊢
  subst hpv
  have push : ∀ x : Int, 0 ≤ x → x ≤ 65535 → ∀ z ∈ row ++ [x], 0 ≤ z ∧ z ≤ 65535 := by
    intro x x0 x1 z hz
    rcases List.mem_append.1 hz with hz | hz
    · exact hx z hz
    · rw [List.mem_singleton.1 hz]; exact ⟨x0, x1⟩
  refine Runs.dec (fun hk => ?_) (fun hk => ?_)
  · have hmem : get (Ty.int IntKind.u16).sl raw i ∈ raw := getL_mem (l := raw) i0 hi
    refine Runs.gd i0 (Runs.gd hi ?_)
    refine Runs.dec (fun hk2 => ?_) (fun hk2 => ?_)
    · have hx2 := hraw _ hmem (get (Ty.int IntKind.u16) (get (Ty.int IntKind.u16).sl raw i) k) (getI_mem (l := get (Ty.int IntKind.u16).sl raw i) k0 hk2)
      simp only [List.length_singleton, lim_val]
      refine Runs.gd i0 (Runs.gd hi (Runs.gd k0 (Runs.gd hk2 (Runs.gd (by omega) (Runs.gd (by omega) (Runs.inK (by omega) (Runs.ret ⟨⟨by dsimp only; omega, by dsimp only; omega, by simp; omega, ?_⟩, by dsimp only; omega⟩)))))))
      have hx3 : 0 ≤ (get (Ty.int IntKind.u16) (get (Ty.int IntKind.u16).sl raw i) k : Int) ∧ (get (Ty.int IntKind.u16) (get (Ty.int IntKind.u16).sl raw i) k : Int) ≤ 65535 := hx2
      generalize (get (Ty.int IntKind.u16) (get (Ty.int IntKind.u16).sl raw i) k) = v at *
      have hv : IntKind.i64.wrap v = v := wrapS (Int.le_trans (by decide) hx3.1) (Int.le_trans hx3.2 (by decide))
      dsimp only
      rw [hv]
      exact push v hx3.1 hx3.2
    · simp only [lim_val]
      exact Runs.gd (by omega) (Runs.gd (by omega) (Runs.inK (by omega) (Runs.ret ⟨⟨by dsimp only; omega, by dsimp only; omega, by simp; omega, push 0 (by omega) (by omega)⟩, by dsimp only; omega⟩)))
  · simp only [List.length_singleton, lim_val]
    refine Runs.gd (by omega) (Runs.gd (by omega) (Runs.inK (by omega) (Runs.ret ⟨⟨by dsimp only; omega, by dsimp only; omega, by simp; omega, ?_⟩, by dsimp only; omega⟩)))
    intro r hr
    rcases List.mem_append.1 hr with hr | hr
    · exact hrows r hr
    · rw [List.mem_singleton.1 hr]; exact ⟨by omega, hx⟩

end GoSx
end
section
/- CertTrace, the pure theory, part I: a circuit's steps. -/
set_option linter.unusedVariables false
set_option linter.unusedSimpArgs false
set_option maxHeartbeats 0
namespace GoSx
open Go

theorem aLit_runs {vals : List Bool} {l : Int} (h0 : 0 ≤ l) (h : l / 2 < vals.length) : Runs (aLit vals l) fun _ => True := by
  have e : l.fdiv (2 ^ 1) = l / 2 := by
    rw [show ((2:Int) ^ 1) = 2 from rfl, Int.fdiv_eq_ediv_of_nonneg _ (by omega)]
  unfold aLit
  rw [e]
  simp only [nI_def]
  exact Runs.gd (by omega) (Runs.gd (by omega) (Runs.ret trivial))

theorem aEval_runs {gi : Int} {ga : List P2} {ins : List Bool} (hg : Gr gi ga) (hl : ga.length ≤ 5000000) (hi : ins.length ≤ 1000000) :
    Runs (aEval gi ga ins) fun r => (r.1.1.length : Int) = 1 + gi + ga.length := by
  obtain ⟨g0, g1, hgr⟩ := hg
  obtain ⟨n, rfl⟩ := Int.eq_ofNat_of_zero_le g0
  unfold aEval aEvalF
  have e1 : ((1 + (n : Int)).toNat) = n + 1 := by omega
  simp only [nI_def, lim_val, List.length_replicate, List.length_singleton]
  rw [e1]
  refine Runs.inK (by omega) (Runs.inK (by omega) (Runs.inK (by omega) (Runs.gd (by omega) (Runs.gd (by omega) (Runs.gd (by omega) (Runs.gd (by omega) (Runs.gd (by omega) (Runs.gd (by omega) (Runs.gd (by omega) ?_)))))))))
  refine Runs.iter (fun y => 0 ≤ y.1 ∧ y.1 ≤ ga.length ∧ (y.2.1.length : Int) = 1 + n + y.1) (fun y => (ga.length - y.1).toNat) ?_ ⟨by dsimp only; omega, by dsimp only; omega, ?_⟩ (fuelN_gt (by dsimp only; omega))
  · rintro ⟨i, v, v'⟩ ⟨i0, i1, hv⟩
    dsimp only at i0 i1 hv ⊢
    refine Runs.dec (fun hlt => ?_) (fun hlt => Runs.ret (by show (v.length : Int) = 1 + (n : Int) + ga.length; omega))
    obtain ⟨a0, a1, b0, b1⟩ := hgr i i0 hlt
    refine Runs.gd i0 (Runs.gd hlt ?_)
    refine Runs.bindQ (aLit_runs (l := (get pair2 ga i).1) a0 (Int.lt_of_le_of_lt a1 (by omega))) ?_
    intro y1 _
    refine Runs.bool (fun _ => ?_) (fun _ => ?_)
    · refine Runs.bindQ (aLit_runs (l := (get pair2 ga i).2.1) b0 (Int.lt_of_le_of_lt b1 (by omega))) ?_
      intro y2 _
      exact Runs.gd (by omega) (Runs.gd (by omega) (Runs.inK (by omega) (Runs.ret ⟨⟨by dsimp only; omega, by dsimp only; omega, by simp; omega⟩, by dsimp only; omega⟩)))
    · exact Runs.gd (by omega) (Runs.gd (by omega) (Runs.inK (by omega) (Runs.ret ⟨⟨by dsimp only; omega, by dsimp only; omega, by simp; omega⟩, by dsimp only; omega⟩)))
  · dsimp only [Option.getD]
    have e2 : (((n + 1 : Nat) : Int).toNat - 1) = n := by omega
    rw [e2]
    simp only [List.length_append, List.length_take, List.length_drop, List.length_replicate]
    have : ins.length.min n = min ins.length n := rfl
    rw [this]
    omega

theorem circFirst_runs {gi : Int} {ga : List P2} {ci : List P3} {cl : List LatT} {co : List P3} (h : CircOk gi ga ci cl co) :
    Runs (circFirst gi ga ci cl co) fun r => r.1.1.length = cl.length := by
  have hll := h.ll
  unfold circFirst circFirstF
  simp only [nI_def, lim_val]
  refine Runs.gd (by omega) (Runs.gd (by omega) (Runs.gd (by omega) ?_))
  refine Runs.iter (fun y => 0 ≤ y.1 ∧ y.1 ≤ cl.length ∧ y.2.length = cl.length) (fun y => (cl.length - y.1).toNat) ?_ ⟨by dsimp only; omega, by dsimp only; omega, by simp⟩ (fuelN_gt (by dsimp only; omega))
  rintro ⟨i, v⟩ ⟨i0, i1, hv⟩
  dsimp only at i0 i1 hv ⊢
  refine Runs.dec (fun hlt => ?_) (fun hlt => Runs.ret hv)
  refine Runs.gd i0 (Runs.gd hlt (Runs.gd i0 (Runs.gd (by omega) (Runs.inK (by omega) (Runs.ret ⟨⟨by dsimp only; omega, by dsimp only; omega, by simp [hv]⟩, by dsimp only; omega⟩)))))

theorem circIns_runs {gi : Int} {ga : List P2} {ci : List P3} {cl : List LatT} {co : List P3} (h : CircOk gi ga ci cl co) {row : List Int} (hr : (row.length : Int) = pinsV ci) :
    Runs (circIns gi ga ci cl co row) fun r => r.1.1.length = ci.length := by
  have hli := h.li
  unfold circIns circInsF
  simp only [nI_def, lim_val]
  refine Runs.gd (by omega) (Runs.gd (by omega) (Runs.gd (by omega) ?_))
  refine Runs.iter (fun y => 0 ≤ y.1 ∧ y.1 ≤ ci.length ∧ y.2.length = ci.length) (fun y => (ci.length - y.1).toNat) ?_ ⟨by dsimp only; omega, by dsimp only; omega, by simp⟩ (fuelN_gt (by dsimp only; omega))
  rintro ⟨i, v⟩ ⟨i0, i1, hv⟩
  dsimp only at i0 i1 hv ⊢
  refine Runs.dec (fun hlt => ?_) (fun hlt => Runs.ret hv)
  obtain ⟨a, b, c, d⟩ := h.ins i i0 hlt
  have hp : iP ci i < row.length := by
    rw [hr]
    unfold pinsV
    rw [if_neg (by omega)]
    omega
  refine Runs.gd i0 (Runs.gd hlt (Runs.gd a (Runs.gd hp (Runs.gd c (Runs.gd i0 (Runs.gd (by omega) (Runs.inK (by omega) (Runs.ret ⟨⟨by dsimp only; omega, by dsimp only; omega, by simp [hv]⟩, by dsimp only; omega⟩))))))))

theorem circStep_runs {gi : Int} {ga : List P2} {ci : List P3} {cl : List LatT} {co : List P3} (h : CircOk gi ga ci cl co) {lats ins : List Bool} (hl : lats.length = cl.length) (hi : ins.length = ci.length) :
    Runs (circStep gi ga ci cl co lats ins) fun r => r.1.1.length = cl.length ∧ r.1.2.1.length = co.length := by
  have hli := h.li
  have hll := h.ll
  have hlo := h.lo
  have hlg := h.lg
  unfold circStep circStepF
  simp only [nI_def, lim_val]
  refine Runs.inK (by omega) (Runs.gd (by omega) (Runs.gd (by omega) (Runs.gd (by omega) (Runs.gd (by omega) (Runs.gd (by simp; omega) (Runs.gd (by simp; omega) ?_))))))
  refine Runs.bindQ (aEval_runs h.gr hlg (by simp; omega)) ?_
  rintro ⟨⟨vals, ⟨⟩⟩, ⟨⟩, ⟨⟩⟩ hv
  dsimp only at hv ⊢
  refine Runs.gd (by omega) (Runs.gd (by omega) (Runs.gd (by omega) (Runs.gd (by omega) (Runs.gd (by omega) (Runs.gd (by omega) ?_)))))
  refine Runs.iter (fun y => 0 ≤ y.1 ∧ y.1 ≤ cl.length ∧ y.2.length = cl.length) (fun y => (cl.length - y.1).toNat) ?_ ⟨by dsimp only; omega, by dsimp only; omega, by simp⟩ (fuelN_gt (by dsimp only; omega))
  rintro ⟨i, v⟩ ⟨i0, i1, hv1⟩
  dsimp only at i0 i1 hv1 ⊢
  refine Runs.dec (fun hlt => ?_) (fun hlt => ?_)
  · obtain ⟨a, b⟩ := h.lats i i0 hlt
    refine Runs.gd i0 (Runs.gd hlt ?_)
    refine Runs.bindQ (aLit_runs (l := (get latchT cl i).2.1) a (by change lN cl i / 2 < vals.length; omega)) ?_
    intro y2 _
    exact Runs.gd i0 (Runs.gd (by omega) (Runs.inK (by omega) (Runs.ret ⟨⟨by dsimp only; omega, by dsimp only; omega, by simp [hv1]⟩, by dsimp only; omega⟩)))
  · refine Runs.iter (fun y => 0 ≤ y.1 ∧ y.1 ≤ co.length ∧ y.2.length = co.length) (fun y => (co.length - y.1).toNat) ?_ ⟨by dsimp only; omega, by dsimp only; omega, by simp⟩ (fuelN_gt (by dsimp only; omega))
    rintro ⟨j, w⟩ ⟨j0, j1, hw⟩
    dsimp only at j0 j1 hw ⊢
    refine Runs.dec (fun hlt => ?_) (fun hlt => Runs.ret ⟨hv1, hw⟩)
    obtain ⟨⟨a, b⟩, _, _⟩ := h.outs j j0 hlt
    refine Runs.gd j0 (Runs.gd hlt ?_)
    refine Runs.bindQ (aLit_runs (l := (get outT co j).2.1) a (by change oL co j / 2 < vals.length; omega)) ?_
    intro y2 _
    exact Runs.gd j0 (Runs.gd (by omega) (Runs.inK (by omega) (Runs.ret ⟨⟨by dsimp only; omega, by dsimp only; omega, by simp [hw]⟩, by dsimp only; omega⟩)))

/-! ### The steps as functions -/
section
variable (gi : Int) (ga : List P2) (ci : List P3) (cl : List LatT) (co : List P3)
def firstV : List Bool := ((circFirst gi ga ci cl co).map (fun r => r.1.1)).getD []
def insV (row : List Int) : List Bool := ((circIns gi ga ci cl co row).map (fun r => r.1.1)).getD []
def stepV (st : List Bool) (row : List Int) : List Bool × List Bool := ((circStep gi ga ci cl co st (insV gi ga ci cl co row)).map (fun r => (r.1.1, r.1.2.1))).getD ([], [])
/-- The latches before step n. -/
def stV (tr : List (List Int)) : Nat → List Bool
  | 0 => firstV gi ga ci cl co
  | n + 1 => (stepV gi ga ci cl co (stV tr n) (getL tr n)).1
/-- What is told at step n. -/
def outV (tr : List (List Int)) (n : Nat) : List Bool := (stepV gi ga ci cl co (stV gi ga ci cl co tr n) (getL tr n)).2
end
def LegalP (co : List P3) (outs : List Bool) : Prop := ∀ j, 0 ≤ j → j < (co.length : Int) → oK co j = 9 → getB outs j = true
def HitP (co : List P3) (out : Int) (outs : List Bool) : Prop := getB outs out = decide (oK co out = 10)
def RowsOk (ci : List P3) (tr : List (List Int)) : Prop := ∀ row ∈ tr, (row.length : Int) = pinsV ci ∧ ∀ x ∈ row, 0 ≤ x ∧ x ≤ 65535

section
variable {gi : Int} {ga : List P2} {ci : List P3} {cl : List LatT} {co : List P3} (h : CircOk gi ga ci cl co)
include h
theorem first_eq : circFirst gi ga ci cl co = some ((firstV gi ga ci cl co, ()), (), ()) ∧ (firstV gi ga ci cl co).length = cl.length := by
  obtain ⟨⟨⟨r, ⟨⟩⟩, ⟨⟩, ⟨⟩⟩, e, q⟩ := circFirst_runs h
  unfold firstV
  rw [e]
  exact ⟨rfl, q⟩
theorem ins_eq {row : List Int} (hr : (row.length : Int) = pinsV ci) : circIns gi ga ci cl co row = some ((insV gi ga ci cl co row, ()), (), ()) ∧ (insV gi ga ci cl co row).length = ci.length := by
  obtain ⟨⟨⟨r, ⟨⟩⟩, ⟨⟩, ⟨⟩⟩, e, q⟩ := circIns_runs h hr
  unfold insV
  rw [e]
  exact ⟨rfl, q⟩
theorem step_eq {st : List Bool} {row : List Int} (hr : (row.length : Int) = pinsV ci) (hs : st.length = cl.length) :
    circStep gi ga ci cl co st (insV gi ga ci cl co row) = some (((stepV gi ga ci cl co st row).1, (stepV gi ga ci cl co st row).2, ()), (), ()) ∧ (stepV gi ga ci cl co st row).1.length = cl.length ∧ (stepV gi ga ci cl co st row).2.length = co.length := by
  obtain ⟨⟨⟨r, r', ⟨⟩⟩, ⟨⟩, ⟨⟩⟩, e, q⟩ := circStep_runs h hs (ins_eq h hr).2
  unfold stepV
  rw [e]
  exact ⟨rfl, q⟩
theorem st_len {tr : List (List Int)} (ht : RowsOk ci tr) : ∀ n : Nat, n ≤ tr.length → (stV gi ga ci cl co tr n).length = cl.length
  | 0, _ => (first_eq h).2
  | n + 1, hn => (step_eq h (ht _ (getL_mem (by omega) (by omega))).1 (st_len ht n (by omega))).2.1
omit h in
theorem st_same {tr tr' : List (List Int)} {m : Nat} (e : ∀ i : Nat, i < m → getL tr i = getL tr' i) : ∀ n : Nat, n ≤ m → stV gi ga ci cl co tr n = stV gi ga ci cl co tr' n
  | 0, _ => rfl
  | n + 1, hn => by
    show (stepV gi ga ci cl co _ _).1 = (stepV gi ga ci cl co _ _).1
    rw [st_same e n (by omega), e n (by omega)]
omit h in
theorem out_same {tr tr' : List (List Int)} {m : Nat} (e : ∀ i : Nat, i < m → getL tr i = getL tr' i) {n : Nat} (hn : n < m) : outV gi ga ci cl co tr n = outV gi ga ci cl co tr' n := by
  unfold outV
  rw [st_same e n (by omega), e n hn]

theorem legal_runs {outs : List Bool} (ho : outs.length = co.length) : Runs (legal16 gi ga ci cl co outs) fun r => (r.1.1 = true ↔ LegalP co outs) := by
  have hlo := h.lo
  unfold legal16 legal16F
  simp only [nI_def, cond_t]
  refine Runs.iter (fun y => 0 ≤ y ∧ y ≤ co.length ∧ ∀ j, 0 ≤ j → j < y → oK co j = 9 → getB outs j = true) (fun y => (co.length - y).toNat) ?_ ⟨by omega, by omega, fun j a b => by omega⟩ (fuelN_gt (by omega))
  rintro i ⟨i0, i1, hall⟩
  have next : (oK co i = 9 → getB outs i = true) → i < co.length → Stp (fun y : Int => 0 ≤ y ∧ y ≤ co.length ∧ ∀ j, 0 ≤ j → j < y → oK co j = 9 → getB outs j = true) (fun r : (Bool × Unit) × Unit × Unit => (r.1.1 = true ↔ LegalP co outs)) (fun y => (co.length - y).toNat) i (Sum.inl (i + 1)) := by
    intro hi hlt
    refine ⟨⟨by omega, by omega, fun j j0 j1 => ?_⟩, by show ((co.length : Int) - (i + 1)).toNat < ((co.length : Int) - i).toNat; omega⟩
    by_cases e : j = i
    · rw [e]; exact hi
    · exact hall j j0 (by omega)
  refine Runs.dec (fun hlt => ?_) (fun hlt => Runs.ret ⟨fun _ j a b => hall j a (by omega), fun _ => rfl⟩)
  refine Runs.gd i0 (Runs.gd hlt ?_)
  refine Runs.eqI (fun h9 => ?_) (fun h9 => Runs.inK (by omega) (Runs.ret (next (fun e => absurd e h9) hlt)))
  refine Runs.gd i0 (Runs.gd (by omega) ?_)
  cases hb : getB outs i with
  | true => exact Runs.inK (by omega) (Runs.ret (next (fun _ => hb) hlt))
  | false =>
    refine Runs.ret ⟨fun e => (by cases e), fun hp => ?_⟩
    have := hp i i0 hlt h9
    rw [hb] at this
    cases this

theorem hits_runs {outs : List Bool} (ho : outs.length = co.length) {out : Int} (o0 : 0 ≤ out) (o1 : out < co.length) (o9 : oK co out ≠ 9) (hl : LegalP co outs) : Runs (hits16 gi ga ci cl co out outs) fun r => (r.1.1 = true ↔ HitP co out outs) := by
  obtain ⟨_, k8, k10⟩ := h.outs out o0 o1
  unfold hits16
  simp only [nI_def, cond_t, cond_f]
  refine Runs.gd o0 (Runs.gd o1 (Runs.bindQ (legal_runs h ho) ?_))
  rintro ⟨⟨b, ⟨⟩⟩, ⟨⟩, ⟨⟩⟩ hb
  dsimp only at hb ⊢
  rw [hb.2 hl, cond_t]
  unfold HitP
  refine Runs.eqI (fun e8 => ?_) (fun e8 => ?_)
  · have e8' : oK co out = 8 := e8
    refine Runs.gd o0 (Runs.gd (by omega) ?_)
    rw [e8']
    cases hg : getB outs out with
    | false => exact Runs.ret ⟨fun _ => rfl, fun _ => rfl⟩
    | true =>
      rw [show (!true) = false from rfl, cond_f, cond_eqI, if_neg (by rw [e8]; omega)]
      exact Runs.ret ⟨fun h => (by cases h), fun h => (by cases h)⟩
  · have e8' : oK co out ≠ 8 := e8
    have e10 : oK co out = 10 := by omega
    refine Runs.eqI (fun _ => ?_) (fun e => absurd e10 e)
    refine Runs.gd o0 (Runs.gd (by omega) (Runs.ret ?_))
    rw [e10]
    cases getB outs out <;> simp
end
end GoSx
end
section
/- CertTrace, the pure theory, part J: a trace, replayed; a certificate of a trace. -/
set_option linter.unusedVariables false
set_option linter.unusedSimpArgs false
set_option maxHeartbeats 0
namespace GoSx
open Go

theorem odd1_is {n : Int} (h0 : 0 ≤ n) (h : n ≤ 65535) : oddC1 n = some ((false, ()), (), ()) := by
  unfold oddC1
  rw [cond_dec, if_neg (by omega), cond_f, decide_eq_false (by omega)]

theorem odd_runs {s : List Int} (h : ∀ x ∈ s, 0 ≤ x ∧ x ≤ 65535) (hl : s.length ≤ 1000000) : Runs (ContainsFunc_odd s) fun r => r.1.1 = false := by
  unfold ContainsFunc_odd
  refine Runs.bindQ (Q1 := fun r => r.1.1 = -1) ?_ (fun r hr => Runs.ret (by dsimp only; rw [hr]; rfl))
  unfold IndexFunc_odd IndexFunc_oddF
  simp only [nI_def]
  refine Runs.iter (fun y => 0 ≤ y ∧ y ≤ s.length) (fun y => (s.length - y).toNat) ?_ ⟨by omega, by omega⟩ (fuelN_gt (by omega))
  rintro i ⟨i0, i1⟩
  refine Runs.dec (fun hlt => ?_) (fun hlt => Runs.ret rfl)
  obtain ⟨x0, x1⟩ := h _ (getI_mem i0 hlt)
  refine Runs.gd i0 (Runs.gd hlt (Runs.bind (odd1_is x0 x1) ?_))
  exact Runs.inK (by omega) (Runs.ret ⟨⟨by omega, by omega⟩, by show ((s.length : Int) - (i + 1)).toNat < ((s.length : Int) - i).toNat; omega⟩)

theorem oddRow_runs {s : List Int} {m : Int} (h : (s.length : Int) = m ∧ ∀ x ∈ s, 0 ≤ x ∧ x ≤ 65535) (hl : m ≤ 1000000) : Runs (oddC s m) fun r => r.1.1 = false ∧ r.2.1.1.1 = m := by
  unfold oddC
  simp only [nI_def]
  rw [cond_neI, if_pos h.1]
  refine Runs.bindQ (odd_runs h.2 (by omega)) ?_
  intro r hr
  exact Runs.ret ⟨hr, rfl⟩

theorem oddRows_runs {tr : List (List Int)} {m : Int} (h : ∀ row ∈ tr, (row.length : Int) = m ∧ ∀ x ∈ row, 0 ≤ x ∧ x ≤ 65535) (hm : m ≤ 1000000) (hl : tr.length ≤ 1000000) : Runs (ContainsFunc_rows tr m) fun r => r.1.1 = false := by
  unfold ContainsFunc_rows
  refine Runs.bindQ (Q1 := fun r => r.1.1 = -1) ?_ (fun r hr => Runs.ret (by dsimp only; rw [hr]; rfl))
  unfold IndexFunc_rows IndexFunc_rowsF
  simp only [nI_def]
  refine Runs.iter (fun y => 0 ≤ y.1 ∧ y.1 ≤ tr.length ∧ y.2 = m) (fun y => (tr.length - y.1).toNat) ?_ ⟨by dsimp only; omega, by dsimp only; omega, rfl⟩ (fuelN_gt (by dsimp only; omega))
  rintro ⟨i, m'⟩ ⟨i0, i1, e⟩
  dsimp only at i0 i1 e ⊢
  subst e
  refine Runs.dec (fun hlt => ?_) (fun hlt => Runs.ret rfl)
  refine Runs.gd i0 (Runs.gd hlt (Runs.bindQ (oddRow_runs (h _ (getL_mem i0 hlt)) hm) ?_))
  rintro ⟨⟨b, ⟨⟩⟩, ⟨⟨m2, ⟨⟩⟩, ⟨⟩⟩, ⟨⟩⟩ ⟨hb, hm2⟩
  dsimp only at hb hm2 ⊢
  subst hb
  exact Runs.inK (by omega) (Runs.ret ⟨⟨by dsimp only; omega, by dsimp only; omega, hm2⟩, by dsimp only; omega⟩)

theorem pinsV_le {gi : Int} {ga : List P2} {ci : List P3} {cl : List LatT} {co : List P3} (h : CircOk gi ga ci cl co) : 0 ≤ pinsV ci ∧ pinsV ci ≤ 65 := by
  unfold pinsV
  split
  · omega
  · obtain ⟨a, b, c, d⟩ := h.ins (ci.length - 1) (by omega) (by omega)
    omega

section
variable {gi : Int} {ga : List P2} {ci : List P3} {cl : List LatT} {co : List P3} (h : CircOk gi ga ci cl co)
include h

/-- A trace's replay: at each step it is legal, and the step hits if and only if it is the last. -/
def TraceOk (gi : Int) (ga : List P2) (ci : List P3) (cl : List LatT) (co : List P3) (out : Int) (tr : List (List Int)) : Prop :=
  1 ≤ tr.length ∧ tr.length ≤ 64 ∧ ∀ n : Nat, n < tr.length → LegalP co (outV gi ga ci cl co tr n) ∧ (HitP co out (outV gi ga ci cl co tr n) ↔ n + 1 = tr.length)

theorem replayed_runs {out : Int} (o0 : 0 ≤ out) (o1 : out < co.length) {tr : List (List Int)} (ht : RowsOk ci tr) (hl : tr.length ≤ 1000) :
    Runs (replayed gi ga ci cl co out tr) fun r => (r.1.1 = true ↔ TraceOk gi ga ci cl co out tr) := by
  have hlo := h.lo
  have hp := pinsV_le h
  unfold replayed replayedF
  simp only [nI_def]
  refine Runs.bind (cpins_runs h) ?_
  refine Runs.dec (fun h1 => Runs.ret ⟨fun e => (by cases e), fun hh => absurd hh.1 (by omega)⟩) (fun h1 => ?_)
  rw [cond_f]
  refine Runs.dec (fun h2 => Runs.ret ⟨fun e => (by cases e), fun hh => absurd hh.2.1 (by omega)⟩) (fun h2 => ?_)
  refine Runs.bindQ (oddRows_runs ht (by dsimp only; omega) (by omega)) ?_
  rintro ⟨⟨b, ⟨⟩⟩, x⟩ hb
  dsimp only at hb ⊢
  subst hb
  rw [cond_f, cond_f]
  refine Runs.bind (first_eq h).1 ?_
  refine Runs.iter (fun y => 0 ≤ y.1 ∧ y.1 ≤ tr.length ∧ y.2 = stV gi ga ci cl co tr y.1.toNat ∧ ∀ n : Nat, (n : Int) < y.1 → LegalP co (outV gi ga ci cl co tr n) ∧ (HitP co out (outV gi ga ci cl co tr n) ↔ n + 1 = tr.length)) (fun y => (tr.length - y.1).toNat) ?_ ⟨by dsimp only; omega, by dsimp only; omega, rfl, fun n hn => by dsimp only at hn; omega⟩ (fuelN_gt (by dsimp only; omega))
  rintro ⟨i, st⟩ ⟨i0, i1, hst, hall⟩
  dsimp only at i0 i1 hst hall ⊢
  obtain ⟨n, rfl⟩ := Int.eq_ofNat_of_zero_le i0
  rw [Int.toNat_natCast] at hst
  subst hst
  refine Runs.dec (fun hlt => ?_) (fun hlt => Runs.ret ⟨fun _ => ⟨by omega, by omega, fun m hm => hall m (by omega)⟩, fun _ => rfl⟩)
  have hrow := (ht _ (getL_mem (l := tr) (i := n) i0 hlt)).1
  refine Runs.gd i0 (Runs.gd hlt (Runs.bind (ins_eq h hrow).1 ?_))
  obtain ⟨e, e1, e2⟩ := step_eq h hrow (st_len h ht n (by omega))
  refine Runs.bind e ?_
  dsimp only
  change ((outV gi ga ci cl co tr n).length = co.length) at e2
  show Runs (iterO (X := Int) (fun y6 =>
              bif decide (y6 < (co.length : Int)) then
                gd (0 ≤ y6) <|
                gd (y6 < (co.length : Int)) <|
                bif (get outT co y6).1 == 9 then
                  gd (0 ≤ y6) <|
                  gd (y6 < ((outV gi ga ci cl co tr n).length : Int)) <|
                  bif bif true then !getB (outV gi ga ci cl co tr n) y6 else false then
                    some (Sum.inr (Sum.inr ((false, ()), (), ())))
                  else
                    gd (inK IntKind.i64 (y6 + 1)) <|
                    some (Sum.inl (y6 + 1))
                else
                  gd (inK IntKind.i64 (y6 + 1)) <|
                  some (Sum.inl (y6 + 1))
              else
                gd (0 ≤ out) <|
                gd (out < ((outV gi ga ci cl co tr n).length : Int)) <|
                gd (0 ≤ out) <|
                gd (out < (co.length : Int)) <|
                gd (inK IntKind.i64 ((tr.length : Int) - 1)) <|
                bif !(getB (outV gi ga ci cl co tr n) out == ((get outT co out).1 == 10)) == ((n : Int) == (tr.length : Int) - 1) then
                  some (Sum.inr (Sum.inr ((false, ()), (), ())))
                else
                  gd (inK IntKind.i64 ((n : Int) + 1)) <|
                  some (Sum.inr (Sum.inl ((n : Int) + 1, stV gi ga ci cl co tr (n + 1))))) fuelN 0) _
  simp only [cond_t]
  refine Runs.iter (fun y => 0 ≤ y ∧ y ≤ co.length ∧ ∀ j, 0 ≤ j → j < y → oK co j = 9 → getB (outV gi ga ci cl co tr n) j = true) (fun y => (co.length - y).toNat) ?_ ⟨by omega, by omega, fun j a b => by omega⟩ (fuelN_gt (by omega))
  rintro j ⟨j0, j1, hleg⟩
  refine Runs.dec (fun hj => ?_) (fun hj => ?_)
  · refine Runs.gd j0 (Runs.gd hj ?_)
    have next : (oK co j = 9 → getB (outV gi ga ci cl co tr n) j = true) → (0 ≤ j + 1 ∧ j + 1 ≤ co.length ∧ ∀ k, 0 ≤ k → k < j + 1 → oK co k = 9 → getB (outV gi ga ci cl co tr n) k = true) ∧ ((co.length : Int) - (j + 1)).toNat < ((co.length : Int) - j).toNat := by
      intro hi
      refine ⟨⟨by omega, by omega, fun k k0 k1 => ?_⟩, by omega⟩
      by_cases e : k = j
      · rw [e]; exact hi
      · exact hleg k k0 (by omega)
    refine Runs.eqI (fun h9 => ?_) (fun h9 => Runs.inK (by omega) (Runs.ret (next (fun e => absurd e h9))))
    refine Runs.gd j0 (Runs.gd (by omega) ?_)
    cases hb : getB (outV gi ga ci cl co tr n) j with
    | true => exact Runs.inK (by omega) (Runs.ret (next (fun _ => hb)))
    | false =>
      refine Runs.ret ⟨fun e => (by cases e), fun hh => ?_⟩
      have := (hh.2.2 n (by omega)).1 j j0 hj h9
      rw [hb] at this
      cases this
  · have leg : LegalP co (outV gi ga ci cl co tr n) := fun k k0 k1 => hleg k k0 (by omega)
    refine Runs.gd o0 (Runs.gd (by omega) (Runs.gd o0 (Runs.gd o1 (Runs.inK (by omega) ?_))))
    have e10 : ((get outT co out).1 == 10) = decide (oK co out = 10) := by
      by_cases e : oK co out = 10
      · rw [decide_eq_true e]; exact beq_iff_eq.2 e
      · rw [decide_eq_false e]; exact beq_eq_false_iff_ne.2 e
    have last : ((n : Int) == (tr.length : Int) - 1) = decide (n + 1 = tr.length) := by
      by_cases e : n + 1 = tr.length
      · rw [decide_eq_true e]; exact beq_iff_eq.2 (by omega)
      · rw [decide_eq_false e]; exact beq_eq_false_iff_ne.2 (by omega)
    rw [e10, last]
    generalize hO : outV gi ga ci cl co tr n = O at *
    by_cases hh : HitP co out O ↔ n + 1 = tr.length
    · have hb : (getB O out == decide (oK co out = 10)) = decide (n + 1 = tr.length) := by
        by_cases q : n + 1 = tr.length
        · rw [decide_eq_true q]; exact beq_iff_eq.2 (hh.2 q)
        · rw [decide_eq_false q]; exact beq_eq_false_iff_ne.2 (fun c => q (hh.1 c))
      rw [hb, beq_self_eq_true, show (!true) = false from rfl, cond_f]
      refine Runs.inK (by omega) (Runs.ret ⟨⟨by dsimp only; omega, by dsimp only; omega, ?_, fun m hm => ?_⟩, by dsimp only; omega⟩)
      · show stV gi ga ci cl co tr (n + 1) = stV gi ga ci cl co tr ((n : Int) + 1).toNat
        rw [show ((n : Int) + 1).toNat = n + 1 by omega]
      · dsimp only at hm
        by_cases e : m = n
        · rw [e, hO]; exact ⟨leg, hh⟩
        · exact hall m (by omega)
    · have hb : ((getB O out == decide (oK co out = 10)) == decide (n + 1 = tr.length)) = false := by
        refine beq_eq_false_iff_ne.2 (fun c => hh ?_)
        constructor
        · intro q
          rw [show (getB O out == decide (oK co out = 10)) = true from beq_iff_eq.2 q] at c
          exact of_decide_eq_true c.symm
        · intro q
          rw [decide_eq_true q] at c
          exact beq_iff_eq.1 c
      rw [hb, show (!false) = true from rfl, cond_t]
      exact Runs.ret ⟨fun e => (by cases e), fun ok => absurd (by have := (ok.2.2 n (by omega)).2; rw [hO] at this; exact this) hh⟩

end
end GoSx
end
section
/- CertTrace, the pure theory, part K: the law. -/
set_option linter.unusedVariables false
set_option linter.unusedSimpArgs false
set_option maxHeartbeats 0
namespace GoSx
open Go
section
variable {gi : Int} {ga : List P2} {ci : List P3} {cl : List LatT} {co : List P3} (h : CircOk gi ga ci cl co)
include h

/-- A certificate of a trace is told right if and only if its trace replays. -/
theorem check_runs {out : Int} (o0 : 0 ≤ out) (o1 : out < co.length) {tr : List (List Int)} (ht : RowsOk ci tr) (hl : tr.length ≤ 1000) {K : Int} (P : Prop) (hP : P ↔ (tr.length : Int) = K ∧ TraceOk gi ga ci cl co out tr) :
    Runs (cCheck gi ga ci cl co out 1 K tr []) fun r => (P ∧ r.1.1 = 0) ∨ (¬ P ∧ r.1.1 = 260) := by
  unfold cCheck
  simp only [nI_def, cond_t]
  rw [cond_eqI, if_pos rfl, cond_eqI, if_pos (show (([] : List (List Int)).length : Int) = 0 from rfl)]
  refine Runs.eqI (fun e => ?_) (fun e => Runs.ret (Or.inr ⟨fun p => e (hP.1 p).1, rfl⟩))
  refine Runs.bindQ (replayed_runs h o0 o1 ht hl) ?_
  rintro ⟨⟨b, ⟨⟩⟩, ⟨⟩, ⟨⟩⟩ hb
  dsimp only at hb ⊢
  cases b with
  | true => exact Runs.ret (Or.inl ⟨hP.2 ⟨e, hb.1 rfl⟩, rfl⟩)
  | false => exact Runs.ret (Or.inr ⟨fun p => (by cases hb.2 (hP.1 p).2), rfl⟩)

/-- The first step that hits. -/
def FirstHit (gi : Int) (ga : List P2) (ci : List P3) (cl : List LatT) (co : List P3) (out : Int) (tr : List (List Int)) (n : Nat) : Prop :=
  n < tr.length ∧ (∀ m : Nat, m ≤ n → LegalP co (outV gi ga ci cl co tr m)) ∧ (∀ m : Nat, m < n → ¬ HitP co out (outV gi ga ci cl co tr m)) ∧ HitP co out (outV gi ga ci cl co tr n)

omit h in
theorem RowsOk.take {ci : List P3} {tr : List (List Int)} (ht : RowsOk ci tr) (n : Nat) : RowsOk ci (tr.take n) := fun r hr => ht r (List.mem_of_mem_take hr)
omit h in
theorem getL_take {tr : List (List Int)} {n i : Nat} (h : i < n) : getL (tr.take n) i = getL tr i := by
  rw [getL_def, getL_def, List.getD_eq_getElem?_getD, List.getD_eq_getElem?_getD, List.getElem?_take]
  rw [if_pos (by omega)]

omit h in
theorem short_ok {out : Int} {tr : List (List Int)} {n : Nat} (hn : FirstHit gi ga ci cl co out tr n) (hl : tr.length ≤ 64) : TraceOk gi ga ci cl co out (tr.take (n + 1)) := by
  obtain ⟨h1, h2, h3, h4⟩ := hn
  have hlen : (tr.take (n + 1)).length = n + 1 := by rw [List.length_take]; omega
  refine ⟨by omega, by omega, fun m hm => ?_⟩
  rw [hlen] at hm ⊢
  have e : outV gi ga ci cl co (tr.take (n + 1)) m = outV gi ga ci cl co tr m := out_same (m := n + 1) (fun i hi => getL_take hi) hm
  rw [e]
  refine ⟨h2 m (by omega), fun hh => ?_, fun hh => ?_⟩
  · have : ¬ m < n := fun c => h3 m c hh
    omega
  · rw [show m = n by omega]; exact h4
omit h in
theorem less_not {out : Int} {tr : List (List Int)} {n : Nat} (hn : FirstHit gi ga ci cl co out tr n) : ¬ TraceOk gi ga ci cl co out (tr.take n) := by
  obtain ⟨h1, h2, h3, h4⟩ := hn
  have hlen : (tr.take n).length = n := by rw [List.length_take]; omega
  rintro ⟨a, b, c⟩
  rw [hlen] at a b c
  have e : outV gi ga ci cl co (tr.take n) (n - 1) = outV gi ga ci cl co tr (n - 1) := out_same (m := n) (fun i hi => getL_take hi) (by omega)
  have := (c (n - 1) (by omega)).2.2 (by omega)
  rw [e] at this
  exact h3 (n - 1) (by omega) this
omit h in
theorem other_not {out : Int} {tr : List (List Int)} {n : Nat} (hn : FirstHit gi ga ci cl co out tr n) (y : List Int) : ¬ TraceOk gi ga ci cl co out (tr.take (n + 1) ++ [y]) := by
  obtain ⟨h1, h2, h3, h4⟩ := hn
  have hlen : (tr.take (n + 1)).length = n + 1 := by rw [List.length_take]; omega
  rintro ⟨a, b, c⟩
  rw [List.length_append, hlen, List.length_singleton] at c
  have e : outV gi ga ci cl co (tr.take (n + 1) ++ [y]) n = outV gi ga ci cl co tr n := out_same (m := n + 1) (fun i hi => by rw [getL_append (by omega), if_pos (by omega), getL_take hi]) (by omega)
  have := (c n (by omega)).2.1 (by rw [e]; exact h4)
  omega
omit h in
theorem long_not {out : Int} {tr : List (List Int)} {n : Nat} (hn : FirstHit gi ga ci cl co out tr n) (hne : n + 1 ≠ tr.length) : ¬ TraceOk gi ga ci cl co out tr := fun ⟨a, b, c⟩ => hne ((c n hn.1).2.1 hn.2.2.2)
end

theorem head26_is : head26 = some ((true, ()), (), ()) := by
  set_option maxRecDepth 1000000 in
  kernel_rfl

theorem certTrace_runs {nn : NodeL} {ni : PinL} {nc : CellL} {np : PropL} {nm : PinL} {p more : Int} {raw : List (List Int)} (p0 : 0 ≤ p) (p1 : p ≤ 255)
    (hraw : ∀ r ∈ raw, ∀ x ∈ r, 0 ≤ x ∧ x ≤ 65535) (m0 : 0 ≤ more) (m1 : more ≤ 65535) :
    Runs (CertTrace nn ni nc np nm p raw more) fun r => r = ((true, ()), (), ()) := by
  unfold CertTrace CertTraceF
  refine Runs.bind head26_is ?_
  refine Runs.bindQ (few26_runs p0 p1) ?_
  rintro ⟨⟨⟨gi, ga, ci, cl, co, ⟨⟩⟩, out, ok, ⟨⟩⟩, ⟨⟩, ⟨⟩⟩ hf
  dsimp only at hf ⊢
  cases ok with
  | false => exact Runs.ret rfl
  | true =>
  obtain ⟨hc, o0, o1, o9⟩ := hf rfl
  rw [show (!true) = false from rfl, cond_f]
  refine Runs.bindQ (rows26_runs hc hraw) ?_
  rintro ⟨⟨R, ⟨⟩⟩, ⟨⟩, ⟨⟩⟩ ⟨hR, ht⟩
  dsimp only at hR ht ⊢
  change RowsOk ci R at ht
  refine Runs.bind (first_eq hc).1 ?_
  have hpv := pinsV_le hc
  have hlo := hc.lo
  simp only [nI_def, cond_t, cond_f, lim_val]
  refine Runs.join (Q1 := fun o => match o with
    | .inl ((k, i), st) => (k = -1 ∧ ¬ TraceOk gi ga ci cl co out R) ∨ ∃ n : Nat, k = n ∧ FirstHit gi ga ci cl co out R n
    | .inr _ => False) ?_ ?_ (fun r hr => hr.elim)
  · refine Runs.iter (fun y => 0 ≤ y.1.2 ∧ y.1.2 ≤ R.length ∧ ((y.1.1 = -1 ∧ y.2 = stV gi ga ci cl co R y.1.2.toNat ∧ ∀ m : Nat, (m : Int) < y.1.2 → LegalP co (outV gi ga ci cl co R m) ∧ ¬ HitP co out (outV gi ga ci cl co R m)) ∨ ∃ n : Nat, y.1.1 = n ∧ FirstHit gi ga ci cl co out R n)) (fun y => (R.length - y.1.2).toNat) ?_ ⟨by dsimp only; omega, by dsimp only; omega, Or.inl ⟨rfl, rfl, fun m hm => by dsimp only at hm; omega⟩⟩ (fuelN_gt (by dsimp only; omega))
    rintro ⟨⟨k, i⟩, st⟩ ⟨i0, i1, hk⟩
    dsimp only at i0 i1 hk ⊢
    rcases hk with ⟨rfl, hst, hall⟩ | hk
    · refine Runs.dec (fun hlt => ?_) (fun hlt => Runs.ret (Or.inl ⟨rfl, fun ⟨a, b, c⟩ => (hall (R.length - 1) (by omega)).2 ((c (R.length - 1) (by omega)).2.2 (by omega))⟩))
      rw [decide_eq_true (show (-1 : Int) < 0 by omega), cond_t]
      obtain ⟨n, rfl⟩ := Int.eq_ofNat_of_zero_le i0
      rw [Int.toNat_natCast] at hst
      subst hst
      have hrow := (ht _ (getL_mem (l := R) (i := n) i0 hlt)).1
      have hsl := st_len hc ht n (by omega)
      obtain ⟨e, e1, e2⟩ := step_eq hc hrow hsl
      rw [cond_neI, if_pos (by rw [hsl])]
      refine Runs.gd i0 (Runs.gd hlt (Runs.bind (ins_eq hc hrow).1 (Runs.bind e ?_)))
      dsimp only
      rw [cond_neI, if_pos (by rw [e2])]
      change ((outV gi ga ci cl co R n).length = co.length) at e2
      refine Runs.bindQ (legal_runs hc e2) ?_
      rintro ⟨⟨b, ⟨⟩⟩, ⟨⟩, ⟨⟩⟩ hb
      dsimp only at hb ⊢
      cases b with
      | false =>
        refine Runs.ret (Or.inl ⟨rfl, fun ⟨a, b, c⟩ => ?_⟩)
        have := hb.2 (c n (by omega)).1
        cases this
      | true =>
      have leg := hb.1 rfl
      rw [show (!true) = false from rfl, cond_f]
      refine Runs.join (Q1 := fun o => match o with
        | .inl k' => (k' = -1 ∧ ¬ HitP co out (outV gi ga ci cl co R n)) ∨ (k' = n ∧ HitP co out (outV gi ga ci cl co R n))
        | .inr _ => False) ?_ ?_ (fun r hr => hr.elim)
      · refine Runs.bindQ (hits_runs hc e2 o0 o1 o9 leg) ?_
        rintro ⟨⟨b, ⟨⟩⟩, ⟨⟩, ⟨⟩⟩ hb2
        dsimp only at hb2 ⊢
        cases b with
        | true => exact Runs.ret (Or.inr ⟨rfl, hb2.1 rfl⟩)
        | false => exact Runs.ret (Or.inl ⟨rfl, fun c => by cases hb2.2 c⟩)
      · intro k' hk'
        refine Runs.inK (by omega) (Runs.ret ⟨⟨by dsimp only; omega, by dsimp only; omega, ?_⟩, by dsimp only; omega⟩)
        dsimp only
        rcases hk' with ⟨rfl, hh⟩ | ⟨rfl, hh⟩
        · refine Or.inl ⟨rfl, ?_, fun m hm => ?_⟩
          · rw [show ((n : Int) + 1).toNat = n + 1 by omega]; rfl
          · by_cases em : m = n
            · rw [em]; exact ⟨leg, hh⟩
            · exact hall m (by omega)
        · refine Or.inr ⟨n, rfl, by omega, fun m hm => ?_, fun m hm => (hall m (by omega)).2, hh⟩
          by_cases em : m = n
          · rw [em]; exact leg
          · exact (hall m (by omega)).1
    · have hk2 := hk
      obtain ⟨n, rfl, _⟩ := hk2
      refine Runs.dec (fun hlt => ?_) (fun hlt => Runs.ret (Or.inr hk))
      rw [decide_eq_false (show ¬ (n : Int) < 0 by omega), cond_f]
      exact Runs.ret (Or.inr hk)
  · rintro ⟨⟨k, i⟩, st⟩ hk
    dsimp only at hk ⊢
    rcases hk with ⟨rfl, hno⟩ | ⟨n, rfl, hn⟩
    · refine Runs.join (Q1 := fun o => match o with
        | .inl x => True
        | .inr _ => False) ?_ ?_ (fun r hr => hr.elim)
      · rw [decide_eq_true (show (-1 : Int) < 0 by omega), cond_t]
        refine Runs.bindQ (check_runs hc o0 o1 ht (by omega) False ⟨False.elim, fun c => hno c.2⟩) ?_
        rintro ⟨⟨b, ⟨⟩⟩, ⟨⟩, ⟨⟩⟩ hb
        rcases hb with ⟨c, _⟩ | ⟨_, hb⟩
        · exact c.elim
        · dsimp only at hb ⊢
          rw [hb]
          exact Runs.ret trivial
      · intro x _
        rw [decide_eq_true (show (-1 : Int) < 0 by omega), cond_t]
        exact Runs.ret rfl
    · have hnl := hn.1
      have hrow := ht _ (getL_mem (l := R) (i := n) (by omega) (by omega))
      refine Runs.join (Q1 := fun o => match o with
        | .inl x => x = R
        | .inr _ => False) ?_ ?_ (fun r hr => hr.elim)
      · rw [decide_eq_false (show ¬ (n : Int) < 0 by omega), cond_f]
        refine Runs.inK (by omega) ?_
        refine Runs.neI (fun e => ?_) (fun e => Runs.ret rfl)
        refine Runs.bindQ (check_runs hc o0 o1 ht (by omega) False ⟨False.elim, fun c => long_not hn (by omega) c.2⟩) ?_
        rintro ⟨⟨b, ⟨⟩⟩, ⟨⟩, ⟨⟩⟩ hb
        rcases hb with ⟨c, _⟩ | ⟨_, hb⟩
        · exact c.elim
        · dsimp only at hb ⊢
          rw [hb]
          exact Runs.ret rfl
      · intro x hx
        dsimp only at hx
        subst hx
        rw [decide_eq_false (show ¬ (n : Int) < 0 by omega), cond_f]
        have e1 : ((n : Int) + 1).toNat = n + 1 := by omega
        simp only [List.drop_zero, List.nil_append, e1, Int.toNat_natCast, List.length_singleton]
        have hlen : (x.take (n + 1)).length = n + 1 := by rw [List.length_take]; omega
        have hlen0 : (x.take n).length = n := by rw [List.length_take]; omega
        refine Runs.inK (by omega) (Runs.inK (by omega) (Runs.gd (by omega) (Runs.gd (by omega) (Runs.gd (by omega) (Runs.gd (by omega) (Runs.gd (by omega) (Runs.gd (by omega) (Runs.gd (by omega) (Runs.gd (by omega) ?_)))))))))
        have hmore : IntKind.i64.wrap more = more := wrapS (by omega) (by omega)
        refine Runs.join (Q1 := fun o => match o with
          | .inl y => (y.length : Int) = pinsV ci ∧ ∀ z ∈ y, 0 ≤ z ∧ z ≤ 65535
          | .inr _ => False) ?_ ?_ (fun r hr => hr.elim)
        · refine Runs.dec (fun hpos => ?_) (fun _ => Runs.ret hrow)
          refine Runs.gd (by omega) (Runs.ret ⟨by rw [List.length_set]; exact hrow.1, fun z hz => ?_⟩)
          rw [hmore] at hz
          rcases List.mem_or_eq_of_mem_set hz with hz | rfl
          · exact hrow.2 z hz
          · exact ⟨m0, m1⟩
        · intro y hy
          dsimp only at hy
          have ht1 : RowsOk ci (x.take (n + 1)) := ht.take _
          have ht0 : RowsOk ci (x.take n) := ht.take _
          have ht2 : RowsOk ci (x.take (n + 1) ++ [y]) := fun r hr => by
            rcases List.mem_append.1 hr with hr | hr
            · exact ht1 r hr
            · rw [List.mem_singleton.1 hr]; exact hy
          have hlen2 : (x.take (n + 1) ++ [y]).length = n + 2 := by rw [List.length_append, hlen, List.length_singleton]
          refine Runs.inK (by omega) (Runs.inK (by omega) (Runs.gd (by omega) (Runs.gd (by omega) (Runs.gd (by omega) (Runs.gd (by omega) (Runs.gd (by omega) (Runs.gd (by omega) (Runs.inK (by omega) ?_))))))))
          refine Runs.bindQ (check_runs hc o0 o1 ht1 (by omega) True ⟨fun _ => ⟨by omega, short_ok hn hR⟩, fun _ => trivial⟩) ?_
          rintro ⟨⟨b, ⟨⟩⟩, ⟨⟩, ⟨⟩⟩ hb
          rcases hb with ⟨_, hb⟩ | ⟨c, _⟩
          case inr => exact absurd trivial c
          dsimp only at hb ⊢
          subst hb
          rw [cond_eqI, if_pos rfl]
          refine Runs.bindQ (check_runs hc o0 o1 ht0 (by omega) False ⟨False.elim, fun c => less_not hn c.2⟩) ?_
          rintro ⟨⟨b, ⟨⟩⟩, ⟨⟩, ⟨⟩⟩ hb
          rcases hb with ⟨c, _⟩ | ⟨_, hb⟩
          · exact c.elim
          dsimp only at hb ⊢
          subst hb
          rw [cond_eqI, if_pos rfl]
          refine Runs.bindQ (check_runs hc o0 o1 ht2 (by omega) False ⟨False.elim, fun c => other_not hn y c.2⟩) ?_
          rintro ⟨⟨b, ⟨⟩⟩, ⟨⟩, ⟨⟩⟩ hb
          rcases hb with ⟨c, _⟩ | ⟨_, hb⟩
          · exact c.elim
          dsimp only at hb ⊢
          subst hb
          rw [cond_eqI, if_pos rfl]
          refine Runs.bindQ (check_runs hc o0 o1 ht1 (K := (n : Int) + 2) (by omega) False ⟨False.elim, fun c => by omega⟩) ?_
          rintro ⟨⟨b, ⟨⟩⟩, ⟨⟩, ⟨⟩⟩ hb
          rcases hb with ⟨c, _⟩ | ⟨_, hb⟩
          · exact c.elim
          dsimp only at hb ⊢
          subst hb
          exact Runs.ret rfl

abbrev netN : Ty := .pair (.sl nodeT) (.pair (.sl pinT) (.pair (.sl cellT) (.pair (.sl propT) (.pair (.sl pinT) .unit))))

theorem certTrace_pure_fit (x : (inTy [netN, .int .u8, .sl (.sl (.int .u16)), .int .u16]).den) (h : inFit [netN, .int .u8, .sl (.sl (.int .u16)), .int .u16] x) :
    CertTrace x.1.1 x.1.2.1 x.1.2.2.1 x.1.2.2.2.1 x.1.2.2.2.2.1 x.2.1 x.2.2.1 x.2.2.2.1 = some ((true, ()), (), ()) := by
  obtain ⟨_, hp, hr, hm, _⟩ := h
  obtain ⟨r, e, rfl⟩ := certTrace_runs (nn := x.1.1) (ni := x.1.2.1) (nc := x.1.2.2.1) (np := x.1.2.2.2.1) (nm := x.1.2.2.2.2.1) hp.1 hp.2 (fun r hr1 z hz => (hr.2 r hr1).2 z hz) hm.1 hm.2
  exact e
end GoSx
end
