/- The texts QA, QB, one behind the other. -/
import Derived.Test.YtcnjjmnjnpoklaaGB1
import Derived.KernelRfl
set_option linter.unusedVariables false
set_option linter.unusedSimpArgs false
section
/- Cubes, the pure theory, part A: words, loops, small functions. -/
set_option linter.unusedVariables false
set_option linter.unusedSimpArgs false
namespace GoSx
open Go

/-! ### Words of models -/
theorem gd_pos {p : Prop} [d : Decidable p] {R : Type} {k : Option R} (h : p) : gd p k = k := by
  unfold gd; exact if_pos h
theorem inK_i64 (n : Int) : inK IntKind.i64 n ↔ -9223372036854775808 ≤ n ∧ n ≤ 9223372036854775807 := Iff.rfl
theorem gd_inK {n : Int} {R : Type} {k : Option R} (h : -9223372036854775808 ≤ n) (h' : n ≤ 9223372036854775807) : gd (inK IntKind.i64 n) k = k := gd_pos ⟨h, h'⟩
theorem bindO_some {X R : Type} (x : X) (k : X → Option R) : bindO (some x) k = k x := rfl
theorem joinO_inl {X R : Type} (x : X) (k : X → Option R) : joinO (some (Sum.inl x)) k = k x := rfl
theorem joinO_inr {X R : Type} (r : R) (k : X → Option R) : joinO (some (Sum.inr r)) k = some r := rfl
theorem cond_dec {p : Prop} [Decidable p] {α : Type} (a b : α) : (bif decide p then a else b) = if p then a else b := by
  by_cases h : p <;> simp [h]
theorem cond_t {α : Type} (a b : α) : (bif true then a else b) = a := rfl
theorem cond_f {α : Type} (a b : α) : (bif false then a else b) = b := rfl
theorem cond_eqI {α : Type} (x y : Int) (a b : α) : (bif x == y then a else b) = if x = y then a else b := by
  by_cases h : x = y
  · simp [h]
  · rw [if_neg h, beq_eq_false_iff_ne.mpr h]; rfl
theorem cond_neI {α : Type} (x y : Int) (a b : α) : (bif x != y then a else b) = if x = y then b else a := by
  by_cases h : x = y
  · simp [h]
  · rw [if_neg h, bne_iff_ne.mpr h]; rfl

/-- Loops: an invariant, a measure. -/
theorem iterO_inv {X R : Type} (b : X → Option (X ⊕ R)) (I : X → Prop) (Q : R → Prop) (m : X → Nat)
    (step : ∀ x, I x → (∃ y, b x = some (.inl y) ∧ I y ∧ m y < m x) ∨ (∃ r, b x = some (.inr r) ∧ Q r)) :
    ∀ n x, I x → m x < n → ∃ r, iterO b n x = some r ∧ Q r := by
  intro n
  induction n with
  | zero => intro x _ h; omega
  | succ n ih =>
    intro x hx hn
    rcases step x hx with ⟨y, h1, h2, h3⟩ | ⟨r, h1, h2⟩
    · obtain ⟨r, h4, h5⟩ := ih y h2 (by omega)
      exact ⟨r, by unfold iterO; rw [h1]; exact h4, h5⟩
    · exact ⟨r, by unfold iterO; rw [h1], h2⟩
/-- Loops: what they compute is one function of what they begin with. -/
theorem iterO_eq {X R : Type} (b : X → Option (X ⊕ R)) (I : X → Prop) (f : X → R) (m : X → Nat)
    (step : ∀ x, I x → (∃ y, b x = some (.inl y) ∧ I y ∧ m y < m x ∧ f y = f x) ∨ b x = some (.inr (f x))) :
    ∀ n x, I x → m x < n → iterO b n x = some (f x) := by
  intro n
  induction n with
  | zero => intro x _ h; omega
  | succ n ih =>
    intro x hx hn
    rcases step x hx with ⟨y, h1, h2, h3, h4⟩ | h1
    · unfold iterO; rw [h1, ← h4]; exact ih y h2 (by omega)
    · unfold iterO; rw [h1]
theorem fuelN_gt {n : Nat} (h : n < 2 ^ 128) : n < fuelN := by
  have : (2:Nat) ^ 128 ≤ 2 ^ 200 := Nat.pow_le_pow_right (by omega) (by omega)
  unfold fuelN; omega

/-! ### Rows -/
theorem getI_def (l : List Int) (i : Int) : getI l i = l.getD i.toNat 0 := rfl
theorem getL_def (l : List (List Int)) (i : Int) : getL l i = l.getD i.toNat [] := rfl
theorem getB_def (l : List Bool) (i : Int) : getB l i = l.getD i.toNat false := rfl
theorem getI_nat (l : List Int) (i : Nat) (h : i < l.length) : getI l i = l[i] := by
  simp [getI_def, h]
theorem getL_nat (l : List (List Int)) (i : Nat) (h : i < l.length) : getL l i = l[i] := by
  simp [getL_def, h]
theorem getI_mem {l : List Int} {i : Int} (h0 : 0 ≤ i) (h : i < l.length) : getI l i ∈ l := by
  have : i.toNat < l.length := by omega
  rw [getI_def]; simp [this]
theorem mem_getI {l : List Int} {x : Int} (h : x ∈ l) : ∃ i : Int, 0 ≤ i ∧ i < l.length ∧ getI l i = x := by
  obtain ⟨n, hn, e⟩ := List.getElem_of_mem h
  exact ⟨n, by omega, by omega, by rw [getI_nat l n hn]; exact e⟩
theorem getL_mem {l : List (List Int)} {i : Int} (h0 : 0 ≤ i) (h : i < l.length) : getL l i ∈ l := by
  have : i.toNat < l.length := by omega
  rw [getL_def]; simp [this]
theorem mem_getL {l : List (List Int)} {x : List Int} (h : x ∈ l) : ∃ i : Int, 0 ≤ i ∧ i < l.length ∧ getL l i = x := by
  obtain ⟨n, hn, e⟩ := List.getElem_of_mem h
  exact ⟨n, by omega, by omega, by rw [getL_nat l n hn]; exact e⟩
theorem getI_set {l : List Int} {i j x : Int} (hi : 0 ≤ i) (hi' : i < l.length) (hj : 0 ≤ j) : getI (l.set i.toNat x) j = if j = i then x else getI l j := by
  rw [getI_def, getI_def, List.getD_eq_getElem?_getD, List.getD_eq_getElem?_getD, List.getElem?_set]
  have : (i.toNat = j.toNat) ↔ j = i := by omega
  have h2 : i.toNat < l.length := by omega
  by_cases h : j = i
  · subst h; simp [h2]
  · simp [h, mt this.mp h]
theorem getL_set {l : List (List Int)} {i j : Int} {x : List Int} (hi : 0 ≤ i) (hi' : i < l.length) (hj : 0 ≤ j) : getL (l.set i.toNat x) j = if j = i then x else getL l j := by
  rw [getL_def, getL_def, List.getD_eq_getElem?_getD, List.getD_eq_getElem?_getD, List.getElem?_set]
  have : (i.toNat = j.toNat) ↔ j = i := by omega
  have h2 : i.toNat < l.length := by omega
  by_cases h : j = i
  · subst h; simp [h2]
  · simp [h, mt this.mp h]
theorem getI_append {l r : List Int} {i : Int} (hi : 0 ≤ i) : getI (l ++ r) i = if i < l.length then getI l i else getI r (i - l.length) := by
  rw [getI_def, getI_def, getI_def, List.getD_eq_getElem?_getD, List.getD_eq_getElem?_getD, List.getD_eq_getElem?_getD]
  by_cases h : i < l.length
  · rw [if_pos h, List.getElem?_append_left (by omega)]
  · rw [if_neg h, List.getElem?_append_right (by omega)]
    have : (i - l.length).toNat = i.toNat - l.length := by omega
    rw [this]
theorem getL_append {l r : List (List Int)} {i : Int} (hi : 0 ≤ i) : getL (l ++ r) i = if i < l.length then getL l i else getL r (i - l.length) := by
  rw [getL_def, getL_def, getL_def, List.getD_eq_getElem?_getD, List.getD_eq_getElem?_getD, List.getD_eq_getElem?_getD]
  by_cases h : i < l.length
  · rw [if_pos h, List.getElem?_append_left (by omega)]
  · rw [if_neg h, List.getElem?_append_right (by omega)]
    have : (i - l.length).toNat = i.toNat - l.length := by omega
    rw [this]
theorem getI_push {l : List Int} {x i : Int} (hi : 0 ≤ i) (hi' : i ≤ l.length) : getI (l ++ [x]) i = if i = l.length then x else getI l i := by
  rw [getI_append hi]
  by_cases h : i = l.length
  · rw [if_neg (by omega), if_pos h]
    have : i - l.length = 0 := by omega
    rw [this]; rfl
  · rw [if_pos (by omega), if_neg h]
theorem getL_push {l : List (List Int)} {x : List Int} {i : Int} (hi : 0 ≤ i) (hi' : i ≤ l.length) : getL (l ++ [x]) i = if i = l.length then x else getL l i := by
  rw [getL_append hi]
  by_cases h : i = l.length
  · rw [if_neg (by omega), if_pos h]
    have : i - l.length = 0 := by omega
    rw [this]; rfl
  · rw [if_pos (by omega), if_neg h]
theorem getI_take {l : List Int} {i : Int} {n : Nat} (hi : 0 ≤ i) (h : i < n) : getI (l.take n) i = getI l i := by
  rw [getI_def, getI_def, List.getD_eq_getElem?_getD, List.getD_eq_getElem?_getD, List.getElem?_take_of_lt (by omega)]
theorem getI_ge {l : List Int} {i : Int} (h : (l.length : Int) ≤ i) : getI l i = 0 := by
  rw [getI_def, List.getD_eq_getElem?_getD, List.getElem?_eq_none (by omega)]; rfl
theorem set_getL {l : List (List Int)} {i : Int} (h0 : 0 ≤ i) (h : i < l.length) : l.set i.toNat (getL l i) = l := by
  have h2 : i.toNat < l.length := by omega
  have : getL l i = l[i.toNat] := by rw [getL_def]; simp [h2]
  rw [this]; exact List.set_getElem_self h2
theorem list_ext_getI {l r : List Int} (h : l.length = r.length) (e : ∀ i : Int, 0 ≤ i → i < l.length → getI l i = getI r i) : l = r := by
  apply List.ext_getElem h
  intro n h1 h2
  have := e n (by omega) (by omega)
  rw [getI_nat l n h1, getI_nat r n h2] at this
  exact this


/-! ### What a model computes, told by a condition -/
def Runs {R : Type} (e : Option R) (Q : R → Prop) : Prop := ∃ r, e = some r ∧ Q r
theorem Runs.ret {R : Type} {Q : R → Prop} {r : R} (h : Q r) : Runs (some r) Q := ⟨r, rfl, h⟩
theorem Runs.gd {R : Type} {Q : R → Prop} {p : Prop} [Decidable p] {k : Option R} (h : p) (hk : Runs k Q) : Runs (GoSx.gd p k) Q := by rw [gd_pos h]; exact hk
theorem Runs.inK {R : Type} {Q : R → Prop} {n : Int} {k : Option R} (h : -9223372036854775808 ≤ n ∧ n ≤ 9223372036854775807) (hk : Runs k Q) : Runs (GoSx.gd (GoSx.inK IntKind.i64 n) k) Q := by rw [gd_inK h.1 h.2]; exact hk
theorem Runs.bind {X R : Type} {Q : R → Prop} {m : Option X} {k : X → Option R} {x : X} (h : m = some x) (hk : Runs (k x) Q) : Runs (bindO m k) Q := by rw [h]; exact hk
theorem Runs.bindQ {X R : Type} {Q : R → Prop} {m : Option X} {k : X → Option R} {Q1 : X → Prop} (h : Runs m Q1) (hk : ∀ x, Q1 x → Runs (k x) Q) : Runs (bindO m k) Q := by
  obtain ⟨x, e, q⟩ := h; rw [e]; exact hk x q
theorem Runs.join {X R : Type} {Q : R → Prop} {a : Option (X ⊕ R)} {k : X → Option R} {Q1 : X ⊕ R → Prop} (h : Runs a Q1) (hk : ∀ x, Q1 (.inl x) → Runs (k x) Q) (hr : ∀ r, Q1 (.inr r) → Q r) : Runs (joinO a k) Q := by
  obtain ⟨o, e, q⟩ := h
  rw [e]
  cases o with
  | inl x => exact hk x q
  | inr r => exact ⟨r, rfl, hr r q⟩
theorem Runs.dec {R : Type} {Q : R → Prop} {p : Prop} [Decidable p] {a b : Option R} (h : p → Runs a Q) (h' : ¬ p → Runs b Q) : Runs (bif decide p then a else b) Q := by
  rw [cond_dec]; split <;> rename_i hp
  · exact h hp
  · exact h' hp
theorem Runs.eqI {R : Type} {Q : R → Prop} {x y : Int} {a b : Option R} (h : x = y → Runs a Q) (h' : x ≠ y → Runs b Q) : Runs (bif x == y then a else b) Q := by
  rw [cond_eqI]; split <;> rename_i hp
  · exact h hp
  · exact h' hp
theorem Runs.neI {R : Type} {Q : R → Prop} {x y : Int} {a b : Option R} (h : x ≠ y → Runs a Q) (h' : x = y → Runs b Q) : Runs (bif x != y then a else b) Q := by
  rw [cond_neI]; split <;> rename_i hp
  · exact h' hp
  · exact h hp
theorem Runs.bool {R : Type} {Q : R → Prop} {c : Bool} {a b : Option R} (h : c = true → Runs a Q) (h' : c = false → Runs b Q) : Runs (bif c then a else b) Q := by
  cases c
  · exact h' rfl
  · exact h rfl
theorem Runs.mono {R : Type} {Q Q' : R → Prop} {e : Option R} (h : Runs e Q) (hq : ∀ r, Q r → Q' r) : Runs e Q' := by
  obtain ⟨r, e, q⟩ := h; exact ⟨r, e, hq r q⟩
/-- One round. -/
def Stp {X R : Type} (I : X → Prop) (Q : R → Prop) (m : X → Nat) (x0 : X) : X ⊕ R → Prop
  | .inl y => I y ∧ m y < m x0
  | .inr r => Q r
theorem Runs.iter {X R : Type} {b : X → Option (X ⊕ R)} {Q : R → Prop} {n : Nat} {x : X} (I : X → Prop) (m : X → Nat) (step : ∀ x, I x → Runs (b x) (Stp I Q m x)) (hx : I x) (hn : m x < n) : Runs (iterO b n x) Q := by
  refine iterO_inv b I Q m ?_ n x hx hn
  intro y hy
  obtain ⟨o, e, q⟩ := step y hy
  cases o with
  | inl z => exact .inl ⟨z, e, q.1, q.2⟩
  | inr r => exact .inr ⟨r, e, q⟩

theorem swap_perm {c : List Int} {i j : Int} (i0 : 0 ≤ i) (i1 : i < c.length) (j0 : 0 ≤ j) (j1 : j < c.length) : ((c.set i.toNat (getI c j)).set j.toNat (getI c i)).Perm c := by
  have gi := getI_nat c i.toNat (by omega)
  have gj := getI_nat c j.toNat (by omega)
  rw [Int.toNat_of_nonneg i0] at gi
  rw [Int.toNat_of_nonneg j0] at gj
  rw [gi, gj]
  exact List.set_set_perm (by omega) (by omega)


theorem Index_ok {l : List Int} {v : Int} (hl : l.length ≤ 4611686018427387904) : ∃ i, Index_ l v = some ((i, ()), (), ()) ∧ (0 ≤ i ↔ v ∈ l) := by
  have : Runs (Index_ l v) (fun o => ∃ i, o = ((i, ()), (), ()) ∧ (0 ≤ i ↔ v ∈ l)) := by
    unfold Index_ Index_F
    refine Runs.iter (fun x : Int => 0 ≤ x ∧ x ≤ l.length ∧ ∀ j : Int, 0 ≤ j → j < x → getI l j ≠ v) (fun x => ((l.length : Int) - x).toNat) ?_ ⟨by omega, by omega, fun j a b => by omega⟩ (fuelN_gt (by omega))
    rintro x ⟨x0, x1, x2⟩
    refine Runs.dec (fun h => ?_) (fun h => ?_)
    · simp only [nI] at h
      refine Runs.gd x0 (Runs.gd (by simp only [nI]; omega) (Runs.eqI (fun e => ?_) (fun e => ?_)))
      · exact Runs.ret ⟨x, rfl, fun _ => by rw [e]; exact getI_mem x0 h, fun _ => x0⟩
      · refine Runs.inK ⟨by omega, by omega⟩ (Runs.ret ⟨⟨by omega, by omega, fun j a b => ?_⟩, by dsimp only; omega⟩)
        by_cases ej : j = x
        · rw [ej]; exact fun e2 => e e2.symm
        · exact x2 j a (by omega)
    · simp only [nI] at h
      refine Runs.ret ⟨-1, rfl, fun a => by omega, fun a => ?_⟩
      obtain ⟨j, j0, j1, j2⟩ := mem_getI a
      exact absurd j2 (x2 j j0 (by omega))
  obtain ⟨_, e, i, rfl, h⟩ := this
  exact ⟨i, e, h⟩
theorem Contains_ok {l : List Int} {v : Int} (hl : l.length ≤ 4611686018427387904) : Contains_ l v = some ((decide (v ∈ l), ()), (), ()) := by
  obtain ⟨i, e, h⟩ := Index_ok (v := v) hl
  unfold Contains_
  rw [e, bindO_some]
  simp only
  have : decide (i ≥ 0) = decide (v ∈ l) := by
    rw [decide_eq_decide]; exact h
  rw [this]
theorem Clone_ok {l : List Int} (hl : l.length ≤ 4398046511104) : Clone_ l = some ((l, ()), (), ()) := by
  unfold Clone_
  rw [gd_pos (by simp only [lim, List.length_nil]; omega), gd_pos (by simp only [lim, List.length_nil]; omega)]

theorem head24_true : head24 = some ((true, ()), (), ()) := by kernel_rfl

/-! ### Latches -/
def ab (x : Int) : Int := if 0 ≤ x then x else -x
theorem ab_def (x : Int) : (0 ≤ x ∧ ab x = x) ∨ (x < 0 ∧ ab x = -x) := by unfold ab; split <;> omega
theorem wrap_id {x : Int} (h : -9223372036854775808 ≤ x) (h' : x ≤ 9223372036854775807) : IntKind.i64.wrap x = x := by rw [IntKind.wrap_i64]; omega
/-- Numbers of a cube that may be used. -/
def Sm (x : Int) : Prop := x ≠ 0 ∧ -1000 ≤ x ∧ x ≤ 1000
theorem latch_ok {x : Int} (h : -1000 ≤ x) (h' : x ≤ 1000) : latch x = some ((ab x, ()), (), ()) := by
  unfold latch
  rw [wrap_id (by omega) (by omega)]
  have : max2 x (0 - x) = ab x := by
    unfold max2 ab
    split <;> split <;> omega
  rw [this]

def hb (state : List Bool) (x : Int) : Bool := decide (ab x ≤ state.length) && (getB state (ab x - 1) == decide (x > 0))
theorem holdsC_ok {x : Int} {state : List Bool} (h : Sm x) : holdsC x state = some ((!hb state x, ()), ((state, ()), ()), ()) := by
  obtain ⟨h0, h1, h2⟩ := h
  have ha := ab_def x
  unfold holdsC hb
  rw [latch_ok h1 h2, bindO_some, cond_dec]
  simp only [nI]
  split
  · rename_i hh
    have : ¬ ab x ≤ state.length := by omega
    simp [this]
  · rename_i hh
    have h3 : ab x ≤ state.length := by omega
    rw [bindO_some]
    dsimp only
    rw [gd_inK (by omega) (by omega), gd_pos (by omega), gd_pos (by omega)]
    simp [h3]

theorem holds_ok {l : List Int} {state : List Bool} (hl : l.length ≤ 1000) (h : ∀ x ∈ l, Sm x) : cHolds l state = some ((l.all (hb state), ()), (), ()) := by
  have : Runs (IndexFunc_holds l state) (fun o => ∃ i : Int, o = ((i, ()), ((state, ()), ()), ()) ∧ (0 ≤ i ↔ ¬ ∀ x ∈ l, hb state x = true)) := by
    unfold IndexFunc_holds IndexFunc_holdsF
    refine Runs.iter (fun x : Int × List Bool => x.2 = state ∧ 0 ≤ x.1 ∧ x.1 ≤ l.length ∧ ∀ j : Int, 0 ≤ j → j < x.1 → hb state (getI l j) = true) (fun x => ((l.length : Int) - x.1).toNat) ?_ ⟨rfl, by dsimp only; omega, by dsimp only; omega, fun j a b => by dsimp only at b; omega⟩ (fuelN_gt (by dsimp only; omega))
    rintro ⟨x, v⟩ ⟨e, x0, x1, x2⟩
    dsimp only at e x0 x1 x2 ⊢
    subst e
    refine Runs.dec (fun hx => ?_) (fun hx => ?_)
    · simp only [nI] at hx
      refine Runs.gd x0 (Runs.gd (by simp only [nI]; omega) (Runs.bind (holdsC_ok (h _ (getI_mem x0 hx))) (Runs.bool (fun c => ?_) (fun c => ?_))))
      · refine Runs.ret ⟨x, rfl, fun _ hall => ?_, fun _ => x0⟩
        have := hall _ (getI_mem x0 hx)
        simp [this] at c
      · refine Runs.inK ⟨by omega, by omega⟩ (Runs.ret ⟨⟨rfl, by dsimp only; omega, by dsimp only; omega, fun j a b => ?_⟩, by dsimp only; omega⟩)
        dsimp only at b
        by_cases ej : j = x
        · rw [ej]; simpa using c
        · exact x2 j a (by omega)
    · simp only [nI] at hx
      refine Runs.ret ⟨-1, rfl, fun a => by omega, fun a => ?_⟩
      exfalso
      apply a
      intro y hy
      obtain ⟨j, j0, j1, j2⟩ := mem_getI hy
      rw [← j2]
      exact x2 j j0 (by omega)
  obtain ⟨_, e, i, rfl, hi⟩ := this
  unfold cHolds ContainsFunc_holds
  rw [e, bindO_some, bindO_some]
  have : (!decide (i ≥ 0)) = l.all (hb state) := by
    rw [Bool.eq_iff_iff]
    simp only [Bool.not_eq_true', decide_eq_false_iff_not, List.all_eq_true]
    constructor
    · intro h1
      by_cases h2 : ∀ x ∈ l, hb state x = true
      · exact h2
      · exact absurd (hi.mpr h2) h1
    · intro h1 h2
      exact hi.mp h2 h1
  rw [this]

theorem covers_ok {a b : List Int} (ha : a.length ≤ 1000) (hb : b.length ≤ 1000) : cCovers a b = some ((a.all (fun x => decide (x ∈ b)), ()), (), ()) := by
  have hc : ∀ x, coversC x b = some ((!decide (x ∈ b), ()), ((b, ()), ()), ()) := fun x => by
    unfold coversC
    rw [Contains_ok (by omega), bindO_some]
  have : Runs (IndexFunc_covers a b) (fun o => ∃ i : Int, o = ((i, ()), ((b, ()), ()), ()) ∧ (0 ≤ i ↔ ¬ ∀ x ∈ a, x ∈ b)) := by
    unfold IndexFunc_covers IndexFunc_coversF
    refine Runs.iter (fun x : Int × List Int => x.2 = b ∧ 0 ≤ x.1 ∧ x.1 ≤ a.length ∧ ∀ j : Int, 0 ≤ j → j < x.1 → getI a j ∈ b) (fun x => ((a.length : Int) - x.1).toNat) ?_ ⟨rfl, by dsimp only; omega, by dsimp only; omega, fun j a b => by dsimp only at b; omega⟩ (fuelN_gt (by dsimp only; omega))
    rintro ⟨x, v⟩ ⟨e, x0, x1, x2⟩
    dsimp only at e x0 x1 x2 ⊢
    subst e
    refine Runs.dec (fun hx => ?_) (fun hx => ?_)
    · simp only [nI] at hx
      refine Runs.gd x0 (Runs.gd (by simp only [nI]; omega) (Runs.bind (hc _) (Runs.bool (fun c => ?_) (fun c => ?_))))
      · refine Runs.ret ⟨x, rfl, fun _ hall => ?_, fun _ => x0⟩
        have := hall _ (getI_mem x0 hx)
        simp [this] at c
      · refine Runs.inK ⟨by omega, by omega⟩ (Runs.ret ⟨⟨rfl, by dsimp only; omega, by dsimp only; omega, fun j a b => ?_⟩, by dsimp only; omega⟩)
        dsimp only at b
        by_cases ej : j = x
        · rw [ej]; simpa using c
        · exact x2 j a (by omega)
    · simp only [nI] at hx
      refine Runs.ret ⟨-1, rfl, fun a => by omega, fun a => ?_⟩
      exfalso
      apply a
      intro y hy
      obtain ⟨j, j0, j1, j2⟩ := mem_getI hy
      rw [← j2]
      exact x2 j j0 (by omega)
  obtain ⟨_, e, i, rfl, hi⟩ := this
  unfold cCovers ContainsFunc_covers
  rw [e, bindO_some, bindO_some]
  have : (!decide (i ≥ 0)) = a.all (fun x => decide (x ∈ b)) := by
    rw [Bool.eq_iff_iff]
    simp only [Bool.not_eq_true', decide_eq_false_iff_not, List.all_eq_true, decide_eq_true_eq]
    constructor
    · intro h1
      by_cases h2 : ∀ x ∈ a, x ∈ b
      · exact h2
      · exact absurd (hi.mpr h2) h1
    · intro h1 h2
      exact hi.mp h2 h1
  rw [this]

theorem sameInts_ok {a b : List Int} (ha : a.length ≤ 1000) : sameInts a b = some ((decide (a = b), ()), (), ()) := by
  suffices hs : Runs (sameInts a b) (fun o => o = ((decide (a = b), ()), (), ())) by
    obtain ⟨_, e, rfl⟩ := hs; exact e
  unfold sameInts sameIntsF
  refine Runs.neI (fun h => Runs.ret ?_) (fun h => ?_)
  · have : a ≠ b := fun e => h (by rw [e])
    rw [decide_eq_false this]
  · simp only [nI] at h
    refine Runs.iter (fun x : Int => 0 ≤ x ∧ x ≤ a.length ∧ ∀ j : Int, 0 ≤ j → j < x → getI a j = getI b j) (fun x => ((a.length : Int) - x).toNat) ?_ ⟨by omega, by omega, fun j a b => by omega⟩ (fuelN_gt (by omega))
    rintro x ⟨x0, x1, x2⟩
    refine Runs.dec (fun hx => ?_) (fun hx => ?_)
    · simp only [nI] at hx
      refine Runs.gd x0 (Runs.gd (by simp only [nI]; omega) (Runs.gd x0 (Runs.gd (by simp only [nI]; omega) (Runs.neI (fun c => ?_) (fun c => ?_)))))
      · refine Runs.ret ?_
        have : a ≠ b := fun e => c (by rw [e])
        show _ = _
        rw [decide_eq_false this]
      · refine Runs.inK ⟨by omega, by omega⟩ (Runs.ret ⟨⟨by omega, by omega, fun j a b => ?_⟩, by dsimp only; omega⟩)
        by_cases ej : j = x
        · rw [ej]; exact c
        · exact x2 j a (by omega)
    · simp only [nI] at hx
      refine Runs.ret ?_
      have : a = b := list_ext_getI (by omega) fun i i0 i1 => x2 i i0 (by omega)
      show _ = _
      rw [decide_eq_true this]

theorem clause_ok {l : List Int} (hl : l.length ≤ 1000) (h : ∀ x ∈ l, Sm x) : cClause l = some ((l.map (fun x => -x), ()), (), ()) := by
  suffices hs : Runs (cClause l) (fun o => o = ((l.map (fun x => -x), ()), (), ())) by
    obtain ⟨_, e, rfl⟩ := hs; exact e
  unfold cClause cClauseF
  refine Runs.iter (fun x : Int × List Int => 0 ≤ x.1 ∧ x.1 ≤ l.length ∧ x.2 = (l.take x.1.toNat).map (fun x => -x)) (fun x => ((l.length : Int) - x.1).toNat) ?_ ⟨by dsimp only; omega, by dsimp only; omega, by simp⟩ (fuelN_gt (by dsimp only; omega))
  rintro ⟨x, v⟩ ⟨x0, x1, hv⟩
  dsimp only at x0 x1 hv ⊢
  subst hv
  refine Runs.dec (fun hx => ?_) (fun hx => ?_)
  · simp only [nI] at hx
    obtain ⟨_, h1, h2⟩ := h _ (getI_mem x0 hx)
    have hlen : ((l.take x.toNat).map (fun x => -x)).length ≤ 1000 := by simp; omega
    refine Runs.gd x0 (Runs.gd (by simp only [nI]; omega) (Runs.gd (by simp only [lim, List.length_singleton]; omega) (Runs.gd (by simp only [lim, List.length_singleton]; omega) (Runs.ret ⟨⟨?_, ?_, ?_⟩, ?_⟩))))
    · dsimp only; rw [wrap_id (by omega) (by omega)]; omega
    · dsimp only; rw [wrap_id (by omega) (by omega)]; omega
    · dsimp only
      rw [wrap_id (by omega) (by omega), wrap_id (by omega) (by omega), show (x + 1).toNat = x.toNat + 1 by omega, List.take_add_one, List.map_append]
      have hxn : x.toNat < l.length := by omega
      have hg : getI l x = l[x.toNat] := by rw [getI_def]; simp [hxn]
      simp [hg, hxn]
    · dsimp only; rw [wrap_id (by omega) (by omega)]; omega
  · simp only [nI] at hx
    have : x.toNat = l.length := by omega
    exact Runs.ret (by show _ = _; rw [this, List.take_length])

theorem of_ok {s : List Bool} (hl : s.length ≤ 500) : Runs (cOf s) (fun o => ∃ l, o = ((l, ()), (), ()) ∧ l.length = s.length ∧ ∀ i : Int, 0 ≤ i → i < s.length → getI l i = if getB s i then i + 1 else -i - 1) := by
  unfold cOf cOfF
  refine Runs.iter (fun x : Int × List Int => 0 ≤ x.1 ∧ x.1 ≤ s.length ∧ (x.2.length : Int) = x.1 ∧ ∀ i : Int, 0 ≤ i → i < x.1 → getI x.2 i = if getB s i then i + 1 else -i - 1) (fun x => ((s.length : Int) - x.1).toNat) ?_ ⟨by dsimp only; omega, by dsimp only; omega, rfl, fun i a b => by dsimp only at b; omega⟩ (fuelN_gt (by dsimp only; omega))
  rintro ⟨x, v⟩ ⟨x0, x1, x2, x3⟩
  dsimp only at x0 x1 x2 x3 ⊢
  refine Runs.dec (fun hx => ?_) (fun hx => ?_)
  · simp only [nI] at hx
    refine Runs.gd x0 (Runs.gd (by simp only [nI]; omega) (Runs.bool (fun c => ?_) (fun c => ?_)))
    · refine Runs.inK ⟨by omega, by omega⟩ (Runs.gd (by simp only [lim, List.length_singleton]; omega) (Runs.gd (by simp only [lim, List.length_singleton]; omega) (Runs.inK ⟨by omega, by omega⟩ (Runs.ret ⟨⟨by dsimp only; omega, by dsimp only; omega, by simp; omega, fun i a b => ?_⟩, by dsimp only; omega⟩))))
      dsimp only at b ⊢
      rw [getI_push a (by omega)]
      split
      · rename_i e
        have : i = x := by omega
        rw [this, c]; rfl
      · exact x3 i a (by omega)
    · refine Runs.inK ⟨by omega, by omega⟩ (Runs.inK ⟨by omega, by omega⟩ (Runs.gd (by simp only [lim, List.length_singleton]; omega) (Runs.gd (by simp only [lim, List.length_singleton]; omega) (Runs.inK ⟨by omega, by omega⟩ (Runs.ret ⟨⟨by dsimp only; omega, by dsimp only; omega, by simp; omega, fun i a b => ?_⟩, by dsimp only; omega⟩)))))
      dsimp only at b ⊢
      rw [getI_push a (by omega)]
      split
      · rename_i e
        have : i = x := by omega
        rw [this, c]
        simp only [Bool.false_eq_true, if_false]
        omega
      · exact x3 i a (by omega)
  · simp only [nI] at hx
    exact Runs.ret ⟨v, rfl, by omega, fun i a b => x3 i a (by omega)⟩

theorem narrow_ok (l : List Int) : ∃ x, narrow l = some ((x, ()), (), ()) ∧ x.length ≤ 12 ∧ ∀ e ∈ x, e ≠ 0 ∧ -6 ≤ e ∧ e ≤ 6 := by
  have : Runs (narrow l) (fun o => ∃ x, o = ((x, ()), (), ()) ∧ x.length ≤ 12 ∧ ∀ e ∈ x, e ≠ 0 ∧ -6 ≤ e ∧ e ≤ 6) := by
    unfold narrow narrowF
    refine Runs.iter (fun x : Int × List Int => 0 ≤ x.1 ∧ x.1 ≤ 12 ∧ (x.2.length : Int) ≤ x.1 ∧ ∀ e ∈ x.2, e ≠ 0 ∧ -6 ≤ e ∧ e ≤ 6) (fun x => (12 - x.1).toNat) ?_ ⟨by dsimp only; omega, by dsimp only; omega, by simp, fun i a => by cases a⟩ (fuelN_gt (by dsimp only; omega))
    rintro ⟨x, v⟩ ⟨x0, x1, x2, x3⟩
    dsimp only at x0 x1 x2 x3 ⊢
    refine Runs.dec (fun hx => ?_) (fun hx => ?_)
    · simp only [nI] at hx
      rw [cond_t]
      refine Runs.dec (fun h12 => ?_) (fun h12 => ?_)
      · refine Runs.gd x0 (Runs.gd (by simp only [nI]; omega) ?_)
        generalize hz : (IntKind.i64.wrap (get (Ty.int IntKind.i8) l x)).tmod 7 = z
        have hz1 : -6 ≤ z ∧ z ≤ 6 := by
          rw [← hz]
          have q := Int.tmod_add_mul_tdiv (IntKind.i64.wrap (get (Ty.int IntKind.i8) l x)) 7
          rcases Int.le_total 0 (IntKind.i64.wrap (get (Ty.int IntKind.i8) l x)) with h0 | h0
          · have := Int.tmod_nonneg 7 h0
            have := Int.tmod_lt_of_pos (IntKind.i64.wrap (get (Ty.int IntKind.i8) l x)) (b := 7) (by omega)
            omega
          · have h1 := Int.neg_tmod (a := IntKind.i64.wrap (get (Ty.int IntKind.i8) l x)) (b := 7)
            have := Int.tmod_nonneg (a := -(IntKind.i64.wrap (get (Ty.int IntKind.i8) l x))) 7 (by omega)
            have := Int.tmod_lt_of_pos (-(IntKind.i64.wrap (get (Ty.int IntKind.i8) l x))) (b := 7) (by omega)
            omega
        refine Runs.neI (fun c => ?_) (fun c => ?_)
        · refine Runs.gd (by simp only [lim, List.length_singleton]; omega) (Runs.gd (by simp only [lim, List.length_singleton]; omega) (Runs.inK ⟨by omega, by omega⟩ (Runs.ret ⟨⟨by dsimp only; omega, by dsimp only; omega, by simp; omega, fun e he => ?_⟩, by dsimp only; omega⟩)))
          dsimp only at he
          rcases List.mem_append.1 he with h | h
          · exact x3 e h
          · rw [List.mem_singleton.1 h]; exact ⟨c, hz1⟩
        · exact Runs.inK ⟨by omega, by omega⟩ (Runs.ret ⟨⟨by dsimp only; omega, by dsimp only; omega, by dsimp only; omega, x3⟩, by dsimp only; omega⟩)
      · exact Runs.ret ⟨v, rfl, by omega, x3⟩
    · exact Runs.ret ⟨v, rfl, by omega, x3⟩
  obtain ⟨_, e, x, rfl, h⟩ := this
  exact ⟨x, e, h⟩

theorem bits24_ok (l : List Bool) : ∃ s, bits24 l 6 = some ((s, ()), (), ()) ∧ s.length = 6 := by
  have : Runs (bits24 l 6) (fun o => ∃ x, o = ((x, ()), (), ()) ∧ x.length = 6) := by
    unfold bits24 bits24F
    refine Runs.iter (fun x : Int × List Bool => 0 ≤ x.1 ∧ x.1 ≤ 6 ∧ (x.2.length : Int) = x.1) (fun x => (6 - x.1).toNat) ?_ ⟨by dsimp only; omega, by dsimp only; omega, by simp⟩ (fuelN_gt (by dsimp only; omega))
    rintro ⟨x, v⟩ ⟨x0, x1, x2⟩
    dsimp only at x0 x1 x2 ⊢
    refine Runs.dec (fun hx => ?_) (fun hx => ?_)
    · refine Runs.dec (fun h12 => ?_) (fun h12 => ?_)
      · exact Runs.gd x0 (Runs.gd (by simp only [nI] at h12 ⊢; omega) (Runs.gd (by simp only [lim, List.length_singleton]; omega) (Runs.gd (by simp only [lim, List.length_singleton]; omega) (Runs.inK ⟨by omega, by omega⟩ (Runs.ret ⟨⟨by dsimp only; omega, by dsimp only; omega, by simp; omega⟩, by dsimp only; omega⟩)))))
      · exact Runs.gd (by simp only [lim]; omega) (Runs.gd (by simp only [lim]; omega) (Runs.inK ⟨by omega, by omega⟩ (Runs.ret ⟨⟨by dsimp only; omega, by dsimp only; omega, by simp; omega⟩, by dsimp only; omega⟩)))
    · exact Runs.ret ⟨v, rfl, by omega⟩
  obtain ⟨_, e, x, rfl, h⟩ := this
  exact ⟨x, e, h⟩

/-! ### States of six latches -/
def bitsL (k : Nat) : List Bool := (List.range 6).map k.testBit
theorem Bits16_all : (List.range 64).all (fun k => Bits16 k 6 == some ((bitsL k, ()), (), ())) = true := by kernel_rfl
theorem Bits16_ok {k : Int} (h : 0 ≤ k) (h' : k < 64) : Bits16 k 6 = some ((bitsL k.toNat, ()), (), ()) := by
  have := List.all_eq_true.1 Bits16_all k.toNat (List.mem_range.2 (by omega))
  obtain ⟨n, rfl⟩ : ∃ n : Nat, k = (n : Int) := ⟨k.toNat, (Int.toNat_of_nonneg h).symm⟩
  simpa using this
def vB (b : Bool) : Nat := if b then 1 else 0
theorem bits_any : ∀ a b c d e f : Bool, ∃ k : Nat, k < 64 ∧ bitsL k = [a, b, c, d, e, f] := by
  intro a b c d e f
  refine ⟨vB a + 2 * vB b + 4 * vB c + 8 * vB d + 16 * vB e + 32 * vB f, ?_⟩
  cases a <;> cases b <;> cases c <;> cases d <;> cases e <;> cases f <;> decide
theorem bitsL_len (k : Nat) : (bitsL k).length = 6 := by simp [bitsL]
end GoSx
end
section
/- Cubes, the pure theory, part B: the sort, and cubes in order. -/
set_option linter.unusedVariables false
set_option linter.unusedSimpArgs false
namespace GoSx
open Go

/-- Latches first, then signs. -/
def K (x : Int) : Int := if 0 < x then 2 * x + 1 else -2 * x
theorem K_def (x : Int) : (0 < x ∧ K x = 2 * x + 1) ∨ (x ≤ 0 ∧ K x = -2 * x) := by unfold K; split <;> omega

theorem cmp_ok (x y : Int) : cmpCompare x y = some ((if x < y then -1 else if x > y then 1 else 0, ()), (), ()) := by
  unfold cmpCompare cmpIsNaN
  simp only [bindO_some, bne_self_eq_false, cond_f, cond_dec]
  split
  · rfl
  · split <;> rfl
theorem or2_ok (x y : Int) : cmpOr [x, y] = some ((if x ≠ 0 then x else y, ()), (), ()) := by
  suffices hs : Runs (cmpOr [x, y]) (fun o => o = ((if x ≠ 0 then x else y, ()), (), ())) by
    obtain ⟨_, e, rfl⟩ := hs; exact e
  unfold cmpOr cmpOrF
  refine Runs.iter (fun i : Int => 0 ≤ i ∧ i ≤ 2 ∧ (0 < i → x = 0) ∧ (1 < i → y = 0)) (fun i => (2 - i).toNat) ?_ ⟨by omega, by omega, by omega, by omega⟩ (fuelN_gt (by omega))
  rintro i ⟨i0, i1, i2, i3⟩
  refine Runs.dec (fun h => ?_) (fun h => ?_)
  · simp only [nI, List.length_cons, List.length_nil] at h
    refine Runs.gd i0 (Runs.gd (by simp only [nI, List.length_cons, List.length_nil]; omega) ?_)
    have hi : i = 0 ∨ i = 1 := by omega
    rcases hi with rfl | rfl
    · have e : getI [x, y] 0 = x := rfl
      rw [e]
      refine Runs.neI (fun c => Runs.ret ?_) (fun c => Runs.inK ⟨by omega, by omega⟩ (Runs.ret ⟨⟨by omega, by omega, fun _ => c, by omega⟩, by dsimp only; omega⟩))
      show _ = _
      rw [if_pos c]
    · have e : getI [x, y] 1 = y := rfl
      rw [e]
      have hx := i2 (by omega)
      refine Runs.neI (fun c => Runs.ret ?_) (fun c => Runs.inK ⟨by omega, by omega⟩ (Runs.ret ⟨⟨by omega, by omega, fun _ => hx, fun _ => c⟩, by dsimp only; omega⟩))
      show _ = _
      rw [if_neg (by omega)]
  · simp only [nI, List.length_cons, List.length_nil] at h
    refine Runs.ret ?_
    show _ = _
    have hx := i2 (by omega)
    have hy := i3 (by omega)
    rw [if_neg (by omega), hy]
theorem normC_ok {a b : Int} (ha : -1000 ≤ a ∧ a ≤ 1000) (hb : -1000 ≤ b ∧ b ≤ 1000) : ∃ c, normC a b = some ((c, ()), (), ()) ∧ (c < 0 ↔ K a < K b) := by
  unfold normC
  rw [latch_ok ha.1 ha.2, bindO_some, latch_ok hb.1 hb.2, bindO_some, cmp_ok, bindO_some, cmp_ok, bindO_some, or2_ok, bindO_some]
  refine ⟨_, rfl, ?_⟩
  have h1 := K_def a
  have h2 := K_def b
  have h3 := ab_def a
  have h4 := ab_def b
  dsimp only
  repeat' split
  all_goals omega

/-- In order. -/
def Srt (l : List Int) (n : Int) : Prop := ∀ p q : Int, 0 ≤ p → p < q → q < n → K (getI l p) ≤ K (getI l q)

theorem insSort_ok {l : List Int} (hl : l.length ≤ 1000) (h : ∀ x ∈ l, -1000 ≤ x ∧ x ≤ 1000) : ∃ r, insSort l 0 l.length = some r ∧ r.Perm l ∧ Srt r r.length := by
  suffices hs : Runs (insSort l 0 l.length) (fun r => r.Perm l ∧ Srt r r.length) by exact hs
  unfold insSort insSortF
  refine Runs.inK ⟨by omega, by omega⟩ ?_
  refine Runs.iter (fun x : Int × List Int => 1 ≤ x.1 ∧ x.1 ≤ l.length + 1 ∧ x.2.Perm l ∧ Srt x.2 (min x.1 l.length)) (fun x => ((l.length : Int) + 1 - x.1).toNat) ?_ ⟨by dsimp only; omega, by dsimp only; omega, List.Perm.refl _, fun p q a b c => by dsimp only at c; omega⟩ (fuelN_gt (by dsimp only; omega))
  rintro ⟨i, v⟩ ⟨i0, i1, i2, i3⟩
  dsimp only at i0 i1 i2 i3 ⊢
  refine Runs.dec (fun hi => ?_) (fun hi => ?_)
  · -- one more comes in
    refine Runs.mono (Q := fun o => ∃ v', o = Sum.inl (i + 1, v') ∧ v'.Perm l ∧ Srt v' (i + 1)) ?_ ?_
    · refine Runs.iter (fun x : Int × List Int => 0 ≤ x.1 ∧ x.1 ≤ i ∧ x.2.Perm l ∧ ∀ p q : Int, 0 ≤ p → p < q → q ≤ i → q ≠ x.1 → K (getI x.2 p) ≤ K (getI x.2 q)) (fun x => x.1.toNat) ?_ ⟨by dsimp only; omega, by dsimp only; omega, i2, fun p q a b c d => i3 p q a b (by dsimp only at d; omega)⟩ (fuelN_gt (by dsimp only; omega))
      rintro ⟨j, u⟩ ⟨j0, j1, j2, j3⟩
      dsimp only at j0 j1 j2 j3 ⊢
      have hul : u.length = l.length := j2.length_eq
      refine Runs.dec (fun hj => ?_) (fun hj => ?_)
      · refine Runs.gd j0 (Runs.gd (by simp only [nI]; omega) (Runs.inK ⟨by omega, by omega⟩ (Runs.gd (by omega) (Runs.gd (by simp only [nI]; omega) ?_))))
        have hb : ∀ y ∈ u, -1000 ≤ y ∧ y ≤ 1000 := fun y hy => h y (j2.mem_iff.1 hy)
        obtain ⟨c, ec, hc⟩ := normC_ok (hb _ (getI_mem (l := u) (i := j) j0 (by omega))) (hb _ (getI_mem (l := u) (i := j - 1) (by omega) (by omega)))
        refine Runs.bind ec ?_
        rw [cond_t]
        refine Runs.dec (fun hlt => ?_) (fun hlt => ?_)
        · have hk := hc.1 hlt
          refine Runs.inK ⟨by omega, by omega⟩ (Runs.inK ⟨by omega, by omega⟩ (Runs.gd (by omega) (Runs.gd (by simp only [nI]; omega) (Runs.gd j0 (Runs.gd (by simp only [nI]; omega) (Runs.gd j0 (Runs.gd (by simp only [nI]; omega) (Runs.gd (by omega) (Runs.gd (by simp only [nI, List.length_set]; omega) (Runs.inK ⟨by omega, by omega⟩ (Runs.ret ⟨⟨by dsimp only; omega, by dsimp only; omega, ?_, ?_⟩, by dsimp only; omega⟩)))))))))))
          · exact (swap_perm (c := u) (i := j) (j := j - 1) j0 (by omega) (by omega) (by omega)).trans j2
          · intro p q hp hpq hqi hqj
            dsimp only at hqj ⊢
            have g : ∀ k : Int, 0 ≤ k → getI ((u.set j.toNat (getI u (j - 1))).set (Int.toNat (j - 1)) (getI u j)) k = if k = j - 1 then getI u j else if k = j then getI u (j - 1) else getI u k := fun k hk => by
              rw [getI_set (by omega) (by rw [List.length_set]; omega) hk, getI_set j0 (by omega) hk]
            rw [g p hp, g q (by omega), if_neg hqj]
            by_cases q1 : q = j
            · rw [if_pos q1]
              by_cases p1 : p = j - 1
              · rw [if_pos p1]; omega
              · rw [if_neg p1, if_neg (by omega)]
                exact j3 p (j - 1) hp (by omega) (by omega) (by omega)
            · rw [if_neg q1]
              by_cases p1 : p = j - 1
              · rw [if_pos p1]
                exact j3 j q j0 (by omega) hqi q1
              · rw [if_neg p1]
                by_cases p2 : p = j
                · rw [if_pos p2]
                  exact j3 (j - 1) q (by omega) (by omega) hqi q1
                · rw [if_neg p2]
                  exact j3 p q hp hpq hqi q1
        · have hk : ¬ K (getI u j) < K (getI u (j - 1)) := fun x => hlt (hc.2 x)
          refine Runs.inK ⟨by omega, by omega⟩ (Runs.ret ⟨u, rfl, j2, fun p q hp hpq hqi => ?_⟩)
          by_cases q1 : q = j
          · rw [q1]
            by_cases p1 : p = j - 1
            · rw [p1]; omega
            · have := j3 p (j - 1) hp (by omega) (by omega) (by omega)
              omega
          · exact j3 p q hp hpq (by omega) q1
      · refine Runs.inK ⟨by omega, by omega⟩ (Runs.ret ⟨u, rfl, j2, fun p q hp hpq hqi => j3 p q hp hpq (by omega) (by omega)⟩)
    · rintro o ⟨v', rfl, h1, h2⟩
      refine ⟨⟨by dsimp only; omega, by dsimp only; omega, h1, fun p q a b c => h2 p q a b (by dsimp only at c; omega)⟩, by dsimp only; omega⟩
  · refine Runs.ret ⟨i2, fun p q a b c => i3 p q a b ?_⟩
    have := i2.length_eq
    omega

theorem bitsLen_all : (List.range 13).all (fun n => (bitsLen (IntKind.u64.wrap (nI n))).isSome) = true := by kernel_rfl

theorem sort_ok {l : List Int} (hl : l.length ≤ 12) (h : ∀ x ∈ l, -1000 ≤ x ∧ x ≤ 1000) : ∃ r, sortFunc l = some r ∧ r.Perm l ∧ Srt r r.length := by
  obtain ⟨r, er, h1, h2⟩ := insSort_ok (l := l) (by omega) h
  have hb := List.all_eq_true.1 bitsLen_all l.length (List.mem_range.2 (by omega))
  obtain ⟨y, ey⟩ := Option.isSome_iff_exists.1 hb
  refine ⟨r, ?_, h1, h2⟩
  have hp : ∀ m : Int, pdq l 0 (nI l.length) m = some r := fun m => by
    suffices hs : Runs (pdq l 0 (nI l.length) m) (fun o => o = r) by
      obtain ⟨_, e, rfl⟩ := hs; exact e
    unfold pdq pdqF
    refine Runs.iter (fun _ : Unit => True) (fun _ => 0) ?_ trivial (fuelN_gt (by omega))
    rintro ⟨⟩ _
    simp only [nI]
    refine Runs.inK ⟨by omega, by omega⟩ (Runs.dec (fun h => ?_) (fun h => by omega))
    exact Runs.bind er (Runs.ret rfl)
  unfold sortFunc
  rw [ey, bindO_some, hp, bindO_some]

/-! ### Equal neighbours -/
theorem mem_dedup : ∀ (l : List Int) (x : Int), x ∈ dedup l ↔ x ∈ l
  | [], _ => Iff.rfl
  | [_], _ => Iff.rfl
  | a :: b :: r, x => by
    unfold dedup
    split
    · rename_i e
      rw [mem_dedup (b :: r) x, e]
      simp
    · rw [List.mem_cons, mem_dedup (b :: r) x, List.mem_cons (l := b :: r)]
theorem K_inj {a b : Int} (h : K a = K b) : a = b := by
  have h1 := K_def a
  have h2 := K_def b
  omega
theorem dedup_lt : ∀ (l : List Int), l.Pairwise (fun a b => K a ≤ K b) → (dedup l).Pairwise (fun a b => K a < K b)
  | [], _ => List.Pairwise.nil
  | [a], _ => List.pairwise_singleton _ _
  | a :: b :: r, h => by
    have h' := List.pairwise_cons.1 h
    have ih := dedup_lt (b :: r) h'.2
    unfold dedup
    split
    · exact ih
    · rename_i hne
      refine List.pairwise_cons.2 ⟨fun z hz => ?_, ih⟩
      have hz' := (mem_dedup (b :: r) z).1 hz
      have hab := h'.1 b (List.mem_cons_self ..)
      have hKne : K a ≠ K b := fun e => hne (K_inj e)
      rcases List.mem_cons.1 hz' with e | hz2
      · rw [e]; omega
      · have := (List.pairwise_cons.1 h'.2).1 z hz2
        omega
theorem srt_pairwise {l : List Int} (h : Srt l l.length) : l.Pairwise (fun a b => K a ≤ K b) := by
  rw [List.pairwise_iff_getElem]
  intro i j hi hj hij
  have := h i j (by omega) (by omega) (by omega)
  rwa [getI_nat l i hi, getI_nat l j hj] at this

/-- By rising latches. -/
def Inc (l : List Int) : Prop := l.Pairwise (fun a b => ab a < ab b)
theorem Inc.idx {l : List Int} (h : Inc l) {i j : Int} (hi : 0 ≤ i) (hij : i < j) (hj : j < l.length) : ab (getI l i) < ab (getI l j) := by
  have := List.pairwise_iff_getElem.1 h i.toNat j.toNat (by omega) (by omega) (by omega)
  rw [← getI_nat l i.toNat (by omega), ← getI_nat l j.toNat (by omega)] at this
  rwa [Int.toNat_of_nonneg hi, Int.toNat_of_nonneg (by omega)] at this
theorem Inc.eq : ∀ {l r : List Int}, Inc l → Inc r → (∀ x, x ∈ l ↔ x ∈ r) → l = r
  | [], [], _, _, _ => rfl
  | [], b :: r, _, _, h => absurd ((h b).2 (List.mem_cons_self ..)) (by simp)
  | a :: l, [], _, _, h => absurd ((h a).1 (List.mem_cons_self ..)) (by simp)
  | a :: l, b :: r, h1, h2, h => by
    have p1 := List.pairwise_cons.1 h1
    have p2 := List.pairwise_cons.1 h2
    have e : a = b := by
      rcases List.mem_cons.1 ((h a).1 (List.mem_cons_self ..)) with e | e
      · exact e
      · rcases List.mem_cons.1 ((h b).2 (List.mem_cons_self ..)) with e2 | e2
        · exact e2.symm
        · have q1 := p2.1 a e
          have q2 := p1.1 b e2
          omega
    subst e
    congr 1
    refine Inc.eq p1.2 p2.2 fun x => ⟨fun hx => ?_, fun hx => ?_⟩
    · rcases List.mem_cons.1 ((h x).1 (List.mem_cons_of_mem _ hx)) with e | e
      · have := p1.1 x hx
        rw [e] at this; omega
      · exact e
    · rcases List.mem_cons.1 ((h x).2 (List.mem_cons_of_mem _ hx)) with e | e
      · have := p2.1 x hx
        rw [e] at this; omega
      · exact e

theorem norm_ok {l : List Int} (hl : l.length ≤ 12) (h : ∀ x ∈ l, Sm x) : ∃ out ok, norm l = some ((out, ok, ()), (), ()) ∧ (ok = true → Inc out ∧ (∀ x, x ∈ out ↔ x ∈ l) ∧ out.length ≤ 12) ∧ (ok = false → out = [] ∧ ∃ x ∈ l, -x ∈ l) := by
  obtain ⟨r, er, hp, hs⟩ := sort_ok hl fun x hx => ⟨(h x hx).2.1, (h x hx).2.2⟩
  have hlt := dedup_lt r (srt_pairwise hs)
  have hm : ∀ x, x ∈ dedup r ↔ x ∈ l := fun x => (mem_dedup r x).trans hp.mem_iff
  have hlen : (dedup r).length ≤ 12 := by
    have := dedup_le r
    have := hp.length_eq
    omega
  generalize hd : dedup r = c at hlt hm hlen
  have hk : ∀ i j : Int, 0 ≤ i → i < j → j < c.length → K (getI c i) < K (getI c j) := fun i j hi hij hj => by
    have := List.pairwise_iff_getElem.1 hlt i.toNat j.toNat (by omega) (by omega) (by omega)
    rw [← getI_nat c i.toNat (by omega), ← getI_nat c j.toNat (by omega)] at this
    rwa [Int.toNat_of_nonneg hi, Int.toNat_of_nonneg (by omega)] at this
  have hsm : ∀ i : Int, 0 ≤ i → i < c.length → Sm (getI c i) := fun i hi hj => h _ ((hm _).1 (getI_mem hi hj))
  suffices hs : Runs (norm l) (fun o => ∃ out ok, o = ((out, ok, ()), (), ()) ∧ (ok = true → Inc out ∧ (∀ x, x ∈ out ↔ x ∈ l) ∧ out.length ≤ 12) ∧ (ok = false → out = [] ∧ ∃ x ∈ l, -x ∈ l)) by
    obtain ⟨_, e, out, ok, rfl, h⟩ := hs; exact ⟨out, ok, e, h⟩
  unfold norm normF
  refine Runs.bind (Clone_ok (by omega)) (Runs.bind er (Runs.bind (x := c) (by unfold compactM; rw [hd]) ?_))
  refine Runs.iter (fun x : Int => 0 ≤ x ∧ x ≤ c.length ∧ ∀ i : Int, 0 < i → i < x → ab (getI c (i - 1)) ≠ ab (getI c i)) (fun x => ((c.length : Int) - x).toNat) ?_ ⟨by omega, by omega, fun i a b => by omega⟩ (fuelN_gt (by omega))
  rintro x ⟨x0, x1, x2⟩
  refine Runs.dec (fun hx => ?_) (fun hx => ?_)
  · simp only [nI] at hx
    have hx0 := hsm x x0 hx
    have hax := ab_def (getI c x)
    have hx0' := hx0
    obtain ⟨n1, n2, n3⟩ := hx0'
    refine Runs.gd x0 (Runs.gd (by simp only [nI]; omega) (Runs.bind (latch_ok n2 n3) (Runs.dec (fun hle => ?_) (fun hle => ?_))))
    · dsimp only at hle; omega
    · refine Runs.dec (fun h0 => ?_) (fun h0 => ?_)
      · have hx3 := hsm (x - 1) (by omega) (by omega)
        have hax1 := ab_def (getI c (x - 1))
        have hkx := hk (x - 1) x (by omega) (by omega) hx
        have hK1 := K_def (getI c (x - 1))
        have hK2 := K_def (getI c x)
        obtain ⟨m1, m2, m3⟩ := hx3
        refine Runs.inK ⟨by omega, by omega⟩ (Runs.gd (by omega) (Runs.gd (by simp only [nI]; omega) (Runs.bind (latch_ok m2 m3) (Runs.bind (latch_ok n2 n3) ?_))))
        rw [cond_f, cond_t]
        refine Runs.eqI (fun e => ?_) (fun e => ?_) <;> dsimp only at e
        · refine Runs.ret ⟨[], false, rfl, (fun h => by cases h), fun _ => ⟨rfl, getI c x, (hm _).1 (getI_mem x0 hx), ?_⟩⟩
          have : -getI c x = getI c (x - 1) := by omega
          rw [this]
          exact (hm _).1 (getI_mem (by omega) (by omega))
        · refine Runs.inK ⟨by omega, by omega⟩ (Runs.ret ⟨⟨by omega, by omega, fun i a b => ?_⟩, by dsimp only; omega⟩)
          by_cases ei : i = x
          · rw [ei]; exact e
          · exact x2 i a (by omega)
      · refine Runs.inK ⟨by omega, by omega⟩ (Runs.ret ⟨⟨by omega, by omega, fun i a b => by omega⟩, by dsimp only; omega⟩)
  · simp only [nI] at hx
    refine Runs.ret ⟨c, true, rfl, fun _ => ⟨?_, hm, hlen⟩, fun h => by cases h⟩
    have adj : ∀ i : Int, 0 < i → i < c.length → ab (getI c (i - 1)) < ab (getI c i) := fun i a b => by
      have e := x2 i a (by omega)
      have hkx := hk (i - 1) i (by omega) (by omega) b
      have := ab_def (getI c (i - 1))
      have := ab_def (getI c i)
      have := K_def (getI c (i - 1))
      have := K_def (getI c i)
      omega
    unfold Inc
    rw [List.pairwise_iff_getElem]
    intro i j hi hj hij
    rw [← getI_nat c i hi, ← getI_nat c j hj]
    have a1 := adj (i + 1) (by omega) (by omega)
    rw [show ((i : Int) + 1 - 1) = i by omega] at a1
    by_cases e : j = i + 1
    · subst e
      exact_mod_cast a1
    · have hkx := hk (i + 1) j (by omega) (by omega) (by omega)
      have := ab_def (getI c (i + 1))
      have := ab_def (getI c j)
      have := K_def (getI c (i + 1))
      have := K_def (getI c j)
      omega
end GoSx
end
