/- The texts RA, RB, RC, RD, RE, one behind the other. -/
import Derived.Test.YtigaadeoampijaaGB2
import Derived.KernelRfl
set_option linter.unusedVariables false
set_option linter.unusedSimpArgs false
section
/- Reuse, the pure theory, part A: words, loops, names, maps. -/
set_option linter.unusedVariables false
set_option linter.unusedSimpArgs false
namespace GoSx
open Go

/-! ### Words of models -/
theorem gd_pos {p : Prop} [d : Decidable p] {R : Type} {k : Option R} (h : p) : gd p k = k := by
  unfold gd; exact if_pos h
theorem inK_i64 (n : Int) : inK IntKind.i64 n ↔ -9223372036854775808 ≤ n ∧ n ≤ 9223372036854775807 := Iff.rfl
theorem gd_inK {n : Int} {R : Type} {k : Option R} (h : -9223372036854775808 ≤ n) (h' : n ≤ 9223372036854775807) : gd (inK IntKind.i64 n) k = k := gd_pos ⟨h, h'⟩
theorem bindO_some {X R : Type} (x : X) (k : X → Option R) : bindO (some x) k = k x := rfl
theorem joinO_inl {X R : Type} (x : X) (k : X → Option R) : joinO (some (Sum.inl x)) k = k x := rfl
theorem joinO_inr {X R : Type} (r : R) (k : X → Option R) : joinO (some (Sum.inr r)) k = some r := rfl
theorem cond_dec {p : Prop} [Decidable p] {α : Type} (a b : α) : (bif decide p then a else b) = if p then a else b := by
  by_cases h : p <;> simp [h]
theorem cond_t {α : Type} (a b : α) : (bif true then a else b) = a := rfl
theorem cond_f {α : Type} (a b : α) : (bif false then a else b) = b := rfl
theorem cond_eqI {α : Type} (x y : Int) (a b : α) : (bif x == y then a else b) = if x = y then a else b := by
  by_cases h : x = y
  · simp [h]
  · rw [if_neg h, beq_eq_false_iff_ne.mpr h]; rfl
theorem cond_neI {α : Type} (x y : Int) (a b : α) : (bif x != y then a else b) = if x = y then b else a := by
  by_cases h : x = y
  · simp [h]
  · rw [if_neg h, bne_iff_ne.mpr h]; rfl

/-- Loops: an invariant, a measure. -/
theorem iterO_inv {X R : Type} (b : X → Option (X ⊕ R)) (I : X → Prop) (Q : R → Prop) (m : X → Nat)
    (step : ∀ x, I x → (∃ y, b x = some (.inl y) ∧ I y ∧ m y < m x) ∨ (∃ r, b x = some (.inr r) ∧ Q r)) :
    ∀ n x, I x → m x < n → ∃ r, iterO b n x = some r ∧ Q r := by
  intro n
  induction n with
  | zero => intro x _ h; omega
  | succ n ih =>
    intro x hx hn
    rcases step x hx with ⟨y, h1, h2, h3⟩ | ⟨r, h1, h2⟩
    · obtain ⟨r, h4, h5⟩ := ih y h2 (by omega)
      exact ⟨r, by unfold iterO; rw [h1]; exact h4, h5⟩
    · exact ⟨r, by unfold iterO; rw [h1], h2⟩
/-- Loops: what they compute is one function of what they begin with. -/
theorem iterO_eq {X R : Type} (b : X → Option (X ⊕ R)) (I : X → Prop) (f : X → R) (m : X → Nat)
    (step : ∀ x, I x → (∃ y, b x = some (.inl y) ∧ I y ∧ m y < m x ∧ f y = f x) ∨ b x = some (.inr (f x))) :
    ∀ n x, I x → m x < n → iterO b n x = some (f x) := by
  intro n
  induction n with
  | zero => intro x _ h; omega
  | succ n ih =>
    intro x hx hn
    rcases step x hx with ⟨y, h1, h2, h3, h4⟩ | h1
    · unfold iterO; rw [h1, ← h4]; exact ih y h2 (by omega)
    · unfold iterO; rw [h1]
theorem fuelN_gt {n : Nat} (h : n < 2 ^ 128) : n < fuelN := by
  have : (2:Nat) ^ 128 ≤ 2 ^ 200 := Nat.pow_le_pow_right (by omega) (by omega)
  unfold fuelN; omega

/-! ### Rows -/
theorem getI_def (l : List Int) (i : Int) : getI l i = l.getD i.toNat 0 := rfl
theorem getL_def (l : List (List Int)) (i : Int) : getL l i = l.getD i.toNat [] := rfl
theorem getB_def (l : List Bool) (i : Int) : getB l i = l.getD i.toNat false := rfl
theorem getI_nat (l : List Int) (i : Nat) (h : i < l.length) : getI l i = l[i] := by
  simp [getI_def, h]
theorem getL_nat (l : List (List Int)) (i : Nat) (h : i < l.length) : getL l i = l[i] := by
  simp [getL_def, h]
theorem getI_mem {l : List Int} {i : Int} (h0 : 0 ≤ i) (h : i < l.length) : getI l i ∈ l := by
  have : i.toNat < l.length := by omega
  rw [getI_def]; simp [this]
theorem mem_getI {l : List Int} {x : Int} (h : x ∈ l) : ∃ i : Int, 0 ≤ i ∧ i < l.length ∧ getI l i = x := by
  obtain ⟨n, hn, e⟩ := List.getElem_of_mem h
  exact ⟨n, by omega, by omega, by rw [getI_nat l n hn]; exact e⟩
theorem getL_mem {l : List (List Int)} {i : Int} (h0 : 0 ≤ i) (h : i < l.length) : getL l i ∈ l := by
  have : i.toNat < l.length := by omega
  rw [getL_def]; simp [this]
theorem mem_getL {l : List (List Int)} {x : List Int} (h : x ∈ l) : ∃ i : Int, 0 ≤ i ∧ i < l.length ∧ getL l i = x := by
  obtain ⟨n, hn, e⟩ := List.getElem_of_mem h
  exact ⟨n, by omega, by omega, by rw [getL_nat l n hn]; exact e⟩
theorem getI_set {l : List Int} {i j x : Int} (hi : 0 ≤ i) (hi' : i < l.length) (hj : 0 ≤ j) : getI (l.set i.toNat x) j = if j = i then x else getI l j := by
  rw [getI_def, getI_def, List.getD_eq_getElem?_getD, List.getD_eq_getElem?_getD, List.getElem?_set]
  have : (i.toNat = j.toNat) ↔ j = i := by omega
  have h2 : i.toNat < l.length := by omega
  by_cases h : j = i
  · subst h; simp [h2]
  · simp [h, mt this.mp h]
theorem getL_set {l : List (List Int)} {i j : Int} {x : List Int} (hi : 0 ≤ i) (hi' : i < l.length) (hj : 0 ≤ j) : getL (l.set i.toNat x) j = if j = i then x else getL l j := by
  rw [getL_def, getL_def, List.getD_eq_getElem?_getD, List.getD_eq_getElem?_getD, List.getElem?_set]
  have : (i.toNat = j.toNat) ↔ j = i := by omega
  have h2 : i.toNat < l.length := by omega
  by_cases h : j = i
  · subst h; simp [h2]
  · simp [h, mt this.mp h]
theorem getI_append {l r : List Int} {i : Int} (hi : 0 ≤ i) : getI (l ++ r) i = if i < l.length then getI l i else getI r (i - l.length) := by
  rw [getI_def, getI_def, getI_def, List.getD_eq_getElem?_getD, List.getD_eq_getElem?_getD, List.getD_eq_getElem?_getD]
  by_cases h : i < l.length
  · rw [if_pos h, List.getElem?_append_left (by omega)]
  · rw [if_neg h, List.getElem?_append_right (by omega)]
    have : (i - l.length).toNat = i.toNat - l.length := by omega
    rw [this]
theorem getL_append {l r : List (List Int)} {i : Int} (hi : 0 ≤ i) : getL (l ++ r) i = if i < l.length then getL l i else getL r (i - l.length) := by
  rw [getL_def, getL_def, getL_def, List.getD_eq_getElem?_getD, List.getD_eq_getElem?_getD, List.getD_eq_getElem?_getD]
  by_cases h : i < l.length
  · rw [if_pos h, List.getElem?_append_left (by omega)]
  · rw [if_neg h, List.getElem?_append_right (by omega)]
    have : (i - l.length).toNat = i.toNat - l.length := by omega
    rw [this]
theorem getI_push {l : List Int} {x i : Int} (hi : 0 ≤ i) (hi' : i ≤ l.length) : getI (l ++ [x]) i = if i = l.length then x else getI l i := by
  rw [getI_append hi]
  by_cases h : i = l.length
  · rw [if_neg (by omega), if_pos h]
    have : i - l.length = 0 := by omega
    rw [this]; rfl
  · rw [if_pos (by omega), if_neg h]
theorem getL_push {l : List (List Int)} {x : List Int} {i : Int} (hi : 0 ≤ i) (hi' : i ≤ l.length) : getL (l ++ [x]) i = if i = l.length then x else getL l i := by
  rw [getL_append hi]
  by_cases h : i = l.length
  · rw [if_neg (by omega), if_pos h]
    have : i - l.length = 0 := by omega
    rw [this]; rfl
  · rw [if_pos (by omega), if_neg h]
theorem getI_take {l : List Int} {i : Int} {n : Nat} (hi : 0 ≤ i) (h : i < n) : getI (l.take n) i = getI l i := by
  rw [getI_def, getI_def, List.getD_eq_getElem?_getD, List.getD_eq_getElem?_getD, List.getElem?_take_of_lt (by omega)]
theorem getI_ge {l : List Int} {i : Int} (h : (l.length : Int) ≤ i) : getI l i = 0 := by
  rw [getI_def, List.getD_eq_getElem?_getD, List.getElem?_eq_none (by omega)]; rfl
theorem set_getL {l : List (List Int)} {i : Int} (h0 : 0 ≤ i) (h : i < l.length) : l.set i.toNat (getL l i) = l := by
  have h2 : i.toNat < l.length := by omega
  have : getL l i = l[i.toNat] := by rw [getL_def]; simp [h2]
  rw [this]; exact List.set_getElem_self h2
theorem list_ext_getI {l r : List Int} (h : l.length = r.length) (e : ∀ i : Int, 0 ≤ i → i < l.length → getI l i = getI r i) : l = r := by
  apply List.ext_getElem h
  intro n h1 h2
  have := e n (by omega) (by omega)
  rw [getI_nat l n h1, getI_nat r n h2] at this
  exact this


/-! ### What a model computes, told by a condition -/
def Runs {R : Type} (e : Option R) (Q : R → Prop) : Prop := ∃ r, e = some r ∧ Q r
theorem Runs.ret {R : Type} {Q : R → Prop} {r : R} (h : Q r) : Runs (some r) Q := ⟨r, rfl, h⟩
theorem Runs.gd {R : Type} {Q : R → Prop} {p : Prop} [Decidable p] {k : Option R} (h : p) (hk : Runs k Q) : Runs (GoSx.gd p k) Q := by rw [gd_pos h]; exact hk
theorem Runs.inK {R : Type} {Q : R → Prop} {n : Int} {k : Option R} (h : -9223372036854775808 ≤ n ∧ n ≤ 9223372036854775807) (hk : Runs k Q) : Runs (GoSx.gd (GoSx.inK IntKind.i64 n) k) Q := by rw [gd_inK h.1 h.2]; exact hk
theorem Runs.bind {X R : Type} {Q : R → Prop} {m : Option X} {k : X → Option R} {x : X} (h : m = some x) (hk : Runs (k x) Q) : Runs (bindO m k) Q := by rw [h]; exact hk
theorem Runs.bindQ {X R : Type} {Q : R → Prop} {m : Option X} {k : X → Option R} {Q1 : X → Prop} (h : Runs m Q1) (hk : ∀ x, Q1 x → Runs (k x) Q) : Runs (bindO m k) Q := by
  obtain ⟨x, e, q⟩ := h; rw [e]; exact hk x q
theorem Runs.join {X R : Type} {Q : R → Prop} {a : Option (X ⊕ R)} {k : X → Option R} {Q1 : X ⊕ R → Prop} (h : Runs a Q1) (hk : ∀ x, Q1 (.inl x) → Runs (k x) Q) (hr : ∀ r, Q1 (.inr r) → Q r) : Runs (joinO a k) Q := by
  obtain ⟨o, e, q⟩ := h
  rw [e]
  cases o with
  | inl x => exact hk x q
  | inr r => exact ⟨r, rfl, hr r q⟩
theorem Runs.dec {R : Type} {Q : R → Prop} {p : Prop} [Decidable p] {a b : Option R} (h : p → Runs a Q) (h' : ¬ p → Runs b Q) : Runs (bif decide p then a else b) Q := by
  rw [cond_dec]; split <;> rename_i hp
  · exact h hp
  · exact h' hp
theorem Runs.eqI {R : Type} {Q : R → Prop} {x y : Int} {a b : Option R} (h : x = y → Runs a Q) (h' : x ≠ y → Runs b Q) : Runs (bif x == y then a else b) Q := by
  rw [cond_eqI]; split <;> rename_i hp
  · exact h hp
  · exact h' hp
theorem Runs.neI {R : Type} {Q : R → Prop} {x y : Int} {a b : Option R} (h : x ≠ y → Runs a Q) (h' : x = y → Runs b Q) : Runs (bif x != y then a else b) Q := by
  rw [cond_neI]; split <;> rename_i hp
  · exact h' hp
  · exact h hp
theorem Runs.bool {R : Type} {Q : R → Prop} {c : Bool} {a b : Option R} (h : c = true → Runs a Q) (h' : c = false → Runs b Q) : Runs (bif c then a else b) Q := by
  cases c
  · exact h' rfl
  · exact h rfl
theorem Runs.mono {R : Type} {Q Q' : R → Prop} {e : Option R} (h : Runs e Q) (hq : ∀ r, Q r → Q' r) : Runs e Q' := by
  obtain ⟨r, e, q⟩ := h; exact ⟨r, e, hq r q⟩
/-- One round. -/
def Stp {X R : Type} (I : X → Prop) (Q : R → Prop) (m : X → Nat) (x0 : X) : X ⊕ R → Prop
  | .inl y => I y ∧ m y < m x0
  | .inr r => Q r
theorem Runs.iter {X R : Type} {b : X → Option (X ⊕ R)} {Q : R → Prop} {n : Nat} {x : X} (I : X → Prop) (m : X → Nat) (step : ∀ x, I x → Runs (b x) (Stp I Q m x)) (hx : I x) (hn : m x < n) : Runs (iterO b n x) Q := by
  refine iterO_inv b I Q m ?_ n x hx hn
  intro y hy
  obtain ⟨o, e, q⟩ := step y hy
  cases o with
  | inl z => exact .inl ⟨z, e, q.1, q.2⟩
  | inr r => exact .inr ⟨r, e, q⟩


theorem head28_true : head28 = some ((true, ()), (), ()) := by kernel_rfl

/-! ### The first place -/
def firstI (p : Int → Bool) (n : Nat) : Int := match (List.range n).find? (fun (j : Nat) => p (j : Int)) with
  | some j => j
  | none => -1
theorem firstI_cases (p : Int → Bool) (n : Nat) : (firstI p n = -1 ∧ ∀ j : Int, 0 ≤ j → j < n → p j = false) ∨ (0 ≤ firstI p n ∧ firstI p n < n ∧ p (firstI p n) = true ∧ ∀ j : Int, 0 ≤ j → j < firstI p n → p j = false) := by
  unfold firstI
  cases h : (List.range n).find? (fun (j : Nat) => p (j : Int)) with
  | none =>
    left
    refine ⟨rfl, fun j j0 j1 => ?_⟩
    rw [List.find?_eq_none] at h
    have := h j.toNat (List.mem_range.2 (by omega))
    rw [Int.toNat_of_nonneg j0] at this
    simpa using this
  | some k =>
    right
    rw [List.find?_range_eq_some] at h
    obtain ⟨h1, h2, h3⟩ := h
    have hk := List.mem_range.1 h2
    refine ⟨by dsimp only; omega, by dsimp only; omega, h1, fun j j0 j1 => ?_⟩
    dsimp only at j1
    have := h3 j.toNat (by omega)
    rw [Int.toNat_of_nonneg j0] at this
    simpa using this
theorem firstI_eq {p : Int → Bool} {n : Nat} {k : Int} (h : (k = -1 ∧ ∀ j : Int, 0 ≤ j → j < n → p j = false) ∨ (0 ≤ k ∧ k < n ∧ p k = true ∧ ∀ j : Int, 0 ≤ j → j < k → p j = false)) : firstI p n = k := by
  rcases firstI_cases p n with ⟨a1, a2⟩ | ⟨a1, a2, a3, a4⟩ <;> rcases h with ⟨b1, b2⟩ | ⟨b1, b2, b3, b4⟩
  · omega
  · rw [a2 k b1 b2] at b3; cases b3
  · rw [b2 _ a1 a2] at a3; cases a3
  · rcases Int.lt_trichotomy (firstI p n) k with h | h | h
    · rw [b4 _ a1 h] at a3; cases a3
    · exact h
    · rw [a4 _ b1 h] at b3; cases b3

/-! ### Names, latches -/
abbrev Lat := Int × Int × Bool × Int × Int × Unit
abbrev Cel := ByteArray × Int × Int × Int × Unit
def nm (b : List ByteArray) (j : Int) : ByteArray := get Ty.str b j
def cellsL (b : List ByteArray) : List Cel := b.map fun s => (s, 0, 0, 0, ())
theorem cellsL_len (b : List ByteArray) : (cellsL b).length = b.length := List.length_map ..
theorem cellsL_get {b : List ByteArray} {j : Int} (h0 : 0 ≤ j) (h : j < b.length) : (get cellT (cellsL b) j).1 = nm b j := by
  have : j.toNat < b.length := by omega
  unfold nm get cellsL
  simp [List.getD_eq_getElem?_getD, this]
theorem bytes_eq (x y : ByteArray) : (ByteArray.toList x == ByteArray.toList y) = decide (x = y) := by
  rw [← beq_toListBytes, beqB]
def lc (c : List Lat) (i : Int) : Int := (get latchT c i).2.2.2.1
def lb (c : List Lat) (i : Int) : Int := (get latchT c i).2.2.2.2.1

/-- Where a latch of a cell and a bit goes. -/
def toF (a : List ByteArray) (xc xb : Int) (b : List ByteArray) (cb : List Lat) : Int :=
  if xc < 0 ∨ xc ≥ a.length then 0
  else if firstI (fun j => decide (nm b j = nm a xc)) b.length < 0 then 0
  else firstI (fun j => decide (lc cb j = firstI (fun j => decide (nm b j = nm a xc)) b.length ∧ lb cb j = xb)) cb.length + 1

theorem names_ok {l : List ByteArray} (hl : l.length ≤ 1000) : names28 l = some ((([], [], cellsL l, [], [], ()), ()), (), ()) := by
  suffices hs : Runs (names28 l) (fun o => o = ((([], [], cellsL l, [], [], ()), ()), (), ())) by
    obtain ⟨_, e, rfl⟩ := hs; exact e
  unfold names28 names28F
  refine Runs.iter (fun x : Int × List Cel => 0 ≤ x.1 ∧ x.1 ≤ l.length ∧ x.2 = cellsL (l.take x.1.toNat)) (fun x => ((l.length : Int) - x.1).toNat) ?_ ⟨by dsimp only; omega, by dsimp only; omega, by simp [cellsL]⟩ (fuelN_gt (by dsimp only; omega))
  rintro ⟨x, v⟩ ⟨x0, x1, hv⟩
  dsimp only at x0 x1 hv ⊢
  subst hv
  refine Runs.dec (fun hx => ?_) (fun hx => ?_)
  · simp only [nI] at hx
    have hlen : (cellsL (l.take x.toNat)).length ≤ 1000 := by rw [cellsL_len]; simp; omega
    refine Runs.gd x0 (Runs.gd (by simp only [nI]; omega) (Runs.gd (by simp only [lim, List.length_singleton]; omega) (Runs.gd (by simp only [lim, List.length_singleton]; omega) (Runs.inK ⟨by omega, by omega⟩ (Runs.ret ⟨⟨by dsimp only; omega, by dsimp only; omega, ?_⟩, by dsimp only; omega⟩)))))
    dsimp only
    have hxn : x.toNat < l.length := by omega
    rw [show (x + 1).toNat = x.toNat + 1 by omega, List.take_add_one]
    have hg : get Ty.str l x = l[x.toNat] := by unfold get; simp [hxn]
    unfold cellsL
    rw [List.map_append]
    simp [hg, hxn]
  · simp only [nI] at hx
    have : x.toNat = l.length := by omega
    exact Runs.ret (by show _ = _; rw [this, List.take_length])

theorem few_ok (l : List (List Int)) : ∃ b, few l = some ((b, ()), (), ()) ∧ (b = true → l.length ≤ 30 ∧ ∀ c ∈ l, c.length ≤ 10) := by
  have : Runs (few l) (fun o => ∃ b, o = ((b, ()), (), ()) ∧ (b = true → l.length ≤ 30 ∧ ∀ c ∈ l, c.length ≤ 10)) := by
    unfold few fewF
    refine Runs.dec (fun h => Runs.ret ⟨false, rfl, fun h => by cases h⟩) (fun h => ?_)
    simp only [nI] at h
    refine Runs.iter (fun x : Int => 0 ≤ x ∧ x ≤ l.length ∧ ∀ j : Int, 0 ≤ j → j < x → (getL l j).length ≤ 10) (fun x => ((l.length : Int) - x).toNat) ?_ ⟨by omega, by omega, fun j a b => by omega⟩ (fuelN_gt (by omega))
    rintro x ⟨x0, x1, x2⟩
    refine Runs.dec (fun hx => ?_) (fun hx => ?_)
    · simp only [nI] at hx
      refine Runs.gd x0 (Runs.gd (by simp only [nI]; omega) (Runs.dec (fun h => Runs.ret ⟨false, rfl, fun h => by cases h⟩) (fun h => ?_)))
      simp only [nI] at h
      refine Runs.inK ⟨by omega, by omega⟩ (Runs.ret ⟨⟨by omega, by omega, fun j a b => ?_⟩, by dsimp only; omega⟩)
      by_cases ej : j = x
      · rw [ej]; omega
      · exact x2 j a (by omega)
    · simp only [nI] at hx
      refine Runs.ret ⟨true, rfl, fun _ => ⟨by omega, fun c hc => ?_⟩⟩
      obtain ⟨j, j0, j1, j2⟩ := mem_getL hc
      rw [← j2]
      exact x2 j j0 (by omega)
  obtain ⟨_, e, b, rfl, h⟩ := this
  exact ⟨b, e, h⟩

theorem short_ok (l : List ByteArray) (gi : Int) (ga : List (Int × Int × Unit)) (ci : List (Int × Int × Int × Unit)) (cl : List Lat) (co : List (Int × Int × Int × Unit)) : ∃ b, short l gi ga ci cl co = some ((b, ()), (), ()) ∧ (b = true → l.length ≤ 30 ∧ cl.length ≤ 40) := by
  have : Runs (short l gi ga ci cl co) (fun o => ∃ b, o = ((b, ()), (), ()) ∧ (b = true → l.length ≤ 30 ∧ cl.length ≤ 40)) := by
    unfold short shortF
    refine Runs.dec (fun h => Runs.ret ⟨false, rfl, fun h => by cases h⟩) (fun h => ?_)
    rw [cond_f]
    refine Runs.dec (fun h => Runs.ret ⟨false, rfl, fun h => by cases h⟩) (fun h2 => ?_)
    simp only [nI] at h h2
    refine Runs.iter (fun x : Int => 0 ≤ x ∧ x ≤ l.length) (fun x => ((l.length : Int) - x).toNat) ?_ ⟨by omega, by omega⟩ (fuelN_gt (by omega))
    rintro x ⟨x0, x1⟩
    refine Runs.dec (fun hx => ?_) (fun hx => ?_)
    · simp only [nI] at hx
      refine Runs.gd x0 (Runs.gd (by simp only [nI]; omega) (Runs.dec (fun h => Runs.ret ⟨false, rfl, fun h => by cases h⟩) (fun h => ?_)))
      exact Runs.inK ⟨by omega, by omega⟩ (Runs.ret ⟨⟨by omega, by omega⟩, by dsimp only; omega⟩)
    · exact Runs.ret ⟨true, rfl, fun _ => ⟨by omega, by omega⟩⟩
  obtain ⟨_, e, b, rfl, h⟩ := this
  exact ⟨b, e, h⟩

theorem to28_ok {a1 a2 a4 a5 b1 b2 b4 b5 : List Int} {a b : List ByteArray} {xv xn xc xb gi : Int} {xi : Bool} {ga : List (Int × Int × Unit)} {ci co : List (Int × Int × Int × Unit)} {cl : List Lat} (ha : a.length ≤ 30) (hb : b.length ≤ 30) (hc : cl.length ≤ 40) :
    to28 a1 a2 (cellsL a) a4 a5 xv xn xi xc xb b1 b2 (cellsL b) b4 b5 gi ga ci cl co = some ((toF a xc xb b cl, ()), (), ()) := by
  suffices hs : Runs (to28 a1 a2 (cellsL a) a4 a5 xv xn xi xc xb b1 b2 (cellsL b) b4 b5 gi ga ci cl co) (fun o => o = ((toF a xc xb b cl, ()), (), ())) by
    obtain ⟨_, e, rfl⟩ := hs; exact e
  unfold to28 to28F
  refine Runs.dec (fun h => Runs.ret ?_) (fun h => ?_)
  · show _ = _
    rw [toF, if_pos (.inl h)]
  rw [cond_f]
  simp only [nI, cellsL_len]
  refine Runs.dec (fun h2 => Runs.ret ?_) (fun h2 => ?_)
  · show _ = _
    rw [toF, if_pos (.inr h2)]
  refine Runs.inK ⟨by omega, by omega⟩ ?_
  refine Runs.iter (fun y : Int × Int => -1 ≤ y.2 ∧ y.2 < b.length ∧ ((y.1 = -1 ∧ ∀ j : Int, y.2 < j → j < b.length → nm b j ≠ nm a xc) ∨ (y.2 < y.1 ∧ y.1 < b.length ∧ nm b y.1 = nm a xc ∧ ∀ j : Int, y.2 < j → j < y.1 → nm b j ≠ nm a xc))) (fun y => (y.2 + 1).toNat) ?_ ⟨by dsimp only; omega, by dsimp only; omega, .inl ⟨rfl, fun j p q => by dsimp only at p; omega⟩⟩ (fuelN_gt (by dsimp only; omega))
  rintro ⟨c, i⟩ ⟨i0, i1, i2⟩
  dsimp only at i0 i1 i2 ⊢
  refine Runs.dec (fun hi => ?_) (fun hi => ?_)
  · rw [cellsL_get (by omega) (by omega), cellsL_get (by omega) (by omega), bytes_eq]
    refine Runs.gd (by omega) (Runs.gd (by omega) (Runs.gd (by omega) (Runs.gd (by omega) (Runs.dec (fun h => ?_) (fun h => ?_)))))
    · refine Runs.inK ⟨by omega, by omega⟩ (Runs.ret ⟨⟨by dsimp only; omega, by dsimp only; omega, .inr ⟨by dsimp only; omega, by dsimp only; omega, h, fun j p q => by dsimp only at p q; omega⟩⟩, by dsimp only; omega⟩)
    · refine Runs.inK ⟨by omega, by omega⟩ (Runs.ret ⟨⟨by dsimp only; omega, by dsimp only; omega, ?_⟩, by dsimp only; omega⟩)
      dsimp only
      rcases i2 with ⟨e1, e2⟩ | ⟨e1, e2, e3, e4⟩
      · refine .inl ⟨e1, fun j p q => ?_⟩
        by_cases ej : j = i
        · rw [ej]; exact h
        · exact e2 j (by omega) q
      · refine .inr ⟨by omega, e2, e3, fun j p q => ?_⟩
        by_cases ej : j = i
        · rw [ej]; exact h
        · exact e4 j (by omega) q
  · have hcell : firstI (fun j => decide (nm b j = nm a xc)) b.length = c := by
      refine firstI_eq ?_
      rcases i2 with ⟨e1, e2⟩ | ⟨e1, e2, e3, e4⟩
      · exact .inl ⟨e1, fun j p q => decide_eq_false (e2 j (by omega) q)⟩
      · exact .inr ⟨by omega, e2, decide_eq_true e3, fun j p q => decide_eq_false (e4 j (by omega) q)⟩
    refine Runs.dec (fun hc0 => Runs.ret ?_) (fun hc0 => ?_)
    · show _ = _
      rw [toF, if_neg (by omega), hcell, if_pos hc0]
    · refine Runs.mono (Q := fun o : (Int × Int) ⊕ ((Int × Unit) × Unit × Unit) => o = Sum.inr ((toF a xc xb b cl, ()), (), ())) ?_ (fun r hr => by rw [hr]; rfl)
      refine Runs.iter (fun y : Int => 0 ≤ y ∧ y ≤ cl.length ∧ ∀ j : Int, 0 ≤ j → j < y → ¬ (lc cl j = c ∧ lb cl j = xb)) (fun y => ((cl.length : Int) - y).toNat) ?_ ⟨by omega, by omega, fun j p q => by omega⟩ (fuelN_gt (by omega))
      rintro y ⟨y0, y1, y2⟩
      have fin : ∀ v : Int, ((v = -1 ∧ ∀ j : Int, 0 ≤ j → j < cl.length → ¬ (lc cl j = c ∧ lb cl j = xb)) ∨ (0 ≤ v ∧ v < cl.length ∧ (lc cl v = c ∧ lb cl v = xb) ∧ ∀ j : Int, 0 ≤ j → j < v → ¬ (lc cl j = c ∧ lb cl j = xb))) → toF a xc xb b cl = v + 1 := by
        intro v hv
        rw [toF, if_neg (by omega), hcell, if_neg hc0]
        rw [firstI_eq (k := v)]
        rcases hv with ⟨e1, e2⟩ | ⟨e1, e2, e3, e4⟩
        · exact .inl ⟨e1, fun j p q => decide_eq_false (e2 j p q)⟩
        · exact .inr ⟨e1, e2, decide_eq_true e3, fun j p q => decide_eq_false (e4 j p q)⟩
      refine Runs.dec (fun hy => ?_) (fun hy => ?_)
      · refine Runs.gd y0 (Runs.gd hy (Runs.eqI (fun g1 => ?_) (fun g1 => ?_)))
        · rw [cond_t]
          refine Runs.gd y0 (Runs.gd hy (Runs.eqI (fun g2 => ?_) (fun g2 => ?_)))
          · refine Runs.inK ⟨by omega, by omega⟩ (Runs.ret ?_)
            show _ = _
            rw [fin y (.inr ⟨y0, hy, ⟨g1, g2⟩, y2⟩)]
          · refine Runs.inK ⟨by omega, by omega⟩ (Runs.ret ⟨⟨by omega, by omega, fun j p q => ?_⟩, by dsimp only; omega⟩)
            by_cases ej : j = y
            · rw [ej]; exact fun h => g2 h.2
            · exact y2 j p (by omega)
        · refine Runs.inK ⟨by omega, by omega⟩ (Runs.ret ⟨⟨by omega, by omega, fun j p q => ?_⟩, by dsimp only; omega⟩)
          by_cases ej : j = y
          · rw [ej]; exact fun h => g1 h.1
          · exact y2 j p (by omega)
      · refine Runs.ret ?_
        show _ = _
        rw [fin (-1) (.inl ⟨rfl, fun j p q => y2 j p (by omega)⟩)]
        rfl
end GoSx
end
section
/- Reuse, the pure theory, part B: maps, and clauses that are moved. -/
set_option linter.unusedVariables false
set_option linter.unusedSimpArgs false
namespace GoSx
open Go

/-! ### Maps -/
section
variable {κ α : Type} [DecidableEq κ]
theorem mapHas_set (x : α) : ∀ (l : List (κ × α)) (k k' : κ), mapHas (mapSet x l k) k' = (decide (k' = k) || mapHas l k')
  | [], k, k' => by
    by_cases h : k' = k <;> simp [mapSet, mapHas, h]
  | (a, y) :: r, k, k' => by
    unfold mapSet
    by_cases h : k = a
    · subst h
      by_cases h2 : k' = k <;> simp [mapHas, h2]
    · simp only [h, decide_false, cond_false, mapHas, mapHas_set x r k k']
      by_cases h2 : k' = a <;> simp [h2]
theorem mapGet_set (d x : α) : ∀ (l : List (κ × α)) (k k' : κ), mapGet d (mapSet x l k) k' = if k' = k then x else mapGet d l k'
  | [], k, k' => by
    by_cases h : k' = k <;> simp [mapSet, mapGet, h]
  | (a, y) :: r, k, k' => by
    unfold mapSet
    by_cases h : k = a
    · subst h
      by_cases h2 : k' = k <;> simp [mapGet, h2]
    · simp only [h, decide_false, cond_false, mapGet, mapGet_set d x r k k']
      by_cases h2 : k' = a
      · subst h2
        have : ¬ k' = k := fun e => h e.symm
        simp [this]
      · simp [h2]
theorem mapGet_none (d : α) : ∀ (l : List (κ × α)) (k : κ), mapHas l k = false → mapGet d l k = d
  | [], _, _ => rfl
  | (a, y) :: r, k, h => by
    unfold mapHas at h
    unfold mapGet
    by_cases h2 : k = a
    · simp [h2] at h
    · simp only [h2, decide_false, cond_false] at h ⊢
      exact mapGet_none d r k h
theorem mapSet_len (x : α) : ∀ (l : List (κ × α)) (k : κ), (mapSet x l k).length ≤ l.length + 1
  | [], _ => by simp [mapSet]
  | (a, y) :: r, k => by
    unfold mapSet
    by_cases h : k = a
    · simp [h]
    · simp only [h, decide_false, cond_false, List.length_cons]
      have := mapSet_len x r k
      omega
end

theorem firstI_succ (p : Int → Bool) (n : Nat) : firstI p (n + 1) = if 0 ≤ firstI p n then firstI p n else if p n = true then (n : Int) else -1 := by
  refine firstI_eq ?_
  rcases firstI_cases p n with ⟨a1, a2⟩ | ⟨a1, a2, a3, a4⟩
  · rw [if_neg (by omega)]
    split
    · rename_i h
      exact .inr ⟨by omega, by omega, h, fun j p q => a2 j p q⟩
    · rename_i h
      refine .inl ⟨rfl, fun j p q => ?_⟩
      by_cases e : j = n
      · rw [e]; simpa using h
      · exact a2 j p (by omega)
  · rw [if_pos a1]
    exact .inr ⟨a1, by omega, a3, a4⟩
theorem firstI_zero (p : Int → Bool) : firstI p 0 = -1 := firstI_eq (.inl ⟨rfl, fun j a b => by omega⟩)
theorem firstI_ge (p : Int → Bool) (n : Nat) : firstI p n = -1 ∨ (0 ≤ firstI p n ∧ firstI p n < n) := by
  rcases firstI_cases p n with ⟨a, _⟩ | ⟨a, b, _⟩
  · exact .inl a
  · exact .inr ⟨a, b⟩

/-- What a map of first places knows. -/
def Knows {κ : Type} [DecidableEq κ] (p : κ → Int → Bool) (o : Int) (m : List (κ × Int)) (n : Nat) : Prop :=
  ∀ s, (mapHas m s = true ∧ mapGet 0 m s = firstI (p s) n + o ∧ 0 ≤ firstI (p s) n) ∨ (mapHas m s = false ∧ firstI (p s) n = -1)
theorem Knows.zero {κ : Type} [DecidableEq κ] (p : κ → Int → Bool) (o : Int) : Knows p o [] 0 := fun s => .inr ⟨rfl, firstI_zero _⟩
theorem Knows.skip {κ : Type} [DecidableEq κ] {p : κ → Int → Bool} {o : Int} {m : List (κ × Int)} {n : Nat} (h : Knows p o m n) {k : κ} (hp : ∀ s, p s n = decide (k = s)) (hk : mapHas m k = true) : Knows p o m (n + 1) := by
  intro s
  rw [firstI_succ]
  rcases h s with ⟨a, b, c⟩ | ⟨a, b⟩
  · rw [if_pos c]; exact .inl ⟨a, b, c⟩
  · rw [if_neg (by omega), hp s]
    by_cases e : k = s
    · rw [← e, hk] at a; cases a
    · have : decide (k = s) = false := decide_eq_false e
      simp only [this, Bool.false_eq_true, if_false]
      exact .inr ⟨a, trivial⟩
theorem Knows.set {κ : Type} [DecidableEq κ] {p : κ → Int → Bool} {o : Int} {m : List (κ × Int)} {n : Nat} (h : Knows p o m n) {k : κ} (hp : ∀ s, p s n = decide (k = s)) (hk : mapHas m k = false) : Knows p o (mapSet ((n : Int) + o) m k) (n + 1) := by
  intro s
  rw [firstI_succ, mapHas_set, mapGet_set]
  by_cases e : s = k
  · subst e
    have hs := h s
    rw [hk] at hs
    rcases hs with ⟨a, _⟩ | ⟨_, b⟩
    · cases a
    · rw [if_pos rfl, if_neg (by omega : ¬ 0 ≤ firstI (p s) n), hp s]
      simp
  · have e2 : ¬ k = s := fun x => e x.symm
    rw [if_neg e, hp s]
    simp only [e, decide_false, Bool.false_or, e2, Bool.false_eq_true, if_false]
    rcases h s with ⟨a, b, c⟩ | ⟨a, b⟩
    · rw [if_pos c]; exact .inl ⟨a, b, c⟩
    · rw [if_neg (by omega)]; exact .inr ⟨a, rfl⟩

/-! ### Which clauses go where -/
def ixn (n : Int) : Int := if n < 0 then 0 - n - 1 else n - 1
def gF (a : List ByteArray) (cl : List Lat) (b : List ByteArray) (cb : List Lat) (n : Int) : Int := toF a (lc cl (ixn n)) (lb cl (ixn n)) b cb
def hF (a : List ByteArray) (cl : List Lat) (b : List ByteArray) (cb : List Lat) (n : Int) : Int := if n < 0 then 0 - gF a cl b cb n else gF a cl b cb n
def okc (cl : List Lat) (l : List Int) : Bool := l.all fun n => decide (n ≠ 0 ∧ n ≤ cl.length ∧ -(cl.length : Int) ≤ n)
def gdc (a : List ByteArray) (cl : List Lat) (b : List ByteArray) (cb : List Lat) (l : List Int) : Bool := l.all fun n => decide (gF a cl b cb n ≠ 0)
def mvAll (a : List ByteArray) (cl : List Lat) (b : List ByteArray) (cb : List Lat) (l : List (List Int)) : List (List Int) :=
  (l.filter fun c => okc cl c && gdc a cl b cb c).map fun c => c.map (hF a cl b cb)

theorem toF_range (a : List ByteArray) (xc xb : Int) (b : List ByteArray) (cb : List Lat) : 0 ≤ toF a xc xb b cb ∧ toF a xc xb b cb ≤ cb.length := by
  unfold toF
  split
  · omega
  · split
    · omega
    · have := firstI_ge (fun j => decide (lc cb j = firstI (fun j => decide (nm b j = nm a xc)) b.length ∧ lb cb j = xb)) cb.length
      omega
theorem all_idx {l : List Int} {p : Int → Bool} : l.all p = true ↔ ∀ j : Int, 0 ≤ j → j < l.length → p (getI l j) = true := by
  rw [List.all_eq_true]
  constructor
  · intro h j a b
    exact h _ (getI_mem a b)
  · intro h x hx
    obtain ⟨j, a, b, e⟩ := mem_getI hx
    rw [← e]; exact h j a b
theorem okc_at {cl : List Lat} {l : List Int} (h : okc cl l = true) {j : Int} (a : 0 ≤ j) (b : j < l.length) : getI l j ≠ 0 ∧ getI l j ≤ cl.length ∧ -(cl.length : Int) ≤ getI l j := by
  have := all_idx.1 h j a b
  simpa using this

theorem rOf_ok {gi : Int} {ga : List (Int × Int × Unit)} {ci co : List (Int × Int × Int × Unit)} {cl : List Lat} {l : List Int} (hc : cl.length ≤ 1000) (hl : l.length ≤ 1000) : rOf28 gi ga ci cl co l = some ((okc cl l, ()), (), ()) := by
  have hC : ∀ x, ofC x gi ga ci cl co = some ((!decide (x ≠ 0 ∧ x ≤ cl.length ∧ -(cl.length : Int) ≤ x), ()), ((gi, ga, ci, cl, co, ()), ()), ()) := by
    intro x
    unfold ofC
    rw [cond_eqI, cond_f, cond_dec]
    simp only [nI]
    split
    · rename_i h; simp [h]
    · split
      · rename_i h1 h2
        have : ¬ (x ≠ 0 ∧ x ≤ cl.length ∧ -(cl.length : Int) ≤ x) := by omega
        simp [this]
      · rename_i h1 h2
        rw [gd_inK (by omega) (by omega), cond_f]
        by_cases h3 : x < 0 - (cl.length : Int)
        · have : ¬ (x ≠ 0 ∧ x ≤ cl.length ∧ -(cl.length : Int) ≤ x) := by omega
          rw [decide_eq_false this, decide_eq_true h3]; rfl
        · have : (x ≠ 0 ∧ x ≤ cl.length ∧ -(cl.length : Int) ≤ x) := by omega
          rw [decide_eq_true this, decide_eq_false h3]; rfl
  have : Runs (IndexFunc_of l gi ga ci cl co) (fun o => ∃ i : Int, o = ((i, ()), ((gi, ga, ci, cl, co, ()), ()), ()) ∧ (0 ≤ i ↔ ¬ okc cl l = true)) := by
    unfold IndexFunc_of IndexFunc_ofF
    refine Runs.iter (fun x : Int × Int × List (Int × Int × Unit) × List (Int × Int × Int × Unit) × List Lat × List (Int × Int × Int × Unit) => x.2 = (gi, ga, ci, cl, co) ∧ 0 ≤ x.1 ∧ x.1 ≤ l.length ∧ ∀ j : Int, 0 ≤ j → j < x.1 → (getI l j ≠ 0 ∧ getI l j ≤ cl.length ∧ -(cl.length : Int) ≤ getI l j)) (fun x => ((l.length : Int) - x.1).toNat) ?_ ⟨rfl, by dsimp only; omega, by dsimp only; omega, fun j a b => by dsimp only at b; omega⟩ (fuelN_gt (by dsimp only; omega))
    rintro ⟨x, v⟩ ⟨e, x0, x1, x2⟩
    dsimp only at e x0 x1 x2 ⊢
    subst e
    dsimp only
    refine Runs.dec (fun hx => ?_) (fun hx => ?_)
    · simp only [nI] at hx
      refine Runs.gd x0 (Runs.gd (by simp only [nI]; omega) (Runs.bind (hC _) (Runs.bool (fun c => ?_) (fun c => ?_))))
      · refine Runs.ret ⟨x, rfl, fun _ hall => ?_, fun _ => x0⟩
        have := okc_at hall x0 hx
        dsimp only at c
        rw [decide_eq_true this] at c
        cases c
      · refine Runs.inK ⟨by omega, by omega⟩ (Runs.ret ⟨⟨rfl, by dsimp only; omega, by dsimp only; omega, fun j a b => ?_⟩, by dsimp only; omega⟩)
        dsimp only at b c
        by_cases ej : j = x
        · rw [ej]
          have : decide (getI l x ≠ 0 ∧ getI l x ≤ cl.length ∧ -(cl.length : Int) ≤ getI l x) = true := by simpa using c
          exact of_decide_eq_true this
        · exact x2 j a (by omega)
    · simp only [nI] at hx
      refine Runs.ret ⟨-1, rfl, fun a => by omega, fun a => ?_⟩
      exfalso
      apply a
      exact all_idx.2 fun j j0 j1 => decide_eq_true (x2 j j0 (by omega))
  obtain ⟨_, e, i, rfl, hi⟩ := this
  unfold rOf28 ContainsFunc_of
  rw [e, bindO_some, bindO_some]
  have : (!decide (i ≥ 0)) = okc cl l := by
    rw [Bool.eq_iff_iff]
    simp only [Bool.not_eq_true', decide_eq_false_iff_not]
    constructor
    · intro h1
      by_cases h2 : okc cl l = true
      · exact h2
      · exact absurd (hi.mpr h2) h1
    · intro h1 h2
      exact hi.mp h2 h1
  rw [this]

theorem Of_ok {gi : Int} {ga : List (Int × Int × Unit)} {ci co : List (Int × Int × Int × Unit)} {cl : List Lat} {l : List Int} (hc : cl.length ≤ 1000) (hl : l.length ≤ 1000) : Of28 gi ga ci cl co l = some ((okc cl l, ()), (), ()) := by
  suffices hs : Runs (Of28 gi ga ci cl co l) (fun o => o = ((okc cl l, ()), (), ())) by
    obtain ⟨_, e, rfl⟩ := hs; exact e
  unfold Of28 Of28F
  refine Runs.iter (fun x : Int => 0 ≤ x ∧ x ≤ l.length ∧ ∀ j : Int, 0 ≤ j → j < x → (getI l j ≠ 0 ∧ getI l j ≤ cl.length ∧ -(cl.length : Int) ≤ getI l j)) (fun x => ((l.length : Int) - x).toNat) ?_ ⟨by omega, by omega, fun j a b => by omega⟩ (fuelN_gt (by omega))
  rintro x ⟨x0, x1, x2⟩
  have bad : x < l.length → ¬ (getI l x ≠ 0 ∧ getI l x ≤ cl.length ∧ -(cl.length : Int) ≤ getI l x) → okc cl l = false := by
    intro hx h
    rw [← Bool.not_eq_true]
    exact fun hall => h (okc_at hall x0 hx)
  refine Runs.dec (fun hx => ?_) (fun hx => ?_)
  · simp only [nI] at hx ⊢
    refine Runs.gd x0 (Runs.gd hx (Runs.eqI (fun h => Runs.ret ?_) (fun h => ?_)))
    · show _ = _
      rw [bad hx (by omega)]
    rw [cond_f]
    refine Runs.gd x0 (Runs.gd hx (Runs.dec (fun h2 => Runs.ret ?_) (fun h2 => ?_)))
    · show _ = _
      rw [bad hx (by omega)]
    rw [cond_f]
    refine Runs.gd x0 (Runs.gd hx (Runs.inK ⟨by omega, by omega⟩ (Runs.dec (fun h3 => Runs.ret ?_) (fun h3 => ?_))))
    · show _ = _
      rw [bad hx (by omega)]
    refine Runs.inK ⟨by omega, by omega⟩ (Runs.ret ⟨⟨by omega, by omega, fun j a b => ?_⟩, by dsimp only; omega⟩)
    by_cases ej : j = x
    · rw [ej]; exact ⟨h, by omega, by omega⟩
    · exact x2 j a (by omega)
  · simp only [nI] at hx
    refine Runs.ret ?_
    have : okc cl l = true := all_idx.2 fun j j0 j1 => decide_eq_true (x2 j j0 (by omega))
    show _ = _
    rw [this]

theorem take_snoc {l : List Int} {x : Int} (x0 : 0 ≤ x) (hx : x < l.length) (f : Int → Int) : (l.take (x + 1).toNat).map f = (l.take x.toNat).map f ++ [f (getI l x)] := by
  have hxn : x.toNat < l.length := by omega
  have hg : getI l x = l[x.toNat] := by rw [getI_def]; simp [hxn]
  rw [show (x + 1).toNat = x.toNat + 1 by omega, List.take_add_one, List.map_append]
  simp [hg, hxn]
theorem take_snocL {l : List (List Int)} {x : Int} (x0 : 0 ≤ x) (hx : x < l.length) : l.take (x + 1).toNat = l.take x.toNat ++ [getL l x] := by
  have hxn : x.toNat < l.length := by omega
  have hg : getL l x = l[x.toNat] := by rw [getL_def]; simp [hxn]
  rw [show (x + 1).toNat = x.toNat + 1 by omega, List.take_add_one]
  simp [hg, hxn]

section
variable {a1 a2 a4 a5 b1 b2 b4 b5 : List Int} {a b : List ByteArray} {gi hi : Int} {ga ha : List (Int × Int × Unit)} {ci co hci hco : List (Int × Int × Int × Unit)} {cl hcl : List Lat}

theorem moved_ok (hA : a.length ≤ 30) (hB : b.length ≤ 30) (hC : cl.length ≤ 40) (hD : hcl.length ≤ 40) {l : List Int} (hl : l.length ≤ 1000) (hok : okc cl l = true) :
    moved28 a1 a2 (cellsL a) a4 a5 gi ga ci cl co b1 b2 (cellsL b) b4 b5 hi ha hci hcl hco l = some ((if gdc a cl b hcl l = true then l.map (hF a cl b hcl) else [], gdc a cl b hcl l, ()), (), ()) := by
  suffices hs : Runs (moved28 a1 a2 (cellsL a) a4 a5 gi ga ci cl co b1 b2 (cellsL b) b4 b5 hi ha hci hcl hco l) (fun o => o = ((if gdc a cl b hcl l = true then l.map (hF a cl b hcl) else [], gdc a cl b hcl l, ()), (), ())) by
    obtain ⟨_, e, rfl⟩ := hs; exact e
  unfold moved28 moved28F
  refine Runs.iter (fun x : Int × List Int => 0 ≤ x.1 ∧ x.1 ≤ l.length ∧ x.2 = (l.take x.1.toNat).map (hF a cl b hcl) ∧ ∀ j : Int, 0 ≤ j → j < x.1 → gF a cl b hcl (getI l j) ≠ 0) (fun x => ((l.length : Int) - x.1).toNat) ?_ ⟨by dsimp only; omega, by dsimp only; omega, by simp, fun j p q => by dsimp only at q; omega⟩ (fuelN_gt (by dsimp only; omega))
  rintro ⟨x, v⟩ ⟨x0, x1, hv, x3⟩
  dsimp only at x0 x1 hv x3 ⊢
  subst hv
  have bad : x < l.length → gF a cl b hcl (getI l x) = 0 → gdc a cl b hcl l = false := by
    intro hx h
    rw [← Bool.not_eq_true]
    intro hall
    have := all_idx.1 hall x x0 hx
    simp [h] at this
  refine Runs.dec (fun hx => ?_) (fun hx => ?_)
  · simp only [nI] at hx ⊢
    have hr := okc_at hok x0 hx
    have hlen : ((l.take x.toNat).map (hF a cl b hcl)).length ≤ 1000 := by simp; omega
    have hg := toF_range a (lc cl (ixn (getI l x))) (lb cl (ixn (getI l x))) b hcl
    have go : ∀ (i : Int), i = ixn (getI l x) → to28 a1 a2 (cellsL a) a4 a5 (get latchT cl i).1 (get latchT cl i).2.1 (get latchT cl i).2.2.1 (get latchT cl i).2.2.2.1 (get latchT cl i).2.2.2.2.1 b1 b2 (cellsL b) b4 b5 hi ha hci hcl hco = some ((gF a cl b hcl (getI l x), ()), (), ()) := by
      intro i e
      subst e
      exact to28_ok hA hB hD
    refine Runs.gd x0 (Runs.gd hx (Runs.dec (fun hn => ?_) (fun hn => ?_)))
    · have hix : ixn (getI l x) = 0 - getI l x - 1 := by unfold ixn; rw [if_pos hn]
      refine Runs.inK ⟨by omega, by omega⟩ (Runs.inK ⟨by omega, by omega⟩ (Runs.gd (by omega) (Runs.gd (by omega) (Runs.bind (go _ hix.symm) (Runs.eqI (fun h0 => Runs.ret ?_) (fun h0 => ?_))))))
      · show _ = _
        rw [bad hx h0]; rfl
      · have hgv : gF a cl b hcl (getI l x) = toF a (lc cl (ixn (getI l x))) (lb cl (ixn (getI l x))) b hcl := rfl
        refine Runs.gd x0 (Runs.gd hx (Runs.dec (fun _ => ?_) (fun h => absurd hn h)))
        refine Runs.inK ⟨by dsimp only; omega, by dsimp only; omega⟩ (Runs.gd (by simp only [lim, List.length_singleton]; omega) (Runs.gd (by simp only [lim, List.length_singleton]; omega) (Runs.inK ⟨by omega, by omega⟩ (Runs.ret ⟨⟨by dsimp only; omega, by dsimp only; omega, ?_, fun j p q => ?_⟩, by dsimp only; omega⟩))))
        · dsimp only
          rw [take_snoc x0 hx]
          congr 2
          unfold hF
          rw [if_pos hn]
        · dsimp only at q
          by_cases ej : j = x
          · rw [ej]; exact h0
          · exact x3 j p (by omega)
    · have hix : ixn (getI l x) = getI l x - 1 := by unfold ixn; rw [if_neg hn]
      refine Runs.inK ⟨by omega, by omega⟩ (Runs.gd (by omega) (Runs.gd (by omega) (Runs.bind (go _ hix.symm) (Runs.eqI (fun h0 => Runs.ret ?_) (fun h0 => ?_)))))
      · show _ = _
        rw [bad hx h0]; rfl
      · refine Runs.gd x0 (Runs.gd hx (Runs.dec (fun h => absurd h hn) (fun _ => ?_)))
        refine Runs.gd (by simp only [lim, List.length_singleton]; omega) (Runs.gd (by simp only [lim, List.length_singleton]; omega) (Runs.inK ⟨by omega, by omega⟩ (Runs.ret ⟨⟨by dsimp only; omega, by dsimp only; omega, ?_, fun j p q => ?_⟩, by dsimp only; omega⟩)))
        · dsimp only
          rw [take_snoc x0 hx]
          congr 2
          unfold hF
          rw [if_neg hn]
        · dsimp only at q
          by_cases ej : j = x
          · rw [ej]; exact h0
          · exact x3 j p (by omega)
  · simp only [nI] at hx
    have : gdc a cl b hcl l = true := all_idx.2 fun j j0 j1 => decide_eq_true (x3 j j0 (by omega))
    refine Runs.ret ?_
    show _ = _
    rw [this, if_pos rfl, show x.toNat = l.length by omega, List.take_length]

theorem mv_snoc {l : List (List Int)} {x : Int} (x0 : 0 ≤ x) (hx : x < l.length) : mvAll a cl b hcl (l.take (x + 1).toNat) = mvAll a cl b hcl (l.take x.toNat) ++ (if (okc cl (getL l x) && gdc a cl b hcl (getL l x)) = true then [(getL l x).map (hF a cl b hcl)] else []) := by
  unfold mvAll
  rw [take_snocL x0 hx, List.filter_append, List.map_append]
  congr 1
  by_cases h : (okc cl (getL l x) && gdc a cl b hcl (getL l x)) = true
  · rw [if_pos h]; simp [List.filter_cons, h]
  · rw [if_neg h]; simp [List.filter_cons, h]
theorem mv_len (l : List (List Int)) : (mvAll a cl b hcl l).length ≤ l.length := by
  unfold mvAll
  rw [List.length_map]
  exact List.length_filter_le ..

theorem Move28_ok (hA : a.length ≤ 30) (hB : b.length ≤ 30) (hC : cl.length ≤ 40) (hD : hcl.length ≤ 40) {l : List (List Int)} (hl : l.length ≤ 1000) (hl2 : ∀ c ∈ l, c.length ≤ 1000) :
    Move28 a1 a2 (cellsL a) a4 a5 gi ga ci cl co b1 b2 (cellsL b) b4 b5 hi ha hci hcl hco l = some ((mvAll a cl b hcl l, ()), (), ()) := by
  suffices hs : Runs (Move28 a1 a2 (cellsL a) a4 a5 gi ga ci cl co b1 b2 (cellsL b) b4 b5 hi ha hci hcl hco l) (fun o => o = ((mvAll a cl b hcl l, ()), (), ())) by
    obtain ⟨_, e, rfl⟩ := hs; exact e
  unfold Move28 Move28F
  refine Runs.iter (fun x : Int × List (List Int) => 0 ≤ x.1 ∧ x.1 ≤ l.length ∧ x.2 = mvAll a cl b hcl (l.take x.1.toNat)) (fun x => ((l.length : Int) - x.1).toNat) ?_ ⟨by dsimp only; omega, by dsimp only; omega, by simp [mvAll]⟩ (fuelN_gt (by dsimp only; omega))
  rintro ⟨x, v⟩ ⟨x0, x1, hv⟩
  dsimp only at x0 x1 hv ⊢
  subst hv
  refine Runs.dec (fun hx => ?_) (fun hx => ?_)
  · simp only [nI] at hx ⊢
    have hc := hl2 _ (getL_mem x0 hx)
    have hlen : (mvAll a cl b hcl (l.take x.toNat)).length ≤ 1000 := by
      have := mv_len (a := a) (cl := cl) (b := b) (hcl := hcl) (l.take x.toNat)
      simp only [List.length_take] at this
      omega
    refine Runs.gd x0 (Runs.gd hx (Runs.bind (Of_ok (by omega) hc) ?_))
    dsimp only
    cases hok : okc cl (getL l x) with
    | false =>
      rw [Bool.not_false, cond_t]
      refine Runs.inK ⟨by omega, by omega⟩ (Runs.ret ⟨⟨by dsimp only; omega, by dsimp only; omega, ?_⟩, by dsimp only; omega⟩)
      dsimp only
      rw [mv_snoc x0 hx, hok]
      simp
    | true =>
      rw [Bool.not_true, cond_f]
      refine Runs.gd x0 (Runs.gd hx (Runs.bind (moved_ok hA hB hC hD hc hok) ?_))
      dsimp only
      cases hg : gdc a cl b hcl (getL l x) with
      | false =>
        rw [cond_f]
        refine Runs.inK ⟨by omega, by omega⟩ (Runs.ret ⟨⟨by dsimp only; omega, by dsimp only; omega, ?_⟩, by dsimp only; omega⟩)
        dsimp only
        rw [mv_snoc x0 hx, hok, hg]
        simp
      | true =>
        rw [cond_t]
        refine Runs.gd (by simp only [lim, List.length_singleton]; omega) (Runs.gd (by simp only [lim, List.length_singleton]; omega) (Runs.inK ⟨by omega, by omega⟩ (Runs.ret ⟨⟨by dsimp only; omega, by dsimp only; omega, ?_⟩, by dsimp only; omega⟩)))
        dsimp only
        rw [mv_snoc x0 hx, hok, hg]
        simp
  · simp only [nI] at hx
    refine Runs.ret ?_
    show _ = _
    rw [show x.toNat = l.length by omega, List.take_length]
end
end GoSx
end
section
/- Reuse, the pure theory, part C: Move by maps, and ReuseMoves. -/
set_option linter.unusedVariables false
set_option linter.unusedSimpArgs false
namespace GoSx
open Go

section
variable {a1 a2 a4 a5 b1 b2 b4 b5 : List Int} {a b : List ByteArray} {gi hi : Int} {ga ha : List (Int × Int × Unit)} {ci co hci hco : List (Int × Int × Int × Unit)} {cl hcl : List Lat}

/-- What the maps know. -/
def pC (b : List ByteArray) (s : ByteArray) (j : Int) : Bool := decide (nm b j = s)
def pL (c : List Lat) (k : Int × Int × Unit) (j : Int) : Bool := decide (lc c j = k.1 ∧ lb c j = k.2.1)

theorem moveTo_ok {cm : List (ByteArray × Int)} {lm : List ((Int × Int × Unit) × Int)} (hcm : Knows (pC b) 0 cm b.length) (hlm : Knows (pL hcl) 1 lm hcl.length) {i : Int} (i0 : 0 ≤ i) (i1 : i < cl.length) :
    moveTo i gi ga ci cl co a1 a2 (cellsL a) a4 a5 cm lm = some ((toF a (lc cl i) (lb cl i) b hcl, ()), ((gi, ga, ci, cl, co, ()), (a1, a2, cellsL a, a4, a5, ()), (cm, ()), (lm, ()), ()), ()) := by
  have e1 : (get latchT cl i).2.2.2.1 = lc cl i := rfl
  have e2 : (get latchT cl i).2.2.2.2.1 = lb cl i := rfl
  unfold moveTo
  rw [gd_pos i0, gd_pos (by simp only [nI]; omega), e1, e2, cond_dec, cond_f, cond_dec]
  simp only [nI, cellsL_len]
  split
  · rename_i h
    rw [toF, if_pos (.inl h)]
  · split
    · rename_i h1 h2
      rw [toF, if_pos (.inr h2)]
    · rename_i g1 g2
      have h1 : ¬ lc cl i < (0 : Int) := g1
      have h2 : ¬ lc cl i ≥ (a.length : Int) := g2
      have h3 : (0 : Int) ≤ lc cl i := by omega
      have h4 : lc cl i < (a.length : Int) := by omega
      rw [gd_pos h3, gd_pos h4, cellsL_get h3 h4]
      have hc := hcm (nm a (lc cl i))
      have hpc : pC b (nm a (lc cl i)) = fun j => decide (nm b j = nm a (lc cl i)) := rfl
      rw [hpc] at hc
      rcases hc with ⟨c1, c2, c3⟩ | ⟨c1, c2⟩
      · rw [c1, Bool.not_true, cond_f]
        have hd : (Ty.int IntKind.i64).dflt = (0 : Int) := rfl
        rw [hd, c2]
        have hg : mapGet (0 : Int) lm (firstI (fun j => decide (nm b j = nm a (lc cl i))) b.length + 0, lb cl i, ()) = toF a (lc cl i) (lb cl i) b hcl := by
          rw [toF, if_neg (by omega), if_neg (by omega), Int.add_zero]
          have hl := hlm (firstI (fun j => decide (nm b j = nm a (lc cl i))) b.length, lb cl i, ())
          have hpl : pL hcl (firstI (fun j => decide (nm b j = nm a (lc cl i))) b.length, lb cl i, ()) = fun j => decide (lc hcl j = firstI (fun j => decide (nm b j = nm a (lc cl i))) b.length ∧ lb hcl j = lb cl i) := rfl
          rw [hpl] at hl
          rcases hl with ⟨d1, d2, d3⟩ | ⟨d1, d2⟩
          · exact d2
          · rw [mapGet_none _ _ _ d1, d2]; rfl
        rw [hg]
      · rw [c1, Bool.not_false, cond_t, toF, if_neg (by omega), if_pos (by omega)]

theorem place_ok {n : Int} (h : -1000 ≤ n ∧ n ≤ 1000) : place n = some ((ixn n, decide (¬ n < 0), ()), (), ()) := by
  unfold place ixn
  rw [cond_dec]
  split
  · rename_i hn
    rw [gd_inK (by omega) (by omega), gd_inK (by omega) (by omega)]
    simp [hn]
  · rename_i hn
    rw [gd_inK (by omega) (by omega)]
    simp [hn]

set_option maxHeartbeats 4000000 in
theorem rMove_ok (hA : a.length ≤ 30) (hB : b.length ≤ 30) (hC : cl.length ≤ 40) (hD : hcl.length ≤ 40) {l : List (List Int)} (hl : l.length ≤ 1000) (hl2 : ∀ c ∈ l, c.length ≤ 1000) :
    rMove a1 a2 (cellsL a) a4 a5 gi ga ci cl co b1 b2 (cellsL b) b4 b5 hi ha hci hcl hco l = some ((mvAll a cl b hcl l, ()), (), ()) := by
  suffices hs : Runs (rMove a1 a2 (cellsL a) a4 a5 gi ga ci cl co b1 b2 (cellsL b) b4 b5 hi ha hci hcl hco l) (fun o => o = ((mvAll a cl b hcl l, ()), (), ())) by
    obtain ⟨_, e, rfl⟩ := hs; exact e
  unfold rMove rMoveF
  -- the names
  refine Runs.iter (fun y : Int × List (ByteArray × Int) => 0 ≤ y.1 ∧ y.1 ≤ b.length ∧ (y.2.length : Int) ≤ y.1 ∧ Knows (pC b) 0 y.2 y.1.toNat) (fun y => ((b.length : Int) - y.1).toNat) ?_ ⟨by dsimp only; omega, by dsimp only; omega, by simp, Knows.zero _ _⟩ (fuelN_gt (by dsimp only; omega))
  rintro ⟨i, cm⟩ ⟨i0, i1, i2, i3⟩
  dsimp only at i0 i1 i2 i3 ⊢
  simp only [nI, cellsL_len]
  refine Runs.dec (fun hi => ?_) (fun hi => ?_)
  · rw [cellsL_get i0 hi]
    refine Runs.gd i0 (Runs.gd hi ?_)
    have hp : ∀ s, pC b s (i.toNat : Int) = decide (nm b i = s) := fun s => by rw [Int.toNat_of_nonneg i0]; rfl
    cases hk : mapHas cm (nm b i) with
    | true =>
      rw [Bool.not_true, cond_f]
      refine Runs.inK ⟨by omega, by omega⟩ (Runs.ret ⟨⟨by dsimp only; omega, by dsimp only; omega, by dsimp only; omega, ?_⟩, by dsimp only; omega⟩)
      dsimp only
      rw [show (i + 1).toNat = i.toNat + 1 by omega]
      exact i3.skip hp hk
    | false =>
      rw [Bool.not_false, cond_t]
      have hln := mapSet_len i cm (nm b i)
      refine Runs.gd (by simp only [lim]; omega) (Runs.inK ⟨by omega, by omega⟩ (Runs.ret ⟨⟨by dsimp only; omega, by dsimp only; omega, by dsimp only; omega, ?_⟩, by dsimp only; omega⟩))
      dsimp only
      rw [show (i + 1).toNat = i.toNat + 1 by omega]
      have := i3.set hp hk
      rw [Int.toNat_of_nonneg i0, Int.add_zero] at this
      exact this
  have hcm : Knows (pC b) 0 cm b.length := by rw [show b.length = i.toNat by omega]; exact i3
  clear i0 i1 i2 i3 hi
  -- the latches
  refine Runs.mono (Q := fun o : (Int × List (ByteArray × Int)) ⊕ ((List (List Int) × Unit) × Unit × Unit) => o = Sum.inr ((mvAll a cl b hcl l, ()), (), ())) ?_ (fun r hr => by rw [hr]; rfl)
  refine Runs.iter (fun y : Int × List ((Int × Int × Unit) × Int) => 0 ≤ y.1 ∧ y.1 ≤ hcl.length ∧ (y.2.length : Int) ≤ y.1 ∧ Knows (pL hcl) 1 y.2 y.1.toNat) (fun y => ((hcl.length : Int) - y.1).toNat) ?_ ⟨by dsimp only; omega, by dsimp only; omega, by simp, Knows.zero _ _⟩ (fuelN_gt (by dsimp only; omega))
  rintro ⟨i, lm⟩ ⟨i0, i1, i2, i3⟩
  dsimp only at i0 i1 i2 i3 ⊢
  refine Runs.dec (fun hi => ?_) (fun hi => ?_)
  · have e1 : (get latchT hcl i).2.2.2.1 = lc hcl i := rfl
    have e2 : (get latchT hcl i).2.2.2.2.1 = lb hcl i := rfl
    rw [e1, e2]
    refine Runs.gd i0 (Runs.gd hi ?_)
    have hp : ∀ s, pL hcl s (i.toNat : Int) = decide ((lc hcl i, lb hcl i, ()) = s) := fun s => by
      obtain ⟨s1, s2, ⟨⟩⟩ := s
      rw [Int.toNat_of_nonneg i0]
      unfold pL
      rw [decide_eq_decide]
      simp
    cases hk : mapHas lm (lc hcl i, lb hcl i, ()) with
    | true =>
      rw [Bool.not_true, cond_f]
      refine Runs.inK ⟨by omega, by omega⟩ (Runs.ret ⟨⟨by dsimp only; omega, by dsimp only; omega, by dsimp only; omega, ?_⟩, by dsimp only; omega⟩)
      dsimp only
      rw [show (i + 1).toNat = i.toNat + 1 by omega]
      exact i3.skip hp hk
    | false =>
      rw [Bool.not_false, cond_t]
      have hln := mapSet_len (i + 1) lm (lc hcl i, lb hcl i, ())
      refine Runs.inK ⟨by omega, by omega⟩ (Runs.gd (by simp only [lim]; omega) (Runs.inK ⟨by omega, by omega⟩ (Runs.ret ⟨⟨by dsimp only; omega, by dsimp only; omega, by dsimp only; omega, ?_⟩, by dsimp only; omega⟩)))
      dsimp only
      rw [show (i + 1).toNat = i.toNat + 1 by omega]
      have := i3.set hp hk
      rw [Int.toNat_of_nonneg i0] at this
      exact this
  have hlm : Knows (pL hcl) 1 lm hcl.length := by rw [show hcl.length = i.toNat by omega]; exact i3
  clear i0 i1 i2 i3 hi
  -- the clauses
  refine Runs.mono (Q := fun o : (Int × List ((Int × Int × Unit) × Int)) ⊕ ((Int × List (ByteArray × Int)) ⊕ ((List (List Int) × Unit) × Unit × Unit)) => o = Sum.inr (Sum.inr ((mvAll a cl b hcl l, ()), (), ()))) ?_ (fun r hr => by rw [hr]; rfl)
  refine Runs.iter (fun y : Int × (List Int × List Int × List Cel × List Int × List Int) × (Int × List (Int × Int × Unit) × List (Int × Int × Int × Unit) × List Lat × List (Int × Int × Int × Unit)) × List (List Int) => 0 ≤ y.1 ∧ y.1 ≤ l.length ∧ y.2.1 = (a1, a2, cellsL a, a4, a5) ∧ y.2.2.1 = (gi, ga, ci, cl, co) ∧ y.2.2.2 = mvAll a cl b hcl (l.take y.1.toNat)) (fun y => ((l.length : Int) - y.1).toNat) ?_ ⟨by dsimp only; omega, by dsimp only; omega, rfl, rfl, by simp [mvAll]⟩ (fuelN_gt (by dsimp only; omega))
  rintro ⟨x, n, c, v⟩ ⟨x0, x1, rfl, rfl, hv⟩
  dsimp only at x0 x1 hv ⊢
  subst hv
  refine Runs.dec (fun hx => ?_) (fun hx => ?_)
  · have hc := hl2 _ (getL_mem x0 hx)
    have hlen : (mvAll a cl b hcl (l.take x.toNat)).length ≤ 1000 := by
      have := mv_len (a := a) (cl := cl) (b := b) (hcl := hcl) (l.take x.toNat)
      simp only [List.length_take] at this
      omega
    refine Runs.gd x0 (Runs.gd hx (Runs.bind (rOf_ok (by omega) hc) ?_))
    dsimp only
    cases hok : okc cl (getL l x) with
    | false =>
      rw [Bool.not_false, cond_t]
      refine Runs.inK ⟨by omega, by omega⟩ (Runs.ret ⟨⟨by dsimp only; omega, by dsimp only; omega, rfl, rfl, ?_⟩, by dsimp only; omega⟩)
      dsimp only
      rw [mv_snoc x0 hx, hok]
      simp
    | true =>
      rw [Bool.not_true, cond_f]
      -- one clause
      refine Runs.mono (Q := fun o : (Int × (List Int × List Int × List Cel × List Int × List Int) × (Int × List (Int × Int × Unit) × List (Int × Int × Int × Unit) × List Lat × List (Int × Int × Int × Unit)) × List (List Int)) ⊕ ((Int × List ((Int × Int × Unit) × Int)) ⊕ ((Int × List (ByteArray × Int)) ⊕ ((List (List Int) × Unit) × Unit × Unit))) => o = Sum.inl (x + 1, (a1, a2, cellsL a, a4, a5), (gi, ga, ci, cl, co), mvAll a cl b hcl (l.take (x + 1).toNat))) ?_ (fun r hr => by rw [hr]; exact ⟨⟨by dsimp only; omega, by dsimp only; omega, rfl, rfl, rfl⟩, by dsimp only; omega⟩)
      have bad : (∃ j : Int, 0 ≤ j ∧ j < (getL l x).length ∧ gF a cl b hcl (getI (getL l x) j) = 0) → mvAll a cl b hcl (l.take (x + 1).toNat) = mvAll a cl b hcl (l.take x.toNat) := by
        rintro ⟨j, j0, j1, j2⟩
        have : gdc a cl b hcl (getL l x) = false := by
          rw [← Bool.not_eq_true]
          intro hall
          have := all_idx.1 hall j j0 j1
          simp [j2] at this
        rw [mv_snoc x0 hx, hok, this]
        simp
      refine Runs.iter (fun y : Int × (List Int × List Int × List Cel × List Int × List Int) × (Int × List (Int × Int × Unit) × List (Int × Int × Int × Unit) × List Lat × List (Int × Int × Int × Unit)) × List Int × List Int => 0 ≤ y.1 ∧ y.1 ≤ (getL l x).length ∧ y.2.1 = (a1, a2, cellsL a, a4, a5) ∧ y.2.2.1 = (gi, ga, ci, cl, co) ∧ y.2.2.2.1 = ((getL l x).take y.1.toNat).map (hF a cl b hcl) ∧ ∀ j : Int, 0 ≤ j → j < y.1 → gF a cl b hcl (getI (getL l x) j) ≠ 0) (fun y => (((getL l x).length : Int) - y.1).toNat) ?_ ⟨by dsimp only; omega, by dsimp only; omega, rfl, rfl, by simp, fun j p q => by dsimp only at q; omega⟩ (fuelN_gt (by dsimp only; omega))
      rintro ⟨k, n, c, v, v2⟩ ⟨k0, k1, rfl, rfl, hv, k3⟩
      dsimp only at k0 k1 hv k3 ⊢
      subst hv
      refine Runs.dec (fun hk => ?_) (fun hk => ?_)
      · have hr := okc_at hok k0 hk
        have hlen2 : (((getL l x).take k.toNat).map (hF a cl b hcl)).length ≤ 1000 := by simp; omega
        have hg := toF_range a (lc cl (ixn (getI (getL l x) k))) (lb cl (ixn (getI (getL l x) k))) b hcl
        have hgv : gF a cl b hcl (getI (getL l x) k) = toF a (lc cl (ixn (getI (getL l x) k))) (lb cl (ixn (getI (getL l x) k))) b hcl := rfl
        have hix : 0 ≤ ixn (getI (getL l x) k) ∧ ixn (getI (getL l x) k) < cl.length := by unfold ixn; split <;> omega
        refine Runs.gd k0 (Runs.gd hk (Runs.bind (place_ok (by omega)) (Runs.bind (moveTo_ok hcm hlm hix.1 hix.2) ?_)))
        dsimp only
        rw [← hgv]
        refine Runs.eqI (fun h0 => ?_) (fun h0 => ?_)
        · refine Runs.inK ⟨by omega, by omega⟩ (Runs.ret ?_)
          show _ = _
          rw [bad ⟨k, k0, hk, h0⟩]
        · by_cases hn : getI (getL l x) k < 0
          · have hd : (!decide (¬ getI (getL l x) k < 0)) = true := by simp [hn]
            rw [hd, cond_t]
            refine Runs.inK ⟨by omega, by omega⟩ (Runs.gd (by simp only [lim, List.length_singleton]; omega) (Runs.gd (by simp only [lim, List.length_singleton]; omega) (Runs.inK ⟨by omega, by omega⟩ (Runs.ret ⟨⟨by dsimp only; omega, by dsimp only; omega, rfl, rfl, ?_, fun j p q => ?_⟩, by dsimp only; omega⟩))))
            · dsimp only
              rw [take_snoc k0 hk]
              congr 2
              unfold hF
              rw [if_pos hn]
            · dsimp only at q
              by_cases ej : j = k
              · rw [ej]; exact h0
              · exact k3 j p (by omega)
          · have hd : (!decide (¬ getI (getL l x) k < 0)) = false := by simp [hn]
            rw [hd, cond_f]
            refine Runs.gd (by simp only [lim, List.length_singleton]; omega) (Runs.gd (by simp only [lim, List.length_singleton]; omega) (Runs.inK ⟨by omega, by omega⟩ (Runs.ret ⟨⟨by dsimp only; omega, by dsimp only; omega, rfl, rfl, ?_, fun j p q => ?_⟩, by dsimp only; omega⟩)))
            · dsimp only
              rw [take_snoc k0 hk]
              congr 2
              unfold hF
              rw [if_neg hn]
            · dsimp only at q
              by_cases ej : j = k
              · rw [ej]; exact h0
              · exact k3 j p (by omega)
      · have hgd : gdc a cl b hcl (getL l x) = true := all_idx.2 fun j j0 j1 => decide_eq_true (k3 j j0 (by omega))
        refine Runs.gd (by simp only [lim, List.length_singleton]; omega) (Runs.gd (by simp only [lim, List.length_singleton]; omega) (Runs.inK ⟨by omega, by omega⟩ (Runs.ret ?_)))
        show _ = _
        rw [mv_snoc x0 hx, hok, hgd, show k.toNat = (getL l x).length by omega, List.take_length]
        rfl
  · refine Runs.ret ?_
    show _ = _
    rw [show x.toNat = l.length by omega, List.take_length]
end

theorem same_ok {a b : List (List Int)} (ha : a.length ≤ 1000) (ha2 : ∀ c ∈ a, c.length ≤ 1000) : same28 a b = some ((decide (a = b), ()), (), ()) := by
  suffices hs : Runs (same28 a b) (fun o => o = ((decide (a = b), ()), (), ())) by
    obtain ⟨_, e, rfl⟩ := hs; exact e
  unfold same28 same28F
  simp only [nI]
  refine Runs.neI (fun h => Runs.ret ?_) (fun h => ?_)
  · have : a ≠ b := fun e => h (by rw [e])
    rw [decide_eq_false this]
  · refine Runs.iter (fun x : Int => 0 ≤ x ∧ x ≤ a.length ∧ ∀ j : Int, 0 ≤ j → j < x → getL a j = getL b j) (fun x => ((a.length : Int) - x).toNat) ?_ ⟨by omega, by omega, fun j p q => by omega⟩ (fuelN_gt (by omega))
    rintro x ⟨x0, x1, x2⟩
    refine Runs.dec (fun hx => ?_) (fun hx => ?_)
    · have hlen := ha2 _ (getL_mem x0 hx)
      refine Runs.gd x0 (Runs.gd hx (Runs.gd x0 (Runs.gd (by omega) (Runs.neI (fun c => ?_) (fun c => ?_)))))
      · refine Runs.ret ?_
        have : a ≠ b := fun e => c (by rw [e])
        show _ = _
        rw [decide_eq_false this]
      · refine Runs.iter (fun y : Int => 0 ≤ y ∧ y ≤ (getL a x).length ∧ ∀ j : Int, 0 ≤ j → j < y → getI (getL a x) j = getI (getL b x) j) (fun y => (((getL a x).length : Int) - y).toNat) ?_ ⟨by omega, by omega, fun j p q => by omega⟩ (fuelN_gt (by omega))
        rintro y ⟨y0, y1, y2⟩
        refine Runs.gd x0 (Runs.gd hx (Runs.dec (fun hy => ?_) (fun hy => ?_)))
        · refine Runs.gd x0 (Runs.gd hx (Runs.gd y0 (Runs.gd hy (Runs.gd x0 (Runs.gd (by omega) (Runs.gd y0 (Runs.gd (by omega) (Runs.neI (fun d => ?_) (fun d => ?_)))))))))
          · refine Runs.ret ?_
            have : a ≠ b := fun e => d (by rw [e])
            show _ = _
            rw [decide_eq_false this]
          · refine Runs.inK ⟨by omega, by omega⟩ (Runs.ret ⟨⟨by omega, by omega, fun j p q => ?_⟩, by dsimp only; omega⟩)
            by_cases ej : j = y
            · rw [ej]; exact d
            · exact y2 j p (by omega)
        · refine Runs.inK ⟨by omega, by omega⟩ (Runs.ret ⟨⟨by omega, by omega, fun j p q => ?_⟩, by dsimp only; omega⟩)
          by_cases ej : j = x
          · rw [ej]
            exact list_ext_getI (by omega) fun i i0 i1 => y2 i i0 (by omega)
          · exact x2 j p (by omega)
    · refine Runs.ret ?_
      have : a = b := by
        apply List.ext_getElem (by omega)
        intro n h1 h2
        have := x2 n (by omega) (by omega)
        rwa [getL_nat a n h1, getL_nat b n h2] at this
      show _ = _
      rw [decide_eq_true this]

theorem mv_lens {a b : List ByteArray} {cl hcl : List Lat} {l : List (List Int)} (h : ∀ c ∈ l, c.length ≤ 1000) : ∀ c ∈ mvAll a cl b hcl l, c.length ≤ 1000 := by
  intro c hc
  unfold mvAll at hc
  obtain ⟨d, hd, rfl⟩ := List.mem_map.1 hc
  rw [List.length_map]
  exact h d (List.mem_filter.1 hd).1

theorem reuseMoves_pure (a : List ByteArray) (gi : Int) (ga : List (Int × Int × Unit)) (ci : List (Int × Int × Int × Unit)) (cl : List Lat) (co : List (Int × Int × Int × Unit)) (b : List ByteArray) (hi : Int) (ha : List (Int × Int × Unit)) (hci : List (Int × Int × Int × Unit)) (hcl : List Lat) (hco : List (Int × Int × Int × Unit)) (l : List (List Int)) :
    ReuseMoves a gi ga ci cl co b hi ha hci hcl hco l = some ((true, ()), (), ()) := by
  suffices hs : Runs (ReuseMoves a gi ga ci cl co b hi ha hci hcl hco l) (fun o => o = ((true, ()), (), ())) by
    obtain ⟨_, e, rfl⟩ := hs; exact e
  obtain ⟨p, ep, hp⟩ := short_ok a gi ga ci cl co
  obtain ⟨q, eq, hq⟩ := short_ok b hi ha hci hcl hco
  obtain ⟨r, er, hr⟩ := few_ok l
  unfold ReuseMoves ReuseMovesF
  refine Runs.bind head28_true (Runs.bind ep (Runs.bind eq (Runs.bind er ?_)))
  dsimp only
  cases p with
  | false => exact Runs.ret rfl
  | true =>
  cases q with
  | false => exact Runs.ret rfl
  | true =>
  cases r with
  | false => exact Runs.ret rfl
  | true =>
  obtain ⟨hA, hC⟩ := hp rfl
  obtain ⟨hB, hD⟩ := hq rfl
  obtain ⟨hl, hl2⟩ := hr rfl
  have hl3 : ∀ c ∈ l, c.length ≤ 1000 := fun c hc => by have := hl2 c hc; omega
  simp only [Bool.not_true, cond_f]
  refine Runs.bind (names_ok (by omega)) (Runs.bind (names_ok (by omega)) (Runs.bind (rMove_ok hA hB hC hD (by omega) hl3) (Runs.bind (names_ok (by omega)) (Runs.bind (names_ok (by omega)) (Runs.bind (Move28_ok hA hB hC hD (by omega) hl3) (Runs.bind (same_ok ?_ ?_) ?_))))))
  · have := mv_len (a := a) (cl := cl) (b := b) (hcl := hcl) l
    dsimp only
    omega
  · exact mv_lens hl3
  · rw [cond_t]
    refine Runs.ret ?_
    rw [decide_eq_true rfl]
    rfl
theorem reuseMoves_pure_fit (x : (inTy [.sl .str, circN, .sl .str, circN, .sl ints]).den) (h : inFit [.sl .str, circN, .sl .str, circN, .sl ints] x) : ReuseMoves x.1 x.2.1.1 x.2.1.2.1 x.2.1.2.2.1 x.2.1.2.2.2.1 x.2.1.2.2.2.2.1 x.2.2.1 x.2.2.2.1.1 x.2.2.2.1.2.1 x.2.2.2.1.2.2.1 x.2.2.2.1.2.2.2.1 x.2.2.2.1.2.2.2.2.1 x.2.2.2.2.1 = some ((true, ()), (), ()) := reuseMoves_pure _ _ _ _ _ _ _ _ _ _ _ _ _
end GoSx
end
section
/- Reuse, the pure theory, part D: right circuits, unlike names, and ReuseBack. -/
set_option linter.unusedVariables false
set_option linter.unusedSimpArgs false
namespace GoSx
open Go

theorem unlike_ok {l : List ByteArray} (hl : l.length ≤ lim) : ∃ b, unlike l = some ((b, ()), (), ()) ∧ (b = true → ∀ i j : Int, 0 ≤ i → i < j → j < l.length → nm l i ≠ nm l j) := by
  have hl : (l.length : Int) ≤ 140737488355328 := by simp only [lim] at hl; omega
  have : Runs (unlike l) (fun o => ∃ b, o = ((b, ()), (), ()) ∧ (b = true → ∀ i j : Int, 0 ≤ i → i < j → j < l.length → nm l i ≠ nm l j)) := by
    unfold unlike unlikeF
    simp only [nI]
    refine Runs.iter (fun x : Int => 0 ≤ x ∧ x ≤ l.length ∧ ∀ i j : Int, 0 ≤ i → i < j → j < x → nm l i ≠ nm l j) (fun x => ((l.length : Int) - x).toNat) ?_ ⟨by omega, by omega, fun i j p q r => by omega⟩ (fuelN_gt (by omega))
    rintro x ⟨x0, x1, x2⟩
    refine Runs.dec (fun hx => ?_) (fun hx => ?_)
    · refine Runs.iter (fun y : Int => 0 ≤ y ∧ y ≤ x ∧ ∀ i : Int, 0 ≤ i → i < y → nm l i ≠ nm l x) (fun y => (x - y).toNat) ?_ ⟨by omega, by omega, fun i p q => by omega⟩ (fuelN_gt (by omega))
      rintro y ⟨y0, y1, y2⟩
      refine Runs.dec (fun hy => ?_) (fun hy => ?_)
      · rw [bytes_eq]
        refine Runs.gd y0 (Runs.gd (by omega) (Runs.gd x0 (Runs.gd hx (Runs.dec (fun e => Runs.ret ?_) (fun e => ?_)))))
        · exact ⟨false, rfl, fun h => by cases h⟩
        · refine Runs.inK ⟨by omega, by omega⟩ (Runs.ret ⟨⟨by omega, by omega, fun i p q => ?_⟩, by dsimp only; omega⟩)
          by_cases ei : i = y
          · rw [ei]; exact e
          · exact y2 i p (by omega)
      · refine Runs.inK ⟨by omega, by omega⟩ (Runs.ret ⟨⟨by omega, by omega, fun i j p q r => ?_⟩, by dsimp only; omega⟩)
        by_cases ej : j = x
        · rw [ej]; exact y2 i p (by omega)
        · exact x2 i j p q (by omega)
    · exact Runs.ret ⟨true, rfl, fun _ i j p q r => x2 i j p q (by omega)⟩
  obtain ⟨_, e, b, rfl, h⟩ := this
  exact ⟨b, e, h⟩

theorem find_ok {gi : Int} {ga : List (Int × Int × Unit)} {a b n : Int} (hg : ga.length ≤ 1000) (hn : 0 ≤ n ∧ n ≤ ga.length) : ∃ r, find13 gi ga a b n = some ((r, ()), (), ()) := by
  have : Runs (find13 gi ga a b n) (fun o => ∃ r, o = ((r, ()), (), ())) := by
    unfold find13 find13F
    simp only [nI]
    refine Runs.iter (fun x : Int => 0 ≤ x ∧ x ≤ n) (fun x => (n - x).toNat) ?_ ⟨by omega, by omega⟩ (fuelN_gt (by omega))
    rintro x ⟨x0, x1⟩
    refine Runs.dec (fun hx => ?_) (fun hx => Runs.ret ⟨_, rfl⟩)
    refine Runs.gd x0 (Runs.gd (by omega) (Runs.bool (fun _ => ?_) (fun _ => ?_)))
    · refine Runs.gd x0 (Runs.gd (by omega) (Runs.bool (fun _ => Runs.ret ⟨_, rfl⟩) (fun _ => ?_)))
      exact Runs.inK ⟨by omega, by omega⟩ (Runs.ret ⟨⟨by omega, by omega⟩, by dsimp only; omega⟩)
    · exact Runs.inK ⟨by omega, by omega⟩ (Runs.ret ⟨⟨by omega, by omega⟩, by dsimp only; omega⟩)
  obtain ⟨_, e, r, rfl⟩ := this
  exact ⟨r, e⟩

theorem Right13_ok {gi : Int} {ga : List (Int × Int × Unit)} (hg : ga.length ≤ 1000) : ∃ b, Right13 gi ga = some ((b, ()), (), ()) ∧ (b = true → 0 ≤ gi ∧ gi ≤ 1048576) := by
  have : Runs (Right13 gi ga) (fun o => ∃ b, o = ((b, ()), (), ()) ∧ (b = true → 0 ≤ gi ∧ gi ≤ 1048576)) := by
    unfold Right13 Right13F
    simp only [nI]
    have no : ∃ b : Bool, (((false, ()), (), ()) : (Bool × Unit) × Unit × Unit) = ((b, ()), (), ()) ∧ (b = true → 0 ≤ gi ∧ gi ≤ 1048576) := ⟨false, rfl, fun h => by cases h⟩
    refine Runs.dec (fun h => Runs.ret no) (fun h1 => ?_)
    rw [cond_f]
    refine Runs.dec (fun h => Runs.ret no) (fun h2 => ?_)
    rw [cond_f]
    refine Runs.dec (fun h => Runs.ret no) (fun h3 => ?_)
    refine Runs.inK ⟨by omega, by omega⟩ ?_
    rw [cond_f]
    refine Runs.dec (fun h => Runs.ret no) (fun h4 => ?_)
    refine Runs.iter (fun x : Int => 0 ≤ x ∧ x ≤ ga.length) (fun x => ((ga.length : Int) - x).toNat) ?_ ⟨by omega, by omega⟩ (fuelN_gt (by omega))
    rintro x ⟨x0, x1⟩
    refine Runs.dec (fun hx => ?_) (fun hx => Runs.ret ⟨true, rfl, fun _ => ⟨by omega, by omega⟩⟩)
    refine Runs.gd x0 (Runs.gd hx (Runs.gd x0 (Runs.gd hx (Runs.bool (fun _ => Runs.ret no) (fun _ => Runs.bool (fun _ => Runs.ret no) (fun _ => ?_))))))
    refine Runs.inK ⟨by omega, by omega⟩ (Runs.bool (fun _ => Runs.ret no) (fun _ => Runs.bool (fun _ => Runs.ret no) (fun _ => ?_)))
    obtain ⟨r, er⟩ := find_ok (gi := gi) (ga := ga) (a := (get pair2 ga x).1) (b := (get pair2 ga x).2.1) (n := x) hg ⟨x0, x1⟩
    refine Runs.bind er (Runs.bool (fun _ => Runs.ret no) (fun _ => ?_))
    exact Runs.inK ⟨by omega, by omega⟩ (Runs.ret ⟨⟨by omega, by omega⟩, by dsimp only; omega⟩)
  obtain ⟨_, e, b, rfl, h⟩ := this
  exact ⟨b, e, h⟩

theorem rises_ok (a b c d : Int) : rises a b c d = some ((decide (a < c ∨ (a = c ∧ b < d)), ()), (), ()) := by
  unfold rises
  rw [cond_dec, cond_eqI]
  simp only [cond_f, cond_t]
  split
  · rename_i h; simp [h]
  · split
    · rename_i h1 h2; simp [h2]
    · rename_i h1 h2; simp [h1, h2]
theorem literal_ok {gi : Int} {ga : List (Int × Int × Unit)} {x : Int} (h : 0 ≤ gi ∧ gi ≤ 1048576) (hg : ga.length ≤ 1000) : ∃ b, literal gi ga x = some ((b, ()), (), ()) := by
  unfold literal
  rw [cond_dec]
  simp only [nI]
  split
  · rw [gd_inK (by omega) (by omega)]
    exact ⟨_, rfl⟩
  · exact ⟨_, rfl⟩

/-- Latches' cells and bits: none below 0, rising. -/
def Rgt (cl : List Lat) : Prop := (∀ i : Int, 0 ≤ i → i < cl.length → 0 ≤ lc cl i) ∧ ∀ i : Int, 0 < i → i < cl.length → lc cl (i - 1) < lc cl i ∨ (lc cl (i - 1) = lc cl i ∧ lb cl (i - 1) < lb cl i)
theorem Rgt.lt {cl : List Lat} (h : Rgt cl) {i : Int} (i0 : 0 ≤ i) : ∀ (n : Nat), i + (n + 1) < cl.length → lc cl i < lc cl (i + (n + 1)) ∨ (lc cl i = lc cl (i + (n + 1)) ∧ lb cl i < lb cl (i + (n + 1)))
  | 0, hj => by
    have := h.2 (i + 1) (by omega) (by simpa using hj)
    rw [show i + 1 - 1 = i by omega] at this
    simpa using this
  | n + 1, hj => by
    have ih := Rgt.lt h i0 n (by push_cast at hj; omega)
    have := h.2 (i + (n + 1) + 1) (by omega) (by push_cast at hj; omega)
    rw [show i + ((n : Int) + 1) + 1 - 1 = i + (n + 1) by omega] at this
    rw [show i + (((n + 1 : Nat) : Int) + 1) = i + ((n : Int) + 1) + 1 by push_cast; omega]
    omega
theorem Rgt.ne {cl : List Lat} (h : Rgt cl) {i j : Int} (i0 : 0 ≤ i) (hij : i < j) (hj : j < cl.length) : ¬ (lc cl i = lc cl j ∧ lb cl i = lb cl j) := by
  have := Rgt.lt h i0 (j - i - 1).toNat (by omega)
  rw [show i + (((j - i - 1).toNat : Int) + 1) = j by omega] at this
  omega

set_option maxHeartbeats 1000000 in
theorem Right15_ok {gi : Int} {ga : List (Int × Int × Unit)} {ci co : List (Int × Int × Int × Unit)} {cl : List Lat} (hg : ga.length ≤ 1000) (hci : ci.length ≤ lim) (hco : co.length ≤ lim) (hcl : cl.length ≤ 40) : ∃ b, Right15 gi ga ci cl co = some ((b, ()), (), ()) ∧ (b = true → Rgt cl) := by
  have hci : (ci.length : Int) ≤ 140737488355328 := by simp only [lim] at hci; omega
  have hco : (co.length : Int) ≤ 140737488355328 := by simp only [lim] at hco; omega
  have : Runs (Right15 gi ga ci cl co) (fun o => ∃ b, o = ((b, ()), (), ()) ∧ (b = true → Rgt cl)) := by
    obtain ⟨b, eb, hb⟩ := Right13_ok (gi := gi) hg
    have no : ∃ b : Bool, (((false, ()), (), ()) : (Bool × Unit) × Unit × Unit) = ((b, ()), (), ()) ∧ (b = true → Rgt cl) := ⟨false, rfl, fun h => by cases h⟩
    unfold Right15 Right15F
    simp only [nI]
    refine Runs.bind eb ?_
    dsimp only
    cases b with
    | false => exact Runs.ret no
    | true =>
    have hgi := hb rfl
    rw [Bool.not_true, cond_f]
    simp only [cond_f]
    refine Runs.dec (fun _ => Runs.ret no) (fun _ => ?_)
    refine Runs.inK ⟨by omega, by omega⟩ (Runs.neI (fun _ => Runs.ret no) (fun hsum => ?_))
    refine Runs.iter (fun x : Int => 0 ≤ x ∧ x ≤ ci.length) (fun x => ((ci.length : Int) - x).toNat) ?_ ⟨by omega, by omega⟩ (fuelN_gt (by omega))
    rintro x ⟨x0, x1⟩
    refine Runs.dec (fun hx => ?_) (fun hx => ?_)
    · have next : Runs (gd (inK IntKind.i64 (x + 1)) <| some (Sum.inl (x + 1))) (Stp (fun x : Int => 0 ≤ x ∧ x ≤ ci.length) (fun o : (Bool × Unit) × Unit × Unit => ∃ b, o = ((b, ()), (), ()) ∧ (b = true → Rgt cl)) (fun x => ((ci.length : Int) - x).toNat) x) :=
        Runs.inK ⟨by omega, by omega⟩ (Runs.ret ⟨⟨by omega, by omega⟩, by dsimp only; omega⟩)
      refine Runs.gd x0 (Runs.gd hx (Runs.inK ⟨by omega, by omega⟩ (Runs.bool (fun _ => Runs.ret no) (fun _ => Runs.bool (fun _ => Runs.ret no) (fun _ => Runs.bool (fun _ => Runs.ret no) (fun _ => Runs.dec (fun h0 => ?_) (fun _ => next)))))))
      refine Runs.inK ⟨by omega, by omega⟩ (Runs.gd (by omega) (Runs.gd (by omega) (Runs.inK ⟨by omega, by omega⟩ (Runs.gd (by omega) (Runs.gd (by omega) (Runs.bind (rises_ok _ _ _ _) ?_))))))
      exact Runs.bool (fun _ => Runs.ret no) (fun _ => next)
    · refine Runs.mono (Q := fun o : Int ⊕ ((Bool × Unit) × Unit × Unit) => ∃ b, o = Sum.inr ((b, ()), (), ()) ∧ (b = true → Rgt cl)) ?_ (fun r hr => by obtain ⟨b, e, h⟩ := hr; rw [e]; exact ⟨b, rfl, h⟩)
      have no2 : ∃ b : Bool, (Sum.inr ((false, ()), (), ()) : Int ⊕ ((Bool × Unit) × Unit × Unit)) = Sum.inr ((b, ()), (), ()) ∧ (b = true → Rgt cl) := ⟨false, rfl, fun h => by cases h⟩
      refine Runs.iter (fun y : Int => 0 ≤ y ∧ y ≤ cl.length ∧ (∀ i : Int, 0 ≤ i → i < y → 0 ≤ lc cl i) ∧ ∀ i : Int, 0 < i → i < y → lc cl (i - 1) < lc cl i ∨ (lc cl (i - 1) = lc cl i ∧ lb cl (i - 1) < lb cl i)) (fun y => ((cl.length : Int) - y).toNat) ?_ ⟨by omega, by omega, fun i p q => by omega, fun i p q => by omega⟩ (fuelN_gt (by omega))
      rintro y ⟨y0, y1, y2, y3⟩
      refine Runs.dec (fun hy => ?_) (fun hy => ?_)
      · obtain ⟨lt, el⟩ := literal_ok (x := (get latchT cl y).2.1) hgi hg
        have e1 : ∀ i, (get latchT cl i).2.2.2.1 = lc cl i := fun _ => rfl
        have e2 : ∀ i, (get latchT cl i).2.2.2.2.1 = lb cl i := fun _ => rfl
        simp only [e1, e2]
        refine Runs.gd y0 (Runs.gd hy (Runs.inK ⟨by omega, by omega⟩ (Runs.inK ⟨by omega, by omega⟩ (Runs.bool (fun _ => Runs.ret no2) (fun _ => Runs.dec (fun _ => Runs.ret no2) (fun hc => Runs.bool (fun _ => Runs.ret no2) (fun _ => Runs.bind el (Runs.bool (fun _ => Runs.ret no2) (fun _ => Runs.dec (fun h0 => ?_) (fun h0 => ?_))))))))))
        · refine Runs.inK ⟨by omega, by omega⟩ (Runs.gd (by omega) (Runs.gd (by omega) (Runs.inK ⟨by omega, by omega⟩ (Runs.gd (by omega) (Runs.gd (by omega) (Runs.bind (rises_ok _ _ _ _) ?_))))))
          rw [cond_t]
          refine Runs.bool (fun _ => Runs.ret no2) (fun hr => ?_)
          have hr : lc cl (y - 1) < lc cl y ∨ (lc cl (y - 1) = lc cl y ∧ lb cl (y - 1) < lb cl y) := by
            dsimp only at hr
            rw [Bool.not_eq_false'] at hr
            exact of_decide_eq_true hr
          have hc : ¬ lc cl y < (0 : Int) := hc
          refine Runs.inK ⟨by omega, by omega⟩ (Runs.ret ⟨⟨by omega, by omega, fun i p q => ?_, fun i p q => ?_⟩, by dsimp only; omega⟩)
          · by_cases ei : i = y
            · rw [ei]; omega
            · exact y2 i p (by omega)
          · by_cases ei : i = y
            · rw [ei]; exact hr
            · exact y3 i p (by omega)
        · have hc : ¬ lc cl y < (0 : Int) := hc
          refine Runs.inK ⟨by omega, by omega⟩ (Runs.ret ⟨⟨by omega, by omega, fun i p q => ?_, fun i p q => ?_⟩, by dsimp only; omega⟩)
          · by_cases ei : i = y
            · rw [ei]; omega
            · exact y2 i p (by omega)
          · exact y3 i p (by omega)
      · have yes : Rgt cl := ⟨fun i p q => y2 i p (by omega), fun i p q => y3 i p (by omega)⟩
        refine Runs.mono (Q := fun o : Int ⊕ (Int ⊕ ((Bool × Unit) × Unit × Unit)) => ∃ b, o = Sum.inr (Sum.inr ((b, ()), (), ()))) ?_ (fun r hr => by obtain ⟨b, e⟩ := hr; rw [e]; exact ⟨b, rfl, fun _ => yes⟩)
        have no3 : ∃ b : Bool, (Sum.inr (Sum.inr ((false, ()), (), ())) : Int ⊕ (Int ⊕ ((Bool × Unit) × Unit × Unit))) = Sum.inr (Sum.inr ((b, ()), (), ())) := ⟨false, rfl⟩
        refine Runs.iter (fun z : Int => 0 ≤ z ∧ z ≤ co.length) (fun z => ((co.length : Int) - z).toNat) ?_ ⟨by omega, by omega⟩ (fuelN_gt (by omega))
        rintro z ⟨z0, z1⟩
        refine Runs.dec (fun hz => ?_) (fun hz => Runs.ret ⟨true, rfl⟩)
        obtain ⟨lt, el⟩ := literal_ok (x := (get outT co z).2.1) hgi hg
        refine Runs.gd z0 (Runs.gd hz (Runs.bool (fun _ => Runs.ret no3) (fun _ => Runs.bool (fun _ => Runs.ret no3) (fun _ => Runs.bool (fun _ => Runs.ret no3) (fun _ => Runs.bind el (Runs.bool (fun _ => Runs.ret no3) (fun _ => ?_)))))))
        exact Runs.inK ⟨by omega, by omega⟩ (Runs.ret ⟨⟨by omega, by omega⟩, by dsimp only; omega⟩)
  obtain ⟨_, e, b, rfl, h⟩ := this
  exact ⟨b, e, h⟩

/-! ### In order -/
theorem in_ok {a b : List (List Int)} (h : a.Sublist b) (hb : b.length ≤ 1000) (hb2 : ∀ c ∈ b, c.length ≤ 1000) : in28 a b = some ((true, ()), (), ()) := by
  suffices hs : Runs (in28 a b) (fun o => o = ((true, ()), (), ())) by
    obtain ⟨_, e, rfl⟩ := hs; exact e
  have hab := h.length_le
  have ha2 : ∀ c ∈ a, c.length ≤ 1000 := fun c hc => hb2 c (h.subset hc)
  have one : ∀ (l : List (List Int)) (i : Int), 0 ≤ i → i < l.length → List.drop i.toNat (List.take (Int.toNat (i + 1)) l) = [getL l i] := by
    intro l i i0 i1
    rw [take_snocL i0 i1]
    have : (l.take i.toNat).length = i.toNat := by simp; omega
    exact List.drop_left' this
  have cut : ∀ (l : List (List Int)) (i : Int), 0 ≤ i → i < l.length → l.drop i.toNat = getL l i :: l.drop (i + 1).toNat := by
    intro l i i0 i1
    have hi : i.toNat < l.length := by omega
    rw [List.drop_eq_getElem_cons hi, show (i + 1).toNat = i.toNat + 1 by omega]
    rw [getL_def, List.getD_eq_getElem?_getD, List.getElem?_eq_getElem hi]
    rfl
  unfold in28 in28F
  simp only [nI]
  refine Runs.iter (fun x : Int × Int => 0 ≤ x.1 ∧ x.1 ≤ a.length ∧ 0 ≤ x.2 ∧ x.2 ≤ b.length ∧ (a.drop x.1.toNat).Sublist (b.drop x.2.toNat)) (fun x => ((b.length : Int) - x.2).toNat) ?_ ⟨by dsimp only; omega, by dsimp only; omega, by dsimp only; omega, by dsimp only; omega, h⟩ (fuelN_gt (by dsimp only; omega))
  rintro ⟨p, q⟩ ⟨p0, p1, q0, q1, hs⟩
  dsimp only at p0 p1 q0 q1 hs ⊢
  refine Runs.dec (fun hq => ?_) (fun hq => ?_)
  · rw [cond_t]
    refine Runs.dec (fun hp => ?_) (fun hp => ?_)
    · refine Runs.inK ⟨by omega, by omega⟩ (Runs.gd p0 (Runs.gd (by omega) (Runs.gd (by omega) (Runs.inK ⟨by omega, by omega⟩ (Runs.gd q0 (Runs.gd (by omega) (Runs.gd (by omega) ?_)))))))
      rw [one a p p0 hp, one b q q0 hq]
      refine Runs.bind (same_ok (by simp) (fun c hc => by rw [List.mem_singleton.1 hc]; exact ha2 _ (getL_mem p0 hp))) ?_
      rw [cut a p p0 hp, cut b q q0 hq] at hs
      refine Runs.dec (fun e => ?_) (fun e => ?_)
      · have e : getL a p = getL b q := by simpa using e
        refine Runs.inK ⟨by omega, by omega⟩ (Runs.inK ⟨by omega, by omega⟩ (Runs.ret ⟨⟨by dsimp only; omega, by dsimp only; omega, by dsimp only; omega, by dsimp only; omega, ?_⟩, by dsimp only; omega⟩))
        dsimp only
        rw [e] at hs
        exact List.Sublist.of_cons_cons hs
      · have e : getL a p ≠ getL b q := by simpa using e
        refine Runs.inK ⟨by omega, by omega⟩ (Runs.ret ⟨⟨by dsimp only; omega, by dsimp only; omega, by dsimp only; omega, by dsimp only; omega, ?_⟩, by dsimp only; omega⟩)
        dsimp only
        rw [cut a p p0 hp]
        rcases List.sublist_cons_iff.1 hs with h | ⟨r, h1, h2⟩
        · exact h
        · injection h1 with h1 _
          exact absurd h1 e
    · refine Runs.ret ?_
      have : p = a.length := by omega
      show _ = _
      rw [this, beq_self_eq_true]
  · refine Runs.ret ?_
    have : p = a.length := by
      rw [show q.toNat = b.length by omega, List.drop_length] at hs
      have := List.sublist_nil.1 hs
      rw [List.drop_eq_nil_iff] at this
      omega
    show _ = _
    rw [this, beq_self_eq_true]
end GoSx
end
section
/- Reuse, the pure theory, part E: there and back, and ReuseBack. -/
set_option linter.unusedVariables false
set_option linter.unusedSimpArgs false
namespace GoSx
open Go

def Unl (l : List ByteArray) : Prop := ∀ i j : Int, 0 ≤ i → i < j → j < l.length → nm l i ≠ nm l j

/-- What goes somewhere comes back. -/
theorem toF_spec {a b : List ByteArray} {xc xb : Int} {hcl : List Lat} (h : toF a xc xb b hcl ≠ 0) : 0 ≤ xc ∧ xc < a.length ∧ ∃ c k : Int, 0 ≤ c ∧ c < b.length ∧ nm b c = nm a xc ∧ (∀ j : Int, 0 ≤ j → j < c → nm b j ≠ nm a xc) ∧ 0 ≤ k ∧ k < hcl.length ∧ lc hcl k = c ∧ lb hcl k = xb ∧ toF a xc xb b hcl = k + 1 := by
  unfold toF at h ⊢
  split at h
  · exact absurd rfl h
  · rename_i h1
    split at h
    · exact absurd rfl h
    · rename_i h2
      rw [if_neg h1, if_neg h2]
      refine ⟨by omega, by omega, ?_⟩
      rcases firstI_cases (fun j => decide (nm b j = nm a xc)) b.length with ⟨c1, _⟩ | ⟨c1, c2, c3, c4⟩
      · omega
      · generalize firstI (fun j => decide (nm b j = nm a xc)) b.length = c at *
        rcases firstI_cases (fun j => decide (lc hcl j = c ∧ lb hcl j = xb)) hcl.length with ⟨k1, _⟩ | ⟨k1, k2, k3, k4⟩
        · rw [k1] at h; exact absurd rfl h
        · have := of_decide_eq_true k3
          exact ⟨c, _, c1, c2, of_decide_eq_true c3, fun j p q => of_decide_eq_false (c4 j p q), k1, k2, this.1, this.2, rfl⟩
theorem toF_back {a b : List ByteArray} (ua : Unl a) {cl hcl : List Lat} (rc : Rgt cl) {i k : Int} (i0 : 0 ≤ i) (i1 : i < cl.length) (h : toF a (lc cl i) (lb cl i) b hcl = k + 1) (hk : 0 ≤ k) : k < hcl.length ∧ toF b (lc hcl k) (lb hcl k) a cl = i + 1 := by
  obtain ⟨x0, x1, c, k', c0, c1, c2, c3, k0, k1, k2, k3, k4⟩ := toF_spec (by rw [h]; omega : toF a (lc cl i) (lb cl i) b hcl ≠ 0)
  have ek : k' = k := by omega
  subst ek
  refine ⟨k1, ?_⟩
  rw [k2, k3, toF, if_neg (by omega)]
  have e1 : firstI (fun j => decide (nm a j = nm b c)) a.length = lc cl i := by
    refine firstI_eq (.inr ⟨x0, x1, decide_eq_true c2.symm, fun j p q => decide_eq_false ?_⟩)
    rw [c2]
    exact ua j _ p q x1
  rw [e1, if_neg (by omega)]
  congr 1
  refine firstI_eq (.inr ⟨i0, i1, decide_eq_true ⟨rfl, rfl⟩, fun j p q => decide_eq_false ?_⟩)
  exact rc.ne p q i1
theorem toF_own {a : List ByteArray} (ua : Unl a) {cl : List Lat} (rc : Rgt cl) {i : Int} (i0 : 0 ≤ i) (i1 : i < cl.length) (h : lc cl i < a.length) : toF a (lc cl i) (lb cl i) a cl = i + 1 := by
  have h0 := rc.1 i i0 i1
  have e1 : firstI (fun j => decide (nm a j = nm a (lc cl i))) a.length = lc cl i :=
    firstI_eq (.inr ⟨h0, h, decide_eq_true rfl, fun j p q => decide_eq_false (ua j _ p q h)⟩)
  rw [toF, if_neg (by omega), e1, if_neg (by omega)]
  congr 1
  exact firstI_eq (.inr ⟨i0, i1, decide_eq_true ⟨rfl, rfl⟩, fun j p q => decide_eq_false (rc.ne p q i1)⟩)

section
variable {a b : List ByteArray} {cl hcl : List Lat}
theorem ixn_range {n : Int} (h : n ≠ 0 ∧ n ≤ cl.length ∧ -(cl.length : Int) ≤ n) : 0 ≤ ixn n ∧ ixn n < cl.length := by
  unfold ixn; split <;> omega
theorem okc_mem {l : List Int} (h : okc cl l = true) {n : Int} (hn : n ∈ l) : n ≠ 0 ∧ n ≤ cl.length ∧ -(cl.length : Int) ≤ n := by
  have := List.all_eq_true.1 h n hn
  exact of_decide_eq_true this
theorem gdc_mem {l : List Int} (h : gdc a cl b hcl l = true) {n : Int} (hn : n ∈ l) : gF a cl b hcl n ≠ 0 := by
  have := List.all_eq_true.1 h n hn
  exact of_decide_eq_true this

theorem back_one (ua : Unl a) (rc : Rgt cl) {n : Int} (h : n ≠ 0 ∧ n ≤ cl.length ∧ -(cl.length : Int) ≤ n) (hg : gF a cl b hcl n ≠ 0) :
    (hF a cl b hcl n ≠ 0 ∧ hF a cl b hcl n ≤ hcl.length ∧ -(hcl.length : Int) ≤ hF a cl b hcl n) ∧ gF b hcl a cl (hF a cl b hcl n) ≠ 0 ∧ hF b hcl a cl (hF a cl b hcl n) = n := by
  have hr := toF_range a (lc cl (ixn n)) (lb cl (ixn n)) b hcl
  have hix := ixn_range h
  have hgv : gF a cl b hcl n = toF a (lc cl (ixn n)) (lb cl (ixn n)) b hcl := rfl
  obtain ⟨k1, k2⟩ := toF_back (k := gF a cl b hcl n - 1) ua rc hix.1 hix.2 (b := b) (hcl := hcl) (by rw [← hgv]; omega) (by omega)
  have hx : ixn (hF a cl b hcl n) = gF a cl b hcl n - 1 := by
    unfold hF ixn
    split
    · rw [if_pos (by omega)]; omega
    · rw [if_neg (by omega)]
  have hg2 : gF b hcl a cl (hF a cl b hcl n) = ixn n + 1 := by
    show toF b (lc hcl (ixn (hF a cl b hcl n))) (lb hcl (ixn (hF a cl b hcl n))) a cl = _
    rw [hx, k2]
  refine ⟨?_, by rw [hg2]; omega, ?_⟩
  · unfold hF
    split <;> omega
  · have hs : hF a cl b hcl n < 0 ↔ n < 0 := by
      unfold hF
      split <;> omega
    rw [show hF b hcl a cl (hF a cl b hcl n) = if hF a cl b hcl n < 0 then 0 - gF b hcl a cl (hF a cl b hcl n) else gF b hcl a cl (hF a cl b hcl n) from rfl, hg2]
    unfold ixn
    by_cases hn : n < 0
    · rw [if_pos (hs.2 hn), if_pos hn]; omega
    · rw [if_neg (fun x => hn (hs.1 x)), if_neg hn]; omega

theorem back_all (ua : Unl a) (rc : Rgt cl) (l : List (List Int)) : mvAll b hcl a cl (mvAll a cl b hcl l) = l.filter fun c => okc cl c && gdc a cl b hcl c := by
  unfold mvAll
  generalize hL : l.filter (fun c => okc cl c && gdc a cl b hcl c) = L
  have hmem : ∀ c ∈ L, okc cl c = true ∧ gdc a cl b hcl c = true := by
    intro c hc
    rw [← hL] at hc
    have := (List.mem_filter.1 hc).2
    simpa using this
  have hone : ∀ c ∈ L, ∀ n ∈ c, (hF a cl b hcl n ≠ 0 ∧ hF a cl b hcl n ≤ hcl.length ∧ -(hcl.length : Int) ≤ hF a cl b hcl n) ∧ gF b hcl a cl (hF a cl b hcl n) ≠ 0 ∧ hF b hcl a cl (hF a cl b hcl n) = n :=
    fun c hc n hn => back_one ua rc (okc_mem (hmem c hc).1 hn) (gdc_mem (hmem c hc).2 hn)
  rw [List.filter_eq_self.2]
  · rw [List.map_map]
    refine (List.map_congr_left fun c hc => ?_).trans (List.map_id _)
    show (c.map (hF a cl b hcl)).map (hF b hcl a cl) = id c
    rw [List.map_map]
    exact (List.map_congr_left fun n hn => (hone c hc n hn).2.2).trans (List.map_id _)
  · intro c' hc'
    obtain ⟨c, hc, rfl⟩ := List.mem_map.1 hc'
    rw [Bool.and_eq_true]
    constructor
    · refine List.all_eq_true.2 fun m hm => ?_
      obtain ⟨n, hn, rfl⟩ := List.mem_map.1 hm
      exact decide_eq_true (hone c hc n hn).1
    · refine List.all_eq_true.2 fun m hm => ?_
      obtain ⟨n, hn, rfl⟩ := List.mem_map.1 hm
      exact decide_eq_true (hone c hc n hn).2.1

theorem own_all (ua : Unl a) (rc : Rgt cl) (l : List (List Int)) : mvAll a cl a cl l = l.filter fun c => okc cl c && gdc a cl a cl c := by
  unfold mvAll
  refine (List.map_congr_left fun c hc => ?_).trans (List.map_id _)
  have hc' := (List.mem_filter.1 hc).2
  rw [Bool.and_eq_true] at hc'
  show c.map (hF a cl a cl) = c
  refine (List.map_congr_left fun n hn => ?_).trans (List.map_id _)
  have hk := okc_mem hc'.1 hn
  have hg := gdc_mem hc'.2 hn
  have hix := ixn_range hk
  have hgv : gF a cl a cl n = toF a (lc cl (ixn n)) (lb cl (ixn n)) a cl := rfl
  obtain ⟨x0, x1, _⟩ := toF_spec (by rw [← hgv]; exact hg)
  have e := toF_own ua rc hix.1 hix.2 x1
  show hF a cl a cl n = n
  unfold hF
  rw [hgv, e]
  unfold ixn
  split <;> omega

theorem own_more (ua : Unl a) (rc : Rgt cl) (l : List (List Int)) : (l.filter fun c => okc cl c && gdc a cl b hcl c).length ≤ (l.filter fun c => okc cl c && gdc a cl a cl c).length := by
  rw [← List.countP_eq_length_filter, ← List.countP_eq_length_filter]
  refine List.countP_mono_left fun c _ h => ?_
  rw [Bool.and_eq_true] at h ⊢
  refine ⟨h.1, List.all_eq_true.2 fun n hn => decide_eq_true ?_⟩
  have hk := okc_mem h.1 hn
  have hg := gdc_mem h.2 hn
  have hix := ixn_range hk
  obtain ⟨x0, x1, _⟩ := toF_spec (show toF a (lc cl (ixn n)) (lb cl (ixn n)) b hcl ≠ 0 from hg)
  have e := toF_own ua rc hix.1 hix.2 x1
  show toF a (lc cl (ixn n)) (lb cl (ixn n)) a cl ≠ 0
  rw [e]
  omega
end

set_option maxHeartbeats 2000000 in
theorem reuseBack_pure (a : List ByteArray) (gi : Int) (ga : List (Int × Int × Unit)) (ci : List (Int × Int × Int × Unit)) (cl : List Lat) (co : List (Int × Int × Int × Unit)) (b : List ByteArray) (hi : Int) (ha : List (Int × Int × Unit)) (hci : List (Int × Int × Int × Unit)) (hcl : List Lat) (hco : List (Int × Int × Int × Unit)) (l : List (List Int))
    (f1 : a.length ≤ lim) (f2 : ga.length ≤ lim) (f3 : ci.length ≤ lim) (f4 : co.length ≤ lim) (f5 : b.length ≤ lim) (f6 : ha.length ≤ lim) (f7 : hci.length ≤ lim) (f8 : hco.length ≤ lim) :
    ReuseBack a gi ga ci cl co b hi ha hci hcl hco l = some ((true, ()), (), ()) := by
  suffices hs : Runs (ReuseBack a gi ga ci cl co b hi ha hci hcl hco l) (fun o => o = ((true, ()), (), ())) by
    obtain ⟨_, e, rfl⟩ := hs; exact e
  obtain ⟨p, ep, hp⟩ := short_ok a gi ga ci cl co
  obtain ⟨q, eq, hq⟩ := short_ok b hi ha hci hcl hco
  obtain ⟨r, er, hr⟩ := few_ok l
  obtain ⟨ua, eua, hua⟩ := unlike_ok f1
  obtain ⟨ub, eub, hub⟩ := unlike_ok f5
  have g2 : (ga.length : Int) ≤ 140737488355328 := by simp only [lim] at f2; omega
  have g6 : (ha.length : Int) ≤ 140737488355328 := by simp only [lim] at f6; omega
  unfold ReuseBack ReuseBackF
  simp only [nI]
  refine Runs.bind head28_true (Runs.bind ep (Runs.bind eq (Runs.bind er (Runs.bind eua (Runs.bind eub ?_)))))
  dsimp only
  cases p with
  | false => exact Runs.ret rfl
  | true =>
  cases q with
  | false => exact Runs.ret rfl
  | true =>
  cases r with
  | false => exact Runs.ret rfl
  | true =>
  cases ua with
  | false => exact Runs.ret rfl
  | true =>
  cases ub with
  | false => exact Runs.ret rfl
  | true =>
  obtain ⟨hA, hC⟩ := hp rfl
  obtain ⟨hB, hD⟩ := hq rfl
  obtain ⟨hl, hl2⟩ := hr rfl
  have hl3 : ∀ c ∈ l, c.length ≤ 1000 := fun c hc => by have := hl2 c hc; omega
  simp only [Bool.not_true, cond_f]
  refine Runs.inK ⟨by omega, by omega⟩ (Runs.dec (fun _ => Runs.ret rfl) (fun h100 => ?_))
  obtain ⟨ra, era, hra⟩ := Right15_ok (gi := gi) (ga := ga) (by omega) f3 f4 hC
  obtain ⟨rb, erb, hrb⟩ := Right15_ok (gi := hi) (ga := ha) (by omega) f7 f8 hD
  refine Runs.bind era (Runs.bind erb ?_)
  dsimp only
  cases ra with
  | false => exact Runs.ret rfl
  | true =>
  cases rb with
  | false => exact Runs.ret rfl
  | true =>
  have rc := hra rfl
  have rd := hrb rfl
  simp only [Bool.not_true, cond_f]
  have hm := mv_len (a := a) (cl := cl) (b := b) (hcl := hcl) l
  have hm3 := mv_lens (a := a) (b := b) (cl := cl) (hcl := hcl) hl3
  refine Runs.bind (names_ok (by omega)) (Runs.bind (names_ok (by omega)) (Runs.bind (rMove_ok hA hB hC hD (by omega) hl3) (Runs.bind (names_ok (by omega)) (Runs.bind (names_ok (by omega)) (Runs.bind (rMove_ok hB hA hD hC (by dsimp only; omega) hm3) (Runs.bind (names_ok (by omega)) (Runs.bind (names_ok (by omega)) (Runs.bind (rMove_ok hA hA hC hC (by omega) hl3) ?_))))))))
  dsimp only
  rw [back_all (hua rfl) rc, own_all (hua rfl) rc]
  refine Runs.bind (in_ok List.filter_sublist (by omega) hl3) (Runs.bind (in_ok List.filter_sublist (by omega) hl3) ?_)
  have e1 : (l.filter fun c => okc cl c && gdc a cl b hcl c).length = (mvAll a cl b hcl l).length := by unfold mvAll; rw [List.length_map]
  have e2 := own_more (b := b) (hcl := hcl) (hua rfl) rc l
  rw [cond_t, e1, beq_self_eq_true]
  simp only [cond_t]
  refine Runs.ret ?_
  have e3 : decide (((l.filter fun c => okc cl c && gdc a cl a cl c).length : Int) ≥ (mvAll a cl b hcl l).length) = true := decide_eq_true (by omega)
  rw [e3]
theorem reuseBack_pure_fit (x : (inTy [.sl .str, circN, .sl .str, circN, .sl ints]).den) (h : inFit [.sl .str, circN, .sl .str, circN, .sl ints] x) : ReuseBack x.1 x.2.1.1 x.2.1.2.1 x.2.1.2.2.1 x.2.1.2.2.2.1 x.2.1.2.2.2.2.1 x.2.2.1 x.2.2.2.1.1 x.2.2.2.1.2.1 x.2.2.2.1.2.2.1 x.2.2.2.1.2.2.2.1 x.2.2.2.1.2.2.2.2.1 x.2.2.2.2.1 = some ((true, ()), (), ()) := by
  obtain ⟨h1, ⟨_, h2, h3, _, h4, _⟩, h5, ⟨_, h6, h7, _, h8, _⟩, _⟩ := h
  exact reuseBack_pure _ _ _ _ _ _ _ _ _ _ _ _ _ h1.1 h2.1 h3.1 h4.1 h5.1 h6.1 h7.1 h8.1
end GoSx
end
