/- The texts TB, TC, TD, TE, TF, TG, TH, TI, TJ, TA, TK, one behind the other. -/
import Derived.Test.YthbgfkccfpihgaaGreatDoorGB2
import Derived.KernelRfl
set_option linter.unusedVariables false
set_option linter.unusedSimpArgs false
section
set_option linter.unusedVariables false
set_option linter.unusedSimpArgs false
namespace AL
open Go
theorem Hb {p : Prop} [d : Decidable p] {R : Type} {k : Option R} (h : p) : gd p k = k := by
 unfold gd; exact if_pos h
theorem AKW {n : Int} {R : Type} {k : Option R} (h : -9223372036854775808 <= n) (h' : n <= 9223372036854775807) : gd (inK IntKind.i64 n) k = k := Hb ⟨h, h'⟩
theorem PS {X R : Type} (x : X) (k : X -> Option R) : AD (some x) k = k x := rfl
theorem AGt {p : Prop} [Decidable p] {α : Type} (a b : α) : (bif decide p then a else b) = if p then a else b := by
 by_cases h : p <;> simp [h]
theorem CI {α : Type} (a b : α) : (bif true then a else b) = a := rfl
theorem BE {α : Type} (a b : α) : (bif false then a else b) = b := rfl
theorem AGu {α : Type} (x y : Int) (a b : α) : (bif x == y then a else b) = if x = y then a else b := by
 by_cases h : x = y
 ·simp [h]
 ·rw [if_neg h, beq_eq_false_iff_ne.mpr h]; rfl
theorem AGv {α : Type} (x y : Int) (a b : α) : (bif x != y then a else b) = if x = y then b else a := by
 by_cases h : x = y
 ·simp [h]
 ·rw [if_neg h, bne_iff_ne.mpr h]; rfl
theorem AC0 {X R : Type} (b : X -> Option (X ⊕ R)) (I : X -> Prop) (Q : R -> Prop) (m : X -> Nat)
  (step : ∀ x, I x -> (∃ y, b x = some (.inl y) /\ I y /\ m y < m x) \/ (∃ r, b x = some (.inr r) /\ Q r)) :
  ∀ n x, I x -> m x < n -> ∃ r, AQ b n x = some r /\ Q r := by
 intro n
 induction n with
 | zero => intro x _ h; omega
 | succ n ih =>
  intro x hx hn
  rcases step x hx with ⟨y, h1, h2, h3⟩ | ⟨r, h1, h2⟩
  ·obtain ⟨r, h4, h5⟩ := ih y h2 (by omega)
   exact ⟨r, by unfold AQ; rw [h1]; exact h4, h5⟩
  ·exact ⟨r, by unfold AQ; rw [h1], h2⟩
theorem AS {n : Nat} (h : n < 2 ^ 128) : n < AK := by
 have : (2:Nat) ^ 128 <= 2 ^ 200 := Nat.pow_le_pow_right (by omega) (by omega)
 unfold AK; omega
theorem Hc (l : List Int) (i : Int) : AE l i = l.getD i.toNat 0 := rfl
theorem WZ (l : List Int) (i : Nat) (h : i < l.length) : AE l i = l[i] := by
 simp [Hc, h]
theorem AGw {l : List Int} {i : Int} (h0 : 0 <= i) (h : i < l.length) : AE l i ∈ l := by
 have : i.toNat < l.length := by omega
 rw [Hc]; simp [this]
theorem DL {l r : List Int} {i : Int} (hi : 0 <= i) : AE (l ++ r) i = if i < l.length then AE l i else AE r (i - l.length) := by
 rw [Hc, Hc, Hc, List.getD_eq_getElem?_getD, List.getD_eq_getElem?_getD, List.getD_eq_getElem?_getD]
 by_cases h : i < l.length
 ·rw [if_pos h, List.getElem?_append_left (by omega)]
 ·rw [if_neg h, List.getElem?_append_right (by omega)]
  have : (i - l.length).toNat = i.toNat - l.length := by omega
  rw [this]
theorem Fv {l : List Int} {x i : Int} (hi : 0 <= i) (hi' : i <= l.length) : AE (l ++ [x]) i = if i = l.length then x else AE l i := by
 rw [DL hi]
 by_cases h : i = l.length
 ·rw [if_neg (by omega), if_pos h]
  have : i - l.length = 0 := by omega
  rw [this]; rfl
 ·rw [if_pos (by omega), if_neg h]
theorem P8 {l r : List Int} (h : l.length = r.length) (e : ∀ i : Int, 0 <= i -> i < l.length -> AE l i = AE r i) : l = r := by
 apply List.ext_getElem h
 intro n h1 h2
 have := e n (by omega) (by omega)
 rw [WZ l n h1, WZ r n h2] at this
 exact this
def AA {R : Type} (e : Option R) (Q : R -> Prop) : Prop := ∃ r, e = some r /\ Q r
theorem AA.ret {R : Type} {Q : R -> Prop} {r : R} (h : Q r) : AA (some r) Q := ⟨r, rfl, h⟩
theorem AA.gd {R : Type} {Q : R -> Prop} {p : Prop} [Decidable p] {k : Option R} (h : p) (hk : AA k Q) : AA (AL.gd p k) Q := by rw [Hb h]; exact hk
theorem AA.inK {R : Type} {Q : R -> Prop} {n : Int} {k : Option R} (h : -9223372036854775808 <= n /\ n <= 9223372036854775807) (hk : AA k Q) : AA (AL.gd (AL.inK IntKind.i64 n) k) Q := by rw [AKW h.1 h.2]; exact hk
theorem AA.bind {X R : Type} {Q : R -> Prop} {m : Option X} {k : X -> Option R} {x : X} (h : m = some x) (hk : AA (k x) Q) : AA (AD m k) Q := by rw [h]; exact hk
theorem AA.AZ {X R : Type} {Q : R -> Prop} {m : Option X} {k : X -> Option R} {Q1 : X -> Prop} (h : AA m Q1) (hk : ∀ x, Q1 x -> AA (k x) Q) : AA (AD m k) Q := by
 obtain ⟨x, e, q⟩ := h; rw [e]; exact hk x q
theorem AA.join {X R : Type} {Q : R -> Prop} {a : Option (X ⊕ R)} {k : X -> Option R} {Q1 : X ⊕ R -> Prop} (h : AA a Q1) (hk : ∀ x, Q1 (.inl x) -> AA (k x) Q) (hr : ∀ r, Q1 (.inr r) -> Q r) : AA (L0 a k) Q := by
 obtain ⟨o, e, q⟩ := h
 rw [e]
 cases o with
 | inl x => exact hk x q
 | inr r => exact ⟨r, rfl, hr r q⟩
theorem AA.dec {R : Type} {Q : R -> Prop} {p : Prop} [Decidable p] {a b : Option R} (h : p -> AA a Q) (h' : ¬ p -> AA b Q) : AA (bif decide p then a else b) Q := by
 rw [AGt]; split <;> rename_i hp
 ·exact h hp
 ·exact h' hp
theorem AA.eqI {R : Type} {Q : R -> Prop} {x y : Int} {a b : Option R} (h : x = y -> AA a Q) (h' : x ≠ y -> AA b Q) : AA (bif x == y then a else b) Q := by
 rw [AGu]; split <;> rename_i hp
 ·exact h hp
 ·exact h' hp
theorem AA.neI {R : Type} {Q : R -> Prop} {x y : Int} {a b : Option R} (h : x ≠ y -> AA a Q) (h' : x = y -> AA b Q) : AA (bif x != y then a else b) Q := by
 rw [AGv]; split <;> rename_i hp
 ·exact h' hp
 ·exact h hp
theorem AA.bool {R : Type} {Q : R -> Prop} {c : Bool} {a b : Option R} (h : c = true -> AA a Q) (h' : c = false -> AA b Q) : AA (bif c then a else b) Q := by
 cases c
 ·exact h' rfl
 ·exact h rfl
theorem AA.mono {R : Type} {Q Q' : R -> Prop} {e : Option R} (h : AA e Q) (hq : ∀ r, Q r -> Q' r) : AA e Q' := by
 obtain ⟨r, e, q⟩ := h; exact ⟨r, e, hq r q⟩
def Stp {X R : Type} (I : X -> Prop) (Q : R -> Prop) (m : X -> Nat) (x0 : X) : X ⊕ R -> Prop
 | .inl y => I y /\ m y < m x0
 | .inr r => Q r
theorem AA.iter {X R : Type} {b : X -> Option (X ⊕ R)} {Q : R -> Prop} {n : Nat} {x : X} (I : X -> Prop) (m : X -> Nat) (step : ∀ x, I x -> AA (b x) (Stp I Q m x)) (hx : I x) (hn : m x < n) : AA (AQ b n x) Q := by
 refine AC0 b I Q m ?_ n x hx hn
 intro y hy
 obtain ⟨o, e, q⟩ := step y hy
 cases o with
 | inl z => exact .inl ⟨z, e, q.1, q.2⟩
 | inr r => exact .inr ⟨r, e, q⟩
theorem MS {n : Int} (h1 : -9223372036854775808 <= n) (h2 : n <= 9223372036854775807) : IntKind.i64.wrap n = n := by
 revert h1 h2
 unfold IntKind.wrap
 simp only [IntKind.signed, IntKind.bits]
 simp
 intro h1 h2
 (try split) <;> omega
def tw (x : Int) : Int := IntKind.i64.wrap (nI (BitVec.ofInt 64 x ^^^ BitVec.ofInt 64 1).toNat)
theorem RV {n : Nat} (h : n < 2 ^ 64) : (BitVec.ofInt 64 (n : Int)).toNat = n := by
 simp [BitVec.toNat_ofInt]
 omega
theorem AK5 {x : Int} (h0 : 0 <= x) (h : x < 4611686018427387904) : 0 <= tw x /\ tw x / 2 = x / 2 := by
 obtain ⟨n, rfl⟩ := Int.eq_ofNat_of_zero_le h0
 have e : (BitVec.ofInt 64 (n : Int) ^^^ BitVec.ofInt 64 1).toNat = n ^^^ 1 := by
  rw [BitVec.toNat_xor, RV (by omega)]
  rfl
 have hx : n ^^^ 1 < 2 ^ 62 := Nat.xor_lt_two_pow (by omega) (by omega)
 have hd : (n ^^^ 1) / 2 = n / 2 := by
  rw [Nat.xor_div_two]
  simp
 unfold tw
 rw [e, MS (by unfold nI; omega) (by unfold nI; omega)]
 unfold nI
 omega
def lb1 (x : Int) : Int := IntKind.i64.wrap (nI (BitVec.ofInt 64 x &&& BitVec.ofInt 64 1).toNat)
theorem AKX (x : Int) : 0 <= lb1 x /\ lb1 x <= 1 := by
 have e : (BitVec.ofInt 64 x &&& BitVec.ofInt 64 1).toNat <= 1 := by
  rw [BitVec.toNat_and]
  exact Nat.and_le_right
 unfold lb1
 rw [MS (by unfold nI; omega) (by unfold nI; omega)]
 unfold nI
 omega
theorem AKY {x : Int} (h0 : 0 <= x) (h : x < 4611686018427387904) : tw x = if x % 2 = 0 then x + 1 else x - 1 := by
 obtain ⟨n, rfl⟩ := Int.eq_ofNat_of_zero_le h0
 have e : (BitVec.ofInt 64 (n : Int) ^^^ BitVec.ofInt 64 1).toNat = n ^^^ 1 := by
  rw [BitVec.toNat_xor, RV (by omega)]
  rfl
 have hx : n ^^^ 1 < 2 ^ 62 := Nat.xor_lt_two_pow (by omega) (by omega)
 have hd : (n ^^^ 1) / 2 = n / 2 := by
  rw [Nat.xor_div_two]
  simp
 have hm : (n ^^^ 1) % 2 = (n + 1) % 2 := by
  have := Nat.xor_mod_two_pow (a := n) (b := 1) (n := 1)
  rw [Nat.pow_one] at this
  rw [this]
  rcases Nat.mod_two_eq_zero_or_one n with h | h
  ·rw [h]; simp; omega
  ·rw [h]; simp; omega
 unfold tw
 rw [e, MS (by unfold nI; omega) (by unfold nI; omega)]
 unfold nI
 split <;> omega
abbrev P2 := Int × Int × Unit
def Lit (gi : Int) (ga : List P2) (x : Int) : Prop := 0 <= x /\ x / 2 <= gi + ga.length
def pa (ga : List P2) (j : Int) : Int := (get AR ga j).1
def pb (ga : List P2) (j : Int) : Int := (get AR ga j).2.1
def Gr (gi : Int) (ga : List P2) : Prop := 0 <= gi /\ gi <= 1000 /\ ∀ j : Int, 0 <= j -> j < ga.length -> 2 <= pa ga j /\ pa ga j < pb ga j /\ pb ga j / 2 <= gi + j /\ pa ga j / 2 ≠ pb ga j / 2 /\ ∀ i : Int, 0 <= i -> i < j -> ¬ (pa ga i = pa ga j /\ pb ga i = pb ga j)
theorem MT {l : List P2} {x : P2} {i : Int} (hi : 0 <= i) (h : i <= l.length) : get AR (l ++ [x]) i = if i = l.length then x else get AR l i := by
 unfold get
 rw [List.getD_eq_getElem?_getD, List.getD_eq_getElem?_getD]
 split
 ·rename_i e
  have : i.toNat = l.length := by omega
  rw [this]; simp
 ·rw [List.getElem?_append_left (by omega)]
theorem UG {l : List P2} {a b : Int} {i : Int} (hi : 0 <= i) (h : i <= l.length) : pa (l ++ [(a, b, ())]) i = if i = l.length then a else pa l i := by
 unfold pa; rw [MT hi h]; split <;> rfl
theorem UH {l : List P2} {a b : Int} {i : Int} (hi : 0 <= i) (h : i <= l.length) : pb (l ++ [(a, b, ())]) i = if i = l.length then b else pb l i := by
 unfold pb; rw [MT hi h]; split <;> rfl
theorem Gr.push {gi : Int} {ga : List P2} (h : Gr gi ga) {a b : Int} (h2 : 2 <= a) (hab : a < b) (hb : Lit gi ga b) (hne : a / 2 ≠ b / 2) (hnew : ∀ j : Int, 0 <= j -> j < ga.length -> ¬ (a = pa ga j /\ b = pb ga j)) : Gr gi (ga ++ [(a, b, ())]) := by
 refine ⟨h.1, h.2.1, fun j h0 h1 => ?_⟩
 rw [List.length_append, List.length_singleton] at h1
 rw [UG h0 (by omega), UH h0 (by omega)]
 by_cases e : j = ga.length
 ·rw [if_pos e, if_pos e]
  refine ⟨h2, hab, by rw [e]; exact hb.2, hne, fun i i0 i1 hh => ?_⟩
  rw [UG i0 (by omega), UH i0 (by omega), if_neg (by omega), if_neg (by omega)] at hh
  exact hnew i i0 (by omega) ⟨hh.1.symm, hh.2.symm⟩
 ·rw [if_neg e, if_neg e]
  obtain ⟨g1, g2, g3, g4, g5⟩ := h.2.2 j h0 (by omega)
  refine ⟨g1, g2, g3, g4, fun i i0 i1 hh => ?_⟩
  rw [UG i0 (by omega), UH i0 (by omega), if_neg (by omega), if_neg (by omega)] at hh
  exact g5 i i0 i1 hh
theorem Lit.mono {gi : Int} {ga ga' : List P2} {x : Int} (h : Lit gi ga x) (hl : ga.length <= ga'.length) : Lit gi ga' x := ⟨h.1, by have := h.2; omega⟩
theorem Lit.zero {gi : Int} {ga : List P2} (h : Gr gi ga) : Lit gi ga 0 := ⟨by omega, by have := h.1; omega⟩
theorem Lit.one {gi : Int} {ga : List P2} (h : Gr gi ga) : Lit gi ga 1 := ⟨by omega, by have := h.1; omega⟩
theorem Lit.Mq {gi : Int} {ga : List P2} {x : Int} (hg : Gr gi ga) (hl : ga.length <= 100000000) (h : Lit gi ga x) : Lit gi ga (tw x) := by
 have := h.1; have := h.2; have := hg.2.1
 obtain ⟨h1, h2⟩ := AK5 h.1 (by omega)
 exact ⟨h1, by omega⟩
def BT (gi : Int) (ga : List P2) (l : List Int) : Prop := ∀ x ∈ l, Lit gi ga x
theorem BT.mono {gi : Int} {ga ga' : List P2} {l : List Int} (h : BT gi ga l) (hl : ga.length <= ga'.length) : BT gi ga' l := fun x hx => (h x hx).mono hl
theorem BT.nil {gi : Int} {ga : List P2} : BT gi ga [] := fun x hx => by cases hx
theorem BT.one {gi : Int} {ga : List P2} {x : Int} (h : Lit gi ga x) : BT gi ga [x] := fun y hy => by rw [List.mem_singleton] at hy; rw [hy]; exact h
theorem BT.app {gi : Int} {ga : List P2} {l r : List Int} (h : BT gi ga l) (h' : BT gi ga r) : BT gi ga (l ++ r) := fun y hy => (List.mem_append.1 hy).elim (h y) (h' y)
theorem BT.get {gi : Int} {ga : List P2} {l : List Int} {i : Int} (h : BT gi ga l) (h0 : 0 <= i) (h1 : i < l.length) : Lit gi ga (AE l i) := h _ (AGw h0 h1)
theorem BT.set {gi : Int} {ga : List P2} {l : List Int} {x : Int} {i : Nat} (h : BT gi ga l) (hx : Lit gi ga x) : BT gi ga (l.set i x) := fun y hy => (List.mem_or_eq_of_mem_set hy).elim (h y) (fun e => by rw [e]; exact hx)
theorem BT.AAx {gi : Int} {ga : List P2} (hg : Gr gi ga) (n : Nat) : BT gi ga (List.replicate n 0) := fun y hy => by
 rw [List.eq_of_mem_replicate hy]; exact Lit.zero hg
theorem A9 : lim = 140737488355328 := rfl
theorem Aq (n : Nat) : nI n = (n : Int) := rfl
structure GM (gi : Int) (ga : List P2) (k : Nat) (x g : Int) (l : List P2) : Prop where
 g : g = gi
 gr : Gr gi l
 lo : ga.length <= l.length
 hi : l.length <= ga.length + k
 lit : Lit gi l x
structure GMs (gi : Int) (ga : List P2) (k n : Nat) (x : List Int) (g : Int) (l : List P2) : Prop where
 g : g = gi
 gr : Gr gi l
 lo : ga.length <= l.length
 hi : l.length <= ga.length + k
 len : x.length = n
 lits : BT gi l x
theorem Wd {gi : Int} {ga : List P2} {p q : Int} (hg : Gr gi ga) (hq : Lit gi ga q) : AA (N2 p q) fun r => (r.1.2.1 = true /\ Lit gi ga r.1.1) \/ (r.1.2.1 = false /\ p ≠ 0 /\ tw p ≠ q /\ p ≠ 1 /\ p ≠ q) := by
 unfold N2
 refine AA.bind (x := (((), ()), (), ())) rfl (AA.bind (x := ((p == 0, ()), (), ())) rfl ?_)
 refine AA.eqI (fun _ => AA.bind (x := ((0, ()), (), ())) rfl (AA.ret (.inl ⟨rfl, Lit.zero hg⟩))) (fun h1 => ?_)
 refine AA.bind (x := ((tw p == q, ()), (), ())) rfl ?_
 refine AA.eqI (fun _ => AA.bind (x := ((0, ()), (), ())) rfl (AA.ret (.inl ⟨rfl, Lit.zero hg⟩))) (fun h2 => ?_)
 unfold aR5
 by_cases e : p = 1
 ·have e' : (p == 1) = true := by simpa using e
  rw [e', CI]
  refine AA.bind (x := ((true, ()), (), ())) rfl (AA.bool (fun _ => ?_) (fun h => by cases h))
  exact AA.bind (x := ((q, ()), (), ())) rfl (AA.ret (.inl ⟨rfl, hq⟩))
 ·have e' : (p == 1) = false := by simpa using e
  rw [e', BE]
  refine AA.bind (x := ((p == q, ()), (), ())) rfl ?_
  exact AA.eqI (fun _ => AA.bind (x := ((q, ()), (), ())) rfl (AA.ret (.inl ⟨rfl, hq⟩))) (fun h3 => AA.ret (.inr ⟨rfl, h1, h2, e, h3⟩))
theorem We {ga : List P2} {p q : Int} (hl : ga.length <= 100000000) : AA (SB ga p q) fun r => (r.1.1 = -1 /\ ∀ j : Int, 0 <= j -> j < ga.length -> ¬ (p = pa ga j /\ q = pb ga j)) \/ (0 <= r.1.1 /\ r.1.1 < ga.length) := by
 unfold SB SA
 refine AA.iter (fun y => 0 <= y /\ y <= ga.length /\ ∀ j : Int, 0 <= j -> j < y -> ¬ (p = pa ga j /\ q = pb ga j)) (fun y => (ga.length - y).toNat) ?_ ⟨by omega, by omega, fun j a b => by omega⟩ (AS (by omega))
 rintro y ⟨h0, h1, hn⟩
 simp only [Aq]
 refine AA.dec (fun hlt => ?_) (fun hlt => AA.ret (.inl ⟨rfl, fun j a b => hn j a (by omega)⟩))
 refine AA.gd h0 (AA.gd hlt ?_)
 refine AA.bool (fun _ => AA.ret (.inr ⟨h0, hlt⟩)) (fun hc => ?_)
 refine AA.inK (by omega) (AA.ret ⟨⟨by omega, by omega, fun j j0 j1 hh => ?_⟩, by dsimp only; omega⟩)
 by_cases e : j = y
 ·subst e
  have : (p == pa ga j && q == pb ga j) = false := hc
  rw [hh.1, hh.2] at this
  simp at this
 ·exact hn j j0 (by omega) hh
theorem AC1 {gi : Int} {ga : List P2} {a b : Int} (hg : Gr gi ga) (hl : ga.length <= 100000000) (ha : Lit gi ga a) (hb : Lit gi ga b) : AA (ADz gi ga a b) fun r => GM gi ga 1 r.1.2.1 r.1.1.1 r.1.1.2.1 := by
 have h2 := hg.2.1
 have h1 := hg.1
 unfold ADz
 refine AA.bind (x := (((min2 a b, max2 a b, ()), ()), (), ())) rfl ?_
 have hpq : min2 a b <= max2 a b /\ Lit gi ga (min2 a b) /\ Lit gi ga (max2 a b) := by
  unfold min2 max2
  by_cases h : b < a
  ·rw [if_pos h, if_neg (by omega)]
   exact ⟨by omega, hb, ha⟩
  ·rw [if_neg h]
   by_cases h' : b > a
   ·rw [if_pos h']; exact ⟨by omega, ha, hb⟩
   ·rw [if_neg h']; exact ⟨by omega, ha, ha⟩
 dsimp only
 generalize min2 a b = p at *
 generalize max2 a b = q at *
 obtain ⟨hle, hp, hq⟩ := hpq
 refine AA.AZ (Wd hg hq) ?_
 rintro ⟨⟨x, c, ⟨⟩⟩, ⟨⟩, ⟨⟩⟩ hx
 dsimp only at hx ⊢
 rcases hx with ⟨rfl, hx⟩ | ⟨rfl, n0, nt, n1, ne⟩
 ·rw [CI]
  exact AA.ret ⟨rfl, hg, Nat.le_refl _, Nat.le_succ _, hx⟩
 ·rw [BE]
  refine AA.AZ (We hl) ?_
  rintro ⟨⟨i, ⟨⟩⟩, ⟨⟩, ⟨⟩⟩ hi
  dsimp only at hi ⊢
  have p0 := hp.1; have q0 := hq.1; have p1 := hp.2; have q1 := hq.2
  rcases hi with ⟨rfl, hnew⟩ | ⟨i0, i1⟩
  ·refine AA.dec (fun _ => ?_) (fun h => absurd (by omega) h)
   refine AA.bind (x := ((ga, ()), (), ())) ?_ ?_
   ·unfold N3
    rw [Hb (by rw [A9]; simp only [List.length_nil]; omega), Hb (by rw [A9]; simp only [List.length_nil]; omega)]
   dsimp only
   simp only [Aq, List.length_singleton, A9, Int.pow_one]
   refine AA.gd (by omega) (AA.gd (by omega) (AA.inK (by omega) (AA.inK (by omega) (AA.ret ?_))))
   rw [AKY p0 (by omega)] at nt
   refine ⟨rfl, hg.push (by omega) (by omega) hq ?_ hnew, by simp, by simp, ?_⟩
   ·split at nt <;> omega
   ·dsimp only
    rw [MS (by omega) (by omega)]
    refine ⟨by omega, ?_⟩
    simp only [List.length_append, List.length_singleton]
    omega
  ·refine AA.dec (fun h => absurd i0 (by omega)) (fun _ => ?_)
   simp only [Int.pow_one]
   refine AA.inK (by omega) (AA.inK (by omega) (AA.ret ⟨rfl, hg, Nat.le_refl _, Nat.le_succ _, ?_⟩))
   dsimp only
   rw [MS (by omega) (by omega)]
   exact ⟨by omega, by omega⟩
theorem Dr {gi : Int} {ga : List P2} {a b : Int} (hg : Gr gi ga) (hl : ga.length <= 100000000) (ha : Lit gi ga a) (hb : Lit gi ga b) : AA (Mj a b gi ga) fun r => GM gi ga 1 r.1.1 r.2.1.1.1 r.2.1.1.2.1 := by
 unfold Mj
 exact AA.AZ (AC1 hg hl ha hb) fun r h => AA.ret h
theorem KP {gi : Int} {ga : List P2} {a b : Int} (hg : Gr gi ga) (hl : ga.length <= 90000000) (ha : Lit gi ga a) (hb : Lit gi ga b) : AA (mOr a b gi ga) fun r => GM gi ga 1 r.1.1 r.2.1.1.1 r.2.1.1.2.1 := by
 unfold mOr
 refine AA.AZ (Dr hg (by omega) (ha.Mq hg (by omega)) (hb.Mq hg (by omega))) ?_
 rintro ⟨⟨x1, ⟨⟩⟩, ⟨⟨g1, l1, ⟨⟩⟩, ⟨⟩⟩, ⟨⟩⟩ ⟨e1, h1, h2, h3, h4⟩
 dsimp only at *
 subst e1
 exact AA.ret ⟨rfl, h1, h2, h3, Lit.Mq (ga := l1) h1 (by omega) h4⟩
theorem Lo {gi : Int} {ga : List P2} {i a b : Int} (hg : Gr gi ga) (hl : ga.length <= 80000000) (hi : Lit gi ga i) (ha : Lit gi ga a) (hb : Lit gi ga b) : AA (Xa i a b gi ga) fun r => GM gi ga 3 r.1.1 r.2.1.1.1 r.2.1.1.2.1 := by
 unfold Xa
 refine AA.AZ (Dr hg (by omega) hi ha) ?_
 rintro ⟨⟨x1, ⟨⟩⟩, ⟨⟨g1, l1, ⟨⟩⟩, ⟨⟩⟩, ⟨⟩⟩ ⟨e1, h1, h2, h3, h4⟩
 dsimp only at *
 subst e1
 refine AA.AZ (Dr h1 (by omega) ((hi.mono h2).Mq h1 (by omega)) (hb.mono h2)) ?_
 rintro ⟨⟨x2, ⟨⟩⟩, ⟨⟨g2, l2, ⟨⟩⟩, ⟨⟩⟩, ⟨⟩⟩ ⟨e2, k1, k2, k3, k4⟩
 dsimp only at *
 subst e2
 refine AA.AZ (KP k1 (by omega) (h4.mono k2) k4) ?_
 rintro ⟨⟨x3, ⟨⟩⟩, ⟨⟨g3, l3, ⟨⟩⟩, ⟨⟩⟩, ⟨⟩⟩ ⟨e3, q1, q2, q3, q4⟩
 dsimp only at *
 subst e3
 exact AA.ret ⟨rfl, q1, by dsimp only; omega, by dsimp only; omega, q4⟩
theorem H4 {gi : Int} {ga : List P2} {a b : Int} (hg : Gr gi ga) (hl : ga.length <= 80000000) (ha : Lit gi ga a) (hb : Lit gi ga b) : AA (SC a b gi ga) fun r => GM gi ga 3 r.1.1 r.2.1.1.1 r.2.1.1.2.1 := by
 unfold SC
 refine AA.AZ (Dr hg (by omega) ha (hb.Mq hg (by omega))) ?_
 rintro ⟨⟨x1, ⟨⟩⟩, ⟨⟨g1, l1, ⟨⟩⟩, ⟨⟩⟩, ⟨⟩⟩ ⟨e1, h1, h2, h3, h4⟩
 dsimp only at *
 subst e1
 refine AA.AZ (Dr h1 (by omega) ((ha.mono h2).Mq h1 (by omega)) (hb.mono h2)) ?_
 rintro ⟨⟨x2, ⟨⟩⟩, ⟨⟨g2, l2, ⟨⟩⟩, ⟨⟩⟩, ⟨⟩⟩ ⟨e2, k1, k2, k3, k4⟩
 dsimp only at *
 subst e2
 refine AA.AZ (KP k1 (by omega) (h4.mono k2) k4) ?_
 rintro ⟨⟨x3, ⟨⟩⟩, ⟨⟨g3, l3, ⟨⟩⟩, ⟨⟩⟩, ⟨⟩⟩ ⟨e3, q1, q2, q3, q4⟩
 dsimp only at *
 subst e3
 exact AA.ret ⟨rfl, q1, by dsimp only; omega, by dsimp only; omega, q4⟩
end AL
end
section
set_option linter.unusedVariables false
set_option linter.unusedSimpArgs false
namespace AL
open Go
structure GR (gi : Int) (ga : List P2) (k n : Nat) (i : Int) (g : Int) (l : List P2) (o : List Int) : Prop where
 i0 : 0 <= i
 i1 : i <= n
 g : g = gi
 gr : Gr gi l
 lo : ga.length <= l.length
 hi : (l.length : Int) <= ga.length + k * i
 len : o.length = n
 lits : BT gi l o
theorem GR.zero {gi : Int} {ga : List P2} {k n : Nat} (hg : Gr gi ga) : GR gi ga k n 0 gi ga (List.replicate n 0) := ⟨by omega, by omega, rfl, hg, Nat.le_refl _, by simp, by simp, BT.AAx hg n⟩
theorem GR.step {gi : Int} {ga : List P2} {k n : Nat} {i g : Int} {l l' : List P2} {o : List Int} {x : Int} (h : GR gi ga k n i g l o) (hi : i < n) (hg : Gr gi l') (h1 : l.length <= l'.length) (h2 : l'.length <= l.length + k) (hx : Lit gi l' x) : GR gi ga k n (i + 1) gi l' (o.set i.toNat x) := by
 obtain ⟨a, b, c, d, e, f, p, q⟩ := h
 refine ⟨by omega, by omega, rfl, hg, by omega, ?_, by simp; omega, (q.mono h1).set hx⟩
 rw [Int.mul_add]
 omega
theorem GR.done {gi : Int} {ga : List P2} {k n : Nat} {i g : Int} {l : List P2} {o : List Int} (h : GR gi ga k n i g l o) (hi : ¬ i < n) : GMs gi ga (k * n) n o g l := by
 obtain ⟨a, b, c, d, e, f, p, q⟩ := h
 obtain rfl : i = n := by omega
 subst c
 refine ⟨rfl, d, e, ?_, p, q⟩
 have : ((k * n : Nat) : Int) = (k : Int) * (n : Int) := by simp
 omega
theorem GR.room {gi : Int} {ga : List P2} {k n : Nat} {i g : Int} {l : List P2} {o : List Int} (h : GR gi ga k n i g l o) (hk : k <= 16) (hn : n <= 16) : l.length <= ga.length + 256 := by
 obtain ⟨a, b, c, d, e, f, p, q⟩ := h
 have : (k : Int) * i <= 16 * 16 := by
  calc (k : Int) * i <= 16 * i := Int.mul_le_mul_of_nonneg_right (by omega) a
   _ <= 16 * 16 := Int.mul_le_mul_of_nonneg_left (by omega) (by omega)
 omega
theorem GMs.AIY {gi : Int} {ga : List P2} {k k' n n' : Nat} {x : List Int} {g : Int} {l : List P2} (h : GMs gi ga k n x g l) (hk : k <= k') (hn : n = n') : GMs gi ga k' n' x g l := ⟨h.g, h.gr, h.lo, by have := h.hi; omega, by have := h.len; omega, h.lits⟩
theorem KQ (n : Nat) : (nI n).toNat = n := by simp [nI]
theorem Wf {l : List Int} (hl : l.length <= 4398046511104) : Ev l = some ((l, ()), (), ()) := by
 unfold Ev
 rw [Hb (by rw [A9]; simp only [List.length_nil]; omega), Hb (by rw [A9]; simp only [List.length_nil]; omega)]
theorem EP {gi : Int} {ga : List P2} {a : List Int} (hg : Gr gi ga) (hl : ga.length <= 50000000) (ha : BT gi ga a) (hn : a.length <= 16) : AA (GO a) fun r => r.1.1.length = a.length /\ BT gi ga r.1.1 := by
 unfold GO N4
 refine AA.bind (Wf (by omega)) ?_
 dsimp only
 refine AA.iter (fun y => 0 <= y.1 /\ y.1 <= a.length /\ y.2.length = a.length /\ BT gi ga y.2) (fun y => (a.length - y.1).toNat) ?_ ⟨by dsimp only; omega, by dsimp only; omega, rfl, ha⟩ (AS (by dsimp only; omega))
 rintro ⟨i, o⟩ ⟨h0, h1, h2, h3⟩
 dsimp only at *
 simp only [Aq]
 refine AA.dec (fun hlt => ?_) (fun hlt => AA.ret ⟨h2, h3⟩)
 refine AA.gd h0 (AA.gd (by omega) (AA.gd h0 (AA.gd (by omega) (AA.inK (by omega) (AA.ret ⟨⟨by dsimp only; omega, by dsimp only; omega, by simpa using h2, ?_⟩, by dsimp only; omega⟩)))))
 exact h3.set (Lit.Mq hg (by omega) (h3.get h0 (by omega)))
theorem Lq {gi : Int} {ga : List P2} {a b : List Int} {ci : Int} (hg : Gr gi ga) (hl : ga.length <= 50000000) (ha : BT gi ga a) (hb : BT gi ga b) (hab : a.length = b.length) (hn : a.length <= 16) (hc : Lit gi ga ci) : AA (ABR a b ci gi ga) fun r => GMs gi ga (9 * a.length) a.length r.1.1 r.2.1.1.1 r.2.1.1.2.1 := by
 unfold ABR AD0
 rw [KQ]
 simp only [Aq, A9]
 refine AA.gd (by omega) (AA.gd (by omega) (AA.gd (by omega) ?_))
 refine AA.iter (fun y => GR gi ga 9 a.length y.1.2 y.2.1.1 y.2.1.2 y.2.2 /\ Lit gi y.2.1.2 y.1.1) (fun y => (a.length - y.1.2).toNat) ?_ ⟨GR.zero hg, hc⟩ (AS (by dsimp only; omega))
 rintro ⟨⟨c, i⟩, ⟨g, l⟩, o⟩ ⟨h, h5⟩
 dsimp only at h h5 ⊢
 obtain ⟨h0, h1, rfl, h2, h3, h4, h6, h7⟩ := id h
 have hr := h.room (by omega) hn
 refine AA.dec (fun hlt => ?_) (fun hlt => AA.ret (h.done hlt))
 have la := (ha.mono h3).get h0 hlt
 have lb := (hb.mono h3).get h0 (by omega)
 refine AA.gd h0 (AA.gd hlt (AA.gd h0 (AA.gd (by omega) ?_)))
 refine AA.AZ (H4 h2 (by omega) la lb) ?_
 rintro ⟨⟨x1, ⟨⟩⟩, ⟨⟨g1, l1, ⟨⟩⟩, ⟨⟩⟩, ⟨⟩⟩ ⟨e1, p1, p2, p3, p4⟩
 dsimp only at *
 subst e1
 refine AA.AZ (H4 p1 (by omega) p4 (h5.mono p2)) ?_
 rintro ⟨⟨x2, ⟨⟩⟩, ⟨⟨g2, l2, ⟨⟩⟩, ⟨⟩⟩, ⟨⟩⟩ ⟨e2, q1, q2, q3, q4⟩
 dsimp only at *
 subst e2
 refine AA.gd h0 (AA.gd (by omega) (AA.gd h0 (AA.gd hlt ?_)))
 refine AA.AZ (Lo q1 (by omega) (p4.mono q2) (h5.mono (by omega)) (la.mono (by omega))) ?_
 rintro ⟨⟨x3, ⟨⟩⟩, ⟨⟨g3, l3, ⟨⟩⟩, ⟨⟩⟩, ⟨⟩⟩ ⟨e3, r1, r2, r3, r4⟩
 dsimp only at *
 subst e3
 exact AA.inK (by omega) (AA.ret ⟨⟨GR.step (l' := l3) h hlt r1 (by omega) (by omega) (q4.mono r2), r4⟩, by dsimp only; omega⟩)
def AJU (F : Int -> Int -> Int -> List P2 -> Option ((Int × Unit) × ((Int × List P2 × Unit) × Unit) × Unit)) (gi : Int) (ga : List P2) (a : List Int) (b : List Int) : Option ((List Int × Unit) × ((Int × List P2 × List Int × List Int × Unit) × Unit) × Unit) :=
 gd (nI a.length <= nI a.length) <|
 gd ((nI a.length).toNat * 8 <= lim) <|
 gd (nI a.length <= nI lim) <|
 AQ (X := Int × (Int × List P2 × List Int × List Int) × List Int) (fun y0 =>
  bif decide (y0.1 < nI (List.replicate (nI a.length).toNat (0 : Int)).length) then
   gd (0 <= y0.1) <|
   gd (y0.1 < nI y0.2.1.2.2.1.length) <|
   gd (0 <= y0.1) <|
   gd (y0.1 < nI y0.2.1.2.2.2.length) <|
   AD (F (AE y0.2.1.2.2.1 y0.1) (AE y0.2.1.2.2.2 y0.1) y0.2.1.1 y0.2.1.2.1) fun y1 =>
   gd (0 <= y0.1) <|
   gd (y0.1 < nI y0.2.2.length) <|
   gd (inK IntKind.i64 (y0.1 + 1)) <|
   some (Sum.inl (y0.1 + 1, (y1.2.1.1.1, y1.2.1.1.2.1, y0.2.1.2.2.1, y0.2.1.2.2.2), y0.2.2.set y0.1.toNat y1.1.1))
  else
   some (Sum.inr ((y0.2.2, ()), ((y0.2.1.1, y0.2.1.2.1, y0.2.1.2.2.1, y0.2.1.2.2.2, ()), ()), ()))) AK (0, (gi, ga, a, b), List.replicate (nI a.length).toNat 0)
theorem JU {F : Int -> Int -> Int -> List P2 -> Option ((Int × Unit) × ((Int × List P2 × Unit) × Unit) × Unit)} {gi : Int} {ga : List P2} {a b : List Int} (hF : ∀ {l : List P2} {x y : Int}, Gr gi l -> l.length <= 60000000 -> Lit gi l x -> Lit gi l y -> AA (F x y gi l) fun r => GM gi l 3 r.1.1 r.2.1.1.1 r.2.1.1.2.1)
  (hg : Gr gi ga) (hl : ga.length <= 50000000) (ha : BT gi ga a) (hb : BT gi ga b) (hab : a.length = b.length) (hn : a.length <= 16) : AA (AJU F gi ga a b) fun r => GMs gi ga (3 * a.length) a.length r.1.1 r.2.1.1.1 r.2.1.1.2.1 := by
 unfold AJU
 rw [KQ]
 simp only [Aq, A9, List.length_replicate]
 refine AA.gd (by omega) (AA.gd (by omega) (AA.gd (by omega) ?_))
 refine AA.iter (fun y => GR gi ga 3 a.length y.1 y.2.1.1 y.2.1.2.1 y.2.2 /\ y.2.1.2.2.1 = a /\ y.2.1.2.2.2 = b) (fun y => (a.length - y.1).toNat) ?_ ⟨GR.zero hg, rfl, rfl⟩ (AS (by dsimp only; omega))
 rintro ⟨i, ⟨g, l, a', b'⟩, o⟩ ⟨h, ea, eb⟩
 dsimp only at h ea eb ⊢
 subst ea; subst eb
 obtain ⟨h0, h1, rfl, h2, h3, h4, h6, h7⟩ := id h
 have hr := h.room (by omega) hn
 refine AA.dec (fun hlt => ?_) (fun hlt => AA.ret (h.done hlt))
 refine AA.gd h0 (AA.gd hlt (AA.gd h0 (AA.gd (by omega) ?_)))
 refine AA.AZ (hF h2 (by omega) ((ha.mono h3).get h0 hlt) ((hb.mono h3).get h0 (by omega))) ?_
 rintro ⟨⟨x1, ⟨⟩⟩, ⟨⟨g1, l1, ⟨⟩⟩, ⟨⟩⟩, ⟨⟩⟩ ⟨e1, p1, p2, p3, p4⟩
 dsimp only at *
 subst e1
 exact AA.gd h0 (AA.gd (by omega) (AA.inK (by omega) (AA.ret ⟨⟨GR.step (l' := l1) h hlt p1 p2 p3 p4, rfl, rfl⟩, by dsimp only; omega⟩)))
theorem GM.AIY {gi : Int} {ga : List P2} {k k' : Nat} {x : Int} {g : Int} {l : List P2} (h : GM gi ga k x g l) (hk : k <= k') : GM gi ga k' x g l := ⟨h.g, h.gr, h.lo, by have := h.hi; omega, h.lit⟩
theorem Wg {gi : Int} {ga : List P2} {a b : List Int} (hg : Gr gi ga) (hl : ga.length <= 50000000) (ha : BT gi ga a) (hb : BT gi ga b) (hab : a.length = b.length) (hn : a.length <= 16) : AA (N5 gi ga a b) fun r => GMs gi ga (3 * a.length) a.length r.1.1 r.2.1.1.1 r.2.1.1.2.1 :=
 JU (F := Mj) (fun g1 g2 g3 g4 => (Dr g1 (by omega) g3 g4).mono fun r h => h.AIY (by omega)) hg hl ha hb hab hn
theorem Wh {gi : Int} {ga : List P2} {a b : List Int} (hg : Gr gi ga) (hl : ga.length <= 50000000) (ha : BT gi ga a) (hb : BT gi ga b) (hab : a.length = b.length) (hn : a.length <= 16) : AA (OA gi ga a b) fun r => GMs gi ga (3 * a.length) a.length r.1.1 r.2.1.1.1 r.2.1.1.2.1 :=
 JU (F := mOr) (fun g1 g2 g3 g4 => (KP g1 (by omega) g3 g4).mono fun r h => h.AIY (by omega)) hg hl ha hb hab hn
theorem MU {gi : Int} {ga : List P2} {a b : List Int} (hg : Gr gi ga) (hl : ga.length <= 50000000) (ha : BT gi ga a) (hb : BT gi ga b) (hab : a.length = b.length) (hn : a.length <= 16) : AA (LD gi ga a b) fun r => GMs gi ga (3 * a.length) a.length r.1.1 r.2.1.1.1 r.2.1.1.2.1 :=
 JU (F := SC) (fun g1 g2 g3 g4 => H4 g1 (by omega) g3 g4) hg hl ha hb hab hn
structure GJ (gi : Int) (ga : List P2) (k n : Nat) (i : Int) (g : Int) (l : List P2) (x : Int) : Prop where
 i0 : 0 <= i
 i1 : i <= n
 g : g = gi
 gr : Gr gi l
 lo : ga.length <= l.length
 hi : (l.length : Int) <= ga.length + k * i
 lit : Lit gi l x
theorem GJ.zero {gi : Int} {ga : List P2} {k n : Nat} {x : Int} (hg : Gr gi ga) (hx : Lit gi ga x) : GJ gi ga k n 0 gi ga x := ⟨by omega, by omega, rfl, hg, Nat.le_refl _, by simp, hx⟩
theorem GJ.step {gi : Int} {ga : List P2} {k n : Nat} {i g : Int} {l l' : List P2} {x y : Int} (h : GJ gi ga k n i g l y) (hi : i < n) (hg : Gr gi l') (h1 : l.length <= l'.length) (h2 : l'.length <= l.length + k) (hx : Lit gi l' x) : GJ gi ga k n (i + 1) gi l' x := by
 obtain ⟨a, b, c, d, e, f, q⟩ := h
 refine ⟨by omega, by omega, rfl, hg, by omega, ?_, hx⟩
 rw [Int.mul_add]
 omega
theorem GJ.done {gi : Int} {ga : List P2} {k n : Nat} {i g : Int} {l : List P2} {x : Int} (h : GJ gi ga k n i g l x) (hi : ¬ i < n) : GM gi ga (k * n) x g l := by
 obtain ⟨a, b, c, d, e, f, q⟩ := h
 obtain rfl : i = n := by omega
 subst c
 refine ⟨rfl, d, e, ?_, q⟩
 have : ((k * n : Nat) : Int) = (k : Int) * (n : Int) := by simp
 omega
theorem GJ.room {gi : Int} {ga : List P2} {k n : Nat} {i g : Int} {l : List P2} {x : Int} (h : GJ gi ga k n i g l x) (hk : k <= 16) (hn : n <= 16) : l.length <= ga.length + 256 := by
 obtain ⟨a, b, c, d, e, f, q⟩ := h
 have : (k : Int) * i <= 16 * 16 := by
  calc (k : Int) * i <= 16 * i := Int.mul_le_mul_of_nonneg_right (by omega) a
   _ <= 16 * 16 := Int.mul_le_mul_of_nonneg_left (by omega) (by omega)
 omega
theorem Lr {gi : Int} {ga : List P2} {a : List Int} (hg : Gr gi ga) (hl : ga.length <= 50000000) (ha : BT gi ga a) (hn : a.length <= 16) : AA (ABS a gi ga) fun r => GM gi ga (1 * a.length) r.1.1 r.2.1.1.1 r.2.1.1.2.1 := by
 unfold ABS AD1
 refine AA.iter (fun y => GJ gi ga 1 a.length y.1.2 y.2.1 y.2.2 y.1.1) (fun y => (a.length - y.1.2).toNat) ?_ (GJ.zero hg (Lit.zero hg)) (AS (by dsimp only; omega))
 rintro ⟨⟨c, i⟩, g, l⟩ h
 dsimp only at h ⊢
 obtain ⟨h0, h1, rfl, h2, h3, h4, h6⟩ := id h
 have hr := h.room (by omega) hn
 simp only [Aq]
 refine AA.dec (fun hlt => ?_) (fun hlt => AA.ret (h.done hlt))
 refine AA.gd h0 (AA.gd hlt ?_)
 refine AA.AZ (KP h2 (by omega) h6 ((ha.mono h3).get h0 hlt)) ?_
 rintro ⟨⟨x1, ⟨⟩⟩, ⟨⟨g1, l1, ⟨⟩⟩, ⟨⟩⟩, ⟨⟩⟩ ⟨e1, p1, p2, p3, p4⟩
 dsimp only at *
 subst e1
 exact AA.inK (by omega) (AA.ret ⟨GJ.step (l' := l1) h hlt p1 p2 p3 p4, by dsimp only; omega⟩)
theorem MV {gi : Int} {ga : List P2} {a b : List Int} {x : Int} (hg : Gr gi ga) (hl : ga.length <= 50000000) (ha : BT gi ga a) (hb : BT gi ga b) (hab : a.length = b.length) (hn : a.length <= 16) (hx : Lit gi ga x) : AA (N6 x gi ga a b) fun r => GMs gi ga (6 * a.length) 1 r.1.1 r.2.1.1.1 r.2.1.1.2.1 := by
 unfold N6 SD
 refine AA.iter (fun y => GJ gi ga 6 a.length y.1.2 y.2.1 y.2.2.1 y.1.1 /\ y.2.2.2.1 = a /\ y.2.2.2.2 = b) (fun y => (a.length - y.1.2).toNat) ?_ ⟨GJ.zero hg hx, rfl, rfl⟩ (AS (by dsimp only; omega))
 rintro ⟨⟨c, i⟩, g, l, a', b'⟩ ⟨h, ea, eb⟩
 dsimp only at h ea eb ⊢
 subst ea; subst eb
 obtain ⟨h0, h1, rfl, h2, h3, h4, h6⟩ := id h
 have hr := h.room (by omega) hn
 simp only [Aq]
 refine AA.dec (fun hlt => ?_) (fun hlt => AA.ret ?_)
 rotate_left
 ·have hd := h.done hlt
  exact ⟨hd.g, hd.gr, hd.lo, hd.hi, rfl, BT.one hd.lit⟩
 have la := (ha.mono h3).get h0 hlt
 have lb := (hb.mono h3).get h0 (by omega)
 refine AA.gd h0 (AA.gd hlt (AA.gd h0 (AA.gd (by omega) ?_)))
 refine AA.AZ (H4 h2 (by omega) la lb) ?_
 rintro ⟨⟨x1, ⟨⟩⟩, ⟨⟨g1, l1, ⟨⟩⟩, ⟨⟩⟩, ⟨⟩⟩ ⟨e1, p1, p2, p3, p4⟩
 dsimp only at *
 subst e1
 refine AA.gd h0 (AA.gd (by omega) ?_)
 refine AA.AZ (Lo p1 (by omega) p4 (lb.mono p2) (h6.mono p2)) ?_
 rintro ⟨⟨x2, ⟨⟩⟩, ⟨⟨g2, l2, ⟨⟩⟩, ⟨⟩⟩, ⟨⟩⟩ ⟨e2, q1, q2, q3, q4⟩
 dsimp only at *
 subst e2
 exact AA.gd trivial (AA.gd trivial (AA.inK (by omega) (AA.ret ⟨⟨GJ.step (l' := l2) h hlt q1 (by omega) (by omega) q4, rfl, rfl⟩, by dsimp only; omega⟩)))
theorem AC2 {n w : Int} {gi : Int} {ga : List P2} (hg : Gr gi ga) (h0 : 0 <= w) (h1 : w <= 16) : AA (AHU gi ga w n) fun r => GMs gi ga 0 w.toNat r.1.1 r.2.1.1.1 r.2.1.1.2.1 := by
 unfold AHU AD2
 simp only [Aq, A9, List.length_replicate]
 refine AA.gd h0 (AA.gd (by omega) (AA.gd (by omega) (AA.gd (by omega) ?_)))
 refine AA.iter (fun y => 0 <= y.1 /\ y.1 <= w /\ y.2.length = w.toNat /\ BT gi ga y.2) (fun y => (w - y.1).toNat) ?_ ⟨by dsimp only; omega, by dsimp only; omega, by simp, BT.AAx hg _⟩ (AS (by dsimp only; omega))
 rintro ⟨i, o⟩ ⟨i0, i1, i2, i3⟩
 dsimp only at *
 refine AA.dec (fun hlt => ?_) (fun hlt => AA.ret ⟨rfl, hg, Nat.le_refl _, Nat.le_refl _, i2, i3⟩)
 refine AA.gd i0 (AA.gd i0 (AA.gd (by omega) (AA.inK (by omega) (AA.ret ⟨⟨by dsimp only; omega, by dsimp only; omega, by simpa using i2, ?_⟩, by dsimp only; omega⟩))))
 refine i3.set ?_
 have := AKX (n.fdiv (2 ^ min i.toNat 64))
 have hg1 := hg.1
 exact ⟨this.1, by have h2 := this.2; change lb1 (n.fdiv (2 ^ min i.toNat 64)) / 2 <= _; omega⟩
theorem AC3 {gi : Int} {ga : List P2} {a b : List Int} (hg : Gr gi ga) (hl : ga.length <= 20000000) (ha : BT gi ga a) (hb : BT gi ga b) (hab : a.length = b.length) (hn : a.length <= 16) : AA (AHV gi ga a b) fun r => GMs gi ga 2600 a.length r.1.1 r.2.1.1.1 r.2.1.1.2.1 := by
 unfold AHV AD6
 rw [KQ]
 simp only [Aq, A9]
 refine AA.gd (by omega) (AA.gd (by omega) (AA.gd (by omega) ?_))
 refine AA.iter (fun y => (0 <= y.1 /\ y.1 <= b.length /\ y.2.1.1 = gi /\ Gr gi y.2.1.2.1 /\ ga.length <= y.2.1.2.1.length /\ (y.2.1.2.1.length : Int) <= ga.length + 160 * y.1 /\ y.2.2.1.length = a.length /\ BT gi y.2.1.2.1 y.2.2.1) /\ y.2.1.2.2.1 = a /\ y.2.1.2.2.2 = b) (fun y => (b.length - y.1).toNat) ?_ ⟨⟨by dsimp only; omega, by dsimp only; omega, rfl, hg, Nat.le_refl _, by dsimp only; omega, by simp, BT.AAx hg _⟩, rfl, rfl⟩ (AS (by dsimp only; omega))
 rintro ⟨i, ⟨g, l, a', b'⟩, o, o'⟩ ⟨⟨h0, h1, h2, h3, h4, h5, h6, h7⟩, ea, eb⟩
 dsimp only at *
 subst h2; subst ea; subst eb
 refine AA.dec (fun hlt => ?_) (fun hlt => AA.ret ⟨rfl, h3, h4, by dsimp only; omega, h6, h7⟩)
 refine AA.gd h0 (AA.gd hlt (AA.gd (by omega) (AA.gd (by omega) (AA.gd (by omega) ?_))))
 refine AA.iter (fun y => (i <= y.1 /\ y.1 <= a'.length /\ y.2.1.1 = g /\ Gr g y.2.1.2.1 /\ l.length <= y.2.1.2.1.length /\ (y.2.1.2.1.length : Int) <= l.length + (y.1 - i) /\ y.2.2.length = a'.length /\ BT g y.2.1.2.1 y.2.2) /\ y.2.1.2.2.1 = a' /\ y.2.1.2.2.2 = b') (fun y => (a'.length - y.1).toNat) ?_ ⟨⟨by dsimp only; omega, by dsimp only; omega, rfl, h3, Nat.le_refl _, by dsimp only; omega, by simp, BT.AAx h3 _⟩, rfl, rfl⟩ (AS (by dsimp only; omega))
 rintro ⟨k, ⟨g1, l1, a1, b1⟩, row⟩ ⟨⟨k0, k1, k2, k3, k4, k5, k6, k7⟩, ea, eb⟩
 dsimp only at *
 subst k2; subst ea; subst eb
 refine AA.dec (fun hk => ?_) (fun hk => ?_)
 ·refine AA.inK (by omega) (AA.gd (by omega) (AA.gd (by omega) ?_))
  refine AA.AZ (Dr k3 (by omega) ((ha.mono (by omega)).get (by omega) (by omega)) ((hb.mono (by omega)).get h0 hlt)) ?_
  rintro ⟨⟨x2, ⟨⟩⟩, ⟨⟨g2, l2, ⟨⟩⟩, ⟨⟩⟩, ⟨⟩⟩ ⟨e2, p1, p2, p3, p4⟩
  dsimp only at *
  subst e2
  exact AA.gd (by omega) (AA.gd (by omega) (AA.inK (by omega) (AA.ret ⟨⟨⟨by dsimp only; omega, by dsimp only; omega, rfl, p1, by dsimp only; omega, by dsimp only; omega, by simpa using k6, (k7.mono p2).set p4⟩, rfl, rfl⟩, by dsimp only; omega⟩)))
 ·refine AA.AZ (Lq k3 (by omega) (h7.mono k4) k7 (by omega) (by omega) (Lit.zero k3)) ?_
  rintro ⟨⟨s, ⟨⟩⟩, ⟨⟨g2, l2, ⟨⟩⟩, ⟨⟩⟩, ⟨⟩⟩ ⟨e2, p1, p2, p3, p4, p5⟩
  dsimp only at *
  subst e2
  refine AA.inK (by omega) (AA.ret ⟨⟨⟨by dsimp only; omega, by dsimp only; omega, rfl, p1, by dsimp only; omega, by dsimp only; omega, by dsimp only; omega, p5⟩, rfl, rfl⟩, by dsimp only; omega⟩)
theorem Wi {gi : Int} {ga : List P2} {a b c : List Int} (hg : Gr gi ga) (hl : ga.length <= 50000000) (ha : BT gi ga a) (hb : BT gi ga b) (hc : BT gi ga c) (h1a : a.length = 1) (hab : b.length = c.length) (hn : b.length <= 16) : AA (SG gi ga a b c) fun r => GMs gi ga (3 * b.length) b.length r.1.1 r.2.1.1.1 r.2.1.1.2.1 := by
 unfold SG SF
 rw [KQ]
 simp only [Aq, A9, List.length_replicate]
 refine AA.gd (by omega) (AA.gd (by omega) (AA.gd (by omega) ?_))
 refine AA.iter (fun y => GR gi ga 3 b.length y.1 y.2.1.1 y.2.1.2.1 y.2.2 /\ y.2.1.2.2.1 = a /\ y.2.1.2.2.2.1 = b /\ y.2.1.2.2.2.2 = c) (fun y => (b.length - y.1).toNat) ?_ ⟨GR.zero hg, rfl, rfl, rfl⟩ (AS (by dsimp only; omega))
 rintro ⟨i, ⟨g, l, a', b', c'⟩, o⟩ ⟨h, ea, eb, ec⟩
 dsimp only at h ea eb ec ⊢
 subst ea; subst eb; subst ec
 obtain ⟨h0, h1, rfl, h2, h3, h4, h6, h7⟩ := id h
 have hr := h.room (by omega) hn
 refine AA.dec (fun hlt => ?_) (fun hlt => AA.ret (h.done hlt))
 refine AA.gd (by omega) (AA.gd h0 (AA.gd hlt (AA.gd h0 (AA.gd (by omega) ?_))))
 refine AA.AZ (Lo h2 (by omega) ((ha.mono h3).get (by omega) (by omega)) ((hb.mono h3).get h0 hlt) ((hc.mono h3).get h0 (by omega))) ?_
 rintro ⟨⟨x1, ⟨⟩⟩, ⟨⟨g1, l1, ⟨⟩⟩, ⟨⟩⟩, ⟨⟩⟩ ⟨e1, p1, p2, p3, p4⟩
 dsimp only at *
 subst e1
 exact AA.gd h0 (AA.gd (by omega) (AA.inK (by omega) (AA.ret ⟨⟨GR.step (l' := l1) h hlt p1 p2 p3 p4, rfl, rfl, rfl⟩, by dsimp only; omega⟩)))
end AL
end
section
set_option linter.unusedVariables false
set_option linter.unusedSimpArgs false
namespace AL
open Go
theorem UI {a b : List Int} (ha : a.length <= 16) (hb : b.length <= 16) : AA (My [b, a]) fun r => r.1.1 = b ++ a := by
 unfold My N9
 simp only [Aq, A9]
 have g0 : Ao [b, a] 0 = b := rfl
 have g1 : Ao [b, a] 1 = a := rfl
 have two : ∀ i : Int, 0 <= i -> i < 2 -> i = 0 \/ i = 1 := fun i _ _ => by omega
 have hgl : ∀ i : Int, (Ao [b, a] i).length <= 16 := by
  intro i
  by_cases h0 : 0 <= i /\ i < 2
  ·rcases two i h0.1 h0.2 with rfl | rfl
   ·exact hb
   ·exact ha
  ·by_cases h1 : i < 0
   ·have : i.toNat = 0 := by omega
    have e : Ao [b, a] i = b := by unfold Ao get; rw [this]; rfl
    rw [e]; exact hb
   ·have e : Ao [b, a] i = [] := by
     unfold Ao get
     rw [List.getD_eq_getElem?_getD, List.getElem?_eq_none (by simp; omega)]
     rfl
    rw [e]; simp
 refine AA.iter (fun y => 0 <= y.2 /\ y.2 <= 2 /\ 0 <= y.1 /\ y.1 <= 16 * y.2) (fun y => (2 - y.2).toNat) ?_ ⟨by dsimp only; omega, by dsimp only; omega, by dsimp only; omega, by dsimp only; omega⟩ (AS (by dsimp only; omega))
 rintro ⟨s, i⟩ ⟨i0, i1, s0, s1⟩
 dsimp only at *
 have hli := hgl i
 refine AA.dec (fun hlt => ?_) (fun _ => ?_)
 ·simp only [List.length_cons, List.length_nil] at hlt
  refine AA.gd i0 (AA.gd (by simp; omega) (AA.inK (by omega) (AA.dec (fun h => absurd h (by omega)) (fun _ => AA.inK (by omega) (AA.ret ⟨⟨by dsimp only; omega, by dsimp only; omega, by dsimp only; omega, by dsimp only; omega⟩, by dsimp only; omega⟩)))))
 have hgrow : AA (VC s) fun r => r.1.1 = [] := by
  unfold VC
  simp only [A9]
  refine AA.dec (fun h => absurd h (by omega)) (fun _ => ?_)
  refine AA.inK (by omega) (AA.dec (fun h => ?_) (fun _ => AA.ret rfl))
  exact AA.gd (by omega) (AA.gd (by omega) (AA.gd (by omega) (AA.ret rfl)))
 refine AA.AZ hgrow ?_
 rintro ⟨⟨r, ⟨⟩⟩, ⟨⟩, ⟨⟩⟩ hr
 dsimp only at hr ⊢
 subst hr
 refine AA.iter (fun y => 0 <= y.1 /\ y.1 <= 2 /\ y.2.1 = (if y.1 = 0 then [] else if y.1 = 1 then b else b ++ a)) (fun y => (2 - y.1).toNat) ?_ ⟨by dsimp only; omega, by dsimp only; omega, rfl⟩ (AS (by dsimp only; omega))
 rintro ⟨k, o, o'⟩ ⟨k0, k1, ho⟩
 dsimp only at *
 refine AA.dec (fun hlt => ?_) (fun hn => AA.ret ?_)
 ·simp only [List.length_cons, List.length_nil] at hlt
  have hol : o.length <= 32 := by
   rw [ho]
   split
   ·simp
   ·split
    ·omega
    ·rw [List.length_append]; omega
  have hlk := hgl k
  refine AA.gd k0 (AA.gd (by simp; omega) (AA.gd (by omega) (AA.gd (by omega) (AA.inK (by omega) (AA.ret ⟨⟨by dsimp only; omega, by dsimp only; omega, ?_⟩, by dsimp only; omega⟩)))))
  rw [ho]
  rcases two k k0 (by omega) with rfl | rfl
  ·rw [if_pos rfl, g0]; rfl
  ·rw [if_neg (by omega), if_pos rfl, g1]; rfl
 ·simp only [List.length_cons, List.length_nil] at hn
  rw [ho, if_neg (by omega), if_neg (by omega)]
  exact rfl
def AAy (xo xw xn xl : Int) (la lb lc : Nat) : Prop :=
 1 <= xw /\ xw <= 16 /\ la <= 16 /\ lb <= 16 /\ lc <= 16 /\
 (xo = 1 \/ (xo = 3 /\ (la : Int) = xw) \/ ((xo = 6 \/ xo = 7 \/ xo = 8 \/ xo = 9 \/ xo = 10 \/ xo = 11) /\ (la : Int) = xw /\ (lb : Int) = xw) \/ (xo = 17 /\ (la : Int) + lb = xw) \/
  (xo = 18 /\ 0 <= xl /\ xl <= xn /\ xn < la /\ xw = xn - xl + 1) \/ (xo = 16 /\ la = 1 /\ (lb : Int) = xw /\ (lc : Int) = xw) \/ ((xo = 4 \/ xo = 5) /\ xw = 1) \/ ((xo = 12 \/ xo = 13 \/ xo = 14 \/ xo = 15) /\ xw = 1 /\ la = lb))
abbrev AKZ := ((Int × List P2 × Unit) × List Int × Unit) × Unit × Unit
def DoQ (gi : Int) (ga : List P2) (w : Int) (r : AKZ) : Prop := GMs gi ga 2700 w.toNat r.1.2.1 r.1.1.1 r.1.1.2.1
theorem AGx {gi : Int} {ga : List P2} {xo xw xa xb xc xn xl : Int} {a b c : List Int} (hg : Gr gi ga) (hl : ga.length <= 20000000) (ha : BT gi ga a) (hb : BT gi ga b) (hc : BT gi ga c) (hf : AAy xo xw xn xl a.length b.length c.length) :
  AA (bDo gi ga xo xw xa xb xc xn xl a b c) (DoQ gi ga xw) := by
 obtain ⟨w1, w2, la, lb, lc, hf⟩ := hf
 have sel : ∀ {k : Int} {x : Option AKZ} {l : List (Int × Option AKZ)}, (xo = k -> AA x (DoQ gi ga xw)) -> (xo ≠ k -> AA (Mh xo l) (DoQ gi ga xw)) -> AA (Mh xo ((k, x) :: l)) (DoQ gi ga xw) := by
  intro k x l h1 h2
  unfold Mh
  exact AA.eqI h1 h2
 -- how each op ends
 have fin : ∀ {O : Type} {m : Option ((List Int × Unit) × ((Int × List P2 × O) × Unit) × Unit)} {k n : Nat}, AA m (fun r => GMs gi ga k n r.1.1 r.2.1.1.1 r.2.1.1.2.1) -> k <= 2700 -> n = xw.toNat -> AA (AD CG fun _ => AD m fun y1 => some (((y1.2.1.1.1, y1.2.1.1.2.1, ()), y1.1.1, ()), (), ())) (DoQ gi ga xw) := by
  intro O m k n h hk hn
  refine AA.bind (x := (((), ()), (), ())) rfl ?_
  exact AA.AZ h fun r hr => AA.ret (hr.AIY hk hn)
 unfold bDo
 refine sel (fun e => fin (AC2 hg (by omega) (by omega)) (by omega) rfl) (fun _ => ?_)
 refine sel (fun e => fin (k := 0) (n := a.length) (m := AD3 gi ga a) ?_ (by omega) (by omega)) (fun _ => ?_)
 ·unfold AD3
  exact AA.AZ (EP hg (by omega) ha la) fun r hr => AA.ret ⟨rfl, hg, Nat.le_refl _, Nat.le_refl _, hr.1, hr.2⟩
 refine sel (fun e => fin (k := 16) (n := 1) (m := N7 gi ga a) ?_ (by omega) (by omega)) (fun _ => ?_)
 ·unfold N7
  exact AA.AZ (Lr hg (by omega) ha la) fun r hr => AA.ret ⟨hr.g, hr.gr, hr.lo, by have := hr.hi; dsimp only; omega, rfl, BT.one hr.lit⟩
 refine sel (fun e => fin (k := 16) (n := 1) (m := Jv gi ga a) ?_ (by omega) (by omega)) (fun _ => ?_)
 ·unfold Jv
  refine AA.AZ (EP hg (by omega) ha la) ?_
  rintro ⟨⟨t, ⟨⟩⟩, ⟨⟩, ⟨⟩⟩ ⟨t1, t2⟩
  dsimp only at *
  refine AA.AZ (Lr hg (by omega) t2 (by omega)) ?_
  rintro ⟨⟨x1, ⟨⟩⟩, ⟨⟨g1, l1, ⟨⟩⟩, ⟨⟩⟩, ⟨⟩⟩ ⟨e1, p1, p2, p3, p4⟩
  dsimp only at *
  subst e1
  exact AA.ret ⟨rfl, p1, p2, by dsimp only; omega, rfl, BT.one (Lit.Mq (ga := l1) p1 (by omega) p4)⟩
 have pass : ∀ {m : Option ((List Int × Unit) × ((Int × List P2 × List Int × List Int × Unit) × Unit) × Unit)} {k n : Nat}, AA m (fun r => GMs gi ga k n r.1.1 r.2.1.1.1 r.2.1.1.2.1) -> AA (AD m fun y0 => some ((y0.1.1, ()), ((y0.2.1.1.1, y0.2.1.1.2.1, y0.2.1.1.2.2.1, y0.2.1.1.2.2.2.1, ()), ()), ())) (fun r => GMs gi ga k n r.1.1 r.2.1.1.1 r.2.1.1.2.1) := fun h => AA.AZ h fun r hr => AA.ret hr
 refine sel (fun e => fin (m := SE gi ga a b) (pass (Wg hg (by omega) ha hb (by omega) la)) (by omega) (by omega)) (fun _ => ?_)
 refine sel (fun e => fin (m := AAD gi ga a b) (pass (Wh hg (by omega) ha hb (by omega) la)) (by omega) (by omega)) (fun _ => ?_)
 refine sel (fun e => fin (m := SH gi ga a b) (pass (MU hg (by omega) ha hb (by omega) la)) (by omega) (by omega)) (fun _ => ?_)
 refine sel (fun e => fin (k := 9 * a.length) (n := a.length) (m := AD4 gi ga a b) ?_ (by omega) (by omega)) (fun _ => ?_)
 ·unfold AD4
  exact AA.AZ (Lq hg (by omega) ha hb (by omega) la (Lit.zero hg)) fun r hr => AA.ret hr
 refine sel (fun e => fin (k := 9 * a.length) (n := a.length) (m := AD5 gi ga a b) ?_ (by omega) (by omega)) (fun _ => ?_)
 ·unfold AD5
  refine AA.AZ (EP hg (by omega) hb lb) ?_
  rintro ⟨⟨t, ⟨⟩⟩, ⟨⟩, ⟨⟩⟩ ⟨t1, t2⟩
  dsimp only at *
  exact AA.AZ (Lq hg (by omega) ha t2 (by omega) la (Lit.one hg)) fun r hr => AA.ret hr
 refine sel (fun e => fin (AC3 hg (by omega) ha hb (by omega) la) (by omega) (by omega)) (fun _ => ?_)
 have hNe : a.length = b.length -> AA (mNe gi ga a b) (fun r => GMs gi ga 64 1 r.1.1 r.2.1.1.1 r.2.1.1.2.1) := by
  intro hab
  unfold mNe
  refine AA.AZ (MU hg (by omega) ha hb hab la) ?_
  rintro ⟨⟨t, ⟨⟩⟩, ⟨⟨g1, l1, a1, b1, ⟨⟩⟩, ⟨⟩⟩, ⟨⟩⟩ ⟨e1, p1, p2, p3, p4, p5⟩
  dsimp only at *
  subst e1
  refine AA.AZ (Lr p1 (by omega) p5 (by omega)) ?_
  rintro ⟨⟨x1, ⟨⟩⟩, ⟨⟨g2, l2, ⟨⟩⟩, ⟨⟩⟩, ⟨⟩⟩ ⟨e2, q1, q2, q3, q4⟩
  dsimp only at *
  subst e2
  exact AA.ret ⟨rfl, q1, by dsimp only; omega, by dsimp only; omega, rfl, BT.one q4⟩
 refine sel (fun e => fin (k := 64) (n := 1) (m := mEq gi ga a b) ?_ (by omega) (by omega)) (fun _ => ?_)
 ·unfold mEq
  refine AA.AZ (hNe (by omega)) ?_
  rintro ⟨⟨t, ⟨⟩⟩, ⟨⟨g1, l1, a1, b1, ⟨⟩⟩, ⟨⟩⟩, ⟨⟩⟩ ⟨e1, p1, p2, p3, p4, p5⟩
  dsimp only at *
  subst e1
  refine AA.AZ (EP p1 (by omega) p5 (by omega)) ?_
  rintro ⟨⟨t2, ⟨⟩⟩, ⟨⟩, ⟨⟩⟩ ⟨t3, t4⟩
  dsimp only at *
  exact AA.ret ⟨rfl, p1, p2, p3, by dsimp only; omega, t4⟩
 refine sel (fun e => fin (hNe (by omega)) (by omega) (by omega)) (fun _ => ?_)
 refine sel (fun e => fin (m := mLt gi ga a b) (pass (MV hg (by omega) ha hb (by omega) la (Lit.zero hg))) (by omega) (by omega)) (fun _ => ?_)
 refine sel (fun e => fin (m := mLe gi ga a b) (pass (MV hg (by omega) ha hb (by omega) la (Lit.one hg))) (by omega) (by omega)) (fun _ => ?_)
 refine sel (fun e => fin (Wi hg (by omega) ha hb hc (by omega) (by omega) lb) (by omega) (by omega)) (fun _ => ?_)
 refine sel (fun e => fin (k := 0) (n := b.length + a.length) (m := AD7 gi ga a b) ?_ (by omega) (by omega)) (fun _ => ?_)
 ·unfold AD7
  refine AA.AZ (UI la lb) ?_
  rintro ⟨⟨t, ⟨⟩⟩, ⟨⟩, ⟨⟩⟩ ht
  dsimp only at ht ⊢
  subst ht
  exact AA.ret ⟨rfl, hg, Nat.le_refl _, Nat.le_refl _, List.length_append, hb.app ha⟩
 refine sel (fun e => ?_) (fun _ => by omega)
 obtain ⟨s1, s2, s3, s4⟩ : 0 <= xl /\ xl <= xn /\ xn < a.length /\ xw = xn - xl + 1 := by omega
 refine fin (k := 0) (n := xw.toNat) (m := N8 gi ga xn xl a) ?_ (by omega) rfl
 unfold N8
 simp only [Aq]
 have hlen : (List.drop xl.toNat (List.take (Int.toNat (xn + 1)) a)).length = xw.toNat := by
  rw [List.length_drop, List.length_take]; omega
 refine AA.inK (by omega) (AA.gd (by omega) (AA.gd (by omega) (AA.gd (by omega) (AA.bind (Wf (by omega)) (AA.ret ⟨rfl, hg, Nat.le_refl _, Nat.le_refl _, hlen, ?_⟩)))))
 exact fun x hx => ha x (List.mem_of_mem_take (List.mem_of_mem_drop hx))
end AL
end
section
set_option linter.unusedVariables false
set_option linter.unusedSimpArgs false
set_option maxHeartbeats 0
namespace AL
open Go
abbrev BB := List (Int × Int × Int × Int × Int × Int × Int × Unit)
abbrev Bf := List (ByteArray × Int × Unit)
abbrev BU := List (ByteArray × Int × Int × Int × Unit)
abbrev B8 := List (Int × ByteArray × Int × Unit)
def AGy (i op w a b c n lo wa wb wc : Int) : Prop :=
 1 <= w /\ w <= 16 /\ (op = 1 \/ op = 21 \/ op = 22 \/ (0 <= a /\ a < i /\ 0 <= b /\ b < i /\ 0 <= c /\ c < i /\
  ((op = 3 /\ wa = w) \/ ((op = 6 \/ op = 7 \/ op = 8 \/ op = 9 \/ op = 10 \/ op = 11) /\ wa = w /\ wb = w) \/ (op = 17 /\ wa + wb = w) \/ (op = 18 /\ 0 <= lo /\ lo <= n /\ n < wa /\ w = n - lo + 1) \/
   (op = 16 /\ wa = 1 /\ wb = w /\ wc = w) \/ ((op = 4 \/ op = 5) /\ w = 1 /\ lo = wa) \/ ((op = 12 \/ op = 13 \/ op = 14 \/ op = 15) /\ w = 1 /\ wa = wb /\ lo = wa))))
def EG (nn : BB) (i : Int) : Prop :=
 AGy i (get AB nn i).1 (get AB nn i).2.1 (get AB nn i).2.2.1 (get AB nn i).2.2.2.1 (get AB nn i).2.2.2.2.1 (get AB nn i).2.2.2.2.2.1 (get AB nn i).2.2.2.2.2.2.1
  (get AB nn (get AB nn i).2.2.1).2.1 (get AB nn (get AB nn i).2.2.2.1).2.1 (get AB nn (get AB nn i).2.2.2.2.1).2.1
theorem PT {nn : BB} {ni : Bf} {nc : BU} {np : B8} {nm : Bf} {pos lm : Int} (hl : lm <= nn.length) :
  AA (Jy nn ni nc np nm pos lm) fun r => (r.1.1 = 0 /\ ¬ (0 <= pos /\ pos < lm)) \/ (0 <= pos /\ pos < lm /\ r.1.1 = (get AB nn pos).2.1) := by
 unfold Jy
 simp only [BE, Aq]
 refine AA.dec (fun h => AA.ret (.inl ⟨rfl, by omega⟩)) (fun h => ?_)
 refine AA.dec (fun h => AA.ret (.inl ⟨rfl, by omega⟩)) (fun h => ?_)
 exact AA.gd (by omega) (AA.gd (by omega) (AA.ret (.inr ⟨by omega, by omega, rfl⟩)))
theorem P9 {op : Int} : AA (operands op) fun r => (r.1.1 = -1) \/ (r.1.1 = 0 /\ (op = 1 \/ op = 21 \/ op = 22)) \/ (r.1.1 = 1 /\ (op = 3 \/ op = 4 \/ op = 5 \/ op = 18)) \/
  (r.1.1 = 2 /\ (op = 6 \/ op = 7 \/ op = 8 \/ op = 9 \/ op = 10 \/ op = 11 \/ op = 12 \/ op = 13 \/ op = 14 \/ op = 15 \/ op = 17)) \/ (r.1.1 = 3 /\ op = 16) := by
 unfold operands
 repeat' refine AA.eqI (fun _ => ?_) (fun _ => ?_)
 all_goals exact AA.ret (by dsimp only; omega)
theorem RW {w : Int} (h0 : 0 <= w) (h1 : w <= 16) : AA (mask w) fun r => True := by
 unfold mask
 have hp : (2 : Int) ^ min w.toNat 64 <= 2 ^ 16 /\ 1 <= (2 : Int) ^ min w.toNat 64 := by
  have : min w.toNat 64 <= 16 := by omega
  generalize min w.toNat 64 = k at this
  have h2 : 2 ^ k <= 2 ^ 16 := Nat.pow_le_pow_right (by omega) this
  have h3 : 1 <= 2 ^ k := Nat.one_le_two_pow
  exact ⟨by exact_mod_cast h2, by exact_mod_cast h3⟩
 have e : (2 : Int) ^ 16 = 65536 := by decide
 rw [MS (by omega) (by omega)]
 exact AA.gd h0 (AA.inK (by omega) (AA.ret trivial))
theorem Za {nn : BB} {ni : Bf} {nc : BU} {np : B8} {nm : Bf} {i : Int} (h0 : 0 <= i) (h1 : i < nn.length) (hw : ∀ j, 0 <= j -> j < i -> 1 <= (get AB nn j).2.1 /\ (get AB nn j).2.1 <= 16)
  (w1 : 1 <= (get AB nn i).2.1) (w2 : (get AB nn i).2.1 <= 16)
  (hk : ((get AB nn i).1 = 1 \/ (get AB nn i).1 = 21 \/ (get AB nn i).1 = 22) \/
   (((get AB nn i).1 = 3 \/ (get AB nn i).1 = 4 \/ (get AB nn i).1 = 5 \/ (get AB nn i).1 = 18) /\ (get AB nn i).2.2.2.1 = 0 /\ (get AB nn i).2.2.2.2.1 = 0) \/
   (((get AB nn i).1 = 6 \/ (get AB nn i).1 = 7 \/ (get AB nn i).1 = 8 \/ (get AB nn i).1 = 9 \/ (get AB nn i).1 = 10 \/ (get AB nn i).1 = 11 \/ (get AB nn i).1 = 12 \/ (get AB nn i).1 = 13 \/ (get AB nn i).1 = 14 \/ (get AB nn i).1 = 15 \/ (get AB nn i).1 = 17) /\ (get AB nn i).2.2.2.2.1 = 0) \/
   (get AB nn i).1 = 16) :
  AA (Fl nn ni nc np nm i) fun r => r.1.1 = true -> EG nn i := by
 have rw9 : ∀ q : Int, AA (Jy nn ni nc np nm q i) fun r => r.1.1 = 0 \/ (0 <= q /\ q < i /\ r.1.1 = (get AB nn q).2.1 /\ 1 <= r.1.1 /\ r.1.1 <= 16) := fun q => (PT (by omega)).mono fun r hr => by
  rcases hr with ⟨h, _⟩ | ⟨h, h', e⟩
  ·exact .inl h
  ·have := hw q h h'
   exact .inr ⟨h, h', e, by rw [e]; exact this.1, by rw [e]; exact this.2⟩
 obtain ⟨ra, ea, ha⟩ := rw9 (get AB nn i).2.2.1
 obtain ⟨rb, eb, hb⟩ := rw9 (get AB nn i).2.2.2.1
 obtain ⟨rc, ec, hc⟩ := rw9 (get AB nn i).2.2.2.2.1
 have no : ∀ {R : Prop}, AA (some ((false, ()), (), ()) : Option ((Bool × Unit) × Unit × Unit)) fun r => r.1.1 = true -> R := AA.ret (fun h => by cases h)
 clear hw rw9
 unfold Fl EG AGy
 simp only [CI, BE]
 rw [ea, eb, ec, Hb h0, Hb h1]
 simp only [PS]
 dsimp only [int, Ty.den] at *
 clear ea eb ec h1
 generalize ra.1.1 = ya at *
 generalize rb.1.1 = yb at *
 generalize rc.1.1 = yc at *
 generalize (get AB nn (get AB nn i).2.2.1).2.1 = Wa at *
 generalize (get AB nn (get AB nn i).2.2.2.1).2.1 = Wb at *
 generalize (get AB nn (get AB nn i).2.2.2.2.1).2.1 = Wc at *
 generalize (get AB nn i).1 = op at *
 generalize (get AB nn i).2.1 = w at *
 generalize (get AB nn i).2.2.1 = a at *
 generalize (get AB nn i).2.2.2.1 = b at *
 generalize (get AB nn i).2.2.2.2.1 = c at *
 generalize (get AB nn i).2.2.2.2.2.1 = n at *
 generalize (get AB nn i).2.2.2.2.2.2.1 = lo at *
 rcases hk with (h | h | h) | ⟨h | h | h | h, z1, z2⟩ | ⟨h | h | h | h | h | h | h | h | h | h | h, z2⟩ | h
 all_goals subst h
 all_goals simp only [Int.reduceBEq, CI, BE]
 all_goals repeat' first
  | exact no
  | refine AA.eqI (fun _ => ?_) (fun _ => ?_)
  | refine AA.dec (fun _ => ?_) (fun _ => ?_)
  | refine AA.inK ⟨by omega, by omega⟩ ?_
  | refine AA.AZ (RW (by omega) (by omega)) (fun ym _ => ?_)
 all_goals refine AA.ret (fun h => ?_)
 all_goals simp only [beq_iff_eq, decide_eq_true_eq] at h
 all_goals refine ⟨w1, w2, ?_⟩
 all_goals simp only [true_or, or_true, Int.reduceEq, false_or, or_false, false_and, true_and]
 all_goals omega
theorem Zb {nn : BB} {ni : Bf} {nc : BU} {np : B8} {nm : Bf} {i : Int} (h0 : 0 <= i) (h1 : i < nn.length) (hw : ∀ j, 0 <= j -> j < i -> 1 <= (get AB nn j).2.1 /\ (get AB nn j).2.1 <= 16) :
  AA (VG nn ni nc np nm i) fun r => r.1.1 = true -> EG nn i := by
 unfold VG
 simp only [CI, BE]
 refine AA.gd h0 (AA.gd h1 ?_)
 refine AA.AZ P9 ?_
 rintro ⟨⟨k, ⟨⟩⟩, ⟨⟩, ⟨⟩⟩ hk
 dsimp only at hk ⊢
 have no : ∀ {R : Prop}, AA (some ((false, ()), (), ()) : Option ((Bool × Unit) × Unit × Unit)) fun r => r.1.1 = true -> R := AA.ret (fun h => by cases h)
 have yes : 1 <= (get AB nn i).2.1 -> (get AB nn i).2.1 <= 16 -> _ -> AA (AD (Fl nn ni nc np nm i) fun y1 => some ((y1.1.1, ()), (), ())) fun r => r.1.1 = true -> EG nn i := fun h2 h3 h4 => AA.AZ (Za h0 h1 hw h2 h3 h4) fun r hr => AA.ret hr
 clear hw
 dsimp only [int, Ty.den] at *
 refine AA.dec (fun _ => no) (fun _ => ?_)
 refine AA.dec (fun _ => no) (fun _ => ?_)
 refine AA.dec (fun _ => no) (fun _ => ?_)
 repeat' first
  | exact no
  | refine AA.neI (fun _ => ?_) (fun _ => ?_)
  | refine AA.dec (fun _ => ?_) (fun _ => ?_)
 all_goals exact yes (by omega) (by omega) (by omega)
def nW (nn : BB) (j : Int) : Int := (get AB nn j).2.1
def nOp (nn : BB) (j : Int) : Int := (get AB nn j).1
def pN (ni : Bf) (k : Int) : Int := (get Ar ni k).2.1
def cN (nc : BU) (k : Int) : Int := (get AX nc k).2.1
def cX (nc : BU) (k : Int) : Int := (get AX nc k).2.2.1
def qK (np : B8) (k : Int) : Int := (get Ax np k).1
def qN (np : B8) (k : Int) : Int := (get Ax np k).2.2.1
theorem EG.w {nn : BB} {j : Int} (h : EG nn j) : 1 <= nW nn j /\ nW nn j <= 16 := ⟨h.1, h.2.1⟩
def Zc (nn : BB) (ni : Bf) (m : Int) : Prop := ∀ k, 0 <= k -> k < m -> 0 <= pN ni k /\ pN ni k < nn.length
def UJ (nn : BB) (nc : BU) (m : Int) : Prop := ∀ k, 0 <= k -> k < m -> 0 <= cN nc k /\ cN nc k < nn.length
def UK (nn : BB) (nc : BU) (m : Int) : Prop := ∀ k, 0 <= k -> k < m -> 0 <= cX nc k /\ cX nc k < nn.length /\ nW nn (cX nc k) = nW nn (cN nc k)
def UL (nn : BB) (np : B8) (m : Int) : Prop := ∀ k, 0 <= k -> k < m -> 8 <= qK np k /\ qK np k <= 10 /\ 0 <= qN np k /\ qN np k < nn.length /\ nW nn (qN np k) = 1
def Fw (nn : BB) (op : Int) : Nat -> Int
 | 0 => 0
 | m + 1 => Fw nn op m + if nOp nn m = op then nW nn m else 0
def Mr (nn : BB) : Prop := ∀ j : Int, 0 <= j -> j < (nn.length : Int) -> 1 <= nW nn j /\ nW nn j <= 16
theorem JV {nn : BB} (h : Mr nn) (op : Int) : ∀ m : Nat, m <= nn.length -> 0 <= Fw nn op m /\ Fw nn op m <= 16 * m
 | 0, _ => ⟨Int.le_refl _, by simp [Fw]⟩
 | m + 1, hm => by
  have := JV h op m (by omega)
  have := h m (by omega) (by omega)
  unfold Fw
  split <;> constructor <;> push_cast <;> omega
theorem FJ {nn : BB} {op i : Int} (h0 : 0 <= i) : Fw nn op (i + 1).toNat = Fw nn op i.toNat + if nOp nn i = op then nW nn i else 0 := by
 have e : (i + 1).toNat = i.toNat + 1 := by omega
 rw [e, Fw, Int.toNat_of_nonneg h0]
structure AAz (nn : BB) (ni : Bf) (nc : BU) (np : B8) : Prop where
 node : ∀ j : Int, 0 <= j -> j < (nn.length : Int) -> EG nn j
 pin : Zc nn ni ni.length
 cell : UJ nn nc nc.length
 nxt : UK nn nc nc.length
 prop : UL nn np np.length
 li : ni.length <= 64
 lc : nc.length <= 256
 lp : np.length <= 16
 inP : ∀ j : Int, 0 <= j -> j < nn.length -> nOp nn j = 21 -> ∃ k, 0 <= k /\ k < (ni.length : Int) /\ pN ni k = j
 stC : ∀ j : Int, 0 <= j -> j < nn.length -> nOp nn j = 22 -> ∃ k, 0 <= k /\ k < (nc.length : Int) /\ cN nc k = j
 sI : (ni.length : Int) <= Fw nn 21 nn.length
 sC : (nc.length : Int) <= Fw nn 22 nn.length
theorem Hd {nn : BB} {ni : Bf} {nc : BU} {np : B8} {nm : Bf} {pos : Int} :
  AA (JA nn ni nc np nm pos) fun r => (r.1.1 = 0 /\ ¬ (0 <= pos /\ pos < nn.length)) \/ (0 <= pos /\ pos < nn.length /\ r.1.1 = nW nn pos) := by
 unfold JA
 refine AA.AZ (PT (by simp only [Aq]; omega)) ?_
 rintro ⟨⟨y, ⟨⟩⟩, ⟨⟩, ⟨⟩⟩ h
 exact AA.ret h
structure PI (nn : BB) (ni : Bf) (nc : BU) (a b i : Int) : Prop where
 i0 : 0 <= i
 i1 : i <= nn.length
 a0 : 0 <= a
 a1 : a <= ni.length
 b0 : 0 <= b
 b1 : b <= nc.length
 hp : Zc nn ni a
 hc : UJ nn nc b
 hP : ∀ j : Int, 0 <= j -> j < i -> nOp nn j = 21 -> ∃ k, 0 <= k /\ k < a /\ pN ni k = j
 hC : ∀ j : Int, 0 <= j -> j < i -> nOp nn j = 22 -> ∃ k, 0 <= k /\ k < b /\ cN nc k = j
 sa : a <= Fw nn 21 i.toNat
 sb : b <= Fw nn 22 i.toNat
theorem PI.pin {nn : BB} {ni : Bf} {nc : BU} {a b i : Int} (hw : Mr nn) (h : PI nn ni nc a b i) (hi : i < nn.length) (ha : a < ni.length) (he : pN ni a = i) (ho : nOp nn i = 21) : PI nn ni nc (a + 1) b (i + 1) := by
 obtain ⟨i0, i1, a0, a1, b0, b1, hp, hc, hP, hC, sa, sb⟩ := h
 have hwi := hw i i0 hi
 have s1 := FJ (nn := nn) (op := 21) i0
 have s2 := FJ (nn := nn) (op := 22) i0
 rw [if_pos ho] at s1
 rw [if_neg (by rw [ho]; decide)] at s2
 refine ⟨by omega, by omega, by omega, by omega, b0, b1, fun k k0 k1 => ?_, hc, fun j j0 j1 jo => ?_, fun j j0 j1 jo => ?_, by omega, by omega⟩
 ·by_cases e : k = a
  ·rw [e, he]; exact ⟨i0, hi⟩
  ·exact hp k k0 (by omega)
 ·by_cases e : j = i
  ·exact ⟨a, a0, by omega, by rw [e]; exact he⟩
  ·obtain ⟨k, k0, k1, k2⟩ := hP j j0 (by omega) jo
   exact ⟨k, k0, by omega, k2⟩
 ·by_cases e : j = i
  ·rw [e, ho] at jo; omega
  ·exact hC j j0 (by omega) jo
theorem PI.st {nn : BB} {ni : Bf} {nc : BU} {a b i : Int} (hw : Mr nn) (h : PI nn ni nc a b i) (hi : i < nn.length) (ha : b < nc.length) (he : cN nc b = i) (ho : nOp nn i = 22) : PI nn ni nc a (b + 1) (i + 1) := by
 obtain ⟨i0, i1, a0, a1, b0, b1, hp, hc, hP, hC, sa, sb⟩ := h
 have hwi := hw i i0 hi
 have s1 := FJ (nn := nn) (op := 21) i0
 have s2 := FJ (nn := nn) (op := 22) i0
 rw [if_neg (by rw [ho]; decide)] at s1
 rw [if_pos ho] at s2
 refine ⟨by omega, by omega, a0, a1, by omega, by omega, hp, fun k k0 k1 => ?_, fun j j0 j1 jo => ?_, fun j j0 j1 jo => ?_, by omega, by omega⟩
 ·by_cases e : k = b
  ·rw [e, he]; exact ⟨i0, hi⟩
  ·exact hc k k0 (by omega)
 ·by_cases e : j = i
  ·rw [e, ho] at jo; omega
  ·exact hP j j0 (by omega) jo
 ·by_cases e : j = i
  ·exact ⟨b, b0, by omega, by rw [e]; exact he⟩
  ·obtain ⟨k, k0, k1, k2⟩ := hC j j0 (by omega) jo
   exact ⟨k, k0, by omega, k2⟩
theorem PI.no {nn : BB} {ni : Bf} {nc : BU} {a b i : Int} (h : PI nn ni nc a b i) (hi : i < nn.length) (h1 : nOp nn i ≠ 21) (h2 : nOp nn i ≠ 22) : PI nn ni nc a b (i + 1) := by
 obtain ⟨i0, i1, a0, a1, b0, b1, hp, hc, hP, hC, sa, sb⟩ := h
 have s1 := FJ (nn := nn) (op := 21) i0
 have s2 := FJ (nn := nn) (op := 22) i0
 rw [if_neg h1] at s1
 rw [if_neg h2] at s2
 refine ⟨by omega, by omega, a0, a1, b0, b1, hp, hc, fun j j0 j1 jo => ?_, fun j j0 j1 jo => ?_, by omega, by omega⟩
 ·by_cases e : j = i
  ·rw [e] at jo; exact absurd jo h1
  ·exact hP j j0 (by omega) jo
 ·by_cases e : j = i
  ·rw [e] at jo; exact absurd jo h2
  ·exact hC j j0 (by omega) jo
def AJV (nn : BB) (ni : Bf) (nc : BU) : Prop := Zc nn ni ni.length /\ UJ nn nc nc.length /\ (∀ j : Int, 0 <= j -> j < nn.length -> nOp nn j = 21 -> ∃ k, 0 <= k /\ k < (ni.length : Int) /\ pN ni k = j) /\ (∀ j : Int, 0 <= j -> j < nn.length -> nOp nn j = 22 -> ∃ k, 0 <= k /\ k < (nc.length : Int) /\ cN nc k = j) /\ (ni.length : Int) <= Fw nn 21 nn.length /\ (nc.length : Int) <= Fw nn 22 nn.length
theorem Zd {nn : BB} {ni : Bf} {nc : BU} {np : B8} {nm : Bf} (hw : Mr nn) (hl : nn.length <= 4000) (h1 : ni.length <= 64) (h2 : nc.length <= 256) :
  AA (AAG nn ni nc np nm) fun r => r.1.1 = true -> AJV nn ni nc := by
 unfold AAG Xg
 simp only [CI, BE, Aq]
 refine AA.iter (fun y => PI nn ni nc y.1 y.2.1 y.2.2) (fun y => (nn.length - y.2.2).toNat) ?_
  ⟨by dsimp only; omega, by dsimp only; omega, by dsimp only; omega, by dsimp only; omega, by dsimp only; omega, by dsimp only; omega, fun k a b => by dsimp only at b; omega, fun k a b => by dsimp only at b; omega, fun k a b => by dsimp only at b; omega, fun k a b => by dsimp only at b; omega, by simp [Fw], by simp [Fw]⟩ (AS (by dsimp only; omega))
 rintro ⟨a, b, i⟩ h
 dsimp only at *
 obtain ⟨i0, i1, a0, a1, b0, b1, hp, hc, hP, hC, sa, sb⟩ := id h
 have no : AA (some (Sum.inr ((false, ()), (), ())) : Option ((Int × Int × Int) ⊕ ((Bool × Unit) × Unit × Unit))) (Stp (fun y => PI nn ni nc y.1 y.2.1 y.2.2) (fun r => r.1.1 = true -> AJV nn ni nc) (fun y => ((nn.length : Int) - y.2.2).toNat) (a, b, i)) := AA.ret (fun h => by cases h)
 refine AA.dec (fun hi => ?_) (fun hi => ?_)
 ·refine AA.gd i0 (AA.gd hi ?_)
  refine AA.eqI (fun ho => ?_) (fun ho => ?_)
  ·refine AA.dec (fun _ => no) (fun ha => ?_)
   refine AA.gd a0 (AA.gd (by omega) ?_)
   refine AA.neI (fun _ => no) (fun he => ?_)
   refine AA.inK (by omega) (AA.gd i0 (AA.gd hi ?_))
   refine AA.eqI (fun ho2 => ?_) (fun _ => ?_)
   ·have q1 : nOp nn i = 21 := ho
    have q2 : nOp nn i = 22 := ho2
    omega
   ·exact AA.inK (by omega) (AA.ret ⟨h.pin hw hi (by omega) he ho, by dsimp only; omega⟩)
  ·refine AA.gd i0 (AA.gd hi ?_)
   refine AA.eqI (fun ho2 => ?_) (fun ho2 => ?_)
   ·refine AA.dec (fun _ => no) (fun hb => ?_)
    refine AA.gd b0 (AA.gd (by omega) ?_)
    refine AA.neI (fun _ => no) (fun he2 => ?_)
    exact AA.inK (by omega) (AA.inK (by omega) (AA.ret ⟨h.st hw hi (by omega) he2 ho2, by dsimp only; omega⟩))
   ·exact AA.inK (by omega) (AA.ret ⟨h.no hi ho ho2, by dsimp only; omega⟩)
 ·refine AA.eqI (fun ea => ?_) (fun _ => no)
  refine AA.ret (fun hh => ?_)
  have eb : b = (nc.length : Int) := by simpa using hh
  have ei : i = (nn.length : Int) := by omega
  subst ea; subst eb; subst ei
  exact ⟨hp, hc, hP, hC, by simpa using sa, by simpa using sb⟩
theorem Wj {nn : BB} {ni : Bf} {nc : BU} {np : B8} {nm : Bf} (hm : nm.length <= 1000) : AA (SN nn ni nc np nm) fun r => r.1.1 = true -> AAz nn ni nc np := by
 unfold SN SM
 simp only [BE, Aq]
 have no : AA (some ((false, ()), (), ()) : Option ((Bool × Unit) × Unit × Unit)) (fun r => r.1.1 = true -> AAz nn ni nc np) := AA.ret (fun h => by cases h)
 refine AA.dec (fun _ => no) (fun l1 => ?_)
 refine AA.dec (fun _ => no) (fun l2 => ?_)
 refine AA.dec (fun _ => no) (fun l3 => ?_)
 refine AA.dec (fun _ => no) (fun l4 => ?_)
 refine AA.iter (fun y => 0 <= y /\ y <= nn.length /\ ∀ j, 0 <= j -> j < y -> EG nn j) (fun y => (nn.length - y).toNat) ?_ ⟨by omega, by omega, fun j a b => by omega⟩ (AS (by omega))
 rintro i ⟨i0, i1, hn⟩
 refine AA.dec (fun hi => ?_) (fun hi => ?_)
 ·refine AA.AZ (Zb i0 hi (fun j a b => (hn j a b).w)) ?_
  rintro ⟨⟨b, ⟨⟩⟩, ⟨⟩, ⟨⟩⟩ hb
  dsimp only at hb ⊢
  cases b with
  | false => exact AA.ret (fun h => by cases h)
  | true =>
   refine AA.inK (by omega) (AA.ret ⟨⟨by omega, by omega, fun j a b => ?_⟩, by dsimp only; omega⟩)
   by_cases e : j = i
   ·rw [e]; exact hb rfl
   ·exact hn j a (by omega)
 have hn : ∀ j : Int, 0 <= j -> j < (nn.length : Int) -> EG nn j := fun j a b => hn j a (by omega)
 refine AA.AZ (Zd (fun j a b => (hn j a b).w) (by omega) (by omega) (by omega)) ?_
 rintro ⟨⟨b, ⟨⟩⟩, ⟨⟩, ⟨⟩⟩ hb
 dsimp only at hb ⊢
 cases b with
 | false => exact AA.ret (fun h => by cases h)
 | true =>
 obtain ⟨hp, hc, hP, hC, hsa, hsb⟩ := hb rfl
 simp only [Bool.not_true, BE]
 refine AA.iter (fun y => 0 <= y.2 /\ y.2 <= nc.length /\ 0 <= y.1 /\ y.1 <= 16 * y.2 /\ UK nn nc y.2) (fun y => (nc.length - y.2).toNat) ?_ ⟨by dsimp only; omega, by dsimp only; omega, by dsimp only; omega, by dsimp only; omega, fun k a b => by dsimp only at b; omega⟩ (AS (by dsimp only; omega))
 rintro ⟨bits, k⟩ ⟨k0, k1, b0, b1, hx⟩
 dsimp only at k0 k1 b0 b1 hx ⊢
 refine AA.dec (fun hk => ?_) (fun hk => ?_)
 ·obtain ⟨c0, c1⟩ := hc k k0 hk
  obtain ⟨w1, w2⟩ := (hn _ c0 c1).w
  refine AA.gd k0 (AA.gd hk (AA.gd c0 (AA.gd c1 (AA.inK (by change -9223372036854775808 <= bits + nW nn (cN nc k) /\ bits + nW nn (cN nc k) <= 9223372036854775807; omega) ?_))))
  refine AA.AZ Hd ?_
  rintro ⟨⟨y, ⟨⟩⟩, ⟨⟩, ⟨⟩⟩ hy
  dsimp only at hy ⊢
  refine AA.neI (fun _ => AA.ret (fun h => by cases h)) (fun he => ?_)
  refine AA.dec (fun _ => AA.ret (fun h => by cases h)) (fun _ => ?_)
  refine AA.AZ (RW (by change 0 <= nW nn (cN nc k); omega) (by change nW nn (cN nc k) <= 16; omega)) (fun ym _ => ?_)
  refine AA.dec (fun _ => AA.ret (fun h => by cases h)) (fun _ => ?_)
  have he' : y = nW nn (cN nc k) := he
  refine AA.inK (by omega) (AA.ret ⟨⟨by dsimp only; omega, by dsimp only; omega, ?_, ?_, ?_⟩, by dsimp only; omega⟩)
  ·change 0 <= bits + nW nn (cN nc k); omega
  ·change bits + nW nn (cN nc k) <= 16 * (k + 1); omega
  ·intro j j0 j1
   by_cases e : j = k
   ·rw [e]
    rcases hy with ⟨hy, _⟩ | ⟨h1, h2, h3⟩
    ·omega
    ·exact ⟨h1, h2, h3.symm.trans he'⟩
   ·exact hx j j0 (by dsimp only at j1; omega)
 have hx : UK nn nc nc.length := fun j j0 j1 => hx j j0 (by omega)
 refine AA.iter (fun y => 0 <= y /\ y <= np.length /\ UL nn np y) (fun y => (np.length - y).toNat) ?_ ⟨by omega, by omega, fun k a b => by omega⟩ (AS (by omega))
 rintro q ⟨q0, q1, hq⟩
 refine AA.dec (fun hlt => ?_) (fun hlt => ?_)
 ·refine AA.gd q0 (AA.gd hlt ?_)
  refine AA.dec (fun _ => AA.ret (fun h => by cases h)) (fun e1 => ?_)
  refine AA.dec (fun _ => AA.ret (fun h => by cases h)) (fun e2 => ?_)
  refine AA.AZ Hd ?_
  rintro ⟨⟨y, ⟨⟩⟩, ⟨⟩, ⟨⟩⟩ hy
  dsimp only at hy ⊢
  refine AA.neI (fun _ => AA.ret (fun h => by cases h)) (fun he => ?_)
  refine AA.inK (by omega) (AA.ret ⟨⟨by omega, by omega, ?_⟩, by dsimp only; omega⟩)
  intro j j0 j1
  by_cases e : j = q
  ·rw [e]
   rcases hy with ⟨hy, _⟩ | ⟨h1, h2, h3⟩
   ·have he' : y = 1 := he
    omega
   ·have e1' : ¬ qK np q < 8 := e1
    have e2' : ¬ qK np q > 10 := e2
    exact ⟨by omega, by omega, h1, h2, h3.symm.trans he⟩
  ·exact hq j j0 (by omega)
 have hq : UL nn np np.length := fun j j0 j1 => hq j j0 (by omega)
 refine AA.iter (fun y => 0 <= y /\ y <= nm.length) (fun y => (nm.length - y).toNat) ?_ ⟨by omega, by omega⟩ (AS (by omega))
 rintro z ⟨z0, z1⟩
 refine AA.dec (fun hlt => ?_) (fun hlt => ?_)
 ·refine AA.gd z0 (AA.gd hlt ?_)
  refine AA.AZ Hd ?_
  rintro ⟨⟨y, ⟨⟩⟩, ⟨⟩, ⟨⟩⟩ hy
  dsimp only
  refine AA.eqI (fun _ => AA.ret (fun h => by cases h)) (fun he => ?_)
  exact AA.inK (by omega) (AA.ret ⟨⟨by omega, by omega⟩, by dsimp only; omega⟩)
 ·exact AA.ret (fun _ => ⟨hn, hp, hc, hx, hq, by omega, by omega, by omega, hP, hC, hsa, hsb⟩)
theorem UM {i op w a b c n lo wa wb wc : Int} (h : AGy i op w a b c n lo wa wb wc) (haa : 0 <= a /\ a < i -> 1 <= wa /\ wa <= 16) : AA (Fm op w a b c n lo) fun r => 0 <= r.1.1 /\ r.1.1 <= 5120 := by
 unfold Fm
 obtain ⟨w1, w2, h⟩ := h
 refine AA.eqI (fun _ => AA.ret ⟨by dsimp only; omega, by dsimp only; omega⟩) (fun e1 => ?_)
 refine AA.eqI (fun _ => AA.ret ⟨by dsimp only; omega, by dsimp only; omega⟩) (fun e2 => ?_)
 refine AA.eqI (fun _ => AA.ret ⟨by dsimp only; omega, by dsimp only; omega⟩) (fun e3 => ?_)
 refine AA.eqI (fun _ => ?_) (fun e4 => ?_)
 ·have h1 : 20 * w * w <= 5120 := by
   calc 20 * w * w <= 20 * w * 16 := Int.mul_le_mul_of_nonneg_left w2 (by omega)
    _ <= 5120 := by omega
  have h2 : 0 <= 20 * w * w := Int.mul_nonneg (by omega) (by omega)
  exact AA.inK (by omega) (AA.inK (by omega) (AA.ret ⟨h2, h1⟩))
 have hlo : op = 4 \/ op = 5 \/ op = 12 \/ op = 13 \/ op = 14 \/ op = 15 -> 1 <= lo /\ lo <= 16 := by
  intro ho
  rcases h with h | h | h | ⟨a0, a1, _, _, _, _, h⟩
  ·omega
  ·omega
  ·omega
  ·have := haa ⟨a0, a1⟩
   rcases h with h | h | h | h | h | h | h <;> omega
 refine AA.eqI (fun e => ?_) (fun e5 => ?_)
 ·have := hlo (by omega)
  exact AA.inK (by omega) (AA.ret ⟨by dsimp only; omega, by dsimp only; omega⟩)
 refine AA.eqI (fun e => ?_) (fun e6 => ?_)
 ·have := hlo (by omega)
  exact AA.inK (by omega) (AA.ret ⟨by dsimp only; omega, by dsimp only; omega⟩)
 refine AA.eqI (fun e => ?_) (fun e7 => ?_)
 ·have := hlo (by omega)
  exact AA.inK (by omega) (AA.ret ⟨by dsimp only; omega, by dsimp only; omega⟩)
 refine AA.eqI (fun e => ?_) (fun e8 => ?_)
 ·have := hlo (by omega)
  exact AA.inK (by omega) (AA.ret ⟨by dsimp only; omega, by dsimp only; omega⟩)
 refine AA.eqI (fun e => ?_) (fun e9 => ?_)
 ·have := hlo (by omega)
  exact AA.inK (by omega) (AA.ret ⟨by dsimp only; omega, by dsimp only; omega⟩)
 refine AA.eqI (fun e => ?_) (fun e10 => ?_)
 ·have := hlo (by omega)
  exact AA.inK (by omega) (AA.ret ⟨by dsimp only; omega, by dsimp only; omega⟩)
 exact AA.inK (by omega) (AA.ret ⟨by dsimp only; omega, by dsimp only; omega⟩)
theorem QA {nn : BB} {j : Int} (h : EG nn j) (ha : ∀ k, 0 <= k -> k < j -> 1 <= nW nn k /\ nW nn k <= 16) : AA (Fm (get AB nn j).1 (get AB nn j).2.1 (get AB nn j).2.2.1 (get AB nn j).2.2.2.1 (get AB nn j).2.2.2.2.1 (get AB nn j).2.2.2.2.2.1 (get AB nn j).2.2.2.2.2.2.1) fun r => 0 <= r.1.1 /\ r.1.1 <= 5120 :=
 UM h fun h => ha _ h.1 h.2
structure MW (nn : BB) (ni : Bf) (nc : BU) (np : B8) : Prop where
 net : AAz nn ni nc np
 ln : nn.length <= 300
 li : ni.length <= 4
 lc : nc.length <= 8
theorem Ze {nn : BB} {ni : Bf} {nc : BU} {np : B8} {nm : Bf} : AA (OT nn ni nc np nm) fun r => r.1.1 = true -> MW nn ni nc np := by
 unfold OT Xm
 simp only [BE, CI, Aq]
 have no : AA (some ((false, ()), (), ()) : Option ((Bool × Unit) × Unit × Unit)) (fun r => r.1.1 = true -> MW nn ni nc np) := AA.ret (fun h => by cases h)
 have h9 : AA (OH nn ni nc np nm) fun r => r.1.1 = false -> nm.length <= 300 /\ nn.length <= 300 := by
  unfold OH
  simp only [BE, Aq]
  refine AA.dec (fun _ => AA.ret (fun h => by cases h)) (fun _ => ?_)
  refine AA.dec (fun _ => AA.ret (fun h => by cases h)) (fun _ => ?_)
  refine AA.dec (fun _ => AA.ret (fun h => by cases h)) (fun _ => ?_)
  refine AA.dec (fun _ => AA.ret (fun h => by cases h)) (fun _ => ?_)
  refine AA.ret (fun h => ?_)
  simp only [decide_eq_false_iff_not] at h
  omega
 refine AA.AZ h9 ?_
 rintro ⟨⟨b, ⟨⟩⟩, ⟨⟩, ⟨⟩⟩ hb
 dsimp only at hb ⊢
 cases b with
 | true => exact no
 | false =>
 obtain ⟨hm, hln⟩ := hb rfl
 rw [BE]
 refine AA.AZ (Wj (by omega)) ?_
 rintro ⟨⟨b, ⟨⟩⟩, ⟨⟩, ⟨⟩⟩ hr
 dsimp only at hr ⊢
 cases b with
 | false => exact no
 | true =>
 have hnet := hr rfl
 have hwd : Mr nn := fun j a b => (hnet.node j a b).w
 simp only [Bool.not_true, BE]
 have hw : AA (Jz nn ni nc np nm) fun _ => True := by
  unfold Jz LJ
  refine AA.iter (fun y => 0 <= y.2 /\ y.2 <= nn.length /\ 0 <= y.1 /\ y.1 <= 5120 * y.2) (fun y => (nn.length - y.2).toNat) ?_ ⟨by dsimp only; omega, by dsimp only; omega, by dsimp only; omega, by dsimp only; omega⟩ (AS (by dsimp only; omega))
  rintro ⟨s, i⟩ ⟨i0, i1, s0, s1⟩
  dsimp only at i0 i1 s0 s1 ⊢
  simp only [Aq]
  refine AA.dec (fun hlt => ?_) (fun _ => AA.ret trivial)
  refine AA.gd i0 (AA.gd hlt ?_)
  refine AA.AZ (QA (hnet.node i i0 hlt) (fun k a b => (hnet.node k a (by omega)).w)) ?_
  rintro ⟨⟨y, ⟨⟩⟩, ⟨⟩, ⟨⟩⟩ ⟨y0, y1⟩
  dsimp only at y0 y1 ⊢
  exact AA.inK (by omega) (AA.inK (by omega) (AA.ret ⟨⟨by dsimp only; omega, by dsimp only; omega, by dsimp only; omega, by dsimp only; omega⟩, by dsimp only; omega⟩))
 refine AA.AZ hw ?_
 rintro ⟨⟨y, ⟨⟩⟩, ⟨⟩, ⟨⟩⟩ _
 dsimp only
 refine AA.dec (fun _ => no) (fun _ => ?_)
 refine AA.iter (fun y => 0 <= y.2.2 /\ y.2.2 <= nn.length /\ y.1 = Fw nn 22 y.2.2.toNat /\ y.2.1 = Fw nn 21 y.2.2.toNat) (fun y => (nn.length - y.2.2).toNat) ?_ ⟨by dsimp only; omega, by dsimp only; omega, by simp [Fw], by simp [Fw]⟩ (AS (by dsimp only; omega))
 rintro ⟨s, t, i⟩ ⟨i0, i1, e1, e2⟩
 dsimp only at *
 have b1 := JV hwd 22 i.toNat (by omega)
 have b2 := JV hwd 21 i.toNat (by omega)
 refine AA.dec (fun hlt => ?_) (fun hlt => ?_)
 ·have hwi := hwd i i0 hlt
  have s1 := FJ (nn := nn) (op := 21) i0
  have s2 := FJ (nn := nn) (op := 22) i0
  refine AA.gd i0 (AA.gd hlt ?_)
  refine AA.eqI (fun ho => ?_) (fun ho => ?_)
  ·have ho : nOp nn i = 22 := ho
   rw [if_pos ho] at s2
   rw [if_neg (by rw [ho]; decide)] at s1
   refine AA.gd i0 (AA.gd hlt (AA.inK (by change -9223372036854775808 <= s + nW nn i /\ s + nW nn i <= 9223372036854775807; omega) (AA.gd i0 (AA.gd hlt ?_))))
   refine AA.eqI (fun ho2 => absurd (ho.symm.trans ho2) (by decide)) (fun _ => ?_)
   refine AA.inK (by omega) (AA.ret ⟨⟨by dsimp only; omega, by dsimp only; omega, ?_, ?_⟩, by dsimp only; omega⟩)
   ·change s + nW nn i = _; dsimp only; omega
   ·dsimp only; omega
  ·have ho : nOp nn i ≠ 22 := ho
   rw [if_neg ho] at s2
   refine AA.gd i0 (AA.gd hlt ?_)
   refine AA.eqI (fun ho2 => ?_) (fun ho2 => ?_)
   ·have ho2 : nOp nn i = 21 := ho2
    rw [if_pos ho2] at s1
    refine AA.gd i0 (AA.gd hlt (AA.inK (by change -9223372036854775808 <= t + nW nn i /\ t + nW nn i <= 9223372036854775807; omega) (AA.inK (by omega) (AA.ret ⟨⟨by dsimp only; omega, by dsimp only; omega, ?_, ?_⟩, by dsimp only; omega⟩))))
    ·dsimp only; omega
    ·change t + nW nn i = _; dsimp only; omega
   ·have ho2 : nOp nn i ≠ 21 := ho2
    rw [if_neg ho2] at s1
    exact AA.inK (by omega) (AA.ret ⟨⟨by dsimp only; omega, by dsimp only; omega, by dsimp only; omega, by dsimp only; omega⟩, by dsimp only; omega⟩)
 ·have ei : i.toNat = nn.length := by omega
  rw [ei] at e1 e2
  have q1 := hnet.sI
  have q2 := hnet.sC
  refine AA.dec (fun h8 => AA.ret (fun h4 => ?_)) (fun _ => AA.ret (fun h => by cases h))
  have h4 : t <= 4 := by simpa using h4
  exact ⟨hnet, hln, by omega, by omega⟩
end AL
end
section
set_option linter.unusedVariables false
set_option linter.unusedSimpArgs false
set_option maxHeartbeats 0
namespace AL
open Go
section
variable {κ α : Type} [DecidableEq κ]
theorem DC (x : α) : ∀ (l : List (κ × α)) (k k' : κ), BF (A4 x l k) k' = (decide (k' = k) || BF l k')
 | [], k, k' => by
  by_cases h : k' = k <;> simp [A4, BF, h]
 | (a, y) :: r, k, k' => by
  unfold A4
  by_cases h : k = a
  ·subst h
   by_cases h2 : k' = k <;> simp [BF, h2]
  ·simp only [h, decide_false, cond_false, BF, DC x r k k']
   by_cases h2 : k' = a <;> simp [h2]
theorem E5 (d x : α) : ∀ (l : List (κ × α)) (k k' : κ), Ad d (A4 x l k) k' = if k' = k then x else Ad d l k'
 | [], k, k' => by
  by_cases h : k' = k <;> simp [A4, Ad, h]
 | (a, y) :: r, k, k' => by
  unfold A4
  by_cases h : k = a
  ·subst h
   by_cases h2 : k' = k <;> simp [Ad, h2]
  ·simp only [h, decide_false, cond_false, Ad, E5 d x r k k']
   by_cases h2 : k' = a
   ·subst h2
    have : ¬ k' = k := fun e => h e.symm
    simp [this]
   ·simp [h2]
theorem FK (d : α) : ∀ (l : List (κ × α)) (k : κ), BF l k = false -> Ad d l k = d
 | [], _, _ => rfl
 | (a, y) :: r, k, h => by
  unfold BF at h
  unfold Ad
  by_cases h2 : k = a
  ·simp [h2] at h
  ·simp only [h2, decide_false, cond_false] at h ⊢
   exact FK d r k h
theorem Ds (x : α) : ∀ (l : List (κ × α)) (k : κ), (A4 x l k).length <= l.length + 1
 | [], _ => by simp [A4]
 | (a, y) :: r, k => by
  unfold A4
  by_cases h : k = a
  ·simp [h]
  ·simp only [h, decide_false, cond_false, List.length_cons]
   have := Ds x r k
   omega
end
abbrev UN := List (Int × List Int)
def H9 (m : UN) (j : Int) : List Int := Ad [] m j
def BM (nn : BB) (gi : Int) (ga : List P2) (m : UN) : Prop := ∀ j : Int, BF m j = true -> 0 <= j /\ j < nn.length /\ ((H9 m j).length : Int) = nW nn j /\ BT gi ga (H9 m j)
theorem BM.nil {nn : BB} {gi : Int} {ga : List P2} : BM nn gi ga [] := fun j h => by cases h
theorem BM.mono {nn : BB} {gi : Int} {ga ga' : List P2} {m : UN} (h : BM nn gi ga m) (hl : ga.length <= ga'.length) : BM nn gi ga' m := fun j hj => by
 obtain ⟨h1, h2, h3, h4⟩ := h j hj
 exact ⟨h1, h2, h3, h4.mono hl⟩
theorem BM.set {nn : BB} {gi : Int} {ga : List P2} {m : UN} (h : BM nn gi ga m) {i : Int} {x : List Int} (h0 : 0 <= i) (h1 : i < nn.length) (hx : (x.length : Int) = nW nn i) (hl : BT gi ga x) : BM nn gi ga (A4 x m i) := by
 intro j hj
 rw [DC] at hj
 unfold H9
 rw [E5]
 by_cases e : j = i
 ·rw [if_pos e, e]
  exact ⟨h0, h1, hx, hl⟩
 ·rw [if_neg e]
  simp only [e, decide_false, Bool.false_or] at hj
  exact h j hj
theorem BM.any {nn : BB} {gi : Int} {ga : List P2} {m : UN} (h : BM nn gi ga m) (hw : Mr nn) (j : Int) : (H9 m j).length <= 16 /\ BT gi ga (H9 m j) := by
 cases e : BF m j with
 | true =>
  obtain ⟨h0, h1, h2, h3⟩ := h j e
  have := hw j h0 h1
  exact ⟨by omega, h3⟩
 | false =>
  have : H9 m j = [] := FK [] m j e
  rw [this]
  exact ⟨by simp, BT.nil⟩
def Co (f : Int -> Int) : Nat -> Int
 | 0 => 0
 | m + 1 => Co f m + f m
theorem NA {f : Int -> Int} {i : Int} (h0 : 0 <= i) : Co f (i + 1).toNat = Co f i.toNat + f i := by
 have e : (i + 1).toNat = i.toNat + 1 := by omega
 rw [e, Co, Int.toNat_of_nonneg h0]
theorem E6 {f g : Int -> Int} : ∀ {n : Nat}, (∀ j : Int, 0 <= j -> j < n -> f j = g j) -> Co f n = Co g n
 | 0, _ => rfl
 | n + 1, h => by
  rw [Co, Co, E6 (n := n) (fun j a b => h j a (by omega)), h n (by omega) (by omega)]
theorem Dt {f : Int -> Int} {c : Int} : ∀ {n : Nat}, (∀ j : Int, 0 <= j -> j < n -> 1 <= f j /\ f j <= c) -> (n : Int) <= Co f n /\ Co f n <= c * n
 | 0, _ => ⟨by simp [Co], by simp [Co]⟩
 | n + 1, h => by
  have h1 := Dt (n := n) (fun j a b => h j a (by omega))
  have h2 := h n (by omega) (by omega)
  rw [Co]
  push_cast
  rw [Int.mul_add]
  omega
theorem RX {f : Int -> Int} {k : Nat} : ∀ {n : Nat}, k <= n -> (∀ j : Int, 0 <= j -> j < n -> 1 <= f j) -> Co f k <= Co f n
 | 0, hk, _ => by rw [Nat.le_zero.1 hk]; exact Int.le_refl _
 | n + 1, hk, h => by
  by_cases e : k = n + 1
  ·rw [e]; exact Int.le_refl _
  ·have h1 := RX (n := n) (k := k) (by omega) (fun j a b => h j a (by omega))
   have h2 := h n (by omega) (by omega)
   rw [Co]; omega
theorem Wk {f : Int -> Int} {m : Nat} : ∀ {n : Nat}, Co f (m + n) = Co f m + Co (fun j => f (m + j)) n
 | 0 => by simp [Co]
 | n + 1 => by
  rw [<- Nat.add_assoc, Co, Wk (n := n), Co]
  push_cast
  omega
theorem PU {P : List Int} {nn : BB} (hw : Mr nn) (hP : ∀ k : Int, 0 <= k -> k < P.length -> 0 <= AE P k /\ AE P k < nn.length) (hl : P.length <= 1000) :
  AA (VD P nn) fun r => r.1.1 = Co (fun k => nW nn (AE P k)) P.length := by
 unfold VD Xb
 simp only [Aq]
 refine AA.iter (fun y => 0 <= y.2 /\ y.2 <= P.length /\ y.1 = Co (fun k => nW nn (AE P k)) y.2.toNat) (fun y => (P.length - y.2).toNat) ?_ ⟨by dsimp only; omega, by dsimp only; omega, rfl⟩ (AS (by dsimp only; omega))
 rintro ⟨s, i⟩ ⟨i0, i1, hs⟩
 dsimp only at *
 have hb := Dt (f := fun k => nW nn (AE P k)) (c := 16) (n := i.toNat) (fun j a b => by
  obtain ⟨p0, p1⟩ := hP j a (by omega)
  exact hw _ p0 p1)
 refine AA.dec (fun hlt => ?_) (fun hlt => AA.ret ?_)
 ·obtain ⟨p0, p1⟩ := hP i i0 hlt
  have hwi := hw _ p0 p1
  refine AA.gd i0 (AA.gd hlt (AA.gd p0 (AA.gd p1 (AA.inK (by change -9223372036854775808 <= s + nW nn (AE P i) /\ s + nW nn (AE P i) <= 9223372036854775807; omega) (AA.inK (by omega) (AA.ret ⟨⟨by dsimp only; omega, by dsimp only; omega, ?_⟩, by dsimp only; omega⟩))))))
  dsimp only
  rw [NA i0, hs]
  rfl
 ·have : i.toNat = P.length := by omega
  rw [this] at hs
  exact hs
theorem Zf {nn : BB} {gi pos first : Int} {m : UN} (hw : Mr nn) (hg : Gr gi []) (p0 : 0 <= pos) (p1 : pos < nn.length) (f0 : 1 <= first) (f1 : first + nW nn pos <= gi + 1) (hm : BM nn gi [] m) (hl : m.length <= 1000) :
  AA (AAE pos first nn m) fun r => r.1.1 = first + nW nn pos /\ BM nn gi [] r.2.1.1.2.1 /\ (∀ j, BF r.2.1.1.2.1 j = (decide (j = pos) || BF m j)) /\ r.2.1.1.2.1.length <= m.length + 1 := by
 have hg1 := hg.2.1
 have hwp := hw pos p0 p1
 unfold AAE Xc
 simp only [Aq, A9, List.length_singleton]
 refine AA.gd p0 (AA.gd p1 ?_)
 refine AA.iter (fun y => 0 <= y.1.2 /\ y.1.2 <= nW nn pos /\ y.1.1 = first + y.1.2 /\ (y.2.length : Int) = y.1.2 /\ BT gi [] y.2) (fun y => (nW nn pos - y.1.2).toNat) ?_ ⟨by dsimp only; omega, by dsimp only; omega, by dsimp only; omega, rfl, BT.nil⟩ (AS (by dsimp only; omega))
 rintro ⟨⟨v, i⟩, l⟩ ⟨i0, i1, hv, hll, hli⟩
 dsimp only at *
 refine AA.dec (fun hlt => ?_) (fun hlt => ?_)
 ·have hlt : i < nW nn pos := hlt
  refine AA.inK (by omega) (AA.gd (by omega) (AA.gd (by omega) (AA.inK (by omega) (AA.inK (by omega) (AA.ret ⟨⟨by dsimp only; omega, by dsimp only; omega, by dsimp only; omega, by simp; omega, ?_⟩, by dsimp only; omega⟩)))))
  refine hli.app (BT.one ⟨by omega, ?_⟩)
  simp only [List.length_nil]
  omega
 ·have hlt : ¬ i < nW nn pos := hlt
  refine AA.gd (by omega) (AA.ret ⟨by dsimp only; omega, hm.set p0 p1 (by omega) hli, fun j => DC _ _ _ _, Ds _ _ _⟩)
theorem AAy.of {nn : BB} {gi : Int} {ga : List P2} {m : UN} {i : Int} (hw : Mr nn) (hm : BM nn gi ga m) (hn : EG nn i) (i1 : i < nn.length) (hall : ∀ j : Int, 0 <= j -> j < i -> BF m j = true) (h1 : nOp nn i ≠ 21) (h2 : nOp nn i ≠ 22) :
  AAy (get AB nn i).1 (get AB nn i).2.1 (get AB nn i).2.2.2.2.2.1 (get AB nn i).2.2.2.2.2.2.1 (H9 m (get AB nn i).2.2.1).length (H9 m (get AB nn i).2.2.2.1).length (H9 m (get AB nn i).2.2.2.2.1).length := by
 obtain ⟨w1, w2, h⟩ := hn
 refine ⟨w1, w2, (hm.any hw _).1, (hm.any hw _).1, (hm.any hw _).1, ?_⟩
 have h1 : (get AB nn i).1 ≠ 21 := h1
 have h2 : (get AB nn i).1 ≠ 22 := h2
 have key : ∀ j : Int, 0 <= j -> j < i -> ((H9 m j).length : Int) = (get AB nn j).2.1 := fun j a b => (hm j (hall j a b)).2.2.1
 rcases h with h | h | h | ⟨a0, a1, b0, b1, c0, c1, h⟩
 ·exact .inl h
 ·exact absurd h h1
 ·exact absurd h h2
 ·have ka := key _ a0 a1
  have kb := key _ b0 b1
  have kc := key _ c0 c1
  dsimp only [int, Ty.den] at *
  generalize (get AB nn (get AB nn i).2.2.1).2.1 = Wa at *
  generalize (get AB nn (get AB nn i).2.2.2.1).2.1 = Wb at *
  generalize (get AB nn (get AB nn i).2.2.2.2.1).2.1 = Wc at *
  generalize (H9 m (get AB nn i).2.2.1).length = la at *
  generalize (H9 m (get AB nn i).2.2.2.1).length = lb at *
  generalize (H9 m (get AB nn i).2.2.2.2.1).length = lc at *
  generalize (get AB nn i).1 = op at *
  generalize (get AB nn i).2.1 = w at *
  generalize (get AB nn i).2.2.2.2.2.1 = n at *
  generalize (get AB nn i).2.2.2.2.2.2.1 = lo at *
  clear key hall hm hw h1 h2
  rcases h with ⟨h, e⟩ | ⟨h, e, f⟩ | ⟨h, e⟩ | ⟨h, e1, e2, e3, e4⟩ | ⟨h, e, f, g⟩ | ⟨h, e, f⟩ | ⟨h, e, f, g⟩
  ·exact .inr (.inl ⟨h, by omega⟩)
  ·exact .inr (.inr (.inl ⟨h, by omega, by omega⟩))
  ·exact .inr (.inr (.inr (.inl ⟨h, by omega⟩)))
  ·exact .inr (.inr (.inr (.inr (.inl ⟨h, e1, e2, by omega, e4⟩))))
  ·exact .inr (.inr (.inr (.inr (.inr (.inl ⟨h, by omega, by omega, by omega⟩)))))
  ·exact .inr (.inr (.inr (.inr (.inr (.inr (.inl ⟨h, e⟩))))))
  ·exact .inr (.inr (.inr (.inr (.inr (.inr (.inr ⟨h, e, by omega⟩))))))
theorem Wl {nn : BB} {gi : Int} {m : UN} (hw : Mr nn) (hn : ∀ j : Int, 0 <= j -> j < (nn.length : Int) -> EG nn j) (hl : nn.length <= 300) (hg : Gr gi []) (hm : BM nn gi [] m) (hml : m.length <= 1000) (hin : ∀ j : Int, 0 <= j -> j < (nn.length : Int) -> nOp nn j = 21 \/ nOp nn j = 22 -> BF m j = true) :
  AA (SJ gi [] nn m) fun r => r.2.1.1.1 = gi /\ Gr gi r.2.1.1.2.1 /\ r.2.1.1.2.1.length <= 810000 /\ r.2.1.1.2.2.1 = nn /\ BM nn gi r.2.1.1.2.1 r.2.1.1.2.2.2.1 /\ ∀ j : Int, 0 <= j -> j < (nn.length : Int) -> BF r.2.1.1.2.2.2.1 j = true := by
 unfold SJ SI
 simp only [Aq, A9]
 refine AA.iter (fun y => 0 <= y.1 /\ y.1 <= nn.length /\ y.2.1.1 = gi /\ Gr gi y.2.1.2.1 /\ (y.2.1.2.1.length : Int) <= 2700 * y.1 /\ y.2.1.2.2 = nn /\ BM nn gi y.2.1.2.1 y.2.2 /\ (y.2.2.length : Int) <= 1000 + y.1 /\ (∀ j : Int, 0 <= j -> j < y.1 -> BF y.2.2 j = true) /\ (∀ j : Int, 0 <= j -> j < (nn.length : Int) -> nOp nn j = 21 \/ nOp nn j = 22 -> BF y.2.2 j = true)) (fun y => (nn.length - y.1).toNat) ?_
  ⟨by dsimp only; omega, by dsimp only; omega, rfl, hg, by simp, rfl, hm, by dsimp only; omega, fun j a b => by dsimp only at b; omega, hin⟩ (AS (by dsimp only; omega))
 rintro ⟨i, ⟨g, l, nn'⟩, b⟩ ⟨i0, i1, e1, hgr, hll, e2, hb, hbl, hall, hin⟩
 dsimp only at *
 subst e1; subst e2
 refine AA.dec (fun hlt => ?_) (fun hlt => ?_)
 ·refine AA.gd i0 (AA.gd hlt ?_)
  refine AA.bool (fun hh => ?_) (fun hh => ?_)
  ·refine AA.inK (by omega) (AA.ret ⟨⟨by dsimp only; omega, by dsimp only; omega, rfl, hgr, by dsimp only; omega, rfl, hb, by dsimp only; omega, fun j j0 j1 => ?_, hin⟩, by dsimp only; omega⟩)
   by_cases e : j = i
   ·rw [e]; exact hh
   ·exact hall j j0 (by dsimp only at j1; omega)
  ·have n1 : nOp nn' i ≠ 21 := fun e => by rw [hin i i0 hlt (.inl e)] at hh; cases hh
   have n2 : nOp nn' i ≠ 22 := fun e => by rw [hin i i0 hlt (.inr e)] at hh; cases hh
   have hfit := AAy.of hw hb (hn i i0 hlt) hlt hall n1 n2
   refine AA.AZ (AGx hgr (by omega) (hb.any hw _).2 (hb.any hw _).2 (hb.any hw _).2 hfit) ?_
   rintro ⟨⟨⟨g1, l1, ⟨⟩⟩, x, ⟨⟩⟩, ⟨⟩, ⟨⟩⟩ ⟨e1, p1, p2, p3, p4, p5⟩
   dsimp only at *
   subst e1
   have hwi := hw i i0 hlt
   have hx : (x.length : Int) = nW nn' i := by
    have e : nW nn' i = (get AB nn' i).2.1 := rfl
    rw [<- e] at p4
    omega
   have hlen := Ds x b i
   refine AA.gd (by omega) (AA.inK (by omega) (AA.ret ⟨⟨by dsimp only; omega, by dsimp only; omega, rfl, p1, by dsimp only; omega, rfl, (hb.mono p2).set i0 hlt hx p5, by dsimp only; omega, fun j j0 j1 => ?_, fun j j0 j1 jo => ?_⟩, by dsimp only; omega⟩))
   ·rw [DC]
    by_cases e : j = i
    ·simp [e]
    ·rw [hall j j0 (by dsimp only at j1; omega)]; simp
   ·rw [DC, hin j j0 j1 jo]; simp
 ·exact AA.ret ⟨rfl, hgr, by dsimp only; omega, rfl, hb, fun j j0 j1 => hall j j0 (by omega)⟩
end AL
end
section
set_option linter.unusedVariables false
set_option linter.unusedSimpArgs false
set_option maxHeartbeats 0
namespace AL
open Go
theorem Bz {T : Ty} {l : List T.den} {x : T.den} {i : Int} (hi : 0 <= i) (h : i <= l.length) : get T (l ++ [x]) i = if i = l.length then x else get T l i := by
 unfold get
 rw [List.getD_eq_getElem?_getD, List.getD_eq_getElem?_getD]
 split
 ·rename_i e
  have : i.toNat = l.length := by omega
  rw [this]; simp
 ·rw [List.getElem?_append_left (by omega)]
abbrev P3 := Int × Int × Int × Unit
abbrev Gb := List (Int × Int × Bool × Int × Int × Unit)
def iV (l : List P3) (j : Int) : Int := (get CL l j).1
def iP (l : List P3) (j : Int) : Int := (get CL l j).2.1
def iB (l : List P3) (j : Int) : Int := (get CL l j).2.2.1
def lV (l : Gb) (j : Int) : Int := (get AU l j).1
def lN (l : Gb) (j : Int) : Int := (get AU l j).2.1
def lC (l : Gb) (j : Int) : Int := (get AU l j).2.2.2.1
def lB (l : Gb) (j : Int) : Int := (get AU l j).2.2.2.2.1
theorem AA0 {l : List P3} {a b c i : Int} (hi : 0 <= i) (h : i <= l.length) : iV (l ++ [(a, b, c, ())]) i = if i = l.length then a else iV l i := by
 have := Bz (T := CL) (x := (a, b, c, ())) hi h
 unfold iV; rw [this]; split <;> rfl
theorem NB {l : List P3} {a b c i : Int} (hi : 0 <= i) (h : i <= l.length) : iP (l ++ [(a, b, c, ())]) i = if i = l.length then b else iP l i := by
 have := Bz (T := CL) (x := (a, b, c, ())) hi h
 unfold iP; rw [this]; split <;> rfl
theorem NC {l : List P3} {a b c i : Int} (hi : 0 <= i) (h : i <= l.length) : iB (l ++ [(a, b, c, ())]) i = if i = l.length then c else iB l i := by
 have := Bz (T := CL) (x := (a, b, c, ())) hi h
 unfold iB; rw [this]; split <;> rfl
theorem AIZ {l : Gb} {a b d e i : Int} {c : Bool} (hi : 0 <= i) (h : i <= l.length) : lV (l ++ [(a, b, c, d, e, ())]) i = if i = l.length then a else lV l i := by
 have := Bz (T := AU) (x := (a, b, c, d, e, ())) hi h
 unfold lV; rw [this]; split <;> rfl
theorem AIa {l : Gb} {a b d e i : Int} {c : Bool} (hi : 0 <= i) (h : i <= l.length) : lN (l ++ [(a, b, c, d, e, ())]) i = if i = l.length then b else lN l i := by
 have := Bz (T := AU) (x := (a, b, c, d, e, ())) hi h
 unfold lN; rw [this]; split <;> rfl
theorem UO {l : Gb} {a b d e i : Int} {c : Bool} (hi : 0 <= i) (h : i <= l.length) : lC (l ++ [(a, b, c, d, e, ())]) i = if i = l.length then d else lC l i := by
 have := Bz (T := AU) (x := (a, b, c, d, e, ())) hi h
 unfold lC; rw [this]; split <;> rfl
theorem UP {l : Gb} {a b d e i : Int} {c : Bool} (hi : 0 <= i) (h : i <= l.length) : lB (l ++ [(a, b, c, d, e, ())]) i = if i = l.length then e else lB l i := by
 have := Bz (T := AU) (x := (a, b, c, d, e, ())) hi h
 unfold lB; rw [this]; split <;> rfl
def Lx (a b c d : Int) : Prop := a < c \/ (a = c /\ b < d)
structure RI (l : List P3) (m k : Int) : Prop where
 v : ∀ j : Int, 0 <= j -> j < l.length -> iV l j = j + 1 /\ 0 <= iP l j /\ 0 <= iB l j /\ Lx (iP l j) (iB l j) m k
 r : ∀ j : Int, 0 < j -> j < l.length -> Lx (iP l (j - 1)) (iB l (j - 1)) (iP l j) (iB l j)
theorem RI.nil {m k : Int} : RI [] m k := ⟨fun j a b => by simp at b; omega, fun j a b => by simp at b; omega⟩
theorem RI.push {l : List P3} {m k : Int} (h : RI l m k) (m0 : 0 <= m) (k0 : 0 <= k) : RI (l ++ [((l.length : Int) + 1, m, k, ())]) m (k + 1) := by
 refine ⟨fun j a b => ?_, fun j a b => ?_⟩
 ·simp only [List.length_append, List.length_singleton] at b
  rw [AA0 a (by omega), NB a (by omega), NC a (by omega)]
  by_cases e : j = l.length
  ·simp only [e, if_true]
   exact ⟨trivial, m0, k0, .inr ⟨rfl, by omega⟩⟩
  ·simp only [e, if_false]
   obtain ⟨h1, h2, h3, h4⟩ := h.v j a (by omega)
   refine ⟨h1, h2, h3, ?_⟩
   unfold Lx at h4 ⊢
   omega
 ·simp only [List.length_append, List.length_singleton] at b
  rw [NB (by omega) (by omega), NC (by omega) (by omega), NB (by omega) (by omega), NC (by omega) (by omega)]
  rw [if_neg (by omega), if_neg (by omega)]
  by_cases e : j = l.length
  ·simp only [e, if_true]
   exact (h.v _ (by omega) (by omega)).2.2.2
  ·simp only [e, if_false]
   exact h.r j a (by omega)
theorem RI.next {l : List P3} {m k : Int} (h : RI l m k) : RI l (m + 1) 0 := by
 refine ⟨fun j a b => ?_, h.r⟩
 obtain ⟨h1, h2, h3, h4⟩ := h.v j a b
 refine ⟨h1, h2, h3, ?_⟩
 unfold Lx at h4 ⊢
 omega
structure RL (gi : Int) (ga : List P2) (n M : Int) (l : Gb) (m k : Int) : Prop where
 v : ∀ j : Int, 0 <= j -> j < l.length -> lV l j = n + j + 1 /\ 0 <= lC l j /\ lC l j < M /\ 0 <= lB l j /\ lB l j < 16 /\ Lit gi ga (lN l j) /\ Lx (lC l j) (lB l j) m k
 r : ∀ j : Int, 0 < j -> j < l.length -> Lx (lC l (j - 1)) (lB l (j - 1)) (lC l j) (lB l j)
theorem RL.nil {gi : Int} {ga : List P2} {n M m k : Int} : RL gi ga n M [] m k := ⟨fun j a b => by simp at b; omega, fun j a b => by simp at b; omega⟩
theorem RL.push {gi : Int} {ga : List P2} {n M : Int} {l : Gb} {m k x : Int} {b : Bool} (h : RL gi ga n M l m k) (m0 : 0 <= m) (m1 : m < M) (k0 : 0 <= k) (k1 : k < 16) (hx : Lit gi ga x) : RL gi ga n M (l ++ [(n + l.length + 1, x, b, m, k, ())]) m (k + 1) := by
 refine ⟨fun j a b => ?_, fun j a b => ?_⟩
 ·simp only [List.length_append, List.length_singleton] at b
  rw [AIZ a (by omega), UO a (by omega), UP a (by omega), AIa a (by omega)]
  by_cases e : j = l.length
  ·simp only [e, if_true]
   exact ⟨trivial, m0, m1, k0, k1, hx, .inr ⟨rfl, by omega⟩⟩
  ·simp only [e, if_false]
   obtain ⟨h1, h2, h3, h4, h5, h6, h7⟩ := h.v j a (by omega)
   refine ⟨h1, h2, h3, h4, h5, h6, ?_⟩
   unfold Lx at h7 ⊢
   omega
 ·simp only [List.length_append, List.length_singleton] at b
  rw [UO (by omega) (by omega), UP (by omega) (by omega), UO (by omega) (by omega), UP (by omega) (by omega)]
  rw [if_neg (by omega), if_neg (by omega)]
  by_cases e : j = l.length
  ·simp only [e, if_true]
   exact (h.v _ (by omega) (by omega)).2.2.2.2.2.2
  ·simp only [e, if_false]
   exact h.r j a (by omega)
theorem RL.next {gi : Int} {ga : List P2} {n M : Int} {l : Gb} {m k : Int} (h : RL gi ga n M l m k) : RL gi ga n M l (m + 1) 0 := by
 refine ⟨fun j a b => ?_, h.r⟩
 obtain ⟨h1, h2, h3, h4, h5, h6, h7⟩ := h.v j a b
 refine ⟨h1, h2, h3, h4, h5, h6, ?_⟩
 unfold Lx at h7 ⊢
 omega
theorem QB {nn : BB} {ni : Bf} {nc : BU} {np : B8} {nm : Bf} (hl : nc.length <= 256) : AA (Jw nn ni nc np nm) fun r => r.1.1.length = nc.length := by
 unfold Jw LF
 simp only [Aq, A9, Int.toNat_natCast]
 refine AA.gd (by omega) (AA.gd (by omega) (AA.gd (by omega) ?_))
 refine AA.iter (fun y => 0 <= y.1 /\ y.1 <= nc.length /\ y.2.length = nc.length) (fun y => (nc.length - y.1).toNat) ?_ ⟨by dsimp only; omega, by dsimp only; omega, by simp⟩ (AS (by dsimp only; omega))
 rintro ⟨i, l⟩ ⟨i0, i1, hl2⟩
 dsimp only at *
 refine AA.dec (fun hlt => ?_) (fun hlt => AA.ret hl2)
 refine AA.gd i0 (AA.gd hlt (AA.gd i0 (AA.gd (by omega) (AA.inK (by omega) (AA.ret ⟨⟨by dsimp only; omega, by dsimp only; omega, ?_⟩, by dsimp only; omega⟩)))))
 dsimp only
 rw [List.length_set]; exact hl2
theorem UQ {n w : Int} (h0 : 0 <= w) (h1 : w <= 16) : AA (Mz n w) fun r => (r.1.1.length : Int) = w := by
 unfold Mz OB
 simp only [Aq, A9]
 refine AA.gd h0 (AA.gd (Int.le_refl _) (AA.gd (by omega) (AA.gd (by omega) ?_)))
 refine AA.iter (fun y => 0 <= y.1 /\ y.1 <= w /\ (y.2.length : Int) = w) (fun y => (w - y.1).toNat) ?_ ⟨by dsimp only; omega, by dsimp only; omega, by simp; omega⟩ (AS (by dsimp only; omega))
 rintro ⟨i, l⟩ ⟨i0, i1, hl2⟩
 dsimp only at *
 refine AA.dec (fun hlt => ?_) (fun hlt => AA.ret hl2)
 refine AA.gd i0 (AA.gd i0 (AA.gd (by omega) (AA.inK (by omega) (AA.ret ⟨⟨by dsimp only; omega, by dsimp only; omega, ?_⟩, by dsimp only; omega⟩))))
 dsimp only
 rw [List.length_set]; exact hl2
theorem QC {gi : Int} {ga : List P2} {ci : List P3} {nn : BB} {ni ni1 : Bf} {nc : BU} {np np1 : B8} {nm : Bf} {m : UN} (hnet : AAz nn ni nc np) (hln : nn.length <= 300) (hlc : nc.length <= 8) (hci : ci.length <= 1000)
  (hm : BM nn gi ga m) (hall : ∀ j : Int, 0 <= j -> j < (nn.length : Int) -> BF m j = true) :
  AA (Jx ci [] nn ni1 nc np1 nm m) fun r => r.2.1.1.1 = ci /\ RL gi ga ci.length nc.length r.2.1.1.2.1 nc.length 0 /\ (r.2.1.1.2.1.length : Int) = Co (fun k => nW nn (cN nc k)) nc.length /\ r.2.1.1.2.2.2.2.2.2.2.1 = m := by
 have hwd : Mr nn := fun j a b => (hnet.node j a b).w
 have hwc : ∀ k : Int, 0 <= k -> k < nc.length -> 1 <= nW nn (cN nc k) /\ nW nn (cN nc k) <= 16 := fun k a b => by
  obtain ⟨c0, c1⟩ := hnet.cell k a b
  exact hwd _ c0 c1
 unfold Jx LG
 simp only [Aq, A9, List.length_singleton]
 refine AA.AZ (QB (by omega)) ?_
 rintro ⟨⟨fl, ⟨⟩⟩, ⟨⟩, ⟨⟩⟩ hfl
 dsimp only at hfl ⊢
 refine AA.iter (fun y => 0 <= y.1 /\ y.1 <= nc.length /\ y.2.1.1 = nn /\ RL gi ga ci.length nc.length y.2.2 y.1 0 /\ (y.2.2.length : Int) = Co (fun k => nW nn (cN nc k)) y.1.toNat) (fun y => (nc.length - y.1).toNat) ?_
  ⟨by dsimp only; omega, by dsimp only; omega, rfl, RL.nil, rfl⟩ (AS (by dsimp only; omega))
 rintro ⟨i, ⟨nn', ni', nc', np', nm'⟩, cl⟩ ⟨i0, i1, e1, hr, hlen⟩
 dsimp only at *
 subst e1
 have hb := Dt (f := fun k => nW nn' (cN nc k)) (c := 16) (n := i.toNat) (fun j a b => hwc j a (by omega))
 refine AA.dec (fun hlt => ?_) (fun hlt => ?_)
 ·obtain ⟨c0, c1⟩ := hnet.cell i i0 hlt
  obtain ⟨x0, x1, x2⟩ := hnet.nxt i i0 hlt
  obtain ⟨w0, w1⟩ := hwc i i0 hlt
  refine AA.gd i0 (AA.gd hlt (AA.gd i0 (AA.gd (by omega) (AA.gd c0 (AA.gd c1 ?_)))))
  refine AA.AZ (Q1 := fun r => (r.1.1.length : Int) = nW nn' (cN nc i)) (UQ (w := nW nn' (cN nc i)) (by omega) w1) ?_
  rintro ⟨⟨bits, ⟨⟩⟩, ⟨⟩, ⟨⟩⟩ hbits
  dsimp only at hbits ⊢
  refine AA.iter (fun y => 0 <= y.1 /\ y.1 <= bits.length /\ y.2.1.1 = nn' /\ RL gi ga ci.length nc.length y.2.2 i y.1 /\ (y.2.2.length : Int) = Co (fun k => nW nn' (cN nc k)) i.toNat + y.1) (fun y => (bits.length - y.1).toNat) ?_
   ⟨by dsimp only; omega, by dsimp only; omega, rfl, hr, by dsimp only; omega⟩ (AS (by dsimp only; omega))
  rintro ⟨b, ⟨nn2, ni2, nc2, np2, nm2⟩, cl2⟩ ⟨b0, b1, e2, hr2, hlen2⟩
  dsimp only at *
  subst e2
  refine AA.dec (fun hlb => ?_) (fun hlb => ?_)
  ·obtain ⟨g0, g1, g2, g3⟩ := hm (cX nc i) (hall _ x0 x1)
   have gg : Ad int.sl.Bl m (get AX nc i).2.2.1 = H9 m (cX nc i) := rfl
   rw [gg]
   have hlit : Lit gi ga (AE (H9 m (cX nc i)) b) := g3.get b0 (by omega)
   refine AA.gd b0 (AA.gd hlb (AA.inK (by omega) (AA.inK (by omega) (AA.gd b0 (AA.gd (by omega) (AA.gd (by omega) (AA.gd (by omega) (AA.inK (by omega) (AA.ret ⟨⟨by dsimp only; omega, by dsimp only; omega, rfl, ?_, ?_⟩, by dsimp only; omega⟩)))))))))
   ·exact hr2.push i0 hlt b0 (by omega) hlit
   ·dsimp only
    rw [List.length_append, List.length_singleton]
    push_cast
    omega
  ·refine AA.inK (by omega) (AA.ret ⟨⟨by dsimp only; omega, by dsimp only; omega, rfl, hr2.next, ?_⟩, by dsimp only; omega⟩)
   dsimp only
   rw [NA i0]
   omega
 ·have e : i = nc.length := by omega
  subst e
  rw [Int.toNat_natCast] at hlen
  exact AA.ret ⟨rfl, hr, hlen, rfl⟩
structure AGz (nc : BU) (gi : Int) (ga : List P2) (ci : List P3) (cl : Gb) (co : List P3) : Prop where
 gr : Gr gi ga
 la : ga.length <= 810000
 ri : ∃ m, RI ci m 0
 rl : RL gi ga ci.length nc.length cl nc.length 0
 lg : (ci.length : Int) + cl.length = gi
 ll : cl.length <= 128
 lc : (nc.length : Int) <= cl.length
 lo : co.length <= 16
 ro : ∀ k : Int, 0 <= k -> k < co.length -> 8 <= iV co k /\ iV co k <= 10 /\ Lit gi ga (iP co k) /\ 0 <= iB co k
theorem UR {nn : BB} {ni : Bf} {nc : BU} {np : B8} {nm : Bf} (hf : MW nn ni nc np) : AA (Da nn ni nc np nm) fun r => AGz nc r.1.1.1 r.1.1.2.1 r.1.1.2.2.1 r.1.1.2.2.2.1 r.1.1.2.2.2.2.1 := by
 obtain ⟨hnet, hln, hli, hlc⟩ := hf
 have hwd : Mr nn := fun j a b => (hnet.node j a b).w
 have hwp : ∀ k : Int, 0 <= k -> k < ni.length -> 1 <= nW nn (pN ni k) /\ nW nn (pN ni k) <= 16 := fun k a b => by
  obtain ⟨c0, c1⟩ := hnet.pin k a b
  exact hwd _ c0 c1
 have hwc : ∀ k : Int, 0 <= k -> k < nc.length -> 1 <= nW nn (cN nc k) /\ nW nn (cN nc k) <= 16 := fun k a b => by
  obtain ⟨c0, c1⟩ := hnet.cell k a b
  exact hwd _ c0 c1
 unfold Da OC
 simp only [Aq, A9, List.length_singleton]
 refine AA.iter (fun y => 0 <= y.1 /\ y.1 <= ni.length /\ y.2.1.2.1 = nn /\ y.2.1.2.2.2.1 = nc /\ (y.2.2.1.length : Int) = y.1 /\ (∀ k : Int, 0 <= k -> k < y.1 -> AE y.2.2.1 k = pN ni k) /\ RI y.2.2.2 y.1 0 /\ (y.2.2.2.length : Int) = Co (fun k => nW nn (pN ni k)) y.1.toNat) (fun y => (ni.length - y.1).toNat) ?_
  ⟨by dsimp only; omega, by dsimp only; omega, rfl, rfl, rfl, fun k a b => by dsimp only at b; omega, RI.nil, rfl⟩ (AS (by dsimp only; omega))
 rintro ⟨i, ⟨z, nn', ni', nc', np', nm'⟩, P, ci⟩ ⟨i0, i1, e1, e1c, hP, hPg, hr, hlen⟩
 dsimp only at *
 subst e1; subst e1c
 have hb := Dt (f := fun k => nW nn' (pN ni k)) (c := 16) (n := i.toNat) (fun j a b => hwp j a (by omega))
 refine AA.dec (fun hlt => ?_) (fun hlt => ?_)
 ·obtain ⟨c0, c1⟩ := hnet.pin i i0 hlt
  obtain ⟨w0, w1⟩ := hwp i i0 hlt
  refine AA.gd i0 (AA.gd hlt (AA.gd (by omega) (AA.gd (by omega) (AA.gd c0 (AA.gd c1 ?_)))))
  refine AA.iter (fun y => 0 <= y.1 /\ y.1 <= nW nn' (pN ni i) /\ y.2.1.2.1 = nn' /\ y.2.1.2.2.2.1 = nc' /\ RI y.2.2 i y.1 /\ (y.2.2.length : Int) = Co (fun k => nW nn' (pN ni k)) i.toNat + y.1) (fun y => (nW nn' (pN ni i) - y.1).toNat) ?_
   ⟨by dsimp only; omega, by dsimp only; omega, rfl, rfl, hr, by dsimp only; omega⟩ (AS (by dsimp only; omega))
  rintro ⟨b, ⟨z2, nn2, ni2, nc2, np2, nm2⟩, ci2⟩ ⟨b0, b1, e2, e2c, hr2, hlen2⟩
  dsimp only at *
  subst e2; subst e2c
  refine AA.dec (fun hlb => ?_) (fun hlb => ?_)
  ·have hlb : b < nW nn2 (pN ni i) := hlb
   refine AA.inK (by omega) (AA.gd (by omega) (AA.gd (by omega) (AA.inK (by omega) (AA.ret ⟨⟨by dsimp only; omega, by dsimp only; omega, rfl, rfl, hr2.push i0 b0, ?_⟩, by dsimp only; omega⟩))))
   dsimp only
   rw [List.length_append, List.length_singleton]
   push_cast
   omega
  ·have hlb : ¬ b < nW nn2 (pN ni i) := hlb
   refine AA.inK (by omega) (AA.ret ⟨⟨by dsimp only; omega, by dsimp only; omega, rfl, rfl, ?_, fun k k0 k1 => ?_, hr2.next, ?_⟩, by dsimp only; omega⟩)
   ·dsimp only; rw [List.length_append, List.length_singleton]; push_cast; omega
   ·dsimp only at k1 ⊢
    refine (Fv k0 (by omega)).trans ?_
    by_cases e : k = P.length
    ·rw [if_pos e]
     have : k = i := by omega
     rw [this]; rfl
    ·rw [if_neg e]
     exact hPg k k0 (by omega)
   ·dsimp only
    rw [NA i0]
    omega
 have ei : i = ni.length := by omega
 subst ei
 rw [Int.toNat_natCast] at hlen hb
 refine AA.iter (fun y => 0 <= y.1 /\ y.1 <= nc'.length /\ (y.2.length : Int) = y.1 /\ (∀ k : Int, 0 <= k -> k < y.1 -> AE y.2 k = cN nc' k)) (fun y => (nc'.length - y.1).toNat) ?_
  ⟨by dsimp only; omega, by dsimp only; omega, rfl, fun k a b => by dsimp only at b; omega⟩ (AS (by dsimp only; omega))
 rintro ⟨i, N⟩ ⟨i0, i1, hN, hNg⟩
 dsimp only at *
 refine AA.dec (fun hlt => ?_) (fun hlt => ?_)
 ·refine AA.gd i0 (AA.gd hlt (AA.gd (by omega) (AA.gd (by omega) (AA.inK (by omega) (AA.ret ⟨⟨by dsimp only; omega, by dsimp only; omega, ?_, fun k k0 k1 => ?_⟩, by dsimp only; omega⟩)))))
  ·dsimp only; rw [List.length_append, List.length_singleton]; push_cast; omega
  ·dsimp only at k1 ⊢
   refine (Fv k0 (by omega)).trans ?_
   by_cases e : k = N.length
   ·rw [if_pos e]
    have : k = i := by omega
    rw [this]; rfl
   ·rw [if_neg e]
    exact hNg k k0 (by omega)
 have ei : i = nc'.length := by omega
 subst ei
 have hPl : P.length = ni.length := by omega
 have hNl : N.length = nc'.length := by omega
 have hPr : ∀ k : Int, 0 <= k -> k < P.length -> 0 <= AE P k /\ AE P k < nn'.length := fun k a b => by
  rw [hPg k a (by omega)]; exact hnet.pin k a (by omega)
 have hNr : ∀ k : Int, 0 <= k -> k < N.length -> 0 <= AE N k /\ AE N k < nn'.length := fun k a b => by
  rw [hNg k a (by omega)]; exact hnet.cell k a (by omega)
 refine AA.AZ (PU hwd hPr (by omega)) ?_
 rintro ⟨⟨wp, ⟨⟩⟩, wp2, ⟨⟩⟩ hwpe
 refine AA.AZ (PU hwd hNr (by omega)) ?_
 rintro ⟨⟨wc, ⟨⟩⟩, wc2, ⟨⟩⟩ hwce
 dsimp only at hwpe hwce ⊢
 have eP : Co (fun k => nW nn' (AE P k)) P.length = Co (fun k => nW nn' (pN ni k)) ni.length := by
  rw [hPl]
  exact E6 (fun j a b => by rw [hPg j a b])
 have eN : Co (fun k => nW nn' (AE N k)) N.length = Co (fun k => nW nn' (cN nc' k)) nc'.length := by
  rw [hNl]
  exact E6 (fun j a b => by rw [hNg j a b])
 have hbc := Dt (f := fun k => nW nn' (cN nc' k)) (c := 16) (n := nc'.length) (fun j a b => hwc j a (by omega))
 rw [eP] at hwpe
 rw [eN] at hwce
 refine AA.inK (by omega) ?_
 refine AA.bind (x := (((wp + wc, [], ()), ()), (), ())) rfl ?_
 dsimp only
 refine AA.gd (by omega) (AA.gd (by omega) ?_)
 have hgr : Gr (wp + wc) [] := ⟨by omega, by omega, fun j a b => by simp at b; omega⟩
 have hPN : ∀ k : Int, 0 <= k -> k < (P ++ N).length -> 0 <= AE (P ++ N) k /\ AE (P ++ N) k < nn'.length := fun k a b => by
  rw [DL a]
  rw [List.length_append] at b
  split
  ·exact hPr k a (by omega)
  ·exact hNr _ (by omega) (by omega)
 have hPNl : (P ++ N).length = ni.length + nc'.length := by rw [List.length_append]; omega
 have eT : Co (fun k => nW nn' (AE (P ++ N) k)) (ni.length + nc'.length) = wp + wc := by
  rw [Wk, hwpe, hwce, <- eP, <- eN, hPl, hNl]
  congr 1
  ·refine E6 (fun j a b => ?_)
   rw [DL a, if_pos (by omega)]
  ·refine E6 (fun j a b => ?_)
   rw [DL (by omega), if_neg (by omega)]
   congr 2
   omega
 refine AA.iter (fun y => 0 <= y.1.2 /\ y.1.2 <= (P ++ N).length /\ y.1.1 = 1 + Co (fun k => nW nn' (AE (P ++ N) k)) y.1.2.toNat /\ y.2.1.1 = wp + wc /\ y.2.1.2.1 = [] /\ y.2.1.2.2.1 = nn' /\ y.2.1.2.2.2.2.1 = nc' /\ BM nn' (wp + wc) [] y.2.2 /\ (y.2.2.length : Int) <= y.1.2 /\ ∀ k : Int, 0 <= k -> k < y.1.2 -> BF y.2.2 (AE (P ++ N) k) = true) (fun y => ((P ++ N).length - y.1.2).toNat) ?_
  ⟨by dsimp only; omega, by dsimp only; omega, rfl, rfl, rfl, rfl, rfl, BM.nil, by simp, fun k a b => by dsimp only at b; omega⟩ (AS (by dsimp only; omega))
 rintro ⟨⟨first, k⟩, ⟨g, l, nn2, ni2, nc2, np2, nm2⟩, m⟩ ⟨k0, k1, hfi, e2, e3, e4, e5, hbm, hml, hhas⟩
 dsimp only at *
 subst e2; subst e3; subst e4; subst e5
 have hbk := Dt (f := fun k => nW nn2 (AE (P ++ N) k)) (c := 16) (n := k.toNat) (fun j a b => by
  obtain ⟨c0, c1⟩ := hPN j a (by omega)
  exact hwd _ c0 c1)
 refine AA.dec (fun hlt => ?_) (fun hlt => ?_)
 ·obtain ⟨p0, p1⟩ := hPN k k0 hlt
  obtain ⟨w0, w1⟩ := hwd _ p0 p1
  have hmono := RX (f := fun k => nW nn2 (AE (P ++ N) k)) (k := (k + 1).toNat) (n := ni.length + nc2.length) (by omega) (fun j a b => by
   obtain ⟨c0, c1⟩ := hPN j a (by omega)
   exact (hwd _ c0 c1).1)
  have hat := NA (f := fun k => nW nn2 (AE (P ++ N) k)) k0
  refine AA.gd k0 (AA.gd hlt ?_)
  refine AA.AZ (Zf hwd hgr p0 p1 (by omega) (by omega) hbm (by omega)) ?_
  rintro ⟨⟨f2, ⟨⟩⟩, ⟨⟨nn3, m2, ⟨⟩⟩, ⟨⟩⟩, ⟨⟩⟩ ⟨q1, q2, q3, q4⟩
  dsimp only at *
  refine AA.inK (by omega) (AA.ret ⟨⟨by dsimp only; omega, by dsimp only; omega, by dsimp only; omega, rfl, rfl, rfl, rfl, q2, by dsimp only; omega, fun j j0 j1 => ?_⟩, by dsimp only; omega⟩)
  dsimp only at j1 ⊢
  rw [q3]
  by_cases e : j = k
  ·rw [e]; simp
  ·rw [hhas j j0 (by omega)]; simp
 have ek : k = (P ++ N).length := by omega
 have hhad : ∀ j : Int, 0 <= j -> j < (nn2.length : Int) -> nOp nn2 j = 21 \/ nOp nn2 j = 22 -> BF m j = true := by
  intro j j0 j1 ho
  rcases ho with ho | ho
  ·obtain ⟨t, t0, t1, te⟩ := hnet.inP j j0 j1 ho
   have := hhas t t0 (by omega)
   rw [DL t0, if_pos (by omega), hPg t t0 t1, te] at this
   exact this
  ·obtain ⟨t, t0, t1, te⟩ := hnet.stC j j0 j1 ho
   have := hhas (ni.length + t) (by omega) (by omega)
   rw [DL (by omega), if_neg (by omega)] at this
   have e : (ni.length : Int) + t - P.length = t := by omega
   rw [e, hNg t t0 t1, te] at this
   exact this
 refine AA.AZ (Wl hwd hnet.node hln hgr hbm (by omega) hhad) ?_
 rintro ⟨⟨⟩, ⟨⟨g2, ga, nn3, m2, ⟨⟩⟩, ⟨⟩⟩, ⟨⟩⟩ ⟨q1, q2, q3, q4, q5, q6⟩
 dsimp only at *
 subst q1; subst q4
 refine AA.AZ (QC (np := np) hnet hln hlc (by omega) q5 q6) ?_
 rintro ⟨⟨⟩, ⟨⟨ci2, cl, x1, x2, x3, x4, x5, m3, ⟨⟩⟩, ⟨⟩⟩, ⟨⟩⟩ ⟨u1, u2, u3, u4⟩
 dsimp only at *
 subst u1; subst u4
 refine AA.iter (fun y => 0 <= y.1 /\ y.1 <= np.length /\ y.2.1.1 = wp + wc /\ y.2.1.2.1 = ga /\ (y.2.2.length : Int) = y.1 /\ ∀ k : Int, 0 <= k -> k < y.1 -> 8 <= iV y.2.2 k /\ iV y.2.2 k <= 10 /\ Lit (wp + wc) ga (iP y.2.2 k) /\ 0 <= iB y.2.2 k) (fun y => (np.length - y.1).toNat) ?_
  ⟨by dsimp only; omega, by dsimp only; omega, rfl, rfl, rfl, fun k a b => by dsimp only at b; omega⟩ (AS (by dsimp only; have := hnet.lp; omega))
 rintro ⟨k, ⟨g4, l4, nn4, ni4, nc4, np4, nm4⟩, co⟩ ⟨k0, k1, e4, e5, hcl, hco⟩
 dsimp only at *
 subst e4; subst e5
 have hlp := hnet.lp
 refine AA.dec (fun hlt => ?_) (fun hlt => AA.ret ?_)
 ·obtain ⟨a0, a1, a2, a3, a4⟩ := hnet.prop k k0 hlt
  obtain ⟨b0, b1, b2, b3⟩ := q5 _ (q6 _ a2 a3)
  have gg : Ad int.sl.Bl m3 (get Ax np k).2.2.1 = H9 m3 (qN np k) := rfl
  rw [gg]
  have hlit := b3.get (Int.le_refl 0) (by omega)
  refine AA.gd k0 (AA.gd hlt (AA.gd (by omega) (AA.gd (by omega) (AA.gd (by omega) (AA.inK (by omega) (AA.ret ⟨⟨by dsimp only; omega, by dsimp only; omega, rfl, rfl, ?_, fun j j0 j1 => ?_⟩, by dsimp only; omega⟩))))))
  ·dsimp only; rw [List.length_append, List.length_singleton]; push_cast; omega
  ·dsimp only at j1 ⊢
   rw [AA0 j0 (by omega), NB j0 (by omega), NC j0 (by omega)]
   by_cases e : j = co.length
   ·simp only [e, if_true]
    exact ⟨a0, a1, hlit, k0⟩
   ·simp only [e, if_false]
    exact hco j j0 (by omega)
 ·exact ⟨q2, q3, ⟨_, hr⟩, u2, by dsimp only; omega, by dsimp only; omega, by dsimp only; omega, by dsimp only; omega, fun j j0 j1 => hco j j0 (by dsimp only at j1; omega)⟩
end AL
end
section
set_option linter.unusedVariables false
set_option linter.unusedSimpArgs false
set_option maxHeartbeats 0
namespace AL
open Go
theorem PV {x : Int} (h0 : 0 <= x) (h : x < 4611686018427387904) : IntKind.i64.wrap (Int.tdiv x 2) = x / 2 := by
 rw [Int.tdiv_eq_ediv_of_nonneg h0]
 exact MS (by omega) (by omega)
theorem AC4 {gi a b n : Int} {ga : List P2} (hl : ga.length <= 100000000) (n0 : 0 <= n) (n1 : n <= ga.length) (hne : ∀ i : Int, 0 <= i -> i < n -> ¬ (pa ga i = a /\ pb ga i = b)) : AA (SP gi ga a b n) fun r => r.1.1 = -1 := by
 unfold SP SO
 simp only [Aq, CI]
 refine AA.iter (fun y => 0 <= y /\ y <= n) (fun y => (n - y).toNat) ?_ ⟨by omega, by omega⟩ (AS (by omega))
 rintro y ⟨h0, h1⟩
 refine AA.dec (fun hlt => ?_) (fun hlt => AA.ret rfl)
 refine AA.gd h0 (AA.gd (by omega) ?_)
 refine AA.eqI (fun e1 => ?_) (fun _ => AA.inK (by omega) (AA.ret ⟨⟨by omega, by omega⟩, by dsimp only; omega⟩))
 refine AA.gd h0 (AA.gd (by omega) ?_)
 exact AA.eqI (fun e2 => absurd ⟨e1, e2⟩ (hne y h0 hlt)) (fun _ => AA.inK (by omega) (AA.ret ⟨⟨by omega, by omega⟩, by dsimp only; omega⟩))
theorem US {gi : Int} {ga : List P2} (hg : Gr gi ga) (hl : ga.length <= 810000) : AA (M3 gi ga) fun r => r.1.1 = true := by
 obtain ⟨g0, g1, hj⟩ := hg
 unfold M3 OI
 simp only [Aq, BE]
 refine AA.dec (fun h => absurd h (by omega)) (fun _ => AA.dec (fun h => absurd h (by omega)) (fun _ => AA.dec (fun h => absurd h (by omega)) (fun _ => AA.inK (by omega) (AA.dec (fun h => absurd h (by omega)) (fun _ => ?_)))))
 refine AA.iter (fun y => 0 <= y /\ y <= ga.length) (fun y => (ga.length - y).toNat) ?_ ⟨by omega, by omega⟩ (AS (by omega))
 rintro y ⟨h0, h1⟩
 refine AA.dec (fun hlt => ?_) (fun hlt => AA.ret rfl)
 obtain ⟨a1, a2, a3, a4, a5⟩ := hj y h0 hlt
 have ea : IntKind.i64.wrap (Int.tdiv (get AR ga y).1 2) = pa ga y / 2 := PV (x := pa ga y) (by omega) (by omega)
 have eb : IntKind.i64.wrap (Int.tdiv (get AR ga y).2.1 2) = pb ga y / 2 := PV (x := pb ga y) (by omega) (by omega)
 rw [ea, eb]
 refine AA.gd h0 (AA.gd hlt (AA.gd h0 (AA.gd hlt ?_)))
 refine AA.dec (fun h => absurd (show pa ga y < 2 from h) (by omega)) (fun _ => ?_)
 refine AA.dec (fun h => absurd (show pb ga y <= pa ga y from h) (by omega)) (fun _ => ?_)
 refine AA.inK (by omega) (AA.dec (fun h => absurd h (by omega)) (fun _ => ?_))
 refine AA.eqI (fun h => absurd h a4) (fun _ => ?_)
 refine AA.AZ (AC4 (a := pa ga y) (b := pb ga y) (by omega) h0 h1 (fun i i0 i1 => a5 i i0 i1)) ?_
 rintro ⟨⟨z, ⟨⟩⟩, ⟨⟩, ⟨⟩⟩ hz
 dsimp only at hz ⊢
 subst hz
 exact AA.dec (fun h => absurd h (by omega)) (fun _ => AA.inK (by omega) (AA.ret ⟨⟨by omega, by omega⟩, by dsimp only; omega⟩))
theorem KR {gi x : Int} {ga : List P2} (hg : Gr gi ga) (hl : ga.length <= 810000) (hx : Lit gi ga x) : AA (literal gi ga x) fun r => r.1.1 = true := by
 obtain ⟨x0, x1⟩ := hx
 obtain ⟨g0, g1, _⟩ := hg
 unfold literal
 simp only [Aq, CI]
 refine AA.dec (fun _ => AA.inK (by omega) (AA.ret ?_)) (fun h => absurd x0 h)
 rw [PV x0 (by omega)]
 simp only [decide_eq_true_eq]
 exact x1
theorem PW {a b c d : Int} (h : Lx a b c d) : AA (Qv a b c d) fun r => r.1.1 = true := by
 unfold Qv
 simp only [CI, BE]
 unfold Lx at h
 refine AA.dec (fun _ => AA.ret rfl) (fun h1 => AA.eqI (fun h2 => AA.ret ?_) (fun h2 => absurd h (by omega)))
 simp only [decide_eq_true_eq]
 omega
theorem UT {nc : BU} {gi : Int} {ga : List P2} {ci : List P3} {cl : Gb} {co : List P3} (hc : AGz nc gi ga ci cl co) : AA (Db gi ga ci cl co) fun r => r.1.1 = true := by
 obtain ⟨hg, hla, ⟨m, hri⟩, hrl, hlg, hll, hlc, hlo, hro⟩ := hc
 have hg1 := hg.2.1
 unfold Db OJ
 simp only [Aq, BE, CI]
 refine AA.AZ (US hg hla) ?_
 rintro ⟨⟨z, ⟨⟩⟩, ⟨⟩, ⟨⟩⟩ hz
 dsimp only at hz ⊢
 subst hz
 simp only [Bool.not_true, BE]
 refine AA.dec (fun h => absurd h (by omega)) (fun _ => AA.inK (by omega) ?_)
 refine AA.neI (fun h => absurd hlg h) (fun _ => ?_)
 refine AA.iter (fun y => 0 <= y /\ y <= ci.length) (fun y => (ci.length - y).toNat) ?_ ⟨by omega, by omega⟩ (AS (by omega))
 rintro y ⟨h0, h1⟩
 refine AA.dec (fun hlt => ?_) (fun hlt => ?_)
 ·obtain ⟨v1, v2, v3, v4⟩ := hri.v y h0 hlt
  have nx : AA (gd (inK IntKind.i64 (y + 1)) (some (Sum.inl (y + 1) : Int ⊕ ((Bool × Unit) × Unit × Unit)))) (Stp (fun y => 0 <= y /\ y <= (ci.length : Int)) (fun r => r.1.1 = true) (fun y => ((ci.length : Int) - y).toNat) y) :=
   AA.inK (by omega) (AA.ret ⟨⟨by omega, by omega⟩, by dsimp only; omega⟩)
  refine AA.gd h0 (AA.gd hlt (AA.inK (by omega) ?_))
  refine AA.neI (fun h => absurd v1 h) (fun _ => ?_)
  refine AA.dec (fun h => absurd (show iP ci y < 0 from h) (by omega)) (fun _ => ?_)
  refine AA.dec (fun h => absurd (show iB ci y < 0 from h) (by omega)) (fun _ => ?_)
  refine AA.dec (fun hy => ?_) (fun _ => nx)
  refine AA.inK (by omega) (AA.gd (by omega) (AA.gd (by omega) (AA.inK (by omega) (AA.gd (by omega) (AA.gd (by omega) ?_)))))
  refine AA.AZ (PW (hri.r y hy hlt)) ?_
  rintro ⟨⟨z, ⟨⟩⟩, ⟨⟩, ⟨⟩⟩ hz
  dsimp only at hz ⊢
  subst hz
  exact nx
 refine AA.iter (fun y => 0 <= y /\ y <= cl.length) (fun y => (cl.length - y).toNat) ?_ ⟨by omega, by omega⟩ (AS (by omega))
 rintro y ⟨h0, h1⟩
 refine AA.dec (fun hlt => ?_) (fun hlt => ?_)
 ·obtain ⟨v1, v2, v3, v4, v5, v6, v7⟩ := hrl.v y h0 hlt
  have nx : ∀ {Z : Type} {Q : Z ⊕ ((Bool × Unit) × Unit × Unit) -> Prop}, AA (gd (inK IntKind.i64 (y + 1)) (some (Sum.inl (y + 1) : Int ⊕ (Z ⊕ ((Bool × Unit) × Unit × Unit))))) (Stp (fun y => 0 <= y /\ y <= (cl.length : Int)) Q (fun y => ((cl.length : Int) - y).toNat) y) := fun {Z Q} =>
   AA.inK (by omega) (AA.ret ⟨⟨by omega, by omega⟩, by dsimp only; omega⟩)
  refine AA.gd h0 (AA.gd hlt (AA.inK (by omega) (AA.inK (by omega) ?_)))
  refine AA.neI (fun h => absurd v1 h) (fun _ => ?_)
  refine AA.dec (fun h => absurd (show lC cl y < 0 from h) (by omega)) (fun _ => ?_)
  refine AA.dec (fun h => absurd (show lB cl y < 0 from h) (by omega)) (fun _ => ?_)
  refine AA.AZ (KR (x := lN cl y) hg hla v6) ?_
  rintro ⟨⟨z, ⟨⟩⟩, ⟨⟩, ⟨⟩⟩ hz
  dsimp only at hz ⊢
  subst hz
  simp only [Bool.not_true, BE]
  refine AA.dec (fun hy => ?_) (fun _ => nx)
  refine AA.inK (by omega) (AA.gd (by omega) (AA.gd (by omega) (AA.inK (by omega) (AA.gd (by omega) (AA.gd (by omega) ?_)))))
  refine AA.AZ (PW (hrl.r y hy hlt)) ?_
  rintro ⟨⟨z, ⟨⟩⟩, ⟨⟩, ⟨⟩⟩ hz
  dsimp only at hz ⊢
  subst hz
  exact nx
 refine AA.iter (fun y => 0 <= y /\ y <= co.length) (fun y => (co.length - y).toNat) ?_ ⟨by omega, by omega⟩ (AS (by omega))
 rintro y ⟨h0, h1⟩
 refine AA.dec (fun hlt => ?_) (fun hlt => AA.ret rfl)
 obtain ⟨v1, v2, v3, v4⟩ := hro y h0 hlt
 refine AA.gd h0 (AA.gd hlt ?_)
 refine AA.dec (fun h => absurd (show iV co y < 8 from h) (by omega)) (fun _ => ?_)
 refine AA.dec (fun h => absurd (show iV co y > 10 from h) (by omega)) (fun _ => ?_)
 refine AA.dec (fun h => absurd (show iB co y < 0 from h) (by omega)) (fun _ => ?_)
 refine AA.AZ (KR (x := iP co y) hg hla v3) ?_
 rintro ⟨⟨z, ⟨⟩⟩, ⟨⟩, ⟨⟩⟩ hz
 dsimp only at hz ⊢
 subst hz
 exact AA.inK (by omega) (AA.ret ⟨⟨by omega, by omega⟩, by dsimp only; omega⟩)
end AL
end
section
set_option linter.unusedVariables false
set_option linter.unusedSimpArgs false
set_option maxHeartbeats 0
namespace AL
open Go
theorem AG0 {a b : ByteArray} (h : a.data.toList = b.data.toList) : a = b := by
 obtain ⟨⟨a⟩⟩ := a
 obtain ⟨⟨b⟩⟩ := b
 simp only at h
 rw [h]
theorem E7 (a b : ByteArray) : (ByteArray.append a b).data.toList = a.data.toList ++ b.data.toList := by
 show (a ++ b).data.toList = _
 rw [ByteArray.data_append, Array.toList_append]
theorem Ca (a : ByteArray) : a.size = a.data.toList.length := Go.Lib.size_eq a
def Bk (a : UInt8) (k : Int) : ByteArray := (ByteArray.mk #[a]).append (strOfNums [IntKind.u8.wrap (65 + k.tmod 64)])
theorem eight {k : Int} (h0 : 0 <= k) (h1 : k < 8) : k = 0 \/ k = 1 \/ k = 2 \/ k = 3 \/ k = 4 \/ k = 5 \/ k = 6 \/ k = 7 := by omega
theorem Du (a : UInt8) {k : Int} (h0 : 0 <= k) (h1 : k < 8) : (Bk a k).data.toList = [a, UInt8.ofNat (65 + k.toNat)] := by
 unfold Bk
 rw [E7]
 rcases eight h0 h1 with rfl | rfl | rfl | rfl | rfl | rfl | rfl | rfl <;> rfl
theorem RY {a : UInt8} {k j : Int} (h0 : 0 <= k) (h1 : k < 8) (j0 : 0 <= j) (j1 : j < 8) (h : Bk a k = Bk a j) : k = j := by
 have e : (Bk a k).data.toList = (Bk a j).data.toList := by rw [h]
 rw [Du a h0 h1, Du a j0 j1] at e
 simp only [List.cons.injEq, and_true, true_and] at e
 have e2 := congrArg UInt8.toNat e
 rw [UInt8.toNat_ofNat', UInt8.toNat_ofNat'] at e2
 omega
theorem JW (a : UInt8) {k : Int} (h0 : 0 <= k) (h1 : k < 8) : (Bk a k).size = 2 := by
 rw [Ca, Du a h0 h1]; rfl
theorem MX {a : UInt8} (ha : a = 105 \/ a = 99) {k : Int} (h0 : 0 <= k) (h1 : k < 8) : I7 (Bk a k) = true := by
 unfold I7
 rw [Du a h0 h1]
 rcases ha with rfl | rfl <;> rcases eight h0 h1 with rfl | rfl | rfl | rfl | rfl | rfl | rfl | rfl <;> decide
theorem MY {a : UInt8} (ha : a = 105 \/ a = 99) {k : Int} (h0 : 0 <= k) (h1 : k < 8) : Lib.containsAny (Bk a k).data.toList (ByteArray.mk #[32, 10, 61, 124, 126, 58]).data.toList = false := by
 rw [Du a h0 h1]
 rcases ha with rfl | rfl <;> rcases eight h0 h1 with rfl | rfl | rfl | rfl | rfl | rfl | rfl | rfl <;> decide
def pA (ni : Bf) (k : Int) : ByteArray := (get Ar ni k).1
def cA (nc : BU) (k : Int) : ByteArray := (get AX nc k).1
theorem AIb {l : Bf} {s : ByteArray} {p i : Int} (hi : 0 <= i) (h : i <= l.length) : pA (l ++ [(s, p, ())]) i = if i = l.length then s else pA l i := by
 have := Bz (T := Ar) (x := (s, p, ())) hi h
 unfold pA; rw [this]; split <;> rfl
theorem AIc {l : Bf} {s : ByteArray} {p i : Int} (hi : 0 <= i) (h : i <= l.length) : pN (l ++ [(s, p, ())]) i = if i = l.length then p else pN l i := by
 have := Bz (T := Ar) (x := (s, p, ())) hi h
 unfold pN; rw [this]; split <;> rfl
theorem AId {l : BU} {s : ByteArray} {a b c i : Int} (hi : 0 <= i) (h : i <= l.length) : cA (l ++ [(s, a, b, c, ())]) i = if i = l.length then s else cA l i := by
 have := Bz (T := AX) (x := (s, a, b, c, ())) hi h
 unfold cA; rw [this]; split <;> rfl
theorem AIe {l : BU} {s : ByteArray} {a b c i : Int} (hi : 0 <= i) (h : i <= l.length) : cN (l ++ [(s, a, b, c, ())]) i = if i = l.length then a else cN l i := by
 have := Bz (T := AX) (x := (s, a, b, c, ())) hi h
 unfold cN; rw [this]; split <;> rfl
theorem AIf {l : BU} {s : ByteArray} {a b c i : Int} (hi : 0 <= i) (h : i <= l.length) : cX (l ++ [(s, a, b, c, ())]) i = if i = l.length then b else cX l i := by
 have := Bz (T := AX) (x := (s, a, b, c, ())) hi h
 unfold cX; rw [this]; split <;> rfl
theorem AIg {l : B8} {s : ByteArray} {a b i : Int} (hi : 0 <= i) (h : i <= l.length) : qK (l ++ [(a, s, b, ())]) i = if i = l.length then a else qK l i := by
 have := Bz (T := Ax) (x := (a, s, b, ())) hi h
 unfold qK; rw [this]; split <;> rfl
theorem AIh {l : B8} {s : ByteArray} {a b i : Int} (hi : 0 <= i) (h : i <= l.length) : qN (l ++ [(a, s, b, ())]) i = if i = l.length then b else qN l i := by
 have := Bz (T := Ax) (x := (a, s, b, ())) hi h
 unfold qN; rw [this]; split <;> rfl
def Wm (ni : Bf) : Prop := ∀ k : Int, 0 <= k -> k < ni.length -> pA ni k = Bk 105 k
def Ls (nc : BU) : Prop := ∀ k : Int, 0 <= k -> k < nc.length -> cA nc k = Bk 99 k
structure AJW (ni : Bf) (nc : BU) (np : B8) (ni' : Bf) (nc' : BU) (np' : B8) : Prop where
 li : ni'.length = ni.length
 lc : nc'.length = nc.length
 lp : np'.length = np.length
 pa : Wm ni'
 ca : Ls nc'
 pn : ∀ k : Int, 0 <= k -> k < ni.length -> pN ni' k = pN ni k
 cn : ∀ k : Int, 0 <= k -> k < nc.length -> cN nc' k = cN nc k /\ cX nc' k = cX nc k
 qn : ∀ k : Int, 0 <= k -> k < np.length -> qK np' k = qK np k /\ qN np' k = qN np k
theorem QD {nn : BB} {ni : Bf} {nc : BU} {np : B8} {nm : Bf} (hi : ni.length <= 4) (hc : nc.length <= 8) (hp : np.length <= 16) :
  AA (Ex nn ni nc np nm) fun r => r.1.1.1 = nn /\ AJW ni nc np r.1.1.2.1 r.1.1.2.2.1 r.1.1.2.2.2.1 := by
 unfold Ex LH
 simp only [Aq, A9, List.length_singleton]
 have tm : ∀ i : Int, 0 <= i -> i < 16 -> Int.tmod i 64 = i := fun i a b => by rw [Int.tmod_eq_emod_of_nonneg a]; omega
 refine AA.iter (fun y => 0 <= y.1 /\ y.1 <= ni.length /\ y.2.1.1 = nn /\ (y.2.2.length : Int) = y.1 /\ (∀ k : Int, 0 <= k -> k < y.1 -> pA y.2.2 k = Bk 105 k /\ pN y.2.2 k = pN ni k)) (fun y => (ni.length - y.1).toNat) ?_
  ⟨by dsimp only; omega, by dsimp only; omega, rfl, rfl, fun k a b => by dsimp only at b; omega⟩ (AS (by dsimp only; omega))
 rintro ⟨i, ⟨nn1, np1, nm1⟩, ni1⟩ ⟨i0, i1, e1, hl1, hA⟩
 dsimp only at *
 subst e1
 refine AA.dec (fun hlt => ?_) (fun hlt => ?_)
 ·have := tm i i0 (by omega)
  refine AA.inK (by omega) (AA.gd i0 (AA.gd hlt (AA.gd (by omega) (AA.gd (by omega) (AA.inK (by omega) (AA.ret ⟨⟨by dsimp only; omega, by dsimp only; omega, rfl, ?_, fun k k0 k1 => ?_⟩, by dsimp only; omega⟩))))))
  ·dsimp only; rw [List.length_append, List.length_singleton]; push_cast; omega
  ·dsimp only at k1 ⊢
   rw [AIb k0 (by omega), AIc k0 (by omega)]
   by_cases e : k = ni1.length
   ·have : k = i := by omega
    subst this
    rw [if_pos e, if_pos e]
    exact ⟨rfl, rfl⟩
   ·rw [if_neg e, if_neg e]
    exact hA k k0 (by omega)
 have ei : i = ni.length := by omega
 refine AA.iter (fun y => 0 <= y.1 /\ y.1 <= nc.length /\ y.2.1.1 = nn1 /\ (y.2.2.length : Int) = y.1 /\ (∀ k : Int, 0 <= k -> k < y.1 -> cA y.2.2 k = Bk 99 k /\ cN y.2.2 k = cN nc k /\ cX y.2.2 k = cX nc k)) (fun y => (nc.length - y.1).toNat) ?_
  ⟨by dsimp only; omega, by dsimp only; omega, rfl, rfl, fun k a b => by dsimp only at b; omega⟩ (AS (by dsimp only; omega))
 rintro ⟨j, ⟨nn2, np2, nm2⟩, nc1⟩ ⟨j0, j1, e1, hl2, hC⟩
 dsimp only at *
 subst e1
 refine AA.dec (fun hlt => ?_) (fun hlt => ?_)
 ·have := tm j j0 (by omega)
  refine AA.gd j0 (AA.gd hlt (AA.inK (by omega) (AA.gd (by omega) (AA.gd (by omega) (AA.inK (by omega) (AA.ret ⟨⟨by dsimp only; omega, by dsimp only; omega, rfl, ?_, fun k k0 k1 => ?_⟩, by dsimp only; omega⟩))))))
  ·dsimp only; rw [List.length_append, List.length_singleton]; push_cast; omega
  ·dsimp only at k1 ⊢
   rw [AId k0 (by omega), AIe k0 (by omega), AIf k0 (by omega)]
   by_cases e : k = nc1.length
   ·have : k = j := by omega
    subst this
    rw [if_pos e, if_pos e, if_pos e]
    exact ⟨rfl, rfl, rfl⟩
   ·rw [if_neg e, if_neg e, if_neg e]
    exact hC k k0 (by omega)
 have ej : j = nc.length := by omega
 refine AA.iter (fun y => 0 <= y.1 /\ y.1 <= np.length /\ y.2.1.1 = nn2 /\ (y.2.2.length : Int) = y.1 /\ (∀ k : Int, 0 <= k -> k < y.1 -> qK y.2.2 k = qK np k /\ qN y.2.2 k = qN np k)) (fun y => (np.length - y.1).toNat) ?_
  ⟨by dsimp only; omega, by dsimp only; omega, rfl, rfl, fun k a b => by dsimp only at b; omega⟩ (AS (by dsimp only; omega))
 rintro ⟨t, ⟨nn3, nm3⟩, np3⟩ ⟨t0, t1, e1, hl3, hQ⟩
 dsimp only at *
 subst e1
 refine AA.dec (fun hlt => ?_) (fun hlt => ?_)
 ·have := tm t t0 (by omega)
  refine AA.gd t0 (AA.gd hlt (AA.inK (by omega) (AA.gd (by omega) (AA.gd (by omega) (AA.inK (by omega) (AA.ret ⟨⟨by dsimp only; omega, by dsimp only; omega, rfl, ?_, fun k k0 k1 => ?_⟩, by dsimp only; omega⟩))))))
  ·dsimp only; rw [List.length_append, List.length_singleton]; push_cast; omega
  ·dsimp only at k1 ⊢
   rw [AIg k0 (by omega), AIh k0 (by omega)]
   by_cases e : k = np3.length
   ·have : k = t := by omega
    subst this
    rw [if_pos e, if_pos e]
    exact ⟨rfl, rfl⟩
   ·rw [if_neg e, if_neg e]
    exact hQ k k0 (by omega)
 ·have et : t = np.length := by omega
  refine AA.ret ⟨rfl, by dsimp only; omega, by dsimp only; omega, by dsimp only; omega, fun k k0 k1 => ?_, fun k k0 k1 => ?_, fun k k0 k1 => ?_, fun k k0 k1 => ?_, fun k k0 k1 => ?_⟩
  ·dsimp only at k1 ⊢; exact (hA k k0 (by omega)).1
  ·dsimp only at k1 ⊢; exact (hC k k0 (by omega)).1
  ·exact (hA k k0 (by omega)).2
  ·exact (hC k k0 (by omega)).2
  ·exact hQ k k0 (by omega)
theorem MW.AKa {nn : BB} {ni : Bf} {nc : BU} {np : B8} {ni' : Bf} {nc' : BU} {np' : B8} (h : MW nn ni nc np) (u : AJW ni nc np ni' nc' np') : MW nn ni' nc' np' := by
 obtain ⟨⟨n1, n2, n3, n4, n5, n6, n7, n8, n9, n10, n11, n12⟩, hln, hli, hlc⟩ := h
 obtain ⟨u1, u2, u3, u4, u5, u6, u7, u8⟩ := u
 refine ⟨⟨n1, fun k a b => ?_, fun k a b => ?_, fun k a b => ?_, fun k a b => ?_, by omega, by omega, by omega, fun j a b c => ?_, fun j a b c => ?_, by omega, by omega⟩, hln, by omega, by omega⟩
 ·rw [u6 k a (by omega)]; exact n2 k a (by omega)
 ·rw [(u7 k a (by omega)).1]; exact n3 k a (by omega)
 ·rw [(u7 k a (by omega)).1, (u7 k a (by omega)).2]; exact n4 k a (by omega)
 ·rw [(u8 k a (by omega)).1, (u8 k a (by omega)).2]; exact n5 k a (by omega)
 ·obtain ⟨k, k0, k1, e⟩ := n9 j a b c
  exact ⟨k, k0, by omega, by rw [u6 k k0 k1]; exact e⟩
 ·obtain ⟨k, k0, k1, e⟩ := n10 j a b c
  exact ⟨k, k0, by omega, by rw [(u7 k k0 k1).1]; exact e⟩
theorem UU {l : Bf} (hl : l.length <= 4) (hA : Wm l) : AA (M6 l) fun r => r.1.1 = true := by
 unfold M6 ON
 simp only [Aq, A9, BE]
 refine AA.iter (fun y => 0 <= y.1 /\ y.1 <= l.length /\ (y.2.length : Int) <= y.1 /\ ∀ s, BF y.2 s = true -> ∃ k : Int, 0 <= k /\ k < y.1 /\ s = Bk 105 k) (fun y => (l.length - y.1).toNat) ?_
  ⟨by dsimp only; omega, by dsimp only; omega, by simp, fun s h => by cases h⟩ (AS (by dsimp only; omega))
 rintro ⟨i, m⟩ ⟨i0, i1, hml, hm⟩
 dsimp only at *
 refine AA.dec (fun hlt => ?_) (fun hlt => AA.ret rfl)
 refine AA.gd i0 (AA.gd hlt ?_)
 have e : (get Ar l i).1 = Bk 105 i := hA i i0 hlt
 refine AA.bind (x := ((Bk 105 i, ()), (), ())) (by unfold M5; rw [e]) ?_
 dsimp only
 have hno : BF m (Bk 105 i) = false := by
  cases hh : BF m (Bk 105 i) with
  | false => rfl
  | true =>
   obtain ⟨k, k0, k1, ke⟩ := hm _ hh
   have := RY i0 (by omega) k0 (by omega) ke
   omega
 have e0 : Ad (Ty.int IntKind.i64).Bl m (Bk 105 i) = 0 := FK _ m _ hno
 rw [E5, if_pos rfl, e0]
 have hsz := JW 105 i0 (by omega : i < 8)
 have hms := Ds (0 + 1 : Int) m (Bk 105 i)
 refine AA.inK (by omega) (AA.gd (by omega) (AA.dec (fun h => absurd (show (1 : Int) < 1 from h) (by decide)) (fun _ => AA.gd (by omega) (AA.gd (MX (.inl rfl) i0 (by omega)) ?_))))
 rw [MY (.inl rfl) i0 (by omega), BE]
 refine AA.inK (by omega) (AA.ret ⟨⟨by dsimp only; omega, by dsimp only; omega, by dsimp only; omega, fun s h => ?_⟩, by dsimp only; omega⟩)
 dsimp only at h ⊢
 rw [DC] at h
 by_cases es : s = Bk 105 i
 ·exact ⟨i, i0, by omega, es⟩
 ·simp only [es, decide_false, Bool.false_or] at h
  obtain ⟨k, k0, k1, ke⟩ := hm s h
  exact ⟨k, k0, by omega, ke⟩
theorem UW {l : BU} (hl : l.length <= 8) (hA : Ls l) : AA (M7 l) fun r => r.1.1 = true := by
 unfold M7 OO
 simp only [Aq, A9, BE]
 refine AA.iter (fun y => 0 <= y.1 /\ y.1 <= l.length /\ (y.2.length : Int) <= y.1 /\ ∀ s, BF y.2 s = true -> ∃ k : Int, 0 <= k /\ k < y.1 /\ s = Bk 99 k) (fun y => (l.length - y.1).toNat) ?_
  ⟨by dsimp only; omega, by dsimp only; omega, by simp, fun s h => by cases h⟩ (AS (by dsimp only; omega))
 rintro ⟨i, m⟩ ⟨i0, i1, hml, hm⟩
 dsimp only at *
 refine AA.dec (fun hlt => ?_) (fun hlt => AA.ret rfl)
 refine AA.gd i0 (AA.gd hlt ?_)
 have e : (get AX l i).1 = Bk 99 i := hA i i0 hlt
 refine AA.bind (x := ((Bk 99 i, ()), (), ())) (by unfold J1; rw [e]) ?_
 dsimp only
 have hno : BF m (Bk 99 i) = false := by
  cases hh : BF m (Bk 99 i) with
  | false => rfl
  | true =>
   obtain ⟨k, k0, k1, ke⟩ := hm _ hh
   have := RY i0 (by omega) k0 (by omega) ke
   omega
 have e0 : Ad (Ty.int IntKind.i64).Bl m (Bk 99 i) = 0 := FK _ m _ hno
 rw [E5, if_pos rfl, e0]
 have hsz := JW 99 i0 (by omega : i < 8)
 have hms := Ds (0 + 1 : Int) m (Bk 99 i)
 refine AA.inK (by omega) (AA.gd (by omega) (AA.dec (fun h => absurd (show (1 : Int) < 1 from h) (by decide)) (fun _ => AA.gd (by omega) (AA.gd (MX (.inr rfl) i0 (by omega)) ?_))))
 rw [MY (.inr rfl) i0 (by omega), BE]
 refine AA.inK (by omega) (AA.ret ⟨⟨by dsimp only; omega, by dsimp only; omega, by dsimp only; omega, fun s h => ?_⟩, by dsimp only; omega⟩)
 dsimp only at h ⊢
 rw [DC] at h
 by_cases es : s = Bk 99 i
 ·exact ⟨i, i0, by omega, es⟩
 ·simp only [es, decide_false, Bool.false_or] at h
  obtain ⟨k, k0, k1, ke⟩ := hm s h
  exact ⟨k, k0, by omega, ke⟩
theorem MZ {nn : BB} {ni : Bf} {nc : BU} {np : B8} {nm : Bf} (hli : ni.length <= 4) (hlc : nc.length <= 8) (hp : Wm ni) (hc : Ls nc) : AA (JB nn ni nc np nm) fun r => r.1.1 = true := by
 unfold JB
 refine AA.AZ (UU hli hp) ?_
 rintro ⟨⟨z, ⟨⟩⟩, ⟨⟩, ⟨⟩⟩ hz
 dsimp only at hz ⊢
 subst hz
 rw [CI]
 refine AA.AZ (UW hlc hc) ?_
 rintro ⟨⟨z, ⟨⟩⟩, ⟨⟩, ⟨⟩⟩ hz
 dsimp only at hz ⊢
 subst hz
 exact AA.ret rfl
theorem PX {nn : BB} {ni : Bf} {nc : BU} {np : B8} {nm : Bf} {gi : Int} {ga : List P2} {ci : List P3} {cl : Gb} {co : List P3} {n m k : Int} (hr : RL gi ga n nc.length cl m k) (hl : cl.length <= 128) : AA (VE nn ni nc np nm gi ga ci cl co) fun r => r.1.1 = true := by
 unfold VE Xf
 simp only [Aq, CI, BE]
 refine AA.iter (fun y => 0 <= y.2.2 /\ y.2.2 <= cl.length /\ (y.2.2 = 0 /\ y.1 = -1 \/ 0 < y.2.2 /\ y.1 = lC cl (y.2.2 - 1) /\ y.2.1 = lB cl (y.2.2 - 1))) (fun y => (cl.length - y.2.2).toNat) ?_
  ⟨by dsimp only; omega, by dsimp only; omega, .inl ⟨rfl, rfl⟩⟩ (AS (by dsimp only; omega))
 rintro ⟨a, b, i⟩ ⟨i0, i1, hab⟩
 dsimp only at *
 refine AA.dec (fun hlt => ?_) (fun hlt => AA.ret rfl)
 obtain ⟨v1, v2, v3, v4, v5, v6, v7⟩ := hr.v i i0 hlt
 have hx : Lx a b (lC cl i) (lB cl i) := by
  rcases hab with ⟨e, e2⟩ | ⟨e, e2, e3⟩
  ·left; omega
  ·rw [e2, e3]; exact hr.r i e hlt
 unfold Lx at hx
 have nx : AA (gd (inK IntKind.i64 (i + 1)) (some (Sum.inl (lC cl i, lB cl i, i + 1) : (Int × Int × Int) ⊕ ((Bool × Unit) × Unit × Unit)))) (Stp (fun y => 0 <= y.2.2 /\ y.2.2 <= (cl.length : Int) /\ (y.2.2 = 0 /\ y.1 = -1 \/ 0 < y.2.2 /\ y.1 = lC cl (y.2.2 - 1) /\ y.2.1 = lB cl (y.2.2 - 1))) (fun r => r.1.1 = true) (fun y => ((cl.length : Int) - y.2.2).toNat) (a, b, i)) := by
  refine AA.inK (by omega) (AA.ret ⟨⟨by dsimp only; omega, by dsimp only; omega, .inr ⟨by dsimp only; omega, ?_, ?_⟩⟩, by dsimp only; omega⟩)
  ·dsimp only; congr 1; omega
  ·dsimp only; congr 1; omega
 refine AA.gd i0 (AA.gd hlt ?_)
 refine AA.dec (fun h => absurd (show lB cl i < 0 from h) (by omega)) (fun _ => ?_)
 refine AA.dec (fun h => absurd (show lC cl i < a from h) (by omega)) (fun _ => ?_)
 refine AA.eqI (fun h => ?_) (fun h => ?_)
 ·have h : lC cl i = a := h
  refine AA.dec (fun h => absurd (show lB cl i <= b from h) (by omega)) (fun _ => ?_)
  refine AA.dec (fun h => absurd (show lC cl i < 0 from h) (by omega)) (fun _ => ?_)
  exact AA.dec (fun h => absurd (show lC cl i >= nc.length from h) (by omega)) (fun _ => nx)
 ·refine AA.dec (fun h => absurd (show lC cl i < 0 from h) (by omega)) (fun _ => ?_)
  exact AA.dec (fun h => absurd (show lC cl i >= nc.length from h) (by omega)) (fun _ => nx)
end AL
end
section
set_option linter.unusedVariables false
set_option linter.unusedSimpArgs false
set_option maxHeartbeats 0
namespace AL
open Go
def ER (c b : Int) : ByteArray := (((Bk 99 c).append (ByteArray.mk #[91])).append (DY b)).append (ByteArray.mk #[93])
def AIi (b : Nat) : List UInt8 := if b < 10 then [UInt8.ofNat (48 + b)] else [UInt8.ofNat (48 + b / 10), UInt8.ofNat (48 + b % 10)]
def AG1 (c b : Nat) : List UInt8 := [99, UInt8.ofNat (65 + c), 91] ++ AIi b ++ [93]
def AG2 : List UInt8 -> Nat × Nat
 | [_, c, _, d, _] => (c.toNat - 65, d.toNat - 48)
 | [_, c, _, d, e, _] => (c.toNat - 65, (d.toNat - 48) * 10 + (e.toNat - 48))
 | _ => (0, 0)
theorem RZ : ∀ c, c < 8 -> ∀ b, b < 16 -> AG2 (AG1 c b) = (c, b) := by decide +kernel
theorem AG3 : ∀ c, c < 8 -> ∀ b, b < 16 -> (AG1 c b).contains 32 = false := by decide +kernel
theorem AIj : ∀ c, c < 8 -> ∀ b, b < 16 -> (AG1 c b).length <= 6 := by decide +kernel
theorem PY (b : Int) : (DY b).data.toList = AIi b.toNat := by
 unfold DY AIi
 split <;> rfl
theorem Fx {c b : Int} (c0 : 0 <= c) (c1 : c < 8) : (ER c b).data.toList = AG1 c.toNat b.toNat := by
 unfold ER AG1
 rw [E7, E7, E7, Du _ c0 c1, PY]
 simp
theorem AG4 {c b c' b' : Int} (c0 : 0 <= c) (c1 : c < 8) (b0 : 0 <= b) (b1 : b < 16) (c0' : 0 <= c') (c1' : c' < 8) (b0' : 0 <= b') (b1' : b' < 16) (h : ER c b = ER c' b') : c = c' /\ b = b' := by
 have e : (ER c b).data.toList = (ER c' b').data.toList := by rw [h]
 rw [Fx c0 c1, Fx c0' c1'] at e
 have e2 := congrArg AG2 e
 rw [RZ _ (by omega) _ (by omega), RZ _ (by omega) _ (by omega)] at e2
 simp only [Prod.mk.injEq] at e2
 omega
theorem Ra {c b : Int} (c0 : 0 <= c) (c1 : c < 8) (b0 : 0 <= b) (b1 : b < 16) : (32 : UInt8) ∉ (ER c b).data.toList := by
 rw [Fx c0 c1]
 intro h
 have := AG3 c.toNat (by omega) b.toNat (by omega)
 rw [List.contains_eq_mem] at this
 simp [h] at this
theorem Rb {c b : Int} (c0 : 0 <= c) (c1 : c < 8) (b0 : 0 <= b) (b1 : b < 16) : (ER c b).size <= 6 := by
 rw [Ca, Fx c0 c1]
 exact AIj _ (by omega) _ (by omega)
theorem Rc {c b : Int} (c0 : 0 <= c) (c1 : c < 8) : ∃ r, (ER c b).data.toList = 99 :: r := by
 rw [Fx c0 c1]; exact ⟨_, rfl⟩
def Df (neg : Bool) (c b : Int) : ByteArray := bif neg then (ByteArray.mk #[126]).append (ER c b) else ER c b
theorem Wn {neg : Bool} {c b : Int} (c0 : 0 <= c) (c1 : c < 8) (b0 : 0 <= b) (b1 : b < 16) : (32 : UInt8) ∉ (Df neg c b).data.toList := by
 cases neg with
 | false => exact Ra c0 c1 b0 b1
 | true =>
  have h := Ra c0 c1 b0 b1
  unfold Df
  rw [CI, E7]
  intro hh
  rcases List.mem_append.1 hh with h2 | h2
  ·revert h2; decide
  ·exact h h2
theorem Ma {neg : Bool} {c b : Int} (c0 : 0 <= c) (c1 : c < 8) (b0 : 0 <= b) (b1 : b < 16) : (Df neg c b).size <= 7 := by
 have h := Rb c0 c1 b0 b1
 cases neg with
 | false => exact Nat.le_succ_of_le h
 | true =>
  unfold Df
  rw [CI, Ca, E7, List.length_append, <- Ca, <- Ca]
  have : (ByteArray.mk #[126]).size = 1 := rfl
  omega
theorem PZ {neg : Bool} {c b : Int} (c0 : 0 <= c) (c1 : c < 8) : XX (Df neg c b) (ByteArray.mk #[126]) = neg := by
 obtain ⟨r, hr⟩ := Rc (b := b) c0 c1
 unfold XX Lib.hasPrefix
 cases neg with
 | false =>
  show List.isPrefixOf [126] (ER c b).data.toList = false
  rw [hr]; simp [List.isPrefixOf]
 | true =>
  show List.isPrefixOf [126] ((ByteArray.mk #[126]).append (ER c b)).data.toList = true
  rw [E7]; simp [List.isPrefixOf]
theorem Zg {neg : Bool} {c b : Int} (c0 : 0 <= c) (c1 : c < 8) : LB (Df neg c b) (ByteArray.mk #[126]) = ER c b := by
 have h := PZ (neg := neg) (b := b) c0 c1
 unfold XX at h
 refine AG0 ?_
 unfold LB Lib.trimPrefix
 rw [h]
 cases neg with
 | false => rfl
 | true =>
  show (List.drop 1 ((ByteArray.mk #[126]).append (ER c b)).data.toList) = _
  rw [E7]; rfl
theorem Wo {neg : Bool} {c b : Int} (c0 : 0 <= c) (c1 : c < 8) : ∃ a r, (Df neg c b).data.toList = a :: r /\ a ≠ 102 := by
 obtain ⟨r, hr⟩ := Rc (b := b) c0 c1
 cases neg with
 | false => exact ⟨99, r, hr, by decide⟩
 | true =>
  refine ⟨126, (ER c b).data.toList, ?_, by decide⟩
  show ((ByteArray.mk #[126]).append (ER c b)).data.toList = _
  rw [E7]; rfl
abbrev Dg : List UInt8 := [32, 124, 32]
abbrev Lt : ByteArray := ByteArray.mk #[32, 124, 32]
theorem index_none : ∀ {p : List UInt8}, (32 : UInt8) ∉ p -> Lib.index p Dg = -1
 | [], _ => rfl
 | b :: l, h => by
  have hb : (32 : UInt8) ≠ b := fun e => h (by rw [e]; exact List.mem_cons_self)
  have ih := index_none (p := l) (fun e => h (List.mem_cons_of_mem _ e))
  unfold Lib.index
  have : List.isPrefixOf Dg (b :: l) = false := by simp [List.isPrefixOf, hb]
  rw [this, ih]; rfl
theorem index_hit : ∀ {p r : List UInt8}, (32 : UInt8) ∉ p -> Lib.index (p ++ (Dg ++ r)) Dg = (p.length : Int)
 | [], r, _ => by
  show Lib.index (32 :: 124 :: 32 :: r) Dg = 0
  unfold Lib.index
  have : List.isPrefixOf Dg (32 :: 124 :: 32 :: r) = true := by simp [List.isPrefixOf]
  rw [this]; rfl
 | b :: l, r, h => by
  have hb : (32 : UInt8) ≠ b := fun e => h (by rw [e]; exact List.mem_cons_self)
  have ih := index_hit (p := l) (r := r) (fun e => h (List.mem_cons_of_mem _ e))
  show Lib.index (b :: (l ++ (Dg ++ r))) Dg = _
  unfold Lib.index
  have : List.isPrefixOf Dg (b :: (l ++ (Dg ++ r))) = false := by simp [List.isPrefixOf, hb]
  rw [this, ih]
  have : ((l.length : Int) == -1) = false := by rw [beq_eq_false_iff_ne]; omega
  rw [this]
  simp
theorem Pa : ∀ (r : List (List UInt8)) (x : List UInt8), (32 : UInt8) ∉ x -> (∀ y ∈ r, (32 : UInt8) ∉ y) -> Lib.splitK Dg 0 (Lib.count (x ++ Lib.joinTail Dg r) Dg) (x ++ Lib.joinTail Dg r) = x :: r
 | [], x, h, _ => by
  have e : x ++ Lib.joinTail Dg [] = x := by simp [Lib.joinTail]
  rw [e, Lib.count_miss (index_none h)]
  rfl
 | y :: r, x, h, hr => by
  have ih := Pa r y (hr y List.mem_cons_self) (fun z hz => hr z (List.mem_cons_of_mem _ hz))
  have e : x ++ Lib.joinTail Dg (y :: r) = x ++ (Dg ++ (y ++ Lib.joinTail Dg r)) := by simp [Lib.joinTail]
  have hi := index_hit (r := y ++ Lib.joinTail Dg r) h
  have hd : (x ++ (Dg ++ (y ++ Lib.joinTail Dg r))).drop (x.length + Dg.length) = y ++ Lib.joinTail Dg r := by
   rw [<- List.append_assoc, List.drop_left' (by simp)]
  rw [e, Lib.count_hit (by decide) hi, hd, Nat.add_comm 1, Lib.splitK, hi]
  have : ((x.length : Int) == -1) = false := by rw [beq_eq_false_iff_ne]; omega
  rw [this]
  simp only [Bool.false_eq_true, if_false, Int.toNat_natCast, Nat.add_zero, hd, ih]
  rw [List.take_left' rfl]
theorem Pb : ∀ {l r : List ByteArray}, l.map (·.data.toList) = r.map (·.data.toList) -> l = r
 | [], [], _ => rfl
 | [], _ :: _, h => by cases h
 | _ :: _, [], h => by cases h
 | a :: l, b :: r, h => by
  simp only [List.map_cons, List.cons.injEq] at h
  rw [AG0 h.1, Pb h.2]
theorem JX (l : List ByteArray) : (DZ l Lt).data.toList = Lib.join (l.map (·.data.toList)) Dg := by
 unfold DZ
 simp
theorem UX : ∀ {l : List ByteArray}, l ≠ [] -> (∀ s ∈ l, (32 : UInt8) ∉ s.data.toList) -> B5 (DZ l Lt) Lt = l
 | [], h, _ => absurd rfl h
 | x :: r, _, h => by
  refine Pb ?_
  unfold B5
  rw [Lib.splitB_data]
  have e : (DZ (x :: r) Lt).data.toList = x.data.toList ++ Lib.joinTail Dg (r.map (·.data.toList)) := by
   rw [JX, List.map_cons, Lib.join_cons]
  unfold Lib.countB
  rw [e]
  refine (Pa (r.map (·.data.toList)) x.data.toList (h x List.mem_cons_self) (fun y hy => ?_)).trans rfl
  obtain ⟨z, hz, rfl⟩ := List.mem_map.1 hy
  exact h z (List.mem_cons_of_mem _ hz)
theorem KS : ∀ (r : List (List UInt8)), (∀ y ∈ r, y.length <= 7) -> (Lib.joinTail Dg r).length <= 10 * r.length
 | [], _ => by simp [Lib.joinTail]
 | y :: r, h => by
  have ih := KS r (fun z hz => h z (List.mem_cons_of_mem _ hz))
  have hy := h y List.mem_cons_self
  have e : Lib.joinTail Dg (y :: r) = Dg ++ (y ++ Lib.joinTail Dg r) := by simp [Lib.joinTail]
  rw [e]
  simp only [List.length_append, List.length_cons, List.length_nil]
  omega
theorem Pc {l : List ByteArray} (h : ∀ s ∈ l, s.size <= 7) : (DZ l Lt).size <= 10 * l.length := by
 rw [Ca, JX]
 cases l with
 | nil => simp [Lib.join_nil]
 | cons x r =>
  rw [List.map_cons, Lib.join_cons, List.length_append, <- Ca]
  have hx := h x List.mem_cons_self
  have := KS (r.map (·.data.toList)) (fun y hy => by
   obtain ⟨z, hz, rfl⟩ := List.mem_map.1 hy
   rw [<- Ca]
   exact h z (List.mem_cons_of_mem _ hz))
  rw [List.length_map] at this
  rw [List.length_cons]
  omega
def gS (P : List ByteArray) (i : Int) : ByteArray := get Ty.str P i
theorem AIk {l : List ByteArray} {x : ByteArray} {i : Int} (hi : 0 <= i) (h : i <= l.length) : gS (l ++ [x]) i = if i = l.length then x else gS l i := Bz (T := Ty.str) (x := x) hi h
theorem Zh {l : List ByteArray} {s : ByteArray} (h : s ∈ l) : ∃ i : Int, 0 <= i /\ i < l.length /\ gS l i = s := by
 obtain ⟨n, hn, e⟩ := List.mem_iff_getElem.1 h
 refine ⟨n, by omega, by omega, ?_⟩
 unfold gS get
 rw [Int.toNat_natCast, List.getD_eq_getElem?_getD, List.getElem?_eq_getElem hn]
 exact e
def Mb (x : List Bool) (l : List Int) : Prop := l.length = x.length /\ ∀ i : Int, 0 <= i -> i < x.length -> AE l i = if CB x i = true then 0 - (i + 1) else i + 1
def AG5 (cl : Gb) (x : List Bool) (P : List ByteArray) : Prop := P.length = x.length /\ ∀ i : Int, 0 <= i -> i < x.length -> gS P i = Df (CB x i) (lC cl i) (lB cl i)
theorem RL.lx {gi : Int} {ga : List P2} {n M : Int} {l : Gb} {m k : Int} (h : RL gi ga n M l m k) : ∀ (d : Nat) (i : Int), 0 <= i -> i + 1 + d < l.length -> Lx (lC l i) (lB l i) (lC l (i + 1 + d)) (lB l (i + 1 + d))
 | 0, i, i0, hi => by
  have := h.r (i + 1) (by omega) (by omega)
  have e : i + 1 - 1 = i := by omega
  rw [e] at this
  have e2 : i + 1 + ((0 : Nat) : Int) = i + 1 := by omega
  rw [e2]; exact this
 | d + 1, i, i0, hi => by
  have ih := RL.lx h d i i0 (by omega)
  have := h.r (i + 1 + (d + 1 : Nat)) (by omega) hi
  have e : i + 1 + ((d + 1 : Nat) : Int) - 1 = i + 1 + d := by omega
  rw [e] at this
  unfold Lx at *
  omega
theorem RL.inj {gi : Int} {ga : List P2} {n M : Int} {l : Gb} {m k : Int} (h : RL gi ga n M l m k) {i j : Int} (i0 : 0 <= i) (i1 : i < l.length) (j0 : 0 <= j) (j1 : j < l.length) (e1 : lC l i = lC l j) (e2 : lB l i = lB l j) : i = j := by
 by_cases hij : i = j
 ·exact hij
 ·exfalso
  by_cases hlt : i < j
  ·have := h.lx (j - i - 1).toNat i i0 (by omega)
   have e : i + 1 + ((j - i - 1).toNat : Int) = j := by omega
   rw [e, e1, e2] at this
   unfold Lx at this; omega
  ·have := h.lx (i - j - 1).toNat j j0 (by omega)
   have e : j + 1 + ((i - j - 1).toNat : Int) = i := by omega
   rw [e, e1, e2] at this
   unfold Lx at this; omega
theorem Rd {nn : BB} {ni : Bf} {nc : BU} {np : B8} {nm : Bf} {xv xn xc xb : Int} {xi : Bool} (hlc : nc.length <= 8) (hc : Ls nc) (c0 : 0 <= xc) (c1 : xc < nc.length) (b0 : 0 <= xb) (b1 : xb < 16) :
  AA (ABT nn ni nc np nm xv xn xi xc xb) fun r => r.1.1 = ER xc xb := by
 have e : (get AX nc xc).1 = Bk 99 xc := hc xc c0 c1
 have hs := JW 99 c0 (by omega : xc < 8)
 have hd : (DY xb).size <= 2 := by
  rw [Ca, PY]
  unfold AIi
  split <;> simp
 have h1 : (ByteArray.append (Bk 99 xc) (ByteArray.mk #[91])).size = 3 := by
  rw [Ca, E7, List.length_append, <- Ca, hs]; rfl
 have h2 : (ByteArray.append (ByteArray.append (Bk 99 xc) (ByteArray.mk #[91])) (DY xb)).size <= 5 := by
  rw [Ca, E7, List.length_append, <- Ca, <- Ca, h1]; omega
 unfold ABT
 simp only [Aq, A9]
 refine AA.gd c0 (AA.gd c1 ?_)
 have e' : (get AX nc xc).1 = Bk 99 xc := e
 rw [e']
 exact AA.gd (by omega) (AA.gd b0 (AA.gd (by omega) (AA.gd (by omega) (AA.gd (by omega) (AA.ret rfl)))))
section
variable {nn : BB} {ni : Bf} {nc : BU} {np : B8} {nm : Bf} {gi : Int} {ga : List P2} {ci : List P3} {cl : Gb} {co : List P3} {n m k : Int}
theorem UY {x : List Bool} {l : List Int} (hli : ni.length <= 4) (hlc : nc.length <= 8) (hp : Wm ni) (hc : Ls nc) (hr : RL gi ga n nc.length cl m k) (hll : cl.length <= 128) (hx : x.length = cl.length) (hpos : 0 < cl.length) (hl : Mb x l) :
  AA (GS nn ni nc np nm gi ga ci cl co l) fun r => ∃ P, AG5 cl x P /\ r.1.1 = DZ P Lt := by
 obtain ⟨hlen, hli2⟩ := hl
 unfold GS OP
 simp only [Aq, A9, List.length_singleton, BE]
 refine AA.AZ (MZ hli hlc hp hc) ?_
 rintro ⟨⟨z, ⟨⟩⟩, ⟨⟩, ⟨⟩⟩ hz
 dsimp only at hz ⊢
 subst hz
 simp only [Bool.not_true, BE]
 refine AA.AZ (PX hr hll) ?_
 rintro ⟨⟨z, ⟨⟩⟩, ⟨⟩, ⟨⟩⟩ hz
 dsimp only at hz ⊢
 subst hz
 simp only [Bool.not_true, BE]
 refine AA.eqI (fun h => absurd h (by omega)) (fun _ => ?_)
 refine AA.iter (fun y => 0 <= y.1 /\ y.1 <= l.length /\ (y.2.length : Int) = y.1 /\ ∀ i : Int, 0 <= i -> i < y.1 -> gS y.2 i = Df (CB x i) (lC cl i) (lB cl i)) (fun y => (l.length - y.1).toNat) ?_
  ⟨by dsimp only; omega, by dsimp only; omega, rfl, fun i a b => by dsimp only at b; omega⟩ (AS (by dsimp only; omega))
 rintro ⟨i, P⟩ ⟨i0, i1, hPl, hP⟩
 dsimp only at *
 refine AA.dec (fun hlt => ?_) (fun hlt => ?_)
 ·obtain ⟨v1, v2, v3, v4, v5, v6, v7⟩ := hr.v i i0 (by omega)
  have hv := hli2 i i0 (by omega)
  have hm : max2 (AE l i) (0 - AE l i) = i + 1 := by
   unfold max2
   rw [hv]
   split <;> split <;> omega
  have hneg : AE l i < 0 ↔ CB x i = true := by
   rw [hv]
   cases hh : CB x i with
   | true => exact ⟨fun _ => rfl, fun _ => by rw [if_pos rfl]; omega⟩
   | false => exact ⟨fun h => by rw [if_neg (by decide)] at h; omega, fun h => by cases h⟩
  rw [hm]
  have ei : i + 1 - 1 = i := by omega
  rw [ei]
  refine AA.gd i0 (AA.gd hlt (AA.inK (by rw [hv]; split <;> omega) (AA.dec (fun h => absurd h (by omega)) (fun _ => AA.dec (fun h => absurd h (by omega)) (fun _ => AA.inK (by omega) (AA.gd (by omega) (AA.gd (by omega) ?_)))))))
  refine AA.AZ (Q1 := fun r => r.1.1 = ER (lC cl i) (lB cl i)) (Rd hlc hc v2 v3 v4 v5) ?_
  rintro ⟨⟨s, ⟨⟩⟩, ⟨⟩, ⟨⟩⟩ hs
  dsimp only at hs ⊢
  subst hs
  have hsz := Rb v2 (by omega : lC cl i < 8) v4 v5
  have fin : ∀ q, q = Df (CB x i) (lC cl i) (lB cl i) -> (0 <= i + 1 /\ i + 1 <= (l.length : Int) /\ ((P ++ [q]).length : Int) = i + 1 /\ ∀ j : Int, 0 <= j -> j < i + 1 -> gS (P ++ [q]) j = Df (CB x j) (lC cl j) (lB cl j)) := by
   intro q hq
   refine ⟨by omega, by omega, by rw [List.length_append, List.length_singleton]; push_cast; omega, fun j j0 j1 => ?_⟩
   rw [AIk j0 (by omega)]
   by_cases e : j = P.length
   ·have : j = i := by omega
    rw [if_pos e, hq, this]
   ·rw [if_neg e]; exact hP j j0 (by omega)
  refine AA.dec (fun h => ?_) (fun h => ?_)
  ·have hb := hneg.1 h
   refine AA.gd (by omega) (AA.gd (by omega) (AA.gd (by omega) (AA.inK (by omega) (AA.ret ⟨fin _ ?_, by dsimp only; omega⟩))))
   rw [hb]; rfl
  ·have hb : CB x i = false := by
    cases hh : CB x i with
    | false => rfl
    | true => exact absurd (hneg.2 hh) h
   refine AA.gd (by omega) (AA.gd (by omega) (AA.inK (by omega) (AA.ret ⟨fin _ ?_, by dsimp only; omega⟩)))
   rw [hb]; rfl
 ·have hT : AG5 cl x P := ⟨by omega, fun j j0 j1 => hP j j0 (by omega)⟩
  have hsz : (DZ P Lt).size <= 10 * P.length := Pc (fun s hs => by
   obtain ⟨j, j0, j1, e⟩ := Zh hs
   obtain ⟨v1, v2, v3, v4, v5, v6, v7⟩ := hr.v j j0 (by omega)
   rw [<- e, hP j j0 (by omega)]
   exact Ma v2 (by omega) v4 v5)
  exact AA.gd (by omega) (AA.gd (show (DZ P Lt).size <= 140737488355328 by omega) (AA.ret ⟨P, hT, rfl⟩))
theorem Zi {pos c b v : Int} {neg : Bool} {pm : List (ByteArray × Int)} (c0 : 0 <= c) (c1 : c < 8) (hv : Ad 0 pm (ER c b) = v) (v0 : 0 < v) (v1 : v <= 1000) :
  AA (VI pos (Df neg c b) pm) fun r => r.1.1 = (if neg = true then 0 - v else v) /\ r.1.2.1 = true /\ r.2.1.1.1 = pm := by
 have hv : Ad (Ty.int IntKind.i64).Bl pm (ER c b) = v := hv
 unfold VI
 rw [PZ c0 c1, Zg c0 c1, hv]
 cases neg with
 | true => exact AA.inK (by omega) (AA.ret ⟨rfl, by simpa using v0, rfl⟩)
 | false => exact AA.ret ⟨rfl, by simpa using v0, rfl⟩
theorem Zj {x : List Bool} {l : List Int} {P : List ByteArray} (hli : ni.length <= 4) (hlc : nc.length <= 8) (hp : Wm ni) (hc : Ls nc) (hr : RL gi ga n nc.length cl m k) (hll : cl.length <= 128) (hx : x.length = cl.length) (hpos : 0 < cl.length) (hl : Mb x l) (hP : AG5 cl x P) :
  AA (HP nn ni nc np nm gi ga ci cl co (DZ P Lt)) fun r => r.1.1 = l /\ r.1.2.1 = true := by
 obtain ⟨hPl, hPi⟩ := hP
 have hfree : ∀ s ∈ P, (32 : UInt8) ∉ s.data.toList := fun s hs => by
  obtain ⟨j, j0, j1, e⟩ := Zh hs
  obtain ⟨v1, v2, v3, v4, v5, v6, v7⟩ := hr.v j j0 (by omega)
  rw [<- e, hPi j j0 (by omega)]
  exact Wn v2 (by omega) v4 v5
 have hsz : (DZ P Lt).size <= 10 * P.length := Pc (fun s hs => by
  obtain ⟨j, j0, j1, e⟩ := Zh hs
  obtain ⟨v1, v2, v3, v4, v5, v6, v7⟩ := hr.v j j0 (by omega)
  rw [<- e, hPi j j0 (by omega)]
  exact Ma v2 (by omega) v4 v5)
 have hne : P ≠ [] := fun e => by rw [e] at hPl; simp at hPl; omega
 have hnf : ((DZ P Lt).toList == (ByteArray.mk #[102, 97, 108, 115, 101]).toList) = false := by
  rw [Lib.toList_data, Lib.toList_data, JX]
  obtain ⟨p, r, rfl⟩ : ∃ p r, P = p :: r := by
   cases P with
   | nil => exact absurd rfl hne
   | cons p r => exact ⟨p, r, rfl⟩
  obtain ⟨v1, v2, v3, v4, v5, v6, v7⟩ := hr.v 0 (Int.le_refl 0) (by omega)
  obtain ⟨a, q, hq, ha⟩ := Wo (neg := CB x 0) (b := lB cl 0) v2 (by omega : lC cl 0 < 8)
  have e0 : p = Df (CB x 0) (lC cl 0) (lB cl 0) := hPi 0 (Int.le_refl 0) (by omega)
  rw [List.map_cons, Lib.join_cons, e0, hq]
  show (a :: (q ++ _) == (102 : UInt8) :: [97, 108, 115, 101]) = false
  rw [beq_eq_false_iff_ne]
  intro e
  exact ha (List.cons.inj e).1
 unfold HP Xj
 simp only [Aq, A9, BE]
 refine AA.AZ (MZ hli hlc hp hc) ?_
 rintro ⟨⟨z, ⟨⟩⟩, ⟨⟩, ⟨⟩⟩ hz
 dsimp only at hz ⊢
 subst hz
 simp only [Bool.not_true, BE]
 refine AA.AZ (PX hr hll) ?_
 rintro ⟨⟨z, ⟨⟩⟩, ⟨⟩, ⟨⟩⟩ hz
 dsimp only at hz ⊢
 subst hz
 simp only [Bool.not_true, BE]
 rw [hnf, BE]
 refine AA.iter (fun y => 0 <= y.1 /\ y.1 <= cl.length /\ (y.2.length : Int) <= y.1 /\ ∀ j : Int, 0 <= j -> j < y.1 -> Ad 0 y.2 (ER (lC cl j) (lB cl j)) = j + 1) (fun y => (cl.length - y.1).toNat) ?_
  ⟨by dsimp only; omega, by dsimp only; omega, by simp, fun i a b => by dsimp only at b; omega⟩ (AS (by dsimp only; omega))
 rintro ⟨i, pm⟩ ⟨i0, i1, hpl, hpm⟩
 dsimp only at *
 refine AA.dec (fun hlt => ?_) (fun hlt => ?_)
 ·obtain ⟨v1, v2, v3, v4, v5, v6, v7⟩ := hr.v i i0 hlt
  refine AA.gd i0 (AA.gd hlt ?_)
  refine AA.AZ (Q1 := fun r => r.1.1 = ER (lC cl i) (lB cl i)) (Rd hlc hc v2 v3 v4 v5) ?_
  rintro ⟨⟨s, ⟨⟩⟩, ⟨⟩, ⟨⟩⟩ hs
  dsimp only at hs ⊢
  subst hs
  have hms := Ds (i + 1) pm (ER (lC cl i) (lB cl i))
  refine AA.inK (by omega) (AA.gd (by omega) (AA.inK (by omega) (AA.ret ⟨⟨by dsimp only; omega, by dsimp only; omega, by dsimp only; omega, fun j j0 j1 => ?_⟩, by dsimp only; omega⟩)))
  dsimp only at j1 ⊢
  rw [E5]
  obtain ⟨u1, u2, u3, u4, u5, u6, u7⟩ := hr.v j j0 (by omega)
  by_cases e : j = i
  ·rw [e, if_pos rfl]
  ·rw [if_neg (fun h => e (by
    obtain ⟨h1, h2⟩ := AG4 u2 (by omega) u4 u5 v2 (by omega) v4 v5 h
    exact hr.inj j0 (by omega) i0 hlt h1 h2))]
   exact hpm j j0 (by omega)
 have ei : i = cl.length := by omega
 have hE : AA (AAJ (DZ P Lt) Lt pm) fun r => r.1.1 = l /\ r.1.2.1 = true := by
  unfold AAJ Xi
  rw [UX hne hfree]
  simp only [Aq, A9, List.length_singleton]
  refine AA.gd (by omega) (AA.gd (by decide) ?_)
  refine AA.iter (fun y => 0 <= y.1 /\ y.1 <= P.length /\ y.2.1 = pm /\ (y.2.2.length : Int) = y.1 /\ ∀ j : Int, 0 <= j -> j < y.1 -> AE y.2.2 j = AE l j) (fun y => (P.length - y.1).toNat) ?_
   ⟨by dsimp only; omega, by dsimp only; omega, rfl, rfl, fun i a b => by dsimp only at b; omega⟩ (AS (by dsimp only; omega))
  rintro ⟨t, pm', o⟩ ⟨t0, t1, e1, hol, ho⟩
  dsimp only at *
  subst e1
  refine AA.dec (fun hlt => ?_) (fun hlt => ?_)
  ·obtain ⟨v1, v2, v3, v4, v5, v6, v7⟩ := hr.v t t0 (by omega)
   have hv := hl.2 t t0 (by omega)
   refine AA.gd t0 (AA.gd hlt ?_)
   have et : get Ty.str P t = Df (CB x t) (lC cl t) (lB cl t) := hPi t t0 (by omega)
   rw [et]
   refine AA.AZ (Zi v2 (by omega) (hpm t t0 (by omega)) (by omega) (by omega)) ?_
   rintro ⟨⟨a, b, ⟨⟩⟩, ⟨⟨pm2, ⟨⟩⟩, ⟨⟩⟩, ⟨⟩⟩ ⟨q1, q2, q3⟩
   dsimp only at q1 q2 q3 ⊢
   subst q2; subst q3
   simp only [Bool.not_true, BE]
   refine AA.gd (by omega) (AA.gd (by omega) (AA.inK (by omega) (AA.ret ⟨⟨by dsimp only; omega, by dsimp only; omega, rfl, ?_, fun j j0 j1 => ?_⟩, by dsimp only; omega⟩)))
   ·dsimp only; rw [List.length_append, List.length_singleton]; push_cast; omega
   ·dsimp only at j1 ⊢
    rw [Fv j0 (by omega)]
    by_cases e : j = o.length
    ·have : j = t := by omega
     rw [if_pos e, q1, this, hv]
    ·rw [if_neg e]; exact ho j j0 (by omega)
  ·refine AA.ret ⟨?_, rfl⟩
   dsimp only
   have := hl.1
   exact P8 (by omega) (fun j j0 j1 => ho j j0 (by omega))
 refine AA.AZ hE ?_
 rintro ⟨⟨o, b, ⟨⟩⟩, p2, ⟨⟩⟩ ⟨q1, q2⟩
 dsimp only at q1 q2 ⊢
 exact AA.ret ⟨q1, q2⟩
end
end AL
end
section
namespace AL
open Go
theorem Wp : LK = some ((true, ()), (), ()) := by kernel_rfl
end AL
end
section
set_option linter.unusedVariables false
set_option linter.unusedSimpArgs false
set_option maxHeartbeats 0
namespace AL
open Go
theorem KT {gi : Int} {ga : List P2} {ci : List P3} {cl : Gb} {co : List P3} {n M m k : Int} {cells : List Int} (hr : RL gi ga n M cl m k) (hll : cl.length <= 128) : AA (GP gi ga ci cl co cells) fun r => r.1.1.length = cl.length := by
 unfold GP OD
 simp only [Aq, A9, List.length_singleton, CI]
 refine AA.iter (fun y => 0 <= y.1 /\ y.1 <= cl.length /\ (y.2.length : Int) = y.1) (fun y => (cl.length - y.1).toNat) ?_ ⟨by dsimp only; omega, by dsimp only; omega, rfl⟩ (AS (by dsimp only; omega))
 rintro ⟨i, o⟩ ⟨i0, i1, ho⟩
 dsimp only at *
 refine AA.dec (fun hlt => ?_) (fun hlt => AA.ret (show o.length = cl.length by omega))
 obtain ⟨v1, v2, v3, v4, v5, v6, v7⟩ := hr.v i i0 hlt
 have fin : ∀ b : Bool, ((o ++ [b]).length : Int) = i + 1 := fun b => by rw [List.length_append, List.length_singleton]; push_cast; omega
 have nx : ∀ b : Bool, AA (gd ((o.length + 1) * 1 <= 140737488355328) <| gd (o.length + 1 <= 140737488355328) <| gd (inK IntKind.i64 (i + 1)) (some (Sum.inl (i + 1, o ++ [b]) : (Int × List Bool) ⊕ ((List Bool × Unit) × Unit × Unit)))) (Stp (fun y => 0 <= y.1 /\ y.1 <= (cl.length : Int) /\ (y.2.length : Int) = y.1) (fun r => r.1.1.length = cl.length) (fun y => ((cl.length : Int) - y.1).toNat) (i, o)) := fun b =>
  AA.gd (by omega) (AA.gd (by omega) (AA.inK (by omega) (AA.ret ⟨⟨by dsimp only; omega, by dsimp only; omega, fin b⟩, by dsimp only; omega⟩)))
 refine AA.gd i0 (AA.gd hlt ?_)
 refine AA.dec (fun hc => ?_) (fun _ => nx _)
 refine AA.dec (fun hb => ?_) (fun _ => nx _)
 exact AA.gd v2 (AA.gd hc (AA.gd v4 (nx _)))
theorem AKb : ∀ w : Nat, w <= 16 -> IntKind.i64.wrap (1 * 2 ^ min w 64) ≠ 0 := by decide
theorem KU {nn : BB} {ni : Bf} {nc : BU} {np : B8} {nm : Bf} {nums : List Int} (hf : MW nn ni nc np) : AA (GQ nn ni nc np nm nums) fun _ => True := by
 have hlc := hf.lc
 unfold GQ OF
 simp only [Aq, A9, List.length_singleton]
 refine AA.iter (fun y => 0 <= y.1 /\ y.1 <= nc.length /\ (y.2.length : Int) = y.1) (fun y => (nc.length - y.1).toNat) ?_ ⟨by dsimp only; omega, by dsimp only; omega, rfl⟩ (AS (by dsimp only; omega))
 rintro ⟨i, o⟩ ⟨i0, i1, ho⟩
 dsimp only at *
 refine AA.dec (fun hlt => ?_) (fun hlt => AA.ret trivial)
 refine AA.dec (fun hn => ?_) (fun _ => AA.gd (by omega) (AA.gd (by omega) (AA.inK (by omega) (AA.ret ⟨⟨by dsimp only; omega, by dsimp only; omega, by dsimp only; rw [List.length_append, List.length_singleton]; push_cast; omega⟩, by dsimp only; omega⟩))))
 obtain ⟨c0, c1⟩ := hf.net.cell i i0 hlt
 have hw := (hf.net.node _ c0 c1).w
 obtain ⟨w0, w1⟩ := hw
 have hp : IntKind.i64.wrap (1 * 2 ^ min (Int.toNat (get AB nn (get AX nc i).2.1).2.1) 64) ≠ 0 := AKb (nW nn (cN nc i)).toNat (by omega)
 have w0' : (0 : Int) <= nW nn (cN nc i) := by omega
 refine AA.gd i0 (AA.gd hn (AA.gd i0 (AA.gd hlt (AA.gd c0 (AA.gd c1 (AA.gd w0' (AA.gd hp (AA.gd (by omega) (AA.gd (by omega) (AA.inK (by omega) (AA.ret ⟨⟨by dsimp only; omega, by dsimp only; omega, ?_⟩, by dsimp only; omega⟩)))))))))))
 dsimp only; rw [List.length_append, List.length_singleton]; push_cast; omega
def JY (x : List Bool) (l : List Int) : Prop := l.length = x.length /\ ∀ i : Int, 0 <= i -> i < x.length -> AE l i = if CB x i = true then i + 1 else 0 - (i + 1)
theorem Wq {x : List Bool} (hx : x.length <= 128) : AA (Ew x) fun r => JY x r.1.1 := by
 unfold Ew SK
 simp only [Aq, A9, List.length_singleton]
 refine AA.iter (fun y => 0 <= y.1 /\ y.1 <= x.length /\ (y.2.length : Int) = y.1 /\ ∀ i : Int, 0 <= i -> i < y.1 -> AE y.2 i = if CB x i = true then i + 1 else 0 - (i + 1)) (fun y => (x.length - y.1).toNat) ?_ ⟨by dsimp only; omega, by dsimp only; omega, rfl, fun i a b => by dsimp only at b; omega⟩ (AS (by dsimp only; omega))
 rintro ⟨i, o⟩ ⟨i0, i1, ho, hv⟩
 dsimp only at *
 have fin : ∀ q : Int, q = (if CB x i = true then i + 1 else 0 - (i + 1)) -> i < x.length -> (0 <= i + 1 /\ i + 1 <= (x.length : Int) /\ ((o ++ [q]).length : Int) = i + 1 /\ ∀ j : Int, 0 <= j -> j < i + 1 -> AE (o ++ [q]) j = if CB x j = true then j + 1 else 0 - (j + 1)) := by
  intro q hq hi
  refine ⟨by omega, by omega, by rw [List.length_append, List.length_singleton]; push_cast; omega, fun j j0 j1 => ?_⟩
  rw [Fv j0 (by omega)]
  by_cases e : j = o.length
  ·have : j = i := by omega
   rw [if_pos e, hq, this]
  ·rw [if_neg e]; exact hv j j0 (by omega)
 refine AA.dec (fun hlt => ?_) (fun hlt => AA.ret ⟨by dsimp only; omega, fun j j0 j1 => hv j j0 (by omega)⟩)
 refine AA.gd i0 (AA.gd hlt ?_)
 refine AA.bool (fun hb => ?_) (fun hb => ?_)
 ·exact AA.inK (by omega) (AA.gd (by omega) (AA.gd (by omega) (AA.inK (by omega) (AA.ret ⟨fin _ (by rw [if_pos hb]) hlt, by dsimp only; omega⟩))))
 ·exact AA.inK (by omega) (AA.inK (by omega) (AA.gd (by omega) (AA.gd (by omega) (AA.inK (by omega) (AA.ret ⟨fin _ (by rw [if_neg (by rw [hb]; decide)]; omega) hlt, by dsimp only; omega⟩)))))
theorem Gi {l : List Int} (hl : l.length <= 128) (hb : ∀ i : Int, 0 <= i -> i < l.length -> -1000 <= AE l i /\ AE l i <= 1000) : AA (C7 l) fun r => r.1.1.length = l.length /\ ∀ i : Int, 0 <= i -> i < l.length -> AE r.1.1 i = 0 - AE l i := by
 unfold C7 HN
 simp only [Aq, A9, List.length_singleton]
 refine AA.iter (fun y => 0 <= y.1 /\ y.1 <= l.length /\ (y.2.length : Int) = y.1 /\ ∀ i : Int, 0 <= i -> i < y.1 -> AE y.2 i = 0 - AE l i) (fun y => (l.length - y.1).toNat) ?_ ⟨by dsimp only; omega, by dsimp only; omega, rfl, fun i a b => by dsimp only at b; omega⟩ (AS (by dsimp only; omega))
 rintro ⟨i, o⟩ ⟨i0, i1, ho, hv⟩
 dsimp only at *
 refine AA.dec (fun hlt => ?_) (fun hlt => AA.ret ⟨by dsimp only; omega, fun j j0 j1 => hv j j0 (by omega)⟩)
 have := hb i i0 hlt
 refine AA.gd i0 (AA.gd hlt (AA.inK (by omega) (AA.gd (by omega) (AA.gd (by omega) (AA.inK (by omega) (AA.ret ⟨⟨by dsimp only; omega, by dsimp only; omega, ?_, fun j j0 j1 => ?_⟩, by dsimp only; omega⟩))))))
 ·dsimp only; rw [List.length_append, List.length_singleton]; push_cast; omega
 ·dsimp only at j1 ⊢
  rw [Fv j0 (by omega)]
  by_cases e : j = o.length
  ·have : j = i := by omega
   rw [if_pos e, this]
  ·rw [if_neg e]; exact hv j j0 (by omega)
theorem JY.Mq {x : List Bool} {l r : List Int} (h : JY x l) (hr : r.length = l.length /\ ∀ i : Int, 0 <= i -> i < l.length -> AE r i = 0 - AE l i) : Mb x r := by
 obtain ⟨h1, h2⟩ := h
 refine ⟨by omega, fun i a b => ?_⟩
 rw [hr.2 i a (by omega), h2 i a b]
 split <;> omega
theorem Mb.Mq {x : List Bool} {l r : List Int} (h : Mb x l) (hr : r.length = l.length /\ ∀ i : Int, 0 <= i -> i < l.length -> AE r i = 0 - AE l i) : JY x r := by
 obtain ⟨h1, h2⟩ := h
 refine ⟨by omega, fun i a b => ?_⟩
 rw [hr.2 i a (by omega), h2 i a b]
 split <;> omega
theorem JY.bound {x : List Bool} {l : List Int} (h : JY x l) (hx : x.length <= 128) : ∀ i : Int, 0 <= i -> i < l.length -> -1000 <= AE l i /\ AE l i <= 1000 := fun i a b => by
 have := h.1
 rw [h.2 i a (by omega)]; split <;> omega
theorem Mb.bound {x : List Bool} {l : List Int} (h : Mb x l) (hx : x.length <= 128) : ∀ i : Int, 0 <= i -> i < l.length -> -1000 <= AE l i /\ AE l i <= 1000 := fun i a b => by
 have := h.1
 rw [h.2 i a (by omega)]; split <;> omega
def Diff (x y : List Bool) (n : Int) : Prop := ∃ i : Int, 0 <= i /\ i < n /\ CB y i ≠ CB x i
theorem Pd {x y : List Bool} {l : List Int} (hl : Mb x l) (hx : x.length <= 128) (hy : y.length = x.length) : AA (OE [l] y) fun r => r.1.1 = true ↔ Diff x y x.length := by
 obtain ⟨hlen, hv⟩ := hl
 unfold OE Xd
 simp only [Aq, List.length_singleton, BE]
 have g0 : Ao [l] 0 = l := rfl
 refine AA.iter (fun t => t = 0 \/ (t = 1 /\ Diff x y x.length)) (fun t => (1 - t).toNat) ?_ (.inl rfl) (AS (by decide))
 rintro t ht
 refine AA.dec (fun hlt => ?_) (fun hlt => AA.ret ?_)
 ·have e : t = 0 := by
   rcases ht with h | ⟨h, _⟩
   ·exact h
   ·omega
  subst e
  refine AA.iter (fun s => 0 <= s.2 /\ s.2 <= l.length /\ (s.1 = true ↔ Diff x y s.2)) (fun s => (l.length - s.2).toNat) ?_ ⟨by dsimp only; omega, by dsimp only; omega, ⟨fun h => (by cases h), fun ⟨i, a, b, c⟩ => by dsimp only at b; omega⟩⟩ (AS (by dsimp only; omega))
  rintro ⟨b, i⟩ ⟨i0, i1, hb⟩
  dsimp only at *
  rw [g0]
  refine AA.gd (Int.le_refl _) (AA.gd (by decide) ?_)
  refine AA.dec (fun hli => ?_) (fun hli => ?_)
  ·have hvi := hv i i0 (by omega)
   have hm : max2 (AE l i) (0 - AE l i) = i + 1 := by
    unfold max2
    rw [hvi]
    split <;> split <;> omega
   have ei : i + 1 - 1 = i := by omega
   rw [hm, ei]
   refine AA.gd (Int.le_refl _) (AA.gd (by decide) (AA.gd i0 (AA.gd hli (AA.gd (Int.le_refl _) (AA.gd (by decide) (AA.gd i0 (AA.gd hli (AA.inK (by rw [hvi]; split <;> omega) ?_))))))))
   refine AA.dec (fun h => absurd h (by omega)) (fun _ => AA.dec (fun h => absurd h (by omega)) (fun _ => ?_))
   refine AA.bool (fun hbt => ?_) (fun hbf => ?_)
   ·obtain ⟨j, j0, j1, jn⟩ := hb.1 hbt
    exact AA.inK (by omega) (AA.ret ⟨⟨by dsimp only; omega, by dsimp only; omega, ⟨fun _ => ⟨j, j0, by dsimp only; omega, jn⟩, fun _ => rfl⟩⟩, by dsimp only; omega⟩)
   ·refine AA.inK (by omega) (AA.gd i0 (AA.gd (by omega) (AA.gd (Int.le_refl _) (AA.gd (by decide) (AA.gd i0 (AA.gd hli (AA.inK (by omega) (AA.ret ⟨⟨by dsimp only; omega, by dsimp only; omega, ?_⟩, by dsimp only; omega⟩))))))))
    dsimp only
    have hno : ∀ j : Int, 0 <= j -> j < i -> CB y j = CB x j := fun j j0 j1 => by
     cases hh : decide (CB y j = CB x j) with
     | true => exact of_decide_eq_true hh
     | false =>
      have := hb.2 ⟨j, j0, j1, of_decide_eq_false hh⟩
      rw [hbf] at this; cases this
    have hgt : decide (AE l i > 0) = !CB x i := by
     rw [hvi]
     cases hh : CB x i with
     | true => rw [if_pos rfl]; exact decide_eq_false (by omega)
     | false => rw [if_neg (by decide)]; exact decide_eq_true (by omega)
    rw [hgt, beq_iff_eq]
    constructor
    ·intro h
     refine ⟨i, i0, by omega, ?_⟩
     rw [h]
     cases CB x i <;> decide
    ·rintro ⟨j, j0, j1, jn⟩
     have ej : j = i := by
      by_cases h : j = i
      ·exact h
      ·exact absurd (hno j j0 (by omega)) jn
     subst ej
     revert jn
     cases CB y j <;> cases CB x j <;> decide
  ·have ei : i = x.length := by omega
   refine AA.bool (fun hbb => AA.ret ?_) (fun hbb => ?_)
   ·show false = true ↔ Diff x y x.length
    have : b = false := by cases b <;> simp_all
    rw [<- ei, <- hb, this]
   ·have : b = true := by cases b <;> simp_all
    refine AA.inK (by omega) (AA.ret ⟨.inr ⟨rfl, ?_⟩, by decide⟩)
    rw [<- ei]; exact hb.1 this
 ·rcases ht with h | ⟨h, hd⟩
  ·omega
  ·exact ⟨fun _ => hd, fun _ => rfl⟩
theorem Zk {x y : List Bool} (hx : x.length <= 128) (hy : y.length = x.length) : AA (OG x y) fun r => r.1.1 = true ↔ ¬ Diff x y x.length := by
 unfold OG Xe
 simp only [Aq]
 refine AA.neI (fun h => absurd (by omega) h) (fun _ => ?_)
 refine AA.iter (fun i => 0 <= i /\ i <= x.length /\ ¬ Diff x y i) (fun i => (x.length - i).toNat) ?_ ⟨by omega, by omega, fun ⟨j, a, b, c⟩ => by omega⟩ (AS (by omega))
 rintro i ⟨i0, i1, hd⟩
 refine AA.dec (fun hlt => ?_) (fun hlt => AA.ret ?_)
 ·refine AA.gd i0 (AA.gd hlt (AA.gd i0 (AA.gd (by omega) ?_)))
  refine AA.bool (fun hb => AA.ret ?_) (fun hb => ?_)
  ·refine ⟨fun h => (by cases h), fun h => absurd ⟨i, i0, hlt, ?_⟩ h⟩
   revert hb
   cases CB x i <;> cases CB y i <;> decide
  ·refine AA.inK (by omega) (AA.ret ⟨⟨by omega, by omega, ?_⟩, by dsimp only; omega⟩)
   rintro ⟨j, j0, j1, jn⟩
   by_cases e : j = i
   ·subst e
    revert hb jn
    cases CB x j <;> cases CB y j <;> decide
   ·exact hd ⟨j, j0, by omega, jn⟩
 ·have e : i = x.length := by omega
  rw [<- e]
  exact ⟨fun _ => hd, fun _ => rfl⟩
theorem Wr {x : List Bool} {l : List Int} (hl : JY x l) (hx : x.length <= 128) : AA (HQ l x) fun r => r.1.1 = true := by
 obtain ⟨hlen, hv⟩ := hl
 have h1 : AA (CR l x) fun r => r.1.1 = -1 := by
  unfold CR Dq
  simp only [Aq]
  refine AA.iter (fun s => 0 <= s.1 /\ s.1 <= l.length /\ s.2 = x) (fun s => (l.length - s.1).toNat) ?_ ⟨by dsimp only; omega, by dsimp only; omega, rfl⟩ (AS (by dsimp only; omega))
  rintro ⟨i, x'⟩ ⟨i0, i1, e⟩
  dsimp only at *
  subst e
  refine AA.dec (fun hlt => ?_) (fun _ => AA.ret rfl)
  have hvi := hv i i0 (by omega)
  have hc : AA (OS (AE l i) x') fun r => r.1.1 = false /\ r.2.1.1.1 = x' := by
   have hm : max2 (AE l i) (IntKind.i64.wrap (0 - AE l i)) = i + 1 := by
    rw [MS (by rw [hvi]; split <;> omega) (by rw [hvi]; split <;> omega)]
    unfold max2
    rw [hvi]
    split <;> split <;> omega
   have hlat : Q0 (AE l i) = some ((i + 1, ()), (), ()) := by unfold Q0; rw [hm]
   have ei : i + 1 - 1 = i := by omega
   unfold OS
   simp only [Aq, hlat, PS, ei, BE]
   refine AA.dec (fun h => absurd h (by omega)) (fun _ => AA.inK (by omega) (AA.gd i0 (AA.gd (by omega) (AA.ret ⟨?_, rfl⟩))))
   dsimp only
   have hgt : decide (AE l i > 0) = CB x' i := by
    rw [hvi]
    cases hh : CB x' i with
    | true => rw [if_pos rfl]; exact decide_eq_true (by omega)
    | false => rw [if_neg (by decide)]; exact decide_eq_false (by omega)
   rw [hgt]
   cases CB x' i <;> rfl
  refine AA.gd i0 (AA.gd hlt ?_)
  refine AA.AZ hc ?_
  rintro ⟨⟨b, ⟨⟩⟩, ⟨⟨x2, ⟨⟩⟩, ⟨⟩⟩, ⟨⟩⟩ ⟨q1, q2⟩
  dsimp only at q1 q2 ⊢
  subst q1; subst q2
  exact AA.inK (by omega) (AA.ret ⟨⟨by dsimp only; omega, by dsimp only; omega, rfl⟩, by dsimp only; omega⟩)
 unfold HQ CQ
 have h2 : AA (AD (CR l x) fun y0 => some ((decide (y0.1.1 >= 0), ()), ((x, ()), ()), ()) : Option ((Bool × Unit) × ((List Bool × Unit) × Unit) × Unit)) fun r => r.1.1 = false := by
  refine AA.AZ h1 ?_
  rintro ⟨⟨b, ⟨⟩⟩, z⟩ q1
  dsimp only at q1 ⊢
  subst q1
  exact AA.ret rfl
 refine AA.AZ h2 ?_
 rintro ⟨⟨b, ⟨⟩⟩, z⟩ q1
 dsimp only at q1 ⊢
 subst q1
 exact AA.ret rfl
theorem Ws {nn : BB} {ni : Bf} {nc : BU} {np : B8} {nm : Bf} {one two : List Int} : AA (TopOwn nn ni nc np nm one two) fun r => r.1.1 = true := by
 unfold TopOwn SS
 simp only [Aq, CI, BE]
 refine AA.bind Wp ?_
 dsimp only
 refine AA.AZ Ze ?_
 rintro ⟨⟨b, ⟨⟩⟩, ⟨⟩, ⟨⟩⟩ hfew
 dsimp only at hfew ⊢
 refine AA.bool (fun _ => AA.ret rfl) (fun hb => ?_)
 have hf : MW nn ni nc np := hfew (by cases b <;> simp_all)
 refine AA.eqI (fun _ => AA.ret rfl) (fun hnz => ?_)
 refine AA.AZ (QD hf.li hf.lc hf.net.lp) ?_
 rintro ⟨⟨⟨nn', ni', nc', np', nm', ⟨⟩⟩, ⟨⟩⟩, ⟨⟩, ⟨⟩⟩ ⟨e, u⟩
 dsimp only at e u ⊢
 subst e
 have hf' := hf.AKa u
 have hlc := hf'.lc
 have hli := hf'.li
 refine AA.AZ (UR hf') ?_
 rintro ⟨⟨⟨gi, ga, ci, cl, co, ⟨⟩⟩, ⟨⟩⟩, ⟨⟩, ⟨⟩⟩ hC
 dsimp only at hC ⊢
 have hr := hC.rl
 have hll := hC.ll
 have hpos : 0 < cl.length := by
  have := hC.lc
  have := u.lc
  omega
 refine AA.AZ (UT hC) ?_
 rintro ⟨⟨b2, ⟨⟩⟩, ⟨⟩, ⟨⟩⟩ hb2
 dsimp only at hb2 ⊢
 subst hb2
 simp only [Bool.not_true, BE]
 refine AA.eqI (fun h => absurd h (by omega)) (fun _ => ?_)
 refine AA.AZ (KU hf') ?_
 rintro ⟨⟨c1, ⟨⟩⟩, ⟨⟩, ⟨⟩⟩ _
 dsimp only
 refine AA.AZ (KT hr hll) ?_
 rintro ⟨⟨x, ⟨⟩⟩, ⟨⟩, ⟨⟩⟩ hx
 dsimp only at hx ⊢
 refine AA.AZ (KU hf') ?_
 rintro ⟨⟨c2, ⟨⟩⟩, ⟨⟩, ⟨⟩⟩ _
 dsimp only
 refine AA.AZ (KT hr hll) ?_
 rintro ⟨⟨y, ⟨⟩⟩, ⟨⟩, ⟨⟩⟩ hy
 dsimp only at hy ⊢
 have hx8 : x.length <= 128 := by omega
 refine AA.AZ (Wq hx8) ?_
 rintro ⟨⟨q, ⟨⟩⟩, ⟨⟩, ⟨⟩⟩ hq
 dsimp only at hq ⊢
 refine AA.AZ (Gi (by have := hq.1; omega) (hq.bound hx8)) ?_
 rintro ⟨⟨l, ⟨⟩⟩, ⟨⟩, ⟨⟩⟩ hl
 dsimp only at hl ⊢
 have hcl := hq.Mq hl
 refine AA.AZ (UY hli hlc u.pa u.ca hr hll hx hpos hcl) ?_
 rintro ⟨⟨s, ⟨⟩⟩, ⟨⟩, ⟨⟩⟩ ⟨P, hP, hs⟩
 dsimp only at hs ⊢
 subst hs
 refine AA.AZ (Zj hli hlc u.pa u.ca hr hll hx hpos hcl hP) ?_
 rintro ⟨⟨l2, b3, ⟨⟩⟩, ⟨⟩, ⟨⟩⟩ ⟨e1, e2⟩
 dsimp only at e1 e2 ⊢
 subst e1; subst e2
 simp only [CI]
 refine AA.AZ (Pd hcl hx8 rfl) ?_
 rintro ⟨⟨b4, ⟨⟩⟩, ⟨⟩, ⟨⟩⟩ hb4
 dsimp only at hb4 ⊢
 have e4 : b4 = false := by
  cases b4 with
  | false => rfl
  | true =>
   obtain ⟨i, i0, i1, h⟩ := hb4.1 rfl
   exact absurd rfl h
 subst e4
 simp only [Bool.not_false, CI]
 refine AA.AZ (Pd hcl hx8 (by omega)) ?_
 rintro ⟨⟨b5, ⟨⟩⟩, ⟨⟩, ⟨⟩⟩ hb5
 refine AA.AZ (Zk (y := y) hx8 (by omega)) ?_
 rintro ⟨⟨b6, ⟨⟩⟩, ⟨⟩, ⟨⟩⟩ hb6
 dsimp only at hb5 hb6 ⊢
 have e6 : (b5 == !b6) = true := by
  cases b5 <;> cases b6 <;> simp_all
 rw [e6, CI]
 refine AA.AZ (Gi (by have := hcl.1; omega) (hcl.bound hx8)) ?_
 rintro ⟨⟨q2, ⟨⟩⟩, ⟨⟩, ⟨⟩⟩ hq2
 dsimp only at hq2 ⊢
 refine AA.AZ (Wr (hcl.Mq hq2) hx8) ?_
 rintro ⟨⟨b7, ⟨⟩⟩, ⟨⟩, ⟨⟩⟩ hb7
 dsimp only at hb7 ⊢
 exact AA.ret hb7
theorem Wt (nn : BB) (ni : Bf) (nc : BU) (np : B8) (nm : Bf) (one two : List Int) : TopOwn nn ni nc np nm one two = some ((true, ()), (), ()) := by
 obtain ⟨⟨⟨b, ⟨⟩⟩, ⟨⟩, ⟨⟩⟩, e, h⟩ := Ws (nn := nn) (ni := ni) (nc := nc) (np := np) (nm := nm) (one := one) (two := two)
 rw [e]
 dsimp only at h
 rw [h]
end AL
end
