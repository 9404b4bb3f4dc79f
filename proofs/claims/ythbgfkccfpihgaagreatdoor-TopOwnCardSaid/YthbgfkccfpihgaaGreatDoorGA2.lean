/- The texts SxE, SxF, SxI, SxJ, SxG, Sx13, Sx14, Sx15, Sx16, Sx17, Sx18, Sx19, Sx20, one behind the other. -/
import Derived.Test.YthbgfkccfpihgaaGreatDoorGA1
import Derived.MapKept
import Derived.Laws.Tables
import Derived.Laws.StructEq
import Derived.Conc.SmallLaws
import Derived.OrdersIn
import Derived.RangeFuncIn
import Derived.Deep.LoopGhost
import Derived.Scope
set_option linter.unusedVariables false
set_option linter.unusedSimpArgs false
section
set_option linter.unusedVariables false
set_option linter.unusedSimpArgs false
namespace AL
open Go
section
variable {φ : Hnd} {ow : Own} {w : World} {P : Program} {hp : Nat -> Chunk} {nx : Nat}
theorem AA8 {ow' : Own} {w' : World} {id id' : Nat} {v : Value} {e : TypeId} {T : Ty} {l : List T.den} (hk : A8 ow w ow' w') (hb : ∀ b, v.ownBlock = some b -> ow' b = some id' /\ w'.heap[b]? = w.heap[b]?) (h : EJ ow w id v e T l) : EJ ow' w' id' v e T l := by
 obtain ⟨xs, h1, h2, h3, h4⟩ := h
 refine ⟨xs, ⟨h1.1, ?_⟩, fun b hv => (hb b hv).1, h3, Rows.mono (fun _ _ => Ty.AO hk) h4⟩
 rcases h1.2 with h | ⟨g, cap, cur, rfl, hb0, hg, r⟩
 ·exact .inl h
 ·exact .inr ⟨g, cap, cur, rfl, hb0, (hb g rfl).2.trans hg, r⟩
theorem Ig {id : Nat} {pos pos' : Nat -> Nat} {e' : TypeId} {T : Ty} {l : List (List T.den)} {xs : List Value} {ow' : Own} {w' : World} {v : Value} (hsub : KW φ ow w id pos e' T l [] xs) (hv : ∀ g, v.ownBlock = some g -> pos g = 0)
  (hk : A8 ow w ow' w') (hmv : ∀ b, ow b = some id -> ow' b = some nx) (hblk : ∀ b, b < w.heap.size -> some b ≠ v.ownBlock -> w'.heap[b]? = w.heap[b]?) (hown : ∀ b, ow b = some id -> b < w.heap.size)
  (hpos : ∀ b, ow b = some id -> pos b ≠ 0 -> pos' b = pos b) : ∀ j h, xs[j]? = some h -> EJ ow' w' nx h e' T (l.getD j []) /\ ∀ g, h.ownBlock = some g -> pos' g = j + 1 := by
 intro j h hj
 have h5 := hsub.2.2.2 j h hj
 simp only [BV] at h5
 obtain ⟨h6, h7⟩ := h5
 have hob := h6.choose_spec.2.1
 refine ⟨AA8 hk (fun b hb => ⟨hmv b (hob b hb), hblk b (hown b (hob b hb)) ?_⟩) h6, fun g hg => ?_⟩
 ·intro e
  have q1 := h7 b hb
  have q2 := hv b e.symm
  omega
 ·rw [hpos g (hob g hg) (by have := h7 g hg; omega)]
  exact h7 g hg
theorem Lw {ow' : Own} {w' : World} {φ' : Hnd} {pos' : Nat -> Nat} {e' : TypeId} {T : Ty} {l r : List (List T.den)} {xs ys : List Value} (h1 : xs.length = l.length) (h2 : ys.length = r.length)
  (hx : ∀ j h, xs[j]? = some h -> EJ ow' w' nx h e' T (l.getD j []) /\ ∀ g, h.ownBlock = some g -> pos' g = j + 1)
  (hy : ∀ j h, ys[j]? = some h -> EJ ow' w' nx h e' T (r.getD j []) /\ ∀ g, h.ownBlock = some g -> pos' g = l.length + j + 1) : KW φ' ow' w' nx pos' e' T (l ++ r) [] (xs ++ ys) := by
 refine ⟨by simp [h1, h2], by simp, by simp, fun j h hj => ?_⟩
 simp only [BV]
 rcases Nat.lt_or_ge j xs.length with hlt | hge
 ·rw [List.getElem?_append_left hlt] at hj
  have : (l ++ r).getD j [] = l.getD j [] := by
   rw [List.getD_eq_getElem?_getD, List.getElem?_append_left (by omega), List.getD_eq_getElem?_getD]
  rw [this]
  exact hx j h hj
 ·rw [List.getElem?_append_right hge] at hj
  have : (l ++ r).getD j [] = r.getD (j - xs.length) [] := by
   rw [List.getD_eq_getElem?_getD, List.getElem?_append_right (by omega), List.getD_eq_getElem?_getD, h1]
  rw [this]
  obtain ⟨k1, k2⟩ := hy _ _ hj
  refine ⟨k1, fun g hg => ?_⟩
  have := k2 g hg
  omega
theorem ADO (ow : Own) (w : World) (id : Nat) (e : TypeId) (T : Ty) : EJ ow w id (.slice none 0 0) e T [] := ⟨[], World.ownsRow_nil w 0 e T.size, by simp [Value.ownBlock], Nat.zero_le _, rfl⟩
theorem Uk (H : Hyp hp nx φ ow w) {t t2 ty : TypeId} {id : Nat} {e e' : TypeId} {T : Ty} {l : List (List T.den)} {x : AV} {vs vx : Value} {out : Out} (hr : (Gq P t t2 id e e' T l x nx).run hp = some out) (hc : hp id = .BC e e' T l []) (hs : (AV.arr id).holds φ ow w [vs]) (hx : x.holds φ ow w [vx]) (hobl : ∀ p ∈ out.Bu, p) :
  ∃ u w', (Builtin.append_ #[t, t2] ty #[vs, vx]).run P w = .ok u w' /\ Au out nx φ ow w u w' := by
 unfold Gq at hr
 split at hr <;> try (simp [Req.run] at hr; done)
 rename_i e0 k n hu hu2
 split at hr <;> try (simp [Req.run] at hr; done)
 rename_i i hi
 split at hr <;> try (simp [Req.run] at hr; done)
 rename_i hz
 split at hr <;> try (simp [Req.run] at hr; done)
 rename_i hcond
 obtain ⟨rfl, z1, z2⟩ := hcond
 simp only [Req.run, Option.some.injEq] at hr
 subst hr
 obtain ⟨rfl, hn⟩ := Ak hx
 change Int at n
 simp only [List.mem_cons, List.not_mem_nil, or_false, forall_eq_or_imp, forall_eq] at hobl
 obtain ⟨o1, o2, o3⟩ := hobl
 change @LE.le Int _ 0 n at o1
 obtain ⟨m, rfl⟩ := Int.eq_ofNat_of_zero_le o1
 have hch := H.chunk id
 rw [hc] at hch
 obtain ⟨v, xs, pos, hφ, hown, hvb, hlim, hsub⟩ := hch
 obtain ⟨A, n', c, hφ', e2⟩ := hs
 injection e2 with e2
 subst e2
 rw [hφ'] at hφ
 injection hφ with hφ
 subst hφ
 have hrepl : (Builtin.zeroCells (Value.slice none 0 0).cells m).toList = List.replicate m (.slice none 0 0) := by
  have := Kn (Value.slice none 0 0).cells m
  unfold Builtin.zeroCells
  rw [this]
  simp [Value.cells]
 obtain ⟨v', w', hrun, hown', hgrow, hat⟩ := Fa (ty := ty) hu hu2 hi hz (by rw [z1]; rfl) (by omega) z2 (by rw [z1]; exact hown) m rfl (by
  rw [hrepl]
  intro u hu
  rw [(List.mem_replicate.1 hu).2]
  rfl) (by simpa [lim] using o2)
 rw [hrepl, z1] at hown'
 have hd : ∀ g, (Value.slice A n' c).ownBlock = some g -> ∃ i ∈ [id], ow g = some i := fun g hg => ⟨id, by simp, (hvb g hg).1⟩
 obtain ⟨E, K, self, mv⟩ := Kp (u := []) H hd (by simp [Bn, BX, ids]) hgrow (fun g hg => (hown'.lt g hg).2) hat
 refine ⟨v', w', hrun, BG φ nx v', CY (Al [id] nx (AM (ids []) ow)) nx v'.ownBlock, E, ?_, ?_⟩
 ·obtain ⟨A, c, rfl⟩ := Ej hown'
  exact ⟨A, _, c, AP _, rfl⟩
 ·intro p hp
  simp only [List.mem_cons, List.not_mem_nil, or_false] at hp
  rcases hp with rfl | rfl
  ·have hk2 : A8 ow w (CY (Al [id] nx (AM (ids []) ow)) nx v'.ownBlock) w' := A8.trans (An _) K
   refine ⟨v', xs ++ List.replicate m (.slice none 0 0), fun b => if v'.ownBlock = some b then 0 else pos b, AP _, ?_, ?_, ?_, ?_⟩
   ·rw [List.length_append, List.length_replicate]; simpa using hown'
   ·intro g hg
    exact ⟨self g hg, by simp [hg]⟩
   ·rw [List.length_append, List.length_replicate]; simpa using o3
   ·refine Lw hsub.1 (by simp) (Ig hsub (fun g hg => (hvb g hg).2) hk2 (fun b hb => mv b id (by simp) hb) hgrow.block (fun b hb => (H.own b id hb).1) ?_) ?_
    ·intro b hb hp0
     show (if v'.ownBlock = some b then 0 else pos b) = pos b
     rw [if_neg]
     intro hv
     rcases hat with h | h
     ·rw [h] at hv
      exact hp0 (hvb b hv).2
     ·rw [h] at hv
      injection hv with hv
      have := (H.own b id hb).1
      omega
    ·intro j h hj
     have hh := List.eq_of_mem_replicate (List.mem_of_getElem? hj)
     subst hh
     have : (List.replicate (Int.toNat (m : Int)) ([] : List T.den)).getD j [] = [] := by
      rw [List.getD_eq_getElem?_getD, List.getElem?_replicate]
      split <;> rfl
     rw [this]
     exact ⟨ADO _ _ _ _ _, by simp [Value.ownBlock]⟩
  ·trivial
theorem ADP (H : Hyp hp nx φ ow w) {e' : TypeId} {T : Ty} {x : AV} {v : Value} {k : List T.den -> List Nat -> Upd -> Option Nat -> Req} {out : Out} (hr : (rowOf e' T x k).run hp = some out) (hx : x.holds φ ow w [v]) :
  ∃ r d u h vr, (k r d u h).run hp = some out /\ NV w v 1 [vr] /\ (∃ A n c, vr = .slice A n c) /\ A3 φ (AM (ids u) ow) w u /\
   match h with
   | some i => φ i = some vr
   | none => ∃ xs, w.ownsRow 0 e' T.size vr r.length xs /\ (∀ g, vr.ownBlock = some g -> ∃ i ∈ d, ow g = some i) /\ Rows (T.rep (AM (ids u) ow) w) xs r /\ r.length <= lim := by
 unfold rowOf at hr
 split at hr <;> try (simp [Req.run] at hr; done)
 rename_i id2
 obtain ⟨A, n', c, hφ, e2⟩ := hx
 injection e2 with e2
 subst e2
 simp only [Req.run] at hr
 have hch := H.chunk id2
 have lit : ∀ (e : TypeId) (a : AV), hp id2 = .lit e 1 (.cons a .nil) -> ∃ vr, a.holds φ ow w [vr] /\ NV w (.slice A n' c) 1 [vr] := by
  intro e a hc
  rw [hc] at hch
  obtain ⟨g, cs, hφ', g1, g2, g3, vr, rest, g4, g5, g6⟩ := hch
  have g6' : rest = [] := g6
  subst g6'
  rw [hφ] at hφ'
  injection hφ' with hφ'
  injection hφ' with e1 e2 e3
  subst e1; subst e2; subst e3
  refine ⟨vr, g5, _, _, rfl, .inr ⟨g, 0, rfl, ?_⟩⟩
  have := FD g2
  rwa [g4] at this
 have own : ∀ (a : AV) (vr : Value), a.holds φ ow w [vr] -> NV w (.slice A n' c) 1 [vr] -> (IB e' T a fun r d u => k r (id2 :: d) u none).run hp = some out -> ∃ r d u h vr, (k r d u h).run hp = some out /\ NV w (.slice A n' c) 1 [vr] /\ (∃ A n c, vr = .slice A n c) /\ A3 φ (AM (ids u) ow) w u /\
   match h with
   | some i => φ i = some vr
   | none => ∃ xs, w.ownsRow 0 e' T.size vr r.length xs /\ (∀ g, vr.ownBlock = some g -> ∃ i ∈ d, ow g = some i) /\ Rows (T.rep (AM (ids u) ow) w) xs r /\ r.length <= lim := by
  intro a vr ha hs hr
  obtain ⟨l, d, u, xs, hr1, h1, h2, h3, h4, h5⟩ := FY H hr ha
  refine ⟨l, id2 :: d, u, none, vr, hr1, hs, ?_, h4, xs, h1, fun g hg => ?_, h3, h5⟩
  ·obtain ⟨A, c, h⟩ := Ej h1
   exact ⟨_, _, _, h⟩
  ·obtain ⟨i, hi, hi2⟩ := h2 g hg
   exact ⟨i, List.mem_cons_of_mem _ hi, hi2⟩
 split at hr <;> try (simp [Req.run] at hr; done)
 ·rename_i e i hc
  obtain ⟨vr, ha, hs⟩ := lit e _ hc
  have ha' := ha
  obtain ⟨A2, n2, c2, hφ2, e2⟩ := ha'
  injection e2 with e2
  simp only [Req.run] at hr
  split at hr
  ·split at hr <;> try (simp [Req.run] at hr; done)
   rename_i hT
   subst hT
   split at hr <;> try (simp [Req.run] at hr; done)
   exact ⟨_, _, [], some i, vr, hr, hs, ⟨_, _, _, e2⟩, (fun p hp => by cases hp), (show φ i = some vr by rw [hφ2, e2])⟩
  ·split at hr <;> try (simp [Req.run] at hr; done)
   rename_i hT
   subst hT
   exact ⟨_, _, [], some i, vr, hr, hs, ⟨_, _, _, e2⟩, (fun p hp => by cases hp), (show φ i = some vr by rw [hφ2, e2])⟩
  ·exact own _ vr ha hs hr
 ·rename_i e a _ hc
  obtain ⟨vr, ha, hs⟩ := lit e _ hc
  exact own _ vr ha hs hr
theorem AA9 {ow' : Own} {w' : World} {φ' : Hnd} {pos' : Nat -> Nat} {e' : TypeId} {T : Ty} {l : List (List T.den)} {r : List T.den} {xs : List Value} {v : Value} {i : Nat} (h1 : xs.length = l.length) (hφ : φ' i = some v)
  (hx : ∀ j h, xs[j]? = some h -> EJ ow' w' nx h e' T (l.getD j []) /\ ∀ g, h.ownBlock = some g -> pos' g = j + 1) : KW φ' ow' w' nx pos' e' T (l ++ [r]) [((l.length : Int), i)] (xs ++ [v]) := by
 refine ⟨by simp [h1], by simp, by simp, fun j h hj => ?_⟩
 unfold BV
 rcases Nat.lt_or_ge j xs.length with hlt | hge
 ·rw [if_neg (by omega)]
  simp only [BV]
  rw [List.getElem?_append_left hlt] at hj
  have : (l ++ [r]).getD j [] = l.getD j [] := by
   rw [List.getD_eq_getElem?_getD, List.getElem?_append_left (by omega), List.getD_eq_getElem?_getD]
  rw [this]
  exact hx j h hj
 ·rw [List.getElem?_append_right hge] at hj
  have hj0 : j - xs.length = 0 := by
   rcases Nat.eq_zero_or_pos (j - xs.length) with h | h
   ·exact h
   ·rw [List.getElem?_eq_none (by simp; omega)] at hj; cases hj
  rw [hj0] at hj
  simp only [List.getElem?_cons_zero, Option.some.injEq] at hj
  rw [if_pos (by omega)]
  simp only
  rw [<- hj]
  exact hφ
theorem XD (H : Hyp hp nx φ ow w) {t t2 ty : TypeId} {id : Nat} {e e' : TypeId} {T : Ty} {l : List (List T.den)} {x : AV} {vs vx : Value} {out : Out} (hr : (IW P t t2 id e e' T l x nx).run hp = some out) (hc : hp id = .BC e e' T l []) (hs : (AV.arr id).holds φ ow w [vs]) (hx : x.holds φ ow w [vx]) (hobl : ∀ p ∈ out.Bu, p) :
  ∃ u w', (Builtin.append_ #[t, t2] ty #[vs, vx]).run P w = .ok u w' /\ Au out nx φ ow w u w' := by
 unfold IW at hr
 split at hr <;> try (simp [Req.run] at hr; done)
 rename_i e0 hu
 split at hr <;> try (simp [Req.run] at hr; done)
 rename_i i hi
 split at hr <;> try (simp [Req.run] at hr; done)
 rename_i z hz
 split at hr <;> try (simp [Req.run] at hr; done)
 rename_i hcond
 obtain ⟨rfl, rfl, z1, z2⟩ := hcond
 obtain ⟨r, d, u, hh, vr, hr1, hsrc, hvs, hsl, hrow0⟩ := ADP H hr hx
 split at hr1 <;> try (simp [Req.run] at hr1; done)
 rename_i hcond
 simp only [Bool.or_eq_true, not_or, Bool.not_eq_true] at hcond
 obtain ⟨⟨c1, c2⟩, c3⟩ := hcond
 have hidd : id ∉ d := fun h => by have := Am.2 h; rw [c1] at this; cases this
 have c2' : BX id (ids u) = false := c2
 have c3' : Bn d (ids u) = false := c3
 have hidu : id ∉ ids u := fun h => by have := Am.2 h; rw [c2'] at this; cases this
 simp only [Req.run, Option.some.injEq] at hr1
 subst hr1
 simp only [List.mem_cons, List.not_mem_nil, or_false, forall_eq_or_imp, forall_eq] at hobl
 obtain ⟨o2, o3⟩ := hobl
 have hch := H.chunk id
 rw [hc] at hch
 obtain ⟨v, xs, pos, hφ, hown, hvb, hlim, hsub⟩ := hch
 obtain ⟨A, n', c, hφ', e2⟩ := hs
 injection e2 with e2
 subst e2
 rw [hφ'] at hφ
 injection hφ with hφ
 subst hφ
 have hvr : vr.oneCell' = true := by
  obtain ⟨A, n, c, rfl⟩ := hvs
  rfl
 obtain ⟨v', w', hrun, hown', hgrow, hat⟩ := Gx (ty := ty) hu hi hz (by rw [z1, z2]) (by omega) (by rw [z1]; exact hown) hsrc (by rw [z1]; rfl) (by simp [hvr]) (by have := Ho; omega) (by simpa [lim] using o2)
 rw [z1] at hown'
 have hd' : ∀ g, (Value.slice A n' c).ownBlock = some g -> ∃ i ∈ id :: d, ow g = some i := fun g hg => ⟨id, by simp, (hvb g hg).1⟩
 obtain ⟨E, K, self, mv⟩ := Kp (u := u) (d := id :: d) H hd' (by simp [Bn, c2', c3']) hgrow (fun g hg => (hown'.lt g hg).2) hat
 have hpos : ∀ b, ow b = some id -> pos b ≠ 0 -> v'.ownBlock ≠ some b := by
  intro b hb hp0 hv
  rcases hat with h | h
  ·rw [h] at hv
   exact hp0 (hvb b hv).2
  ·rw [h] at hv
   injection hv with hv
   have := (H.own b id hb).1
   omega
 cases hh with
 | some k =>
  have hk2 : A8 ow w (CY (Al (id :: d) nx (AM (ids u) ow)) nx v'.ownBlock) w' := A8.trans (An _) K
  refine ⟨v', w', hrun, BG φ nx v', CY (Al (id :: d) nx (AM (ids u) ow)) nx v'.ownBlock, ?_, ?_, ?_⟩
  ·have hX : ids ((nx, Chunk.BC e0 e' T (l ++ [r]) (W0 l.length (some k))) :: ((id :: d).map (fun j => (j, Chunk.none)) ++ u)) = nx :: ((id :: d) ++ ids u) := by simp [ids, Function.comp_def]
   show Ext (ids _) nx φ ow w _ _ w'
   rw [hX]
   exact E
  ·obtain ⟨A, c, rfl⟩ := Ej hown'
   exact ⟨A, _, c, AP _, rfl⟩
  ·intro p hp
   rcases List.mem_cons.1 hp with rfl | hp
   ·refine ⟨v', xs ++ [vr], fun b => if v'.ownBlock = some b then 0 else pos b, AP _, ?_, ?_, ?_, ?_⟩
    ·rw [List.length_append]; exact hown'
    ·intro g hg
     exact ⟨self g hg, by simp [hg]⟩
    ·rw [List.length_append]; exact o3
    ·refine AA9 hsub.1 (BI H v' _ _ hrow0) (Ig hsub (fun g hg => (hvb g hg).2) hk2 (fun b hb => mv b id (by simp) hb) hgrow.block (fun b hb => (H.own b id hb).1) ?_)
     intro b hb hp0
     show (if v'.ownBlock = some b then 0 else pos b) = pos b
     rw [if_neg (hpos b hb hp0)]
   ·rcases List.mem_append.1 hp with hp | hp
    ·obtain ⟨j, _, rfl⟩ := List.mem_map.1 hp
     trivial
    ·exact A3.post (S := ids u) (fun i hi => hi) (BI H v') K hsl p hp
 | none =>
 obtain ⟨ys, hownr, hd, hrow, hrl⟩ := hrow0
 have hvrid : ∀ b, vr.ownBlock = some b -> ow b ≠ some id := by
  intro b hb h
  obtain ⟨j, hj, hj2⟩ := hd b hb
  rw [h] at hj2
  injection hj2 with hj2
  subst hj2
  exact hidd hj
 have hvrlt : ∀ b, vr.ownBlock = some b -> b < w.heap.size /\ some b ≠ (Value.slice A n' c).ownBlock := by
  intro b hb
  refine ⟨(hownr.lt b hb).2, fun h => ?_⟩
  exact hvrid b hb (hvb b h.symm).1
 have hvrv' : ∀ b, vr.ownBlock = some b -> v'.ownBlock ≠ some b := by
  intro b hb hv
  rcases hat with h | h
  ·rw [h] at hv
   exact (hvrlt b hb).2 hv.symm
  ·rw [h] at hv
   injection hv with hv
   have := (hvrlt b hb).1
   omega
 refine ⟨v', w', hrun, BG φ nx v', CY (Al (id :: d) nx (AM (ids u) ow)) nx v'.ownBlock, ?_, ?_, ?_⟩
 ·have hX : ids ((nx, Chunk.BC e0 e' T (l ++ [r]) (W0 l.length none)) :: ((id :: d).map (fun j => (j, Chunk.none)) ++ u)) = nx :: ((id :: d) ++ ids u) := by simp [ids, Function.comp_def]
  show Ext (ids _) nx φ ow w _ _ w'
  rw [hX]
  exact E
 ·obtain ⟨A, c, rfl⟩ := Ej hown'
  exact ⟨A, _, c, AP _, rfl⟩
 ·intro p hp
  rcases List.mem_cons.1 hp with rfl | hp
  ·have hk2 : A8 ow w (CY (Al (id :: d) nx (AM (ids u) ow)) nx v'.ownBlock) w' := A8.trans (An _) K
   refine ⟨v', xs ++ [vr], fun b => if v'.ownBlock = some b then 0 else if vr.ownBlock = some b then l.length + 1 else pos b, AP _, ?_, ?_, ?_, ?_⟩
   ·rw [List.length_append]; exact hown'
   ·intro g hg
    exact ⟨self g hg, by simp [hg]⟩
   ·rw [List.length_append]; exact o3
   ·refine Lw hsub.1 (by simp) (Ig hsub (fun g hg => (hvb g hg).2) hk2 (fun b hb => mv b id (by simp) hb) hgrow.block (fun b hb => (H.own b id hb).1) ?_) ?_
    ·intro b hb hp0
     show (if v'.ownBlock = some b then 0 else if vr.ownBlock = some b then l.length + 1 else pos b) = pos b
     rw [if_neg, if_neg]
     ·intro h
      exact hvrid b h hb
     ·intro hv
      rcases hat with h | h
      ·rw [h] at hv
       exact hp0 (hvb b hv).2
      ·rw [h] at hv
       injection hv with hv
       have := (H.own b id hb).1
       omega
    ·intro j h hj
     cases j with
     | succ j => simp at hj
     | zero =>
      simp only [List.getElem?_cons_zero, Option.some.injEq] at hj
      subst hj
      refine ⟨⟨ys, ?_, fun b hb => ?_, hrl, Rows.mono (fun cs x => Ty.AO K) hrow⟩, fun g hg => ?_⟩
      ·refine ⟨hownr.1, ?_⟩
       rcases hownr.2 with h | ⟨g1, cap1, cur1, k1, k2, k3, k4⟩
       ·exact .inl h
       ·have hb : vr.ownBlock = some g1 := by rw [k1]; rfl
        exact .inr ⟨g1, cap1, cur1, k1, k2, (hgrow.block g1 (hvrlt g1 hb).1 (hvrlt g1 hb).2).trans k3, k4⟩
      ·obtain ⟨j, hj, hj2⟩ := hd b hb
       exact mv b j (List.mem_cons_of_mem _ hj) hj2
      ·show (if v'.ownBlock = some g then 0 else if vr.ownBlock = some g then l.length + 1 else pos g) = l.length + 0 + 1
       rw [if_neg (hvrv' g hg), if_pos hg]
  ·rcases List.mem_append.1 hp with hp | hp
   ·obtain ⟨j, _, rfl⟩ := List.mem_map.1 hp
    trivial
   ·exact A3.post (S := ids u) (fun i hi => hi) (BI H v') K hsl p hp
theorem XE (H : Hyp hp nx φ ow w) {t t2 ty : TypeId} {s x : AV} {vs vx : Value} {out : Out} (hr : (IY P t t2 s x nx).run hp = some out) (hs : s.holds φ ow w [vs]) (hx : x.holds φ ow w [vx]) (hobl : ∀ p ∈ out.Bu, p) :
  ∃ u w', (Builtin.append_ #[t, t2] ty #[vs, vx]).run P w = .ok u w' /\ Au out nx φ ow w u w' := by
 have old : (if isInt P t2 = true then EZ P t t2 s x nx else FR P t t2 s x nx).run hp = some out -> ∃ u w', (Builtin.append_ #[t, t2] ty #[vs, vx]).run P w = .ok u w' /\ Au out nx φ ow w u w' := by
  intro hr
  split at hr
  ·exact XB H hr hs hx hobl
  ·exact AA4 H hr hs hx hobl
 unfold IY at hr
 split at hr
 ·exact XC H hr hs hx hobl
 ·rename_i id
  simp only [Req.run] at hr
  split at hr
  ·rename_i e e' T l hc
   split at hr
   ·exact Uk H hr hc hs hx hobl
   ·exact XD H hr hc hs hx hobl
  ·exact old hr
 ·exact old hr
end
end AL
end
section
set_option linter.unusedVariables false
set_option linter.unusedSimpArgs false
namespace AL
open Go
section
variable {φ : Hnd} {ow : Own} {w : World} {P : Program} {hp : Nat -> Chunk} {nx : Nat}
theorem Fb : AM [] ow = ow := by
 funext b
 unfold AM
 cases ow b <;> simp
theorem ADQ (cur v : List Value) (a m : Nat) (h : a + v.length <= m) (hm : m <= cur.length) : (cur.take a ++ v ++ cur.drop (a + v.length)).take m = (cur.take m).take a ++ v ++ (cur.take m).drop (a + v.length) := by
 rw [List.take_append, List.take_of_length_le (by simp; omega), List.take_take, Nat.min_eq_left (by omega), List.drop_take]
 congr 2
 simp
 omega
theorem QN (H : Hyp hp nx φ ow w) {t t2 ty e : TypeId} {i : TypeInfo} {id : Nat} {T : Ty} {l : List T.den} {X : Option Addr} {A0 : Option Addr} {n0 c0 lo hi c : Nat} {vx : Value} {ys : List T.den} {zs : List Value} (hu : P.underlying t = some (.slice e)) (hi0 : P.info? e = some i) (hsz : T.size = i.size) (hs0 : 0 < i.size)
  (hφ : φ id = some (.slice A0 n0 c0)) (hrow : EJ ow w id (.slice A0 n0 c0) e T l) (h1 : lo <= hi) (h2 : hi <= n0) (hX : lo = hi \/ X = A0.map (·.add (lo * i.size))) (hsrc : NV w vx ys.length zs) (hys : Rows (T.rep ow w) zs ys) (hylim : ys.length <= lim) (ob : List Prop) [NF ob] :
  ∃ w', (Builtin.copy_ #[t, t2] ty #[.slice X (hi - lo) c, vx]).run P w = .ok (goInt (Nat.min ys.length (hi - lo))) w' /\
   Au ⟨ob, .dat (.int .i64) ((Nat.min ys.length (hi - lo) : Nat) : Int), [(id, .arr e T (l.take lo ++ ys.take (Nat.min ys.length (hi - lo)) ++ l.drop (lo + Nat.min ys.length (hi - lo))))]⟩ nx φ ow w (goInt (Nat.min ys.length (hi - lo))) w' := by
 obtain ⟨A, cx, rfl, hA⟩ := hsrc
 have hn : Nat.min ys.length (hi - lo) <= ys.length := Nat.min_le_left _ _
 have hn2 : Nat.min ys.length (hi - lo) <= hi - lo := Nat.min_le_right _ _
 generalize hnn : Nat.min ys.length (hi - lo) = n at hn hn2
 have hgo : (AV.dat (.int .i64) ((n : Nat) : Int)).holds φ ow w [goInt n] := B3 (FN (by omega))
 have hl0 : n0 = l.length := by
  obtain ⟨xs, q1, _⟩ := (show _ from hrow)
  rcases q1.2 with ⟨h, hn⟩ | ⟨g', cap, cur, he, _⟩
  ·injection h with _ h _; omega
  ·injection he
 by_cases hz : n = 0
 ·subst hz
  refine ⟨w, ?_, φ, ow, ?_, hgo, ?_⟩
  ·have hl : ∀ (x : Addr), (loadCells x 0).run P w = .ok #[] w := fun x => by simpa using run_loadCells_list (P := P) w x [] (by simp)
   cases X <;> cases A <;> simp [Builtin.copy_, run_underlying hu, Builtin.lenOf, Builtin.firstCells, Go.sizeOf, typeInfo, hi0, hnn, storeCells, hl]
  ·have := Ext.ADH H []
   rw [Fb] at this
   refine ⟨this.size, this.os, this.tape, this.output, fun b hb h => ⟨rfl, rfl⟩, fun b i h => ⟨(H.own b i h).1, .inr ⟨(H.own b i h).1, h⟩⟩, Aw.refl _, fun _ _ => rfl⟩
  ·intro p hp
   simp only [List.mem_singleton] at hp
   subst hp
   refine ⟨_, hφ, ?_⟩
   simpa using hrow
 ·obtain ⟨xs, q1, q2, q3, q4⟩ := (show _ from hrow)
  rcases q1.2 with ⟨h, h0⟩ | ⟨g, cap, cur, he, hb0, hg, hle, hm, hcs, ht⟩
  ·omega
  ·injection he with f1 f2 f3
   subst f1; subst f3
   obtain rfl : X = some ⟨g, lo * i.size, none⟩ := by
    rcases hX with h | h
    ·omega
    ·rw [h]
     simp [add_lit]
   have hnz : ys.length ≠ 0 := by omega
   obtain ⟨g2, o2, hA2, hrd⟩ := hA.resolve_left hnz
   subst hA2
   have hzl : zs.length = ys.length * i.size := Rows.len (fun cs x hr => by rw [Ty.A6 hr, hsz]) hys
   have hvs : (zs.take (n * i.size)).length = n * i.size := by
    rw [List.length_take, hzl]
    exact Nat.min_eq_left (Nat.mul_le_mul_right _ hn)
   have hload := run_loadCells_list (P := P) w ⟨g2, o2, none⟩ (zs.take (n * i.size)) (fun j v hv => by rw [add_lit]; exact Ei hrd _ j v hv)
   rw [hvs] at hload
   have hfit : lo * i.size + n * i.size <= l.length * i.size := by
    rw [<- Nat.add_mul]
    exact Nat.mul_le_mul_right _ (by omega)
   have hcur : l.length * i.size <= cur.size := by
    rw [hcs, hsz]
    exact Nat.mul_le_mul_right _ (by omega)
   have hst := run_storeCells_at P g (lo * i.size) e (zs.take (n * i.size)) 0 cur w hg (by rw [hvs]; omega) (fun u hu => Rows.all (p := fun v => v.oneCell' = true) (fun cs x hr => Ty.Fz hr) hys u (List.mem_of_mem_take hu))
   simp only [Nat.add_zero] at hst
   have hog := q2 g rfl
   refine ⟨w.setRow g (cur.toList.take (lo * i.size) ++ zs.take (n * i.size) ++ cur.toList.drop (lo * i.size + (zs.take (n * i.size)).length)).toArray, ?_, φ, ow, ?_, ?_, ?_⟩
   ·simp only [Builtin.copy_, run_underlying hu, Builtin.lenOf, Builtin.firstCells, Go.sizeOf, typeInfo, hi0, hnn]
    have e1 : (#[t, t2] : Array TypeId)[0]? = some t := rfl
    simp [run_underlying hu, hi0, hnn, hload, hst]
   ·have := Ext.write H [] hog (by simp) (cur.toList.take (lo * i.size) ++ zs.take (n * i.size) ++ cur.toList.drop (lo * i.size + (zs.take (n * i.size)).length)).toArray
    rw [Fb] at this
    exact this
   ·exact B3 (FN (by omega))
   ·intro p hp
    simp only [List.mem_singleton] at hp
    subst hp
    have K := NU (w := w) [] hog (by simp) (cur.toList.take (lo * i.size) ++ zs.take (n * i.size) ++ cur.toList.drop (lo * i.size + (zs.take (n * i.size)).length)).toArray
    rw [Fb] at K
    have hnn : ∀ cs x, Ty.rep ow w T cs x -> cs.length = i.size := fun cs x hr => by rw [Ty.A6 hr, hsz]
    have hrows := Rows.app (Rows.app (Rows.ND hnn q4 lo) (Rows.ND hnn hys n)) (Rows.Zn hnn q4 (lo + n))
    have hll : (l.take lo ++ ys.take n ++ l.drop (lo + n)).length = l.length := by
     simp only [List.length_append, List.length_take, List.length_drop]
     omega
    refine ⟨_, hφ, _, ⟨?_, .inr ⟨g, c0, _, ?_, hb0, setRow_heap w g cur _ e _ hg, ?_, hm, ?_, ?_⟩⟩, q2, ?_, Rows.mono (fun cs x => Ty.AO K) hrows⟩
    ·exact Rows.len (fun cs x hr => Ty.A6 hr) hrows
    ·rw [hll, hl0]
    ·rw [hll]; exact hle
    ·rw [<- hcs]
     simp only [List.size_toArray, List.length_append, List.length_take, List.length_drop, Array.length_toList, hvs]
     omega
    ·rw [hll, List.toList_toArray, hsz, ADQ _ _ _ _ (by rw [hvs]; omega) (by rw [Array.length_toList]; exact hcur)]
     rw [hsz] at ht
     rw [ht, hvs, Nat.add_mul]
    ·rw [hll]; exact q3
theorem AHB (H : Hyp hp nx φ ow w) {t t2 ty : TypeId} {a x : AV} {va vx : Value} {out : Out} (hr : (Rk P t a x).run hp = some out) (ha : a.holds φ ow w [va]) (hx : x.holds φ ow w [vx]) (hobl : ∀ p ∈ out.Bu, p) :
  ∃ u w', (Builtin.copy_ #[t, t2] ty #[va, vx]).run P w = .ok u w' /\ Au out nx φ ow w u w' := by
 unfold Rk at hr
 simp only at hr
 split at hr <;> try (simp [Req.run] at hr; done)
 rename_i e hu
 split at hr <;> try (simp [Req.run] at hr; done)
 ·rename_i i id hi
  obtain ⟨A, n', c, hφ, e'⟩ := ha
  injection e' with e'
  subst e'
  simp only [Req.run] at hr
  have hch := H.chunk id
  generalize hp id = ch at hr hch
  cases ch <;> try (simp [Req.run] at hr; done)
  rename_i e2 T l
  simp only at hr
  split at hr <;> try (simp [Req.run] at hr; done)
  rename_i hz
  obtain ⟨rfl, z1, z2⟩ := hz
  obtain ⟨ys, u, xs, hr1, h1, h2, h3⟩ := Jf H hr hx
  split at hr1 <;> try (simp [Req.run] at hr1; done)
  simp only [Req.run, Option.some.injEq] at hr1
  subst hr1
  obtain ⟨v', hv', hrow⟩ := hch
  rw [hφ] at hv'
  injection hv' with hv'
  subst hv'
  have hl0 : n' = l.length := by
   obtain ⟨xs, q1, _⟩ := (show _ from hrow)
   rcases q1.2 with ⟨h, hn⟩ | ⟨g', cap, cur, he, _⟩
   ·injection h with _ h _; omega
   ·injection he
  simp only [List.mem_cons, List.not_mem_nil, or_false, forall_eq] at hobl
  have h2' : Rows (T.rep ow w) xs ys := by
   have h4 : AM (ids []) ow = ow := Fb
   rwa [h4] at h2
  obtain ⟨w', k1, k2⟩ := QN (ty := ty) (t2 := t2) (lo := 0) (hi := n') (X := A) (c := c) H hu hi z1 z2 hφ hrow (by omega) (by omega) (.inr (by cases A <;> simp [Addr.add])) h1 h2' hobl [ys.length <= lim]
  refine ⟨_, w', k1, ?_⟩
  subst hl0
  simpa using k2
 ·rename_i i id sz lo hi' hi
  split at hr <;> try (simp [Req.run] at hr; done)
  rename_i hsz
  subst hsz
  obtain ⟨A, n', c, X, hφ, q1, q2, q3, q4, q5, e'⟩ := ha
  injection e' with e'
  subst e'
  simp only [Req.run] at hr
  have hch := H.chunk id
  generalize hp id = ch at hr hch
  cases ch <;> try (simp [Req.run] at hr; done)
  rename_i e2 T l
  simp only at hr
  split at hr <;> try (simp [Req.run] at hr; done)
  rename_i hz
  obtain ⟨rfl, z1, z2⟩ := hz
  obtain ⟨ys, u, xs, hr1, h1, h2, h3⟩ := Jf H hr hx
  split at hr1 <;> try (simp [Req.run] at hr1; done)
  simp only [Req.run, Option.some.injEq] at hr1
  subst hr1
  obtain ⟨v', hv', hrow⟩ := hch
  rw [hφ] at hv'
  injection hv' with hv'
  subst hv'
  simp only [List.mem_cons, List.not_mem_nil, or_false, forall_eq] at hobl
  have h2' : Rows (T.rep ow w) xs ys := by
   have h4 : AM (ids []) ow = ow := Fb
   rwa [h4] at h2
  obtain ⟨w', k1, k2⟩ := QN (ty := ty) (t2 := t2) (lo := lo.toNat) (hi := hi'.toNat) (X := X) (c := c - lo.toNat) H hu hi z1 z2 hφ hrow (by omega) (by omega) (q5.imp (fun h => by omega) (fun h => h)) h1 h2' hobl [ys.length <= lim]
  refine ⟨_, w', k1, ?_⟩
  simpa using k2
theorem FQ {t : TypeId} {K V : Ty} (h : Ea P t = some (K, V)) : ∃ kt e z i, P.underlying t = some (.map kt e) /\ Gc P kt = some K /\ P.info? e = some i /\ i.zero = some z /\ V.leaf = true /\ V.rep ow w [z] V.Bl := by
 unfold Ea at h
 split at h <;> try (cases h; done)
 rename_i kt e hu
 cases hi : P.info? e with
 | none =>
  rw [hi] at h
  simp only [Option.bind_none] at h
  split at h <;> simp_all
 | some i =>
  rw [hi] at h
  simp only [Option.bind_some] at h
  split at h <;> try (cases h; done)
  ·rename_i k' h1 h2 h3
   injection h with h
   injection h with e1 e2
   subst e1; subst e2
   exact ⟨kt, e, _, i, hu, h1, hi, h3, rfl, rfl⟩
  ·rename_i k' q q' h1 h2 h3
   split at h <;> try (cases h; done)
   rename_i hq
   subst hq
   injection h with h
   injection h with e1 e2
   subst e1; subst e2
   have h0 : q'.has 0 := by cases q' <;> simp [IntKind.has, IntKind.min, IntKind.max, IntKind.signed, IntKind.bits]
   exact ⟨kt, e, _, i, hu, h1, hi, h3, rfl, rfl, h0⟩
theorem XF (H : Hyp hp nx φ ow w) {t : TypeId} {out : Out} (hr : (IZ P t nx).run hp = some out) : ∃ u w', (Instr.makeMap t none).run P w = .ok u w' /\ Au out nx φ ow w u w' := by
 unfold IZ at hr
 split at hr <;> try (simp [Req.run] at hr; done)
 rename_i k V hk
 simp only [Req.run, Option.some.injEq] at hr
 subst hr
 obtain ⟨kt, e, z, i, _, _, _, _, hV, _⟩ := FQ (ow := ow) (w := w) hk
 have hrun : (Instr.makeMap t none).run P w = .ok (.map (some w.heap.size)) (w.alloc (.map #[] 0)) := rfl
 have E := Ext.new (w' := w.alloc (.map #[] 0)) H [] (.map (some w.heap.size)) rfl rfl rfl rfl
 refine ⟨_, _, hrun, _, _, E, ⟨_, AP _, rfl⟩, ?_⟩
 intro p hp
 simp only [List.mem_singleton] at hp
 subst hp
 exact ⟨w.heap.size, #[], 0, AP _, by simp [BJ], CU (w' := w.alloc (.map #[] 0)) rfl, hV, rfl⟩
theorem Dz {K : Ty} {ix : AV} {n : K.den} {vi : Value} (h : Gs K ix = some n) (hx : ix.holds φ ow w [vi]) : vi = B7 K n /\ KV K n := by
 unfold Gs at h
 split at h <;> try (cases h; done)
 ·split at h <;> try (cases h; done)
  rename_i e
  subst e
  injection h with h
  subst h
  obtain ⟨rfl, hn⟩ := Ak hx
  exact ⟨rfl, hn⟩
 ·injection h with h
  subst h
  obtain ⟨_, _, h1, h2⟩ := hx
  injection h1 with h1
  exact ⟨h1, h2⟩
 ·split at h <;> try (cases h; done)
  rename_i e
  obtain ⟨rfl, rfl⟩ := e
  injection h with h
  subst h
  obtain ⟨cs, h1, v0, r0, h2, ha, v1, r1, h3, hb, h4⟩ := hx
  injection h1 with h1
  subst h1
  obtain ⟨rfl, hn⟩ := Ak ha
  obtain ⟨rfl, hm⟩ := Ak hb
  have h4' : r1 = [] := h4
  subst h4'
  subst h3
  refine ⟨?_, hn, hm⟩
  show Value.agg cs = Value.agg _
  congr 1
  rw [<- Array.toArray_toList (xs := cs), h2]
def CC (K V : Ty) (n : K.den) : List MapEntry -> List (K.den × V.den) -> Nat -> Option (Nat × Value)
 | e :: es, (a, _) :: r, i => if @decide (n = a) (K.eqD n a) then some (i, e.val) else CC K V n es r (i + 1)
 | _, _, _ => none
theorem Ih {kt : TypeId} {K : Ty} (h : Gc P kt = some K) : (∃ k, K = .int k /\ P.underlying kt = some (.int k)) \/ (K = .str /\ P.underlying kt = some .string) \/
  (∃ fs f g k q, K = .pair (.int k) (.pair (.int q) .unit) /\ P.underlying kt = some (.struct fs) /\ fs.toList = [f, g] /\ P.underlying f.type = some (.int k) /\ P.underlying g.type = some (.int q) /\ f.name ≠ "_" /\ g.name ≠ "_" /\ f.offset = 0 /\ g.offset = 1 /\ P.stoodInHeld kt = false) := by
 unfold Gc at h
 split at h <;> try (cases h; done)
 ·rename_i k hu
  injection h with h
  exact .inl ⟨k, h.symm, hu⟩
 ·rename_i hu
  injection h with h
  exact .inr (.inl ⟨h.symm, hu⟩)
 ·rename_i fs hu
  split at h <;> try (cases h; done)
  rename_i f g hfs
  split at h <;> try (cases h; done)
  rename_i k q h1 h2
  split at h <;> try (cases h; done)
  rename_i hc
  injection h with h
  obtain ⟨c1, c2, c3, c4, c5⟩ := hc
  exact .inr (.inr ⟨fs, f, g, k, q, h.symm, hu, hfs, h1, h2, c1, c2, c3, c4, c5⟩)
theorem AJd (x y : ByteArray) : (x == y) = decide (x = y) := by
 obtain ⟨x⟩ := x
 obtain ⟨y⟩ := y
 show (x == y) = _
 rw [Bool.eq_iff_iff, decide_eq_true_eq, beq_iff_eq, ByteArray.mk.injEq]
theorem Cf {kt : TypeId} {K V : Ty} {R : List Value -> V.den -> Prop} (hK : Gc P kt = some K) {n : K.den} {es : List MapEntry} {l : List (K.den × V.den)} (h : EH R K es l) : (Instr.findKey kt (B7 K n) es).run P w = .ok (CC K V n es l 0) w := by
 rcases Ih hK with ⟨k, rfl, hu⟩ | ⟨rfl, hu⟩ | ⟨fs, f, g, k, q, rfl, hu, hfs, h1, h2, c1, c2, c3, c4, c5⟩
 ·have : ∀ (es : List MapEntry) (l : List (Int × V.den)) (i : Nat), EH R (.int k) es l -> Instr.findNow (.int k) (.int k n) es i = some (CC (.int k) V n es l i) := by
   intro es
   induction es with
   | nil => intro l i _; cases l <;> rfl
   | cons e es ih =>
    rintro _ i ⟨a, y, r, rfl, e1, e2, e3, e4⟩
    change e.key = .int k a at e1
    have ih2 := ih r (i + 1) e4
    unfold CC
    by_cases hn : n = a
    ·subst hn
     rw [if_pos (by exact decide_eq_true rfl)]
     simp [Instr.findNow, Instr.sameNow, e1]
    ·rw [if_neg (by simpa using hn)]
     change Int at n a
     simp only [Instr.findNow, Instr.sameNow, e1, if_true]
     have : (n == a) = false := by simpa using hn
     rw [this]
     exact ih2
  have := this es l 0 h
  exact MapKept.run_findKey hu this
 ·have : ∀ (es : List MapEntry) (l : List (ByteArray × V.den)) (i : Nat), EH R .str es l -> Instr.findNow .string (.string n) es i = some (CC .str V n es l i) := by
   intro es
   induction es with
   | nil => intro l i _; cases l <;> rfl
   | cons e es ih =>
    rintro _ i ⟨a, y, r, rfl, e1, e2, e3, e4⟩
    change e.key = .string a at e1
    have ih2 := ih r (i + 1) e4
    unfold CC
    by_cases hn : n = a
    ·subst hn
     rw [if_pos (by exact decide_eq_true rfl)]
     have : ((n : ByteArray) == n) = true := by rw [AJd]; exact decide_eq_true rfl
     simp only [Instr.findNow, Instr.sameNow, e1]
     rw [this]
    ·rw [if_neg (by simpa using hn)]
     simp only [Instr.findNow, Instr.sameNow, e1]
     have : ((n : ByteArray) == a) = false := by rw [AJd]; exact decide_eq_false hn
     rw [this]
     exact ih2
  have := this es l 0 h
  exact MapKept.run_findKey hu this
 ·have hfo : P.fieldsOf kt = fs := by simp [Program.fieldsOf, hu]
  have heq : ∀ (x y : Int × Int × Unit), (Op.equal kt (B7 (.pair (.int k) (.pair (.int q) .unit)) x) (B7 (.pair (.int k) (.pair (.int q) .unit)) y)).run P w = .ok (@decide (x = y) ((Ty.pair (.int k) (.pair (.int q) .unit)).eqD x y)) w := by
   rintro ⟨x1, x2, ⟨⟩⟩ ⟨y1, y2, ⟨⟩⟩
   have pf : ∀ a b : Int, (part f.type #[.int k a, .int q b] f.offset).run P w = .ok (.int k a) w := fun a b => by
    simp [part, isAgg, run_underlying h1, c3]
   have pg : ∀ a b : Int, (part g.type #[.int k a, .int q b] g.offset).run P w = .ok (.int q b) w := fun a b => by
    simp [part, isAgg, run_underlying h2, c4]
   show (Op.equalIn 10000 kt (.agg #[.int k x1, .int q x2]) (.agg #[.int k y1, .int q y2])).run P w = _
   rw [run_equalIn_struct w 9999 kt _ _ (by rw [hfo]; exact hu) c5, hfo, hfs]
   have f1 : (Op.equalIn 9999 f.type (.int k x1) (.int k y1)).run P w = .ok (x1 == y1) w := run_equalIn_int (P := P) w 9998 f.type k k x1 y1 h1
   have f2 : (Op.equalIn 9999 g.type (.int q x2) (.int q y2)).run P w = .ok (x2 == y2) w := run_equalIn_int (P := P) w 9998 g.type q q x2 y2 h2
   simp only [Op.eqFields, c1, c2, ne_eq, not_false_eq_true, if_true, Sem.run_bind, pf, f1, Result.andThen_ok]
   by_cases g1 : x1 = y1
   ·subst g1
    simp only [beq_self_eq_true, Bool.not_true, Bool.false_eq_true, if_false, Sem.run_bind, pg, f2, Result.andThen_ok]
    by_cases g2 : x2 = y2
    ·subst g2
     simp
    ·have : (x2 == y2) = false := by simpa using g2
     simp [this, g2]
   ·have : (x1 == y1) = false := by simpa using g1
    simp [this, g1]
  have hask : ∀ (es : List MapEntry) (l : List ((Int × Int × Unit) × V.den)) (i : Nat), EH R (.pair (.int k) (.pair (.int q) .unit)) es l -> (Instr.findAsking kt (B7 (.pair (.int k) (.pair (.int q) .unit)) n) es i).run P w = .ok (CC (.pair (.int k) (.pair (.int q) .unit)) V n es l i) w := by
   intro es
   induction es with
   | nil => intro l i _; cases l <;> simp [Instr.findAsking, CC]
   | cons e es ih =>
    rintro _ i ⟨a, y, r, rfl, e1, e2, e3, e4⟩
    have ih2 := ih r (i + 1) e4
    unfold CC
    rw [Instr.findAsking]
    rw [Sem.run_bind, e1, heq n a, Result.andThen_ok]
    by_cases hn : n = a
    ·subst hn
     simp
    ·have hd : @decide (n = a) ((Ty.pair (.int k) (.pair (.int q) .unit)).eqD n a) = false := by
      exact decide_eq_false hn
     rw [hd]
     simp only [Bool.false_eq_true, if_false]
     exact ih2
  cases es with
  | nil =>
   have hl : l = [] := h
   subst hl
   simp [Instr.findKey, run_underlying hu, Instr.findNow, CC]
  | cons e es =>
   have hk := h
   obtain ⟨a, y, r, rfl, e1, e2, e3, e4⟩ := hk
   have hnow : Instr.findNow (.struct fs) (B7 (.pair (.int k) (.pair (.int q) .unit)) n) (e :: es) 0 = none := by
    simp [Instr.findNow, Instr.sameNow, e1]
   rw [Instr.findKey, Sem.run_bind, run_underlying hu, Result.andThen_ok, hnow]
   exact hask _ _ 0 h
theorem Hq {K V : Ty} {n : K.den} {d x : V.den} : ∀ (es : List MapEntry) (l : List (K.den × V.den)) (i : Nat), Gp ow w K V es l ->
  (CC K V n es l i = none /\ @Ad _ _ K.eqD d l n = d /\ @BF _ _ K.eqD l n = false /\ @A4 _ _ K.eqD x l n = l ++ [(n, x)]) \/
  ∃ j e, CC K V n es l i = some (i + j, e.val) /\ es[j]? = some e /\ e.key = B7 K n /\ V.rep ow w [e.val] (@Ad _ _ K.eqD d l n) /\ @BF _ _ K.eqD l n = true /\
   ∀ (ow' : Own) (w' : World) (u : Value), A8 ow w ow' w' -> V.rep ow' w' [u] x -> Gp ow' w' K V (es.modify j fun e => { e with key := B7 K n, val := u }) (@A4 _ _ K.eqD x l n)
 | [], l, i, h => by
  have : l = [] := h
  subst this
  exact .inl ⟨rfl, rfl, rfl, rfl⟩
 | e :: es, _, i, ⟨a, y, r, rfl, h1, h2, h3, h4⟩ => by
  letI := K.eqD
  by_cases hn : n = a
  ·subst hn
   right
   refine ⟨0, e, ?_, rfl, h1, ?_, ?_, ?_⟩
   ·unfold CC
    rw [if_pos (by exact decide_eq_true rfl)]
    rfl
   ·simpa [Ad] using h3
   ·simp [BF]
   ·intro ow' w' u hk hu
    simp only [A4, decide_true, cond_true]
    refine ⟨n, x, r, rfl, ?_, h2, ?_, C2 hk ?_⟩ <;> simp [h4, hu]
  ·have hd : @decide (n = a) (K.eqD n a) = false := decide_eq_false hn
   rcases Hq (n := n) (d := d) (x := x) es r (i + 1) h4 with ⟨k1, k2, k4, k3⟩ | ⟨j, e', k1, k2, k3, k4, k6, k5⟩
   ·left
    simp only [CC, Ad, A4, BF, hd, cond_false, Bool.false_eq_true, if_false]
    exact ⟨k1, k2, k4, by rw [k3]; rfl⟩
   ·right
    refine ⟨j + 1, e', ?_, by simpa using k2, k3, ?_, ?_, ?_⟩
    ·simp only [CC, hd, Bool.false_eq_true, if_false]
     rw [k1, Nat.add_assoc, Nat.add_comm 1 j]
    ·simp only [Ad, hd, cond_false]
     exact k4
    ·simp only [BF, hd, cond_false]
     exact k6
    ·intro ow' w' u hk hu
     simp only [A4, hd, cond_false]
     exact ⟨a, y, _, rfl, h1, h2, Ty.AO hk h3, k5 ow' w' u hk hu⟩
theorem Kq {K V : Ty} {n : K.den} {x : V.den} {e : MapEntry} (h1 : e.key = B7 K n) (h2 : KV K n) (h3 : V.rep ow w [e.val] x) : ∀ {es : List MapEntry} {l : List (K.den × V.den)}, Gp ow w K V es l -> Gp ow w K V (es ++ [e]) (l ++ [(n, x)])
 | [], l, h => by
  have : l = [] := h
  subst this
  exact ⟨n, x, [], rfl, h1, h2, h3, rfl⟩
 | e0 :: es, _, ⟨a, y, r, rfl, k1, k2, k3, k4⟩ => ⟨a, y, _, rfl, k1, k2, k3, Kq h1 h2 h3 k4⟩
theorem CO {kt : TypeId} {K : Ty} (hK : Gc P kt = some K) (n : K.den) (b : Bool) : (Instr.checkKey b 10000 kt (B7 K n)).run P w = .ok () w := by
 rcases Ih hK with ⟨k, rfl, hu⟩ | ⟨rfl, hu⟩ | ⟨fs, f, g, k, q, rfl, hu, hfs, h1, h2, c1, c2, c3, c4, c5⟩
 ·exact MapKept.run_checkKey hu (by simp [MapKept.IsKey, B7]) b 9999
 ·exact MapKept.run_checkKey hu (by simp [MapKept.IsKey, B7]) b 9999
 ·have e1 : (part f.type #[.int k n.1, .int q n.2.1] f.offset).run P w = .ok (.int k n.1) w := by
   simp [part, isAgg, run_underlying h1, c3]
  have e2 : (part g.type #[.int k n.1, .int q n.2.1] g.offset).run P w = .ok (.int q n.2.1) w := by
   simp [part, isAgg, run_underlying h2, c4]
  have k1 := MapKept.run_checkKey (w := w) h1 (k := .int k n.1) (by simp [MapKept.IsKey]) b 9998
  have k2 := MapKept.run_checkKey (w := w) h2 (k := .int q n.2.1) (by simp [MapKept.IsKey]) b 9998
  show (Instr.checkKey b (9999 + 1) kt (.agg #[.int k n.1, .int q n.2.1])).run P w = _
  rw [Instr.checkKey]
  simp only [Sem.run_bind, run_underlying hu, Result.andThen_ok]
  rw [<- Array.forIn_toList, hfs]
  simp only [List.forIn_cons, List.forIn_nil, c1, c2, ne_eq, not_false_eq_true, if_true, Sem.run_bind, e1, e2, k1, k2, Result.andThen_ok, Sem.run_pure]
theorem Kr {K : Ty} {kt : TypeId} (hK : Gc P kt = some K) (n : K.den) : (Instr.keyThatStays (B7 K n) (B7 K n)).run P w = .ok (B7 K n) w := by
 rcases Ih hK with ⟨k, rfl, hu⟩ | ⟨rfl, hu⟩ | ⟨fs, f, g, k, q, rfl, hu, hfs, h1, h2, c1, c2, c3, c4, c5⟩
 ·simp [Instr.keyThatStays, Instr.sameBits, B7]
 ·have : ((n : ByteArray) == n) = true := by rw [AJd]; exact decide_eq_true rfl
  simp [Instr.keyThatStays, Instr.sameBits, B7, this]
 ·simp [Instr.keyThatStays, Instr.sameBits, B7]
def AKd (P : Program) (ow : Own) (w : World) (t : TypeId) (K V : Ty) : Prop := ∃ kt e z i, P.underlying t = some (.map kt e) /\ Gc P kt = some K /\ P.info? e = some i /\ i.zero = some z /\ V.leaf = true /\ V.rep ow w [z] V.Bl
theorem Zu {t : TypeId} {K V : Ty} (hk : AKd P ow w t K V) {ok : Bool} {out : Out} {n : K.den} {l : List (K.den × V.den)} {g clock : Nat} {es : Array MapEntry} (h2 : w.heap[g]? = some (.map es clock)) (h4 : Gp ow w K V es.toList l)
  (hr : (Hh ok K V l n).run hp = some out) : out.upd = [] /\ ∃ u, (Instr.lookup t (.map (some g)) (B7 K n) ok).run P w = .ok u w /\ out.res.holds φ ow w [u] := by
 obtain ⟨kt, e, z, i, m1, m2, m3, m4, m5, m6⟩ := hk
 have hck := fun b => CO (w := w) m2 n b
 have hfk := Cf (w := w) (n := n) m2 h4
 unfold Hh at hr
 have fin : ∀ (v : Value) (b : Bool), V.rep ow w [v] (@Ad _ _ K.eqD V.Bl l n) -> @BF _ _ K.eqD l n = b -> (Instr.lookup t (.map (some g)) (B7 K n) ok).run P w = .ok (if ok then .tuple #[v, .bool b] else v) w -> out.upd = [] /\ ∃ u, (Instr.lookup t (.map (some g)) (B7 K n) ok).run P w = .ok u w /\ out.res.holds φ ow w [u] := by
  intro v b hv hb hrun
  cases ok with
  | false =>
   simp only [cond_false, Req.ret, Req.run, Option.some.injEq] at hr
   subst hr
   exact ⟨rfl, v, hrun, rfl, m5, hv⟩
  | true =>
   simp only [cond_true, Req.ret, Req.run, Option.some.injEq] at hr
   subst hr
   refine ⟨rfl, _, hrun, #[v, .bool b], rfl, v, [.bool b], rfl, ⟨rfl, m5, hv⟩, .bool b, [], rfl, ⟨rfl, rfl, ?_⟩, rfl⟩
   show [Value.bool b] = [.bool _]
   rw [hb]
 rcases Hq (n := n) (d := V.Bl) (x := V.Bl) es.toList l 0 h4 with ⟨k1, k3, k4, _⟩ | ⟨j, e0, k1, _, _, k4, k6, _⟩
 ·rw [k1] at hfk
  refine fin z false (by rw [k3]; exact m6) k4 ?_
  cases ok <;> simp [Instr.lookup, run_underlying m1, MapKept.run_getObj_map h2, hck, hfk, zeroValue, typeInfo, m3, m4]
 ·rw [k1] at hfk
  refine fin e0.val true k4 k6 ?_
  cases ok <;> simp [Instr.lookup, run_underlying m1, MapKept.run_getObj_map h2, hck, hfk]
theorem XG {t : TypeId} {K V : Ty} (hk : Ea P t = some (K, V)) {ok : Bool} {out : Out} {n : K.den} {l : List (K.den × V.den)} {g clock : Nat} {es : Array MapEntry} (h2 : w.heap[g]? = some (.map es clock)) (h4 : Gp ow w K V es.toList l)
  (hr : (Hh ok K V l n).run hp = some out) : out.upd = [] /\ ∃ u, (Instr.lookup t (.map (some g)) (B7 K n) ok).run P w = .ok u w /\ out.res.holds φ ow w [u] :=
 Zu (FQ hk) h2 h4 hr
theorem ABA (H : Hyp hp nx φ ow w) {t : TypeId} {m ix : AV} {vm vi : Value} {ok : Bool} {out : Out} (hr : (Kb P t m ix ok).run hp = some out) (hm : m.holds φ ow w [vm]) (hx : ix.holds φ ow w [vi]) :
  out.upd = [] /\ ∃ u, (Instr.lookup t vm vi ok).run P w = .ok u w /\ out.res.holds φ ow w [u] := by
 unfold Kb at hr
 split at hr <;> try (simp [Req.run] at hr; done)
 rename_i K V hk
 split at hr <;> try (simp [Req.run] at hr; done)
 rename_i n hn
 obtain ⟨rfl, hfit⟩ := Dz hn hx
 split at hr <;> try (simp [Req.run] at hr; done)
 ·rename_i id
  simp only [Req.run] at hr
  obtain ⟨g, hφ, e'⟩ := hm
  injection e' with e'
  subst e'
  have hch := H.chunk id
  generalize hp id = ch at hr hch
  cases ch <;> try (simp [Req.run] at hr; done)
  rename_i K2 V2 l
  simp only at hr
  split at hr <;> try (simp [Req.run] at hr; done)
  rename_i hV
  subst hV
  split at hr <;> try (simp [Req.run] at hr; done)
  rename_i hk2
  subst hk2
  obtain ⟨g', es, clock, hφ', h1, h2, h3, h4⟩ := hch
  rw [hφ] at hφ'
  injection hφ' with hφ'; injection hφ' with hφ'; injection hφ' with hφ'
  subst hφ'
  exact XG hk h2 h4 hr
 ·rename_i T l
  split at hr <;> try (simp [Req.run] at hr; done)
  rename_i hT
  subst hT
  obtain ⟨_, _, g, es, clock, e, h1, h2, h3, h4⟩ := hm
  injection e with e
  subst e
  exact XG hk h2 h4 hr
theorem QO (H : Hyp hp nx φ ow w) {t : TypeId} {m ix x : AV} {vm vi vx : Value} {out : Out} (hr : (Hi P t m ix x).run hp = some out) (hm : m.holds φ ow w [vm]) (hi : ix.holds φ ow w [vi]) (hx : x.holds φ ow w [vx]) :
  ∃ w', (Instr.mapUpdate t vm vi vx).run P w = .ok () w' /\ Au out nx φ ow w undef w' := by
 unfold Hi at hr
 split at hr <;> try (simp [Req.run] at hr; done)
 rename_i K V id V' y hk
 split at hr <;> try (simp [Req.run] at hr; done)
 rename_i n hn
 simp only [Req.run] at hr
 obtain ⟨rfl, hfit⟩ := Dz hn hi
 obtain ⟨_, _, hy⟩ := hx
 obtain ⟨g, hφ, e'⟩ := hm
 injection e' with e'
 subst e'
 have hch := H.chunk id
 generalize hp id = ch at hr hch
 cases ch <;> try (simp [Req.run] at hr; done)
 rename_i K2 V2 l
 simp only at hr
 split at hr <;> try (simp [Req.run] at hr; done)
 rename_i hV
 subst hV
 split at hr <;> try (simp [Req.run] at hr; done)
 rename_i hV'
 subst hV'
 split at hr <;> try (simp [Req.run] at hr; done)
 rename_i hk2
 subst hk2
 simp only [Req.run, Option.some.injEq] at hr
 subst hr
 obtain ⟨g', es, clock, hφ', h1, h2, h3, h4⟩ := hch
 rw [hφ] at hφ'
 injection hφ' with hφ'; injection hφ' with hφ'; injection hφ' with hφ'
 subst hφ'
 obtain ⟨kt, e, z, i, m1, m2, m3, m4, m5, m6⟩ := FQ (ow := ow) (w := w) hk
 have hck := fun b => CO (w := w) m2 n b
 have hfk := Cf (w := w) (n := n) m2 h4
 have fin : ∀ (es' : Array MapEntry) (clock' : Nat), (Instr.mapUpdate t (.map (some g)) (B7 K2 n) vx).run P w = .ok () { w with heap := w.heap.setIfInBounds g (.map es' clock') } ->
   (∀ w', A8 ow w ow w' -> Gp ow w' K2 V' es'.toList (@A4 _ _ K2.eqD y l n)) -> ∃ w', (Instr.mapUpdate t (.map (some g)) (B7 K2 n) vx).run P w = .ok () w' /\ Au ⟨[l.length < lim], .raw undef, [(id, .mp K2 V' (@A4 _ _ K2.eqD (Bm rfl y) (coeM rfl rfl l) n))]⟩ nx φ ow w undef w' := by
  intro es' clock' hrun hents
  obtain ⟨hs1, hs2⟩ := MapKept.heap_set (o' := Obj.map es' clock') h2
  have E : Ext [id] nx φ ow w φ ow { w with heap := w.heap.setIfInBounds g (.map es' clock') } := by
   refine ⟨by simp, rfl, rfl, rfl, fun b hb h => ⟨rfl, hs2 b ?_⟩, fun b i h => ⟨by simpa using (H.own b i h).1, .inr ⟨(H.own b i h).1, h⟩⟩, Aw.refl _, fun _ _ => rfl⟩
   intro e
   subst e
   exact h id h1 (by simp)
  refine ⟨_, hrun, φ, ow, E, rfl, ?_⟩
  intro p hp
  simp only [List.mem_singleton] at hp
  subst hp
  exact ⟨g, es', clock', hφ, h1, hs1, h3, hents _ E.keep⟩
 rcases Hq (n := n) (d := V'.Bl) (x := y) es.toList l 0 h4 with ⟨k1, _, _, k3⟩ | ⟨j, e0, k1, k2', k3, _, _, k5⟩
 ·rw [k1] at hfk
  refine fin (es.push { key := B7 K2 n, val := vx, born := clock }) (clock + 1) ?_ ?_
  ·simp [Instr.mapUpdate, run_underlying m1, MapKept.run_getObj_map h2, hck, hfk, MapKept.run_setObj_map _ h2]
  ·intro w' hk'
   rw [k3, Array.toList_push]
   exact Kq rfl hfit (Ty.AO hk' hy) (C2 hk' h4)
 ·rw [k1, Nat.zero_add] at hfk
  have hj : es[j]? = some e0 := by simpa using k2'
  refine fin (es.modify j fun e => { e with key := B7 K2 n, val := vx }) clock ?_ ?_
  ·have hkeep := Kr (P := P) (w := w) m2 n
   simp [Instr.mapUpdate, run_underlying m1, MapKept.run_getObj_map h2, hck, hfk, MapKept.run_setObj_map _ h2, hj, k3, hkeep]
  ·intro w' hk'
   rw [Array.toList_modify]
   exact k5 ow w' vx hk' (Ty.AO hk' hy)
end
end AL
end
section
set_option linter.unusedVariables false
set_option linter.unusedSimpArgs false
namespace AL
open Go
section
variable {φ : Hnd} {ow : Own} {w : World} {P : Program} {hp : Nat -> Chunk} {nx : Nat}
theorem Ek {t : TypeId} {K : Ty} {e' : TypeId} (h : ET P t = some (K, e')) : ∃ kt e i0, P.underlying t = some (.map kt e) /\ Gc P kt = some K /\ P.info? e = some i0 /\ i0.zero = some (.slice none 0 0) := by
 unfold ET at h
 split at h <;> try (cases h; done)
 rename_i kt e hu
 split at h <;> try (cases h; done)
 rename_i K' e2 h1 h2 h3
 split at h <;> try (cases h; done)
 split at h <;> try (cases h; done)
 injection h with h
 injection h with g1 g2
 subst g1; subst g2
 cases hi : P.info? e with
 | none => rw [hi] at h3; cases h3
 | some i0 =>
  rw [hi] at h3
  exact ⟨kt, e, i0, hu, h1, hi, h3⟩
theorem Ul (H : Hyp hp nx φ ow w) {t : TypeId} {out : Out} (hr : (Gt P t nx).run hp = some out) : ∃ u w', (Instr.makeMap t none).run P w = .ok u w' /\ Au out nx φ ow w u w' := by
 unfold Gt at hr
 split at hr
 ·rename_i K e hk
  simp only [Req.run, Option.some.injEq] at hr
  subst hr
  have hrun : (Instr.makeMap t none).run P w = .ok (.map (some w.heap.size)) (w.alloc (.map #[] 0)) := rfl
  have E := Ext.new (w' := w.alloc (.map #[] 0)) H [] (.map (some w.heap.size)) rfl rfl rfl rfl
  refine ⟨_, _, hrun, _, _, E, ⟨_, AP _, rfl⟩, ?_⟩
  intro p hp
  simp only [List.mem_singleton] at hp
  subst hp
  exact ⟨w.heap.size, #[], 0, [], AP _, by simp [BJ], CU (w' := w.alloc (.map #[] 0)) rfl, rfl, fun k hk => by cases hk⟩
 ·exact XF H hr
theorem Um (H : Hyp hp nx φ ow w) {t : TypeId} {x : AV} {vx : Value} {out : Out} (hr : (Gv P t x nx).run hp = some out) (hx : x.holds φ ow w [vx]) (hobl : ∀ p ∈ out.Bu, p) : ∃ u w', (Instr.makeChan t vx).run P w = .ok u w' /\ Au out nx φ ow w u w' := by
 unfold Gv at hr
 split at hr <;> try (simp [Req.run] at hr; done)
 rename_i dir elem n hu
 split at hr <;> try (simp [Req.run] at hr; done)
 rename_i i hi
 simp only [Req.run, Option.some.injEq] at hr
 subst hr
 obtain ⟨rfl, hn⟩ := Ak hx
 have h0 : (0 : Int) <= n := hobl _ (by simp)
 have h1 : n <= IntKind.i64.max := hobl _ (by simp)
 have h2 : (i.bytes : Int) * n <= 2 ^ 48 - 112 := hobl _ (by simp)
 have hmax : IntKind.i64.max = 9223372036854775807 := rfl
 obtain ⟨m, rfl⟩ := Int.eq_ofNat_of_zero_le h0
 have hp48 : (2 ^ 48 - 112 : Int) = 281474976710544 := by decide
 have hrun := Go.Conc.run_makeChan (w := w) hu hi .i64 m (le_of_le_of_eq h1 hmax) (by omega)
 have E := Ext.new (w' := w.alloc (.chan m #[] false 0 0 false)) H [] (.chan (some w.heap.size)) rfl rfl rfl rfl
 refine ⟨_, _, hrun, _, _, E, ⟨_, AP _, rfl⟩, ?_⟩
 intro p hp
 simp only [List.mem_singleton] at hp
 subst hp
 exact ⟨w.heap.size, m, 0, 0, #[], AP _, by simp [BJ], CU (w' := w.alloc (.chan m #[] false 0 0 false)) rfl, rfl, rfl⟩
theorem Ii {K : Ty} {n : K.den} {R : List Value -> Unit -> Prop} : ∀ (es : List MapEntry) (l : List (K.den × Ty.unit.den)) (i : Nat), EH (α := Ty.unit.den) R K es l ->
  (CC K .unit n es l i = none) \/
  ∃ j e, CC K .unit n es l i = some (i + j, e.val) /\ es[j]? = some e /\ e.key = B7 K n /\ R [e.val] () /\
   ∀ (R' : List Value -> Unit -> Prop) (u : Value), (∀ c a, R c a -> R' c a) -> R' [u] () -> EH (α := Ty.unit.den) R' K (es.modify j fun e => { e with key := B7 K n, val := u }) l
 | [], l, i, h => .inl (by cases l <;> rfl)
 | e :: es, _, i, ⟨a, y, r, rfl, h1, h2, h3, h4⟩ => by
  letI := K.eqD
  by_cases hn : n = a
  ·subst hn
   right
   refine ⟨0, e, ?_, rfl, h1, h3, ?_⟩
   ·unfold CC
    rw [if_pos (by exact decide_eq_true rfl)]
    rfl
   ·intro R' u hm hu
    refine ⟨n, y, r, rfl, ?_, h2, ?_, ?_⟩
    ·rfl
    ·exact hu
    ·simpa using Cb hm h4
  ·have hd : @decide (n = a) (K.eqD n a) = false := decide_eq_false hn
   rcases Ii (n := n) es r (i + 1) h4 with k1 | ⟨j, e', k1, k2, k3, k4, k5⟩
   ·left
    simp only [CC, hd, Bool.false_eq_true, if_false]
    exact k1
   ·right
    refine ⟨j + 1, e', ?_, by simpa using k2, k3, k4, ?_⟩
    ·simp only [CC, hd, Bool.false_eq_true, if_false]
     rw [k1, Nat.add_assoc, Nat.add_comm 1 j]
    ·intro R' u hm hu
     exact ⟨a, y, _, rfl, h1, h2, hm _ _ h3, k5 R' u hm hu⟩
theorem QP {α : Type} {R : List Value -> α -> Prop} {K : Ty} {n : K.den} {x : α} {e : MapEntry} (h1 : e.key = B7 K n) (h2 : KV K n) (h3 : R [e.val] x) : ∀ {es : List MapEntry} {l : List (K.den × α)}, EH R K es l -> EH R K (es ++ [e]) (l ++ [(n, x)])
 | [], l, h => by
  have : l = [] := h
  subst this
  exact ⟨n, x, [], rfl, h1, h2, h3, rfl⟩
 | e0 :: es, _, ⟨a, y, r, rfl, k1, k2, k3, k4⟩ => ⟨a, y, _, rfl, k1, k2, k3, QP h1 h2 h3 k4⟩
theorem ADR {id : Nat} {e : TypeId} {B : Int} {v : Value} (h : IU ow w id e B v) : v.oneCell' = true := by
 rcases h with ⟨rfl, _⟩ | ⟨b, n, c, cur, rfl, _⟩ <;> simp [Value.oneCell']
theorem Ij (H : Hyp hp nx φ ow w) {t : TypeId} {m ix : AV} {vm vi : Value} {ok : Bool} {out : Out} (hr : (Eb P t m ix ok nx).run hp = some out) (hm : m.holds φ ow w [vm]) (hx : ix.holds φ ow w [vi]) (hobl : ∀ p ∈ out.Bu, p) :
  ∃ u, (Instr.lookup t vm vi ok).run P w = .ok u w /\ Au out nx φ ow w u w := by
 unfold Eb at hr
 split at hr
 ·rename_i K e hk
  split at hr <;> try (simp [Req.run] at hr; done)
  rename_i n hn
  obtain ⟨rfl, hfit⟩ := Dz hn hx
  split at hr <;> try (simp [Req.run] at hr; done)
  rename_i id
  simp only [Req.run] at hr
  obtain ⟨g, hφ, e'⟩ := hm
  injection e' with e'
  subst e'
  have hch := H.chunk id
  generalize hp id = ch at hr hch
  cases ch <;> try (simp [Req.run] at hr; done)
  rename_i K2 e2 B outs
  simp only at hr
  split at hr <;> try (simp [Req.run] at hr; done)
  rename_i hc
  obtain ⟨rfl, rfl, rfl⟩ := hc
  simp only [Req.run, Option.some.injEq] at hr
  subst hr
  have hB : 0 <= B := hobl _ (by simp)
  obtain ⟨g', es, clock, L, hφ', h1, h2, h4, h5⟩ := hch
  rw [hφ] at hφ'
  injection hφ' with hφ'; injection hφ' with hφ'; injection hφ' with hφ'
  subst hφ'
  obtain ⟨kt, ev, i0, m1, m2, m3, m4⟩ := Ek hk
  have hck := fun b => CO (w := w) m2 n b
  have hfk := Cf (w := w) (V := .unit) (n := n) m2 h4
  have fin : ∀ u, (Instr.lookup t (.map (some g)) (B7 K2 n) false).run P w = .ok u w -> IU ow w id e2 B u -> ∃ u, (Instr.lookup t (.map (some g)) (B7 K2 n) false).run P w = .ok u w /\ Au ⟨[0 <= B], .opq nx, [(nx, .orw id), (id, .mpo K2 e2 B (nx :: outs))]⟩ nx φ ow w u w := by
   intro u hrun hu
   refine ⟨u, hrun, BG φ nx u, ow, ⟨Nat.le_refl _, rfl, rfl, rfl, fun b hb h => ⟨rfl, rfl⟩, fun b i h => ⟨(H.own b i h).1, .inr ⟨(H.own b i h).1, h⟩⟩, BI H u, ?_⟩, ⟨u, AP _, rfl, ADR hu⟩, ?_⟩
   ·intro j hj
    unfold BG
    rw [if_neg (by omega)]
   ·intro p hp
    simp only [List.mem_cons, List.not_mem_nil, or_false] at hp
    rcases hp with rfl | rfl
    ·trivial
    ·refine ⟨g, es, clock, L, BI H u _ _ hφ, h1, h2, h4, fun j hj => ?_⟩
     rcases List.mem_cons.1 hj with rfl | hj
     ·exact ⟨u, AP _, hu⟩
     ·obtain ⟨v, e1, e2⟩ := h5 j hj
      exact ⟨v, BI H u _ _ e1, e2⟩
  rcases Ii (n := n) es.toList L 0 h4 with k1 | ⟨j, e0, k1, _, _, ⟨v, k4, k5⟩, _⟩
  ·rw [k1] at hfk
   refine fin (.slice none 0 0) ?_ (.inl ⟨rfl, hB⟩)
   simp [Instr.lookup, run_underlying m1, MapKept.run_getObj_map h2, hck, hfk, zeroValue, typeInfo, m3, m4]
  ·rw [k1] at hfk
   injection k4 with k4
   refine fin e0.val ?_ (by rw [k4]; exact k5)
   simp [Instr.lookup, run_underlying m1, MapKept.run_getObj_map h2, hck, hfk]
 ·obtain ⟨h0, u, h1, h2⟩ := ABA H hr hm hx
  exact ⟨u, h1, Au.pure H h0 h2⟩
theorem Gy {g : Nat} {es : Array MapEntry} {clock : Nat} {o : Obj} (h2 : w.heap[g]? = some (.map es clock)) {id : Nat} {e : TypeId} {B : Int} {v : Value} (h : IU ow w id e B v) : IU ow { w with heap := w.heap.setIfInBounds g o } id e B v := by
 rcases h with h | ⟨b, n, c, cur, q1, q2, q3, q4⟩
 ·exact .inl h
 ·have hb : b ≠ g := by
   intro hb
   subst hb
   rw [h2] at q3
   cases q3
  exact .inr ⟨b, n, c, cur, q1, q2, ((MapKept.heap_set (o' := o) h2).2 b hb).trans q3, q4⟩
theorem Ik (H : Hyp hp nx φ ow w) {t : TypeId} {m ix x : AV} {vm vi vx : Value} {out : Out} (hr : (Ec P t m ix x).run hp = some out) (hm : m.holds φ ow w [vm]) (hi : ix.holds φ ow w [vi]) (hx : x.holds φ ow w [vx]) :
  ∃ w', (Instr.mapUpdate t vm vi vx).run P w = .ok () w' /\ Au out nx φ ow w undef w' := by
 unfold Ec at hr
 split at hr
 ·rename_i K e hk
  split at hr <;> try (simp [Req.run] at hr; done)
  rename_i n id k hn
  obtain ⟨rfl, hfit⟩ := Dz hn hi
  simp only [Req.run] at hr
  obtain ⟨g, hφ, e'⟩ := hm
  injection e' with e'
  subst e'
  have hch := H.chunk id
  generalize hp id = ch at hr hch
  cases ch <;> try (simp [Req.run] at hr; done)
  rename_i K2 e2 B outs
  simp only at hr
  split at hr <;> try (simp [Req.run] at hr; done)
  rename_i hc
  obtain ⟨rfl, rfl, hmem⟩ := hc
  simp only [Req.run, Option.some.injEq] at hr
  subst hr
  obtain ⟨g', es, clock, L, hφ', h1, h2, h4, h5⟩ := hch
  rw [hφ] at hφ'
  injection hφ' with hφ'; injection hφ' with hφ'; injection hφ' with hφ'
  subst hφ'
  obtain ⟨v, hv, hrow⟩ := h5 k (Am.1 hmem)
  obtain ⟨v0, hv0, e0, _⟩ := hx
  rw [hv] at hv0
  injection hv0 with hv0
  injection e0 with e0
  subst hv0; subst e0
  obtain ⟨kt, ev, i0, m1, m2, m3, m4⟩ := Ek hk
  have hck := fun b => CO (w := w) m2 n b
  have hfk := Cf (w := w) (V := .unit) (n := n) m2 h4
  have fin : ∀ (es' : Array MapEntry) (clock' : Nat) (L' : List (K2.den × Unit)), (Instr.mapUpdate t (.map (some g)) (B7 K2 n) vx).run P w = .ok () { w with heap := w.heap.setIfInBounds g (.map es' clock') } ->
    EH (AIl ow { w with heap := w.heap.setIfInBounds g (.map es' clock') } id e2 B) K2 es'.toList L' -> ∃ w', (Instr.mapUpdate t (.map (some g)) (B7 K2 n) vx).run P w = .ok () w' /\ Au ⟨[], .raw undef, [(id, .mpo K2 e2 B outs)]⟩ nx φ ow w undef w' := by
   intro es' clock' L' hrun hents
   obtain ⟨hs1, hs2⟩ := MapKept.heap_set (o' := Obj.map es' clock') h2
   have E : Ext [id] nx φ ow w φ ow { w with heap := w.heap.setIfInBounds g (.map es' clock') } := by
    refine ⟨by simp, rfl, rfl, rfl, fun b hb h => ⟨rfl, hs2 b ?_⟩, fun b i h => ⟨by simpa using (H.own b i h).1, .inr ⟨(H.own b i h).1, h⟩⟩, Aw.refl _, fun _ _ => rfl⟩
    intro e
    subst e
    exact h id h1 (by simp)
   refine ⟨_, hrun, φ, ow, E, rfl, ?_⟩
   intro p hp
   simp only [List.mem_singleton] at hp
   subst hp
   refine ⟨g, es', clock', L', hφ, h1, hs1, hents, fun j hj => ?_⟩
   obtain ⟨v, e1, e2⟩ := h5 j hj
   exact ⟨v, e1, Gy h2 e2⟩
  rcases Ii (n := n) es.toList L 0 h4 with k1 | ⟨j, e0, k1, k2', k3, _, k5⟩
  ·rw [k1] at hfk
   refine fin (es.push { key := B7 K2 n, val := vx, born := clock }) (clock + 1) (L ++ [(n, ())]) ?_ ?_
   ·simp [Instr.mapUpdate, run_underlying m1, MapKept.run_getObj_map h2, hck, hfk, MapKept.run_setObj_map _ h2]
   ·rw [Array.toList_push]
    exact QP rfl hfit ⟨vx, rfl, Gy h2 hrow⟩ (Cb (fun c a ⟨v, e1, e2⟩ => ⟨v, e1, Gy h2 e2⟩) h4)
  ·rw [k1, Nat.zero_add] at hfk
   have hj : es[j]? = some e0 := by simpa using k2'
   refine fin (es.modify j fun e => { e with key := B7 K2 n, val := vx }) clock L ?_ ?_
   ·have hkeep := Kr (P := P) (w := w) m2 n
    simp [Instr.mapUpdate, run_underlying m1, MapKept.run_getObj_map h2, hck, hfk, MapKept.run_setObj_map _ h2, hj, k3, hkeep]
   ·rw [Array.toList_modify]
    exact k5 _ vx (fun c a ⟨v, e1, e2⟩ => ⟨v, e1, Gy h2 e2⟩) ⟨vx, rfl, Gy h2 hrow⟩
 ·exact QO H hr hm hi hx
end
end AL
end
section
set_option linter.unusedVariables false
set_option linter.unusedSimpArgs false
namespace AL
open Go
section
variable {φ : Hnd} {ow : Own} {w : World} {P : Program} {hp : Nat -> Chunk} {nx : Nat}
theorem El {t : TypeId} {K V : Ty} (h : FT P t = some (K, V)) : AKd P ow w t K V := by
 unfold FT at h
 split at h <;> try (cases h; done)
 rename_i K' e' hk
 injection h with h
 injection h with h1 h2
 subst h1; subst h2
 obtain ⟨kt, e, i0, m1, m2, m3, m4⟩ := Ek hk
 exact ⟨kt, e, _, i0, m1, m2, m3, m4, rfl, none, 0, rfl, Nat.le_refl _, Nat.zero_le _, Nat.zero_le _, .inl rfl⟩
theorem ADS (H : Hyp hp nx φ ow w) {src dst : TypeId} {x : AV} {a : Value} {out : Out} (hr : (NL P src dst x).run hp = some out) (hx : x.holds φ ow w [a]) :
  out.upd = [] /\ ∃ u, (convert src dst a).run P w = .ok u w /\ out.res.holds φ ow w [u] := by
 unfold NL at hr
 split at hr
 ·rename_i id
  split at hr <;> try (simp [Req.run] at hr; done)
  rename_i e hs hd
  split at hr <;> try (simp [Req.run] at hr; done)
  rename_i i he hi
  split at hr <;> try (simp [Req.run] at hr; done)
  simp only [Req.run] at hr
  obtain ⟨A, n, c, hφ, e1⟩ := hx
  injection e1 with e1
  subst e1
  have hch := H.chunk id
  generalize hp id = ch at hr hch
  cases ch <;> try (simp [Req.run] at hr; done)
  rename_i e2 T l
  simp only at hr
  split at hr <;> try (simp [Req.run] at hr; done)
  rename_i hT
  subst hT
  obtain ⟨v, hφ', hrow⟩ := hch
  rw [hφ] at hφ'
  injection hφ' with hφ'
  subst hφ'
  simp only [Req.ret, Req.run, Option.some.injEq] at hr
  subst hr
  obtain ⟨xs, hown, hb, hlim, hrows⟩ := hrow
  have hl : (l : List Int).length <= lim := hlim
  have hxs : xs = (l : List Int).map (Value.int .u8) := by
   clear hown hb hlim
   revert xs
   induction l with
   | nil => intro xs h; exact h
   | cons a l ih =>
    rintro xs ⟨c, r, rfl, ⟨rfl, _⟩, h2⟩
    rw [ih (by simp at hl; omega) r h2]
    rfl
  refine ⟨rfl, .string (strOfNums l), ?_, rfl, rfl, rfl, by show ByteArray.size (strOfNums l) <= lim; rw [strOfNums_size]; exact hl⟩
  rcases hown.2 with ⟨h0, h1⟩ | ⟨g, cap, cur, h0, hb0, hg, hcap, hcs, hsz, htk⟩
  ·injection h0 with h01 h02 h03
   subst h01; subst h02; subst h03
   have hl0 : (l : List Int) = [] := List.eq_nil_of_length_eq_zero (by simpa using h1)
   rw [hl0]
   exact run_convert_bytes_nil w src e hs he _ _ dst hd
  ·injection h0 with h01 h02 h03
   subst h01; subst h02; subst h03
   refine run_convert_bytes_arg w src e hs he g 0 _ _ l rfl (fun j hj => ?_) dst hd
   have hj' : j < (l : List Int).length := hj
   have hc : cur[j]? = some (.int .u8 ((l : List Int)[j]'hj')) := by
    rw [<- Array.getElem?_toList, <- List.getElem?_take_of_lt (show j < List.length l * Ty.size (.int .u8) by show j < List.length l * 1; omega), htk, hxs, List.getElem?_map, List.getElem?_eq_getElem hj']
    rfl
   unfold World.cell?
   rw [hg]
   simp [hc, List.getD, List.getElem?_eq_getElem hj']
 ·exact AG7 hr hx
theorem Gz {t : TypeId} {K : Ty} (h : FU P t = some K) : ∃ kt e, P.underlying t = some (.map kt e) /\ Gc P kt = some K := by
 unfold FU at h
 split at h <;> try (cases h; done)
 rename_i kt e hu
 split at h <;> try (cases h; done)
 rename_i K' _ _ _ h1 _
 injection h with h
 subst h
 exact ⟨kt, e, hu, h1⟩
def ABB {κ α : Type} (l : List (κ × α)) : List (κ × Unit) := l.map fun p => (p.1, ())
theorem Il {K : Ty} : ∀ {es : List MapEntry} {l : List (K.den × AV)}, IA φ ow w K es l -> EH (α := Ty.unit.den) (fun _ _ => True) K es (ABB l)
 | [], l, h => by
  have : l = [] := h
  subst this
  rfl
 | e :: es, _, ⟨k, a, r, rfl, h1, h2, h3, h4⟩ => ⟨k, (), _, rfl, h1, h2, trivial, Il h4⟩
theorem Im {K : Ty} {n : K.den} : ∀ (es : List MapEntry) (l : List (K.den × AV)) (i : Nat), IA φ ow w K es l ->
  (@FB _ _ K.eqD l n = none /\ CC K .unit n es (ABB l) i = none) \/ ∃ (j : Nat) (e : MapEntry) (a : AV), @FB _ _ K.eqD l n = some a /\ CC K .unit n es (ABB l) i = some (i + j, e.val) /\ a.holds φ ow w [e.val]
 | [], l, i, h => by
  have : l = [] := h
  subst this
  exact .inl ⟨rfl, rfl⟩
 | e :: es, _, i, ⟨k, a, r, rfl, h1, h2, h3, h4⟩ => by
  letI := K.eqD
  by_cases hn : n = k
  ·subst hn
   right
   refine ⟨0, e, a, ?_, ?_, h3⟩
   ·simp [FB]
   ·show CC K .unit n (e :: es) ((n, ()) :: ABB r) i = _
    unfold CC
    rw [if_pos (by exact decide_eq_true rfl)]
    rfl
  ·have hd : @decide (n = k) (K.eqD n k) = false := decide_eq_false hn
   rcases Im (n := n) es r (i + 1) h4 with ⟨k1, k2⟩ | ⟨j, e', a', k1, k2, k3⟩
   ·left
    refine ⟨?_, ?_⟩
    ·simp only [FB, hd, cond_false]; exact k1
    ·show CC K .unit n (e :: es) ((k, ()) :: ABB r) i = _
     simp only [CC, hd, Bool.false_eq_true, if_false]
     exact k2
   ·right
    refine ⟨j + 1, e', a', ?_, ?_, k3⟩
    ·simp only [FB, hd, cond_false]; exact k1
    ·show CC K .unit n (e :: es) ((k, ()) :: ABB r) i = _
     simp only [CC, hd, Bool.false_eq_true, if_false]
     rw [k2, Nat.add_assoc, Nat.add_comm 1 j]
theorem QQ {K : Ty} {n : K.den} {x : AV} {e : MapEntry} (h1 : e.key = B7 K n) (h2 : KV K n) (h3 : x.holds φ ow w [e.val]) : ∀ {es : List MapEntry} {l : List (K.den × AV)}, IA φ ow w K es l -> IA φ ow w K (es ++ [e]) (l ++ [(n, x)])
 | [], l, h => by
  have : l = [] := h
  subst this
  exact ⟨n, x, [], rfl, h1, h2, h3, rfl⟩
 | e0 :: es, _, ⟨k, a, r, rfl, k1, k2, k3, k4⟩ => ⟨k, a, _, rfl, k1, k2, k3, QQ h1 h2 h3 k4⟩
theorem Un (H : Hyp hp nx φ ow w) {cl : Bool} {t : TypeId} {out : Out} (hr : (Gu P cl t nx).run hp = some out) : ∃ u w', (Instr.makeMap t none).run P w = .ok u w' /\ Au out nx φ ow w u w' := by
 have hrun : (Instr.makeMap t none).run P w = .ok (.map (some w.heap.size)) (w.alloc (.map #[] 0)) := rfl
 have E := Ext.new (w' := w.alloc (.map #[] 0)) H [] (.map (some w.heap.size)) rfl rfl rfl rfl
 unfold Gu at hr
 split at hr
 ·rename_i K hk
  simp only [Req.run, Option.some.injEq] at hr
  subst hr
  refine ⟨_, _, hrun, _, _, E, ⟨_, AP _, rfl⟩, ?_⟩
  intro p hp
  simp only [List.mem_singleton] at hp
  subst hp
  exact ⟨w.heap.size, #[], 0, AP _, by simp [BJ], CU (w' := w.alloc (.map #[] 0)) rfl, rfl⟩
 ·split at hr
  ·rename_i K V _ hk
   simp only [Req.run, Option.some.injEq] at hr
   subst hr
   obtain ⟨_, _, _, _, _, _, _, _, hV, _⟩ := El (ow := ow) (w := w) hk
   refine ⟨_, _, hrun, _, _, E, ⟨_, AP _, rfl⟩, ?_⟩
   intro p hp
   simp only [List.mem_singleton] at hp
   subst hp
   exact ⟨w.heap.size, #[], 0, AP _, by simp [BJ], CU (w' := w.alloc (.map #[] 0)) rfl, hV, rfl⟩
  ·exact Ul H hr
theorem XH (H : Hyp hp nx φ ow w) {t : TypeId} {m ix : AV} {vm vi : Value} {ok : Bool} {out : Out} (hr : (Ia P t m ix ok nx).run hp = some out) (hm : m.holds φ ow w [vm]) (hx : ix.holds φ ow w [vi]) (hobl : ∀ p ∈ out.Bu, p) :
  ∃ u, (Instr.lookup t vm vi ok).run P w = .ok u w /\ Au out nx φ ow w u w := by
 unfold Ia at hr
 split at hr
 ·rename_i id
  simp only [Req.run] at hr
  have hm' := hm
  obtain ⟨g, hφ, e'⟩ := hm
  injection e' with e'
  subst e'
  have hch := H.chunk id
  split at hr
  ·rename_i K l hc
   rw [hc] at hch
   split at hr <;> try (simp [Req.run] at hr; done)
   rename_i K2 hk
   split at hr <;> try (simp [Req.run] at hr; done)
   rename_i hKK
   subst hKK
   split at hr <;> try (simp [Req.run] at hr; done)
   rename_i n hn
   obtain ⟨rfl, hfit⟩ := Dz hn hx
   split at hr <;> try (simp [Req.run] at hr; done)
   rename_i a ha
   simp only [Req.ret, Req.run, Option.some.injEq] at hr
   subst hr
   obtain ⟨g', es, clock, hφ', h1, h2, h4⟩ := hch
   rw [hφ] at hφ'
   injection hφ' with hφ'; injection hφ' with hφ'; injection hφ' with hφ'
   subst hφ'
   obtain ⟨kt, e, m1, m2⟩ := Gz hk
   have hck := fun b => CO (w := w) m2 n b
   have hfk := Cf (w := w) (V := .unit) (n := n) m2 (Il h4)
   rcases Im (n := n) es.toList l 0 h4 with ⟨k1, _⟩ | ⟨j, e0, a', k1, k2, k3⟩
   ·rw [ha] at k1; cases k1
   ·rw [ha] at k1
    injection k1 with k1
    subst k1
    rw [k2] at hfk
    cases ok with
    | false => exact ⟨e0.val, by simp [Instr.lookup, run_underlying m1, MapKept.run_getObj_map h2, hck, hfk], Au.pure H rfl k3⟩
    | true =>
     refine ⟨.tuple #[e0.val, .bool true], by simp [Instr.lookup, run_underlying m1, MapKept.run_getObj_map h2, hck, hfk], Au.pure H rfl ?_⟩
     exact ⟨#[e0.val, .bool true], rfl, e0.val, [.bool true], rfl, k3, .bool true, [], rfl, ⟨rfl, rfl, rfl⟩, rfl⟩
  ·rename_i K V l hc
   split at hr
   ·rename_i K2 V2 hk
    rw [hc] at hch
    split at hr <;> try (simp [Req.run] at hr; done)
    rename_i hV
    subst hV
    split at hr <;> try (simp [Req.run] at hr; done)
    rename_i hKK
    subst hKK
    split at hr <;> try (simp [Req.run] at hr; done)
    rename_i n hn
    obtain ⟨rfl, hfit⟩ := Dz hn hx
    obtain ⟨g', es, clock, hφ', h1, h2, h3, h4⟩ := hch
    rw [hφ] at hφ'
    injection hφ' with hφ'; injection hφ' with hφ'; injection hφ' with hφ'
    subst hφ'
    obtain ⟨q0, u, q1, q2⟩ := Zu (El hk) h2 h4 hr
    exact ⟨u, q1, Au.pure H q0 q2⟩
   ·exact Ij H hr hm' hx hobl
  ·exact Ij H hr hm' hx hobl
 ·exact Ij H hr hm hx hobl
theorem Ext.Uo (H : Hyp hp nx φ ow w) (S : List Nat) {id g : Nat} (hg : ow g = some id) (hS : id ∉ S) {es : Array MapEntry} {clock : Nat} (h2 : w.heap[g]? = some (.map es clock)) (o : Obj) :
  Ext (id :: S) nx φ ow w φ (AM S ow) { w with heap := w.heap.setIfInBounds g o } := by
 obtain ⟨hs1, hs2⟩ := MapKept.heap_set (o' := o) h2
 refine ⟨by simp, rfl, rfl, rfl, ?_, ?_, Aw.refl _, fun i hi => rfl⟩
 ·intro b hb h
  have hbg : b ≠ g := fun e => by subst e; exact h id hg (by simp)
  refine ⟨?_, hs2 b hbg⟩
  cases ho : ow b with
  | none => exact Ay.2 (.inl ho)
  | some i => exact Aj.2 ⟨ho, fun hi => h i ho (List.mem_cons_of_mem _ hi)⟩
 ·intro b i h
  have ho := (Aj.1 h).1
  exact ⟨by simpa using (H.own b i ho).1, .inr ⟨(H.own b i ho).1, ho⟩⟩
theorem Pe (S : List Nat) {id g : Nat} (hg : ow g = some id) (hS : id ∉ S) {es : Array MapEntry} {clock : Nat} (h2 : w.heap[g]? = some (.map es clock)) (o : Obj) : A8 (AM S ow) w (AM S ow) { w with heap := w.heap.setIfInBounds g o } := by
 refine ⟨by simp, fun b hb h => ⟨h, (MapKept.heap_set (o' := o) h2).2 b ?_⟩⟩
 intro e
 subst e
 rw [Aj.2 ⟨hg, hS⟩] at h
 cases h
theorem NW (H : Hyp hp nx φ ow w) {t : TypeId} {m ix x : AV} {vm vi vx : Value} {out : Out} (hr : (F5 P t m ix x).run hp = some out) (hm : m.holds φ ow w [vm]) (hi : ix.holds φ ow w [vi]) (hx : x.holds φ ow w [vx]) :
  ∃ w', (Instr.mapUpdate t vm vi vx).run P w = .ok () w' /\ Au out nx φ ow w undef w' := by
 unfold F5 at hr
 split at hr
 ·rename_i id
  simp only [Req.run] at hr
  have hm' := hm
  obtain ⟨g, hφ, e'⟩ := hm
  injection e' with e'
  subst e'
  have hch := H.chunk id
  split at hr
  ·rename_i K l hc
   rw [hc] at hch
   split at hr <;> try (simp [Req.run] at hr; done)
   rename_i K2 hk
   split at hr <;> try (simp [Req.run] at hr; done)
   rename_i hKK
   subst hKK
   split at hr <;> try (simp [Req.run] at hr; done)
   rename_i n hn
   obtain ⟨rfl, hfit⟩ := Dz hn hi
   split at hr <;> try (simp [Req.run] at hr; done)
   rename_i ha
   split at hr <;> try (simp [Req.run] at hr; done)
   simp only [Req.run, Option.some.injEq] at hr
   subst hr
   obtain ⟨g', es, clock, hφ', h1, h2, h4⟩ := hch
   rw [hφ] at hφ'
   injection hφ' with hφ'; injection hφ' with hφ'; injection hφ' with hφ'
   subst hφ'
   obtain ⟨kt, e, m1, m2⟩ := Gz hk
   have hck := fun b => CO (w := w) m2 n b
   have hfk := Cf (w := w) (V := .unit) (n := n) m2 (Il h4)
   rcases Im (n := n) es.toList l 0 h4 with ⟨_, k2⟩ | ⟨j, e0, a', k1, _, _⟩
   ·rw [k2] at hfk
    have E := Ext.Uo H [] h1 (by simp) h2 (.map (es.push { key := B7 K2 n, val := vx, born := clock }) (clock + 1))
    rw [Fb] at E
    refine ⟨{ w with heap := w.heap.setIfInBounds g (.map (es.push { key := B7 K2 n, val := vx, born := clock }) (clock + 1)) }, ?_, φ, ow, E, rfl, ?_⟩
    ·simp [Instr.mapUpdate, run_underlying m1, MapKept.run_getObj_map h2, hck, hfk, MapKept.run_setObj_map _ h2]
    ·intro p hp
     simp only [List.mem_singleton] at hp
     subst hp
     refine ⟨g, _, _, hφ, h1, (MapKept.heap_set h2).1, ?_⟩
     rw [Array.toList_push]
     exact QQ rfl hfit (AV.Ab (Aw.refl _) E.keep hx) (IV (Aw.refl _) E.keep h4)
   ·rw [ha] at k1; cases k1
  ·rename_i K V l hc
   split at hr
   ·rename_i K2 V2 hk
    rw [hc] at hch
    split at hr <;> try (simp [Req.run] at hr; done)
    rename_i hV
    subst hV
    split at hr <;> try (simp [Req.run] at hr; done)
    rename_i hKK
    subst hKK
    split at hr <;> try (simp [Req.run] at hr; done)
    rename_i n hn
    obtain ⟨rfl, hfit⟩ := Dz hn hi
    obtain ⟨g', es, clock, hφ', h1, h2, h3, h4⟩ := hch
    rw [hφ] at hφ'
    injection hφ' with hφ'; injection hφ' with hφ'; injection hφ' with hφ'
    subst hφ'
    obtain ⟨y, c', u, cs1, cs2, e1, hc', hr1, hy, hsl⟩ := Cc H V2 (.cons x .nil) _ [vx] out ⟨vx, [], rfl, hx, rfl⟩ hr
    split at hr1 <;> try (simp [Req.run] at hr1; done)
    split at hr1 <;> try (simp [Req.run] at hr1; done)
    rename_i hmem
    simp only [Req.run, Option.some.injEq] at hr1
    subst hr1
    have hid : id ∉ ids u := fun h => hmem (Am.2 h)
    have hcs2 : cs2 = [] := hc'
    subst hcs2
    rw [List.append_nil] at e1
    subst e1
    obtain ⟨kt, e, z, i, m1, m2, m3, m4, m5, m6⟩ := El (ow := ow) (w := w) hk
    have hck := fun b => CO (w := w) m2 n b
    have hfk := Cf (w := w) (n := n) m2 h4
    have fin : ∀ (es' : Array MapEntry) (clock' : Nat), (Instr.mapUpdate t (.map (some g)) (B7 K2 n) vx).run P w = .ok () { w with heap := w.heap.setIfInBounds g (.map es' clock') } ->
      (∀ ow' w', A8 ow w ow' w' -> V2.rep ow' w' [vx] y -> Gp ow' w' K2 V2 es'.toList (@A4 _ _ K2.eqD y l n)) -> ∃ w', (Instr.mapUpdate t (.map (some g)) (B7 K2 n) vx).run P w = .ok () w' /\ Au ⟨[l.length < lim], .raw undef, (id, .mp K2 V2 (@A4 _ _ K2.eqD y l n)) :: u⟩ nx φ ow w undef w' := by
     intro es' clock' hrun hents
     have K1 := Pe (ids u) h1 hid h2 (.map es' clock')
     refine ⟨_, hrun, φ, _, Ext.Uo H (ids u) h1 hid h2 (.map es' clock'), rfl, ?_⟩
     intro p hp
     rcases List.mem_cons.1 hp with rfl | hp
     ·exact ⟨g, es', clock', hφ, Aj.2 ⟨h1, hid⟩, (MapKept.heap_set h2).1, h3, hents _ _ ((An (ids u)).trans K1) (Ty.AO K1 hy)⟩
     ·exact A3.post (S := ids u) (fun i hi => hi) (Aw.refl φ) K1 hsl p hp
    rcases Hq (n := n) (d := V2.Bl) (x := y) es.toList l 0 h4 with ⟨k1, _, _, k3⟩ | ⟨j, e0, k1, k2', k3, _, _, k5⟩
    ·rw [k1] at hfk
     refine fin (es.push { key := B7 K2 n, val := vx, born := clock }) (clock + 1) ?_ ?_
     ·simp [Instr.mapUpdate, run_underlying m1, MapKept.run_getObj_map h2, hck, hfk, MapKept.run_setObj_map _ h2]
     ·intro ow' w' hk' hy'
      rw [k3, Array.toList_push]
      exact Kq rfl hfit hy' (C2 hk' h4)
    ·rw [k1, Nat.zero_add] at hfk
     have hj : es[j]? = some e0 := by simpa using k2'
     refine fin (es.modify j fun e => { e with key := B7 K2 n, val := vx }) clock ?_ ?_
     ·have hkeep := Kr (P := P) (w := w) m2 n
      simp [Instr.mapUpdate, run_underlying m1, MapKept.run_getObj_map h2, hck, hfk, MapKept.run_setObj_map _ h2, hj, k3, hkeep]
     ·intro ow' w' hk' hy'
      rw [Array.toList_modify]
      exact k5 ow' w' vx hk' hy'
   ·exact Ik H hr hm' hi hx
  ·exact Ik H hr hm' hi hx
 ·exact Ik H hr hm hi hx
theorem NX {t e : TypeId} {k : IntKind} {i : TypeInfo} (hu : P.underlying t = some (.array 2 e)) (he : P.underlying e = some (.int k)) (hi : P.info? e = some i) (hs : i.size = 1) (a b c d : Int) :
  (Op.equal t (.agg #[.int k a, .int k b]) (.agg #[.int k c, .int k d])).run P w = .ok (a == c && b == d) w := by
 have p0 : ∀ x y : Int, (part e #[.int k x, .int k y] 0).run P w = .ok (.int k x) w := fun x y => by
  simp [part, isAgg, run_underlying he]
 have p1 : ∀ x y : Int, (part e #[.int k x, .int k y] 1).run P w = .ok (.int k y) w := fun x y => by
  simp [part, isAgg, run_underlying he]
 have q1 : ∀ x y : Int, (Op.equalIn 9999 e (.int k x) (.int k y)).run P w = .ok (x == y) w := fun x y => run_equalIn_int (P := P) w 9998 e k k x y he
 show (Op.equalIn (9999 + 1) t _ _).run P w = _
 rw [Op.equalIn]
 simp only [Sem.run_bind, run_underlying hu, Result.andThen_ok, run_sizeOf hi, hs]
 have hl : List.range' 0 2 1 = [0, 1] := rfl
 cases h1 : (a == c) <;> cases h2 : (b == d) <;> simp [Std.Legacy.Range.forIn_eq_forIn_range', Std.Legacy.Range.size, hl, p0, p1, q1, h1, h2]
theorem AHC {wr : Bool} {op : BinOp} {t : TypeId} {x y : AV} {a b : Value} {ox oy : Operand} {out : Out} (hr : (Rl P wr op t x y).run hp = some out) (hx : x.holds φ ow w [a]) (hy : y.holds φ ow w [b]) (hobl : ∀ p ∈ out.Bu, p) :
  out.upd = [] /\ ∃ u, (do eqGuard op t ox oy a b; binOp op t a b : Sem Value).run P w = .ok u w /\ out.res.holds φ ow w [u] := by
 unfold Rl at hr
 split at hr
 ·rename_i k1 a1 k2 b1 k3 c1 k4 d1
  split at hr <;> try (simp [Req.run] at hr; done)
  rename_i e hu
  split at hr <;> try (simp [Req.run] at hr; done)
  rename_i k i he hi
  split at hr <;> try (simp [Req.run] at hr; done)
  rename_i hc
  obtain ⟨rfl, rfl, rfl, rfl, hs, hm⟩ := hc
  simp only [Req.ret, Req.run, Option.some.injEq] at hr
  subst hr
  have two : ∀ {k : IntKind} {m n : Int} {v : Value}, (AV.agg (.cons (.dat (.int k) m) (.cons (.dat (.int k) n) .nil))).holds φ ow w [v] -> v = .agg #[.int k m, .int k n] := by
   rintro k m n v ⟨cs, h1, v0, r0, h2, ha, v1, r1, h3, hb, h4⟩
   injection h1 with h1
   subst h1
   obtain ⟨rfl, _⟩ := Ak ha
   obtain ⟨rfl, _⟩ := Ak hb
   have h4' : r1 = [] := h4
   subst h4'
   subst h3
   congr 1
   rw [<- Array.toArray_toList (xs := cs), h2]
  obtain rfl := two hx
  obtain rfl := two hy
  refine ⟨rfl, .bool (a1 == c1 && b1 == d1), ?_, CN _⟩
  rw [Sem.run_bind, run_eqGuard_agg w _ t ox oy _ _ hm, Result.andThen_ok]
  simp [binOp, NX hu he hi hs]
 ·exact AJY hr hx hy hobl
theorem ABC (H : Hyp hp nx φ ow w) {t : TypeId} {x : AV} {lo hi : Option AV} {v : Value} {vlo vhi : Option Value} {out : Out} (hr : (Ke P t x lo hi).run hp = some out)
  (hx : x.holds φ ow w [v]) (hlo : W7 φ ow w lo vlo) (hhi : W7 φ ow w hi vhi) (hobl : ∀ p ∈ out.Bu, p) :
  out.upd = [] /\ ∃ u, (Instr.sliceAt t v vlo vhi Option.none).run P w = .ok u w /\ out.res.holds φ ow w [u] := by
 unfold Ke at hr
 split at hr
 ·split at hr <;> try (simp [Req.run] at hr; done)
  rename_i e k b hu
  split at hr <;> try (simp [Req.run] at hr; done)
  rename_i i hinf
  simp only [Req.run, Option.some.injEq] at hr
  subst hr
  have hb : b = 0 := hobl _ (by simp)
  subst hb
  injection hx with hx
  subst hx
  obtain ⟨X, hX, hX2⟩ := Je (P := P) (w := w) (a := 0) (b := 0) (A := none) (n := 0) (c := 0) hu hinf (FO (d := 0) hlo rfl) (FO (d := 0) hhi rfl) (by omega) (by omega) (by simp) (by omega)
  refine ⟨rfl, _, hX, ?_⟩
  rcases hX2 with h | h
  ·omega
  ·subst h; rfl
 ·exact ADB H hr hx hlo hhi hobl
end
end AL
end
section
set_option linter.unusedVariables false
set_option linter.unusedSimpArgs false
namespace AL
open Go
section
variable {φ : Hnd} {ow : Own} {w : World} {P : Program} {hp : Nat -> Chunk} {nx : Nat}
theorem Ks {places : List (Nat × Nat)} : ∀ (parts : List (Nat × AV)) (ps : List (Nat × Value)) (cells c : AV) (acc : Array Value), Km φ ow w parts ps -> Kc places cells parts = some c -> cells.holds φ ow w acc.toList ->
  ∃ r, Instr.fill (places.toArray[·]?) acc ps = some r /\ c.holds φ ow w r.toList
 | [], [], cells, c, acc, _, h, hc => by
  simp only [Kc, Option.some.injEq] at h
  subst h
  exact ⟨acc, rfl, hc⟩
 | [], _ :: _, _, _, _, hps, _, _ => hps.elim
 | _ :: _, [], _, _, _, hps, _, _ => hps.elim
 | (f, x) :: parts, (f', v) :: ps, cells, c, acc, ⟨hf, hx, hps⟩, h, hc => by
  simp only at hf hx
  subst hf
  unfold Kc at h
  split at h <;> try (cases h; done)
  rename_i off size hp
  split at h <;> try (cases h; done)
  rename_i hcond
  obtain ⟨c1, c2, c3, c4⟩ := hcond
  obtain ⟨k1, k2⟩ := Hn hx c2 c3
  have hl := FV c3 k1
  have hlc := Kh hc
  simp only [Array.length_toList] at hl hlc
  have hset := Dx off c3 c4 k1 hc
  have hput := Kl off v.cells.toList 0 acc (by simp; omega)
  have hfold : (v.cells.zipIdx.foldl (fun (cs : Array Value) (c, j) => cs.setIfInBounds (off + j) c) acc).toList = acc.toList.take off ++ v.cells.toList ++ acc.toList.drop (off + v.cells.toList.length) := by
   rw [<- Array.foldl_toList, Array.toList_zipIdx]
   simpa using hput
  generalize ha : v.cells.zipIdx.foldl (fun (cs : Array Value) (c, j) => cs.setIfInBounds (off + j) c) acc = acc' at hfold
  obtain ⟨r, h1, h2⟩ := Ks parts ps _ c acc' hps h (by rw [hfold]; exact hset)
  refine ⟨r, ?_, h2⟩
  have hpl : places.toArray[f]? = some (off, size) := by simpa using hp
  have hpre : ¬ (v.cells.size ≠ size || off + v.cells.size > acc.size) = true := by
   simp
   omega
  simp only [Instr.fill, hpl]
  rw [if_neg hpre, ha]
  exact h1
theorem QR {f g : Nat -> Option (Nat × Nat)} (hfg : ∀ i p, f i = some p -> g i = some p) : ∀ (ps : List (Nat × Value)) (acc r : Array Value), Instr.fill f acc ps = some r -> Instr.fill g acc ps = some r
 | [], acc, r, h => h
 | (i, v) :: ps, acc, r, h => by
  simp only [Instr.fill] at h ⊢
  cases hf : f i with
  | none => rw [hf] at h; simp at h
  | some p =>
   obtain ⟨off, size⟩ := p
   rw [hfg i _ hf]
   rw [hf] at h
   simp only at h ⊢
   split at h
   ·cases h
   ·rename_i hc
    rw [if_neg hc]
    exact QR hfg ps _ r h
theorem ABD (H : Hyp hp nx φ ow w) {t : TypeId} {parts : List (Nat × AV)} {ps : List (Nat × Value)} {out : Out} (hr : (NM P t parts).run hp = some out) (hps : Km φ ow w parts ps) :
  out.upd = [] /\ ∃ u, (Instr.build t ps.toArray).run P w = .ok u w /\ out.res.holds φ ow w [u] := by
 unfold NM at hr
 split at hr <;> try (simp [Req.run] at hr; done)
 ·rename_i it fs hi hu
  split at hr <;> try (simp [Req.run] at hr; done)
  rename_i z places hz hpl
  split at hr <;> try (simp [Req.run] at hr; done)
  rename_i c hc
  simp only [Req.ret, Req.run, Option.some.injEq] at hr
  subst hr
  obtain ⟨r, h1, h2⟩ := Ks parts ps _ c z.cells hps hc (Bt z.cells.toList)
  refine ⟨rfl, .agg r, Go.run_build w t ps.toArray r ?_, r, rfl, h2⟩
  unfold Program.built
  simp only [hi, hu, hz, hpl]
  exact h1
 ·rename_i it m e hi hu
  split at hr <;> try (simp [Req.run] at hr; done)
  rename_i z ie hz hie
  split at hr <;> try (simp [Req.run] at hr; done)
  rename_i c hc
  simp only [Req.ret, Req.run, Option.some.injEq] at hr
  subst hr
  obtain ⟨r, h1, h2⟩ := Ks parts ps _ c z.cells hps hc (Bt z.cells.toList)
  refine ⟨rfl, .agg r, Go.run_build w t ps.toArray r ?_, r, rfl, h2⟩
  unfold Program.built
  simp only [hi, hu, hz, hie]
  refine QR (fun i p hp => ?_) _ _ _ h1
  simp only [List.getElem?_toArray, List.getElem?_map, Option.map_eq_some_iff] at hp
  obtain ⟨j, hj, rfl⟩ := hp
  rw [List.getElem?_range] at hj
  ·simp only [Option.some.injEq] at hj; subst hj; rfl
  ·exact (by have := (List.getElem?_eq_some_iff.1 hj).1; simpa using this)
theorem ADT {t : TypeId} {x ix : AV} {v vi : Value} {out : Out} (hr : (NK P t x ix).run hp = some out) (hx : x.holds φ ow w [v]) (hi : ix.holds φ ow w [vi]) (hobl : ∀ p ∈ out.Bu, p) :
  out.upd = [] /\ ∃ u, (Instr.index t v vi).run P w = .ok u w /\ out.res.holds φ ow w [u] := by
 unfold NK at hr
 split at hr <;> try (simp [Req.run] at hr; done)
 rename_i s k n hu
 obtain rfl := Kk hx
 obtain ⟨rfl, hn⟩ := Ak hi
 simp only [Req.run, Option.some.injEq] at hr
 subst hr
 simp only [List.mem_cons, List.not_mem_nil, or_false, forall_eq_or_imp, forall_eq] at hobl
 obtain ⟨h0, h1⟩ := hobl
 have hlt : n.toNat < s.size := (Int.toNat_lt h0).2 h1
 have he : s[n.toNat]? = some (s[n.toNat]'hlt) := getElem?_pos s n.toNat hlt
 refine ⟨rfl, .int .u8 ((s[n.toNat]'hlt).toNat : Int), ?_, ?_⟩
 ·simp [Instr.index, asIntOf, run_underlying hu, h0, he]
 ·unfold bAt
  rw [he]
  refine B3 ?_
  have := (s[n.toNat]'hlt).toNat_lt
  unfold IntKind.has IntKind.min IntKind.max
  simp only [IntKind.bits, IntKind.signed]
  simp
  omega
theorem ABE (H : Hyp hp nx φ ow w) {t : TypeId} {x : AV} {f : Nat} {v : Value} {out : Out} (hr : (Kd P t x f).run hp = some out) (hx : x.holds φ ow w [v]) :
  out.upd = [] /\ ∃ u, (Instr.field t v f).run P w = .ok u w /\ out.res.holds φ ow w [u] := by
 unfold Kd at hr
 split at hr <;> try (simp [Req.run] at hr; done)
 rename_i fs c hu
 split at hr <;> try (simp [Req.run] at hr; done)
 rename_i fd hfd
 split at hr <;> try (simp [Req.run] at hr; done)
 rename_i d i hd hi
 split at hr <;> try (simp [Req.run] at hr; done)
 rename_i hoff
 obtain ⟨cs, e, hc⟩ := hx
 injection e with e
 subst e
 have hlen := Kh hc
 simp only [Array.length_toList] at hlen
 unfold C3 Hg at hr
 have hdrop := Dl fd.offset hoff hc
 by_cases ha : Di d = true
 ·rw [if_pos ha] at hr
  by_cases hn : i.size <= (c.drop fd.offset).len
  ·rw [if_pos hn] at hr
   simp only [Req.ret, Req.run, Option.some.injEq] at hr
   subst hr
   have ht := Ic i.size hn hdrop
   refine ⟨rfl, .agg (cs.extract fd.offset (fd.offset + i.size)), ?_, _, rfl, ?_⟩
   ·simp [Instr.field, run_underlying hu, hfd, asAgg, part, Hm hd, ha, run_sizeOf hi]
   ·have : (cs.extract fd.offset (fd.offset + i.size)).toList = (cs.toList.drop fd.offset).take i.size := by simp
    rw [this]
    exact ht
  ·rw [if_neg hn] at hr
   simp [Req.run] at hr
 ·rw [if_neg ha] at hr
  generalize hcd : c.drop fd.offset = cd at hr hdrop
  cases cd <;> try (simp [Req.run] at hr; done)
  rename_i c' r
  simp only at hr
  split at hr
  ·rename_i v hv
   split at hv
   ·injection hv with hv
    subst hv
    simp only [Req.ret, Req.run, Option.some.injEq] at hr
    subst hr
    obtain ⟨v, rs, hcs, h1, h2⟩ := hdrop
    have hcell : cs[fd.offset]? = some v := by
     have := congrArg (·[0]?) hcs
     simpa using this
    refine ⟨rfl, v, ?_, AV.E9 h1⟩
    simp [Instr.field, run_underlying hu, hfd, asAgg, part, Hm hd, ha, hcell]
   ·cases hv
  ·simp [Req.run] at hr
end
end AL
end
section
set_option linter.unusedVariables false
set_option linter.unusedSimpArgs false
namespace AL
open Go
section
variable {φ : Hnd} {ow : Own} {w : World} {P : Program} {hp : Nat -> Chunk} {nx : Nat}
def AT (P : Program) (f : FuncId) (S : Bo) : Prop :=
 ∀ (av : AV) (nx : Nat) (hp : Nat -> Chunk) (out : Out) (φ : Hnd) (ow : Own) (w : World) (vs : Array Value), Hyp hp nx φ ow w -> av.holds φ ow w vs.toList -> (S av nx).run hp = some out -> (∀ p ∈ out.Bu, p) ->
  (callFunc f vs).run P w = .ok (.enter f vs) w /\ Calls P f vs w (fun e w' => ∃ v, e = .returned v /\ Au out nx φ ow w v w')
def DF (P : Program) (op : Op) (ty : TypeId) (ρ : Operand -> Value) (w : World) (R : Value -> World -> Prop) : Prop :=
 match (execOp ρ { dst := none, op := op, type := ty, pos := "", after := #[], guard := none }).run P w with
 | .ok (.value v) w' => R v w'
 | .ok .skip w' => R undef w'
 | .ok (.enter f args) w' => Calls P f args w' fun
  | .returned v, w'' => R v w''
  | _, _ => False
 | _ => False
def rnd (ro : Option Nat) : Fence := { Fence.wide with round := ro }
theorem Kt (ro : Option Nat) {p : Prop} : (rnd ro).depth.isSome = true -> p := fun h => by simp [rnd, Fence.wide] at h
theorem Up {ro : Option Nat} {n : Nat} {f : FuncId} {args : Array Value} {w : World} {R : Ending -> World -> Prop} (h : Calls P f args w R) : CallsIn (rnd ro) n P f args w R :=
 ⟨trivial, fun cs _ => (callsIn_wide (n := n).2 h).2 cs (room_wide _)⟩
theorem DF.wpR {ro : Option Nat} {n : Nat} {o : Oper} {a : Act} {next : Act -> World -> Prop} {Q : Exit -> Act -> World -> Prop} {R : Value -> World -> Prop} (h : DF P o.op o.type a.eval w R) (hn : ∀ v w', R v w' -> next (a.put o.dst v) w') : o.wpIn (rnd ro) n P a w next Q := by
 refine ⟨fun _ _ => trivial, ?_⟩
 have e : execOp a.eval { dst := none, op := o.op, type := o.type, pos := "", after := #[], guard := none } = execOp a.eval o := by cases o; rfl
 unfold DF at h
 rw [e] at h
 have hd : ∀ c, o.op ≠ .defer c := by
  intro c hc
  have e2 : execOp a.eval o = (do let d <- resolve a.eval c o.type; pure (Next.defer d)) := by
   cases o
   simp only at hc
   subst hc
   rfl
  rw [e2] at h
  revert h
  simp only [Sem.run_bind, Sem.run_pure]
  cases hr : (resolve a.eval c o.type).run P w with
  | halt x w' => simp [Result.andThen]
  | ok d w' => simp [Result.andThen]
 rw [Oper.semAt_eq _ _ _ hd]
 generalize (execOp a.eval o).run P w = r at h ⊢
 cases r with
 | halt x w' => exact h.elim
 | ok n w' =>
  cases n <;> try (exact h.elim)
  ·exact hn _ _ h
  ·exact hn _ _ h
  ·exact ⟨Kt ro, Up (Calls.mono h fun e w'' he => by
    cases e with
    | returned v => exact hn _ _ he
    | panicked => exact he.elim
    | outgrown => exact he.elim)⟩
theorem G0 : ∀ (l : List AV), (Dj l).Bb = true
 | [] => rfl
 | _ :: r => G0 r
theorem Cq {ev : Operand -> AV} {ρ : Operand -> Value} (h : ∀ x, (ev x).holds φ ow w [ρ x]) : ∀ (l : List Operand), (Dj (l.map ev)).holds φ ow w (l.map ρ)
 | [] => rfl
 | x :: r => ⟨_, _, rfl, h x, Cq h r⟩
theorem NY {ev : Operand -> AV} {ρ : Operand -> Value} (h : ∀ x, (ev x).holds φ ow w [ρ x]) : ∀ (l : List Operand), W8 φ ow w (l.map ev) (l.map ρ)
 | [] => trivial
 | x :: r => ⟨h x, NY h r⟩
theorem Io {ev : Operand -> AV} {ρ : Operand -> Value} (h : ∀ x, (ev x).holds φ ow w [ρ x]) : ∀ (l : List (Nat × Operand)), Km φ ow w (l.map fun p => (p.1, ev p.2)) (l.map fun p => (p.1, ρ p.2))
 | [] => trivial
 | x :: r => ⟨rfl, h x.2, Io h r⟩
theorem As {op : Op} {ty : TypeId} {ρ : Operand -> Value} {s : Sem Value} (he : execOp ρ { dst := none, op := op, type := ty, pos := "", after := #[], guard := none } = (do pure (Next.value (<- s)))) {R : Value -> World -> Prop} {u : Value} {w' : World}
  (hr : s.run P w = .ok u w') (h : R u w') : DF P op ty ρ w R := by
 unfold DF
 rw [he]
 simp [hr, h]
theorem XI (H : Hyp hp nx φ ow w) {b : Builtin} {ts : Array TypeId} {ty : TypeId} {consts : Array Bool} {args : List AV} {vs : List Value} {out : Out} (hr : (Ib P b ts.toList args nx).run hp = some out) (ha : W8 φ ow w args vs) (hobl : ∀ p ∈ out.Bu, p) :
  ∃ u w', (builtin b ts ty consts vs.toArray).run P w = .ok (.value u) w' /\ Au out nx φ ow w u w' := by
 have ets : ts = ts.toList.toArray := by simp
 unfold Ib at hr
 split at hr <;> try (simp [Req.run] at hr; done)
 ·rename_i t x h1
  rw [ets, h1]
  match vs, ha with
  | [v], ⟨h, _⟩ =>
   obtain ⟨h1, u, h2, h3⟩ := AG9 H (ty := ty) hr h hobl
   exact ⟨u, w, by simp [builtin, h2], Au.pure H h1 h3⟩
 ·rename_i t t2 s x h1
  rw [ets, h1]
  match vs, ha with
  | [v, v2], ⟨h, h', _⟩ =>
   obtain ⟨u, w', h2, h3⟩ := XE H (ty := ty) hr h h' hobl
   exact ⟨u, w', by simp [builtin, h2], h3⟩
 ·rename_i t t2 s x h1
  rw [ets, h1]
  match vs, ha with
  | [v, v2], ⟨h, h', _⟩ =>
   obtain ⟨u, w', h2, h3⟩ := AHB H (ty := ty) (t2 := t2) hr h h' hobl
   exact ⟨u, w', by simp [builtin, h2], h3⟩
 ·rename_i k a r
  match vs, ha with
  | v :: vs, ⟨h, h'⟩ =>
   obtain ⟨rfl, hk⟩ := Ak h
   obtain ⟨h1, h2, u, h3, h4⟩ := Rr (f := min2) (g := Builtin.min2) (fun a b => ADF a b) (fun k a b => rfl) hr h' hk
   have e : (Builtin.min_ ts ty (Value.int k a :: vs).toArray).run P w = .ok u w := h3
   exact ⟨u, w, by simp [builtin, e], Au.pure H h2 h4⟩
 ·rename_i k a r
  match vs, ha with
  | v :: vs, ⟨h, h'⟩ =>
   obtain ⟨rfl, hk⟩ := Ak h
   obtain ⟨h1, h2, u, h3, h4⟩ := Rr (f := max2) (g := Builtin.max2) (fun a b => ADG a b) (fun k a b => rfl) hr h' hk
   have e : (Builtin.max_ ts ty (Value.int k a :: vs).toArray).run P w = .ok u w := h3
   exact ⟨u, w, by simp [builtin, e], Au.pure H h2 h4⟩
theorem Uq (H : Hyp hp nx φ ow w) {b : Builtin} {ts : Array TypeId} {ty : TypeId} {consts : Array Bool} {args : List AV} {vs : List Value} {out : Out} (hr : (Gw P b ts.toList args nx).run hp = some out) (ha : W8 φ ow w args vs) (hobl : ∀ p ∈ out.Bu, p) :
  ∃ u w', (builtin b ts ty consts vs.toArray).run P w = .ok (.value u) w' /\ Au out nx φ ow w u w' := by
 unfold Gw at hr
 split at hr
 ·rename_i t h1
  have ets : ts = ts.toList.toArray := by simp
  rw [ets, h1]
  split at hr <;> try (simp [Req.run] at hr; done)
  rename_i e hu
  simp only [Req.ret, Req.run, Option.some.injEq] at hr
  subst hr
  match vs, ha with
  | [v], ⟨h, _⟩ =>
   injection h with h
   subst h
   exact ⟨.int .i64 0, w, by simp [builtin, Builtin.cap_, run_underlying hu, goInt], Au.pure H rfl ⟨rfl, rfl, rfl, by constructor <;> decide⟩⟩
 ·exact XI H hr ha hobl
theorem AKe (H : Hyp hp nx φ ow w) {S : FuncId -> Bo} (hS : ∀ f, AT P f (S f)) {wr : Md} {op : Op} {ty : TypeId} {ev : Operand -> AV} {ρ : Operand -> Value} {out : Out}
  (hr : (Br P S wr op ev nx).run hp = some out) (hev : ∀ x, (ev x).holds φ ow w [ρ x]) (hobl : ∀ p ∈ out.Bu, p) : DF P op ty ρ w (Au out nx φ ow w) := by
 unfold Br at hr
 split at hr <;> try (simp [Req.run] at hr; done)
 ·-- move
  rename_i x
  simp only [Req.ret, Req.run, Option.some.injEq] at hr
  subst hr
  exact Au.pure H rfl (hev x)
 ·rename_i x
  simp only [Req.ret, Req.run, Option.some.injEq] at hr
  subst hr
  exact Au.pure H rfl (hev x)
 ·-- pick
  rename_i c a b
  have hc := hev c
  have hA := hev a
  have hB := hev b
  have key : ∀ b', ρ c = .bool b' -> ∀ u, u = (if b' then ρ a else ρ b) -> out.upd = [] -> out.res.holds φ ow w [u] -> DF P (.pick c a b) ty ρ w (Au out nx φ ow w) := by
   intro b' h1 u h2 h3 h4
   refine As (s := do pure (if <- asBool (ρ c) then ρ a else ρ b)) (u := if b' then ρ a else ρ b) (w' := w) ?_ (by simp [h1, asBool]) (Au.pure H h3 ?_)
   ·simp [execOp]
   ·rw [<- h2]; exact h4
  split at hr <;> try (simp [Req.run] at hr; done)
  ·rename_i c' x y e1 e2 e3
   rw [e1] at hc
   rw [e2] at hA
   rw [e3] at hB
   have h1 := BL hc
   simp only [Req.ret, Req.run, Option.some.injEq] at hr
   subst hr
   refine key c' h1 _ rfl rfl ?_
   cases c'
   ·simpa using hB
   ·simpa using hA
  ·rename_i e1 _
   rw [e1] at hc
   simp only [Req.ret, Req.run, Option.some.injEq] at hr
   subst hr
   exact key true (BL hc) _ rfl rfl (by simpa using hA)
  ·rename_i e1 _
   rw [e1] at hc
   simp only [Req.ret, Req.run, Option.some.injEq] at hr
   subst hr
   exact key false (BL hc) _ rfl rfl (by simpa using hB)
 ·-- alloc
  rename_i e
  obtain ⟨_, u, w', h1, h2⟩ := ADI H hr
  exact As (s := Instr.alloc e true (.tuple #[])) rfl h1 h2
 ·rename_i e x
  obtain ⟨_, u, w', h1, h2⟩ := AJb H hr (hev x)
  exact As (s := Instr.box e (ρ x)) rfl h1 h2
 ·rename_i t a
  obtain ⟨u, h1, h2⟩ := ADM H hr (hev a) hobl
  exact As (s := Instr.loadAt t (ρ a)) rfl h1 h2
 ·rename_i t a x
  obtain ⟨w', h1, h2⟩ := AA7 H hr (hev a) (hev x) hobl
  unfold DF
  simp [execOp, h1, h2]
 ·-- nilCheck
  rename_i x
  have hx := hev x
  split at hr <;> try (simp [Req.run] at hr; done)
  ·rename_i id off e
   rw [e] at hx
   simp only [Req.ret, Req.run, Option.some.injEq] at hr
   subst hr
   obtain ⟨g, h1, h2⟩ := (show _ from hx)
   injection h2 with h2
   unfold DF
   simp only [execOp, h2, Sem.run_pure]
   rw [<- h2]
   exact Au.pure H rfl hx
  ·rename_i id sz i off e
   rw [e] at hx
   simp only [Req.ret, Req.run, Option.some.injEq] at hr
   subst hr
   obtain ⟨g, n, c, h1, _, _, h2⟩ := (show _ from hx)
   injection h2 with h2
   unfold DF
   simp only [execOp, h2, Sem.run_pure]
   rw [<- h2]
   exact Au.pure H rfl hx
  ·rename_i T y e
   rw [e] at hx
   simp only [Req.ret, Req.run, Option.some.injEq] at hr
   subst hr
   obtain ⟨g, o, cs, h2, _⟩ := (show _ from hx)
   injection h2 with h2
   unfold DF
   simp only [execOp, h2, Sem.run_pure]
   rw [<- h2]
   exact Au.pure H rfl hx
  ·rename_i T y e
   rw [e] at hx
   simp only [Req.ret, Req.run, Option.some.injEq] at hr
   subst hr
   obtain ⟨_, _, g, o, h2, g1, g2, cs', g3, g4⟩ := (show _ from hx)
   injection h2 with h2
   unfold DF
   simp only [execOp, h2, Sem.run_pure]
   exact Au.pure H rfl ⟨g, o, cs', rfl, g1, g2, g3, g4⟩
 ·rename_i s x f
  obtain ⟨_, h0, u, h1, h2⟩ := AC9 hr (hev x)
  exact As (s := Instr.fieldAt s (ρ x) f) rfl h1 (Au.pure H h0 h2)
 ·rename_i t x i
  obtain ⟨h0, u, h1, h2⟩ := AA6 H hr (hev x) (hev i) hobl
  exact As (s := Instr.indexAt t (ρ x) (ρ i)) rfl h1 (Au.pure H h0 h2)
 ·rename_i o t x y _
  unfold Zp at hr
  cases hn : W3 o y with
  | true =>
   rw [hn, cond_true] at hr
   have hx := hev x
   have hy := hev y
   unfold W3 at hn
   split at hn <;> try (cases hn; done)
   unfold Zo at hr
   split at hr <;> try (simp [Req.run] at hr; done)
   rename_i e1 e2
   rw [e1] at hx
   rw [e2] at hy
   split at hr <;> try (simp [Req.run] at hr; done)
   rename_i ms hu
   simp only [Req.ret, Req.run, Option.some.injEq] at hr
   subst hr
   have hx' : ρ x = .nilIface := by injection hx
   have hy' : ρ (.const .nilIface) = .nilIface := by injection hy
   have hq : (binOp .eql t .nilIface .nilIface : Sem Value).run P w = .ok (.bool true) w := by
    have h : ∀ d : Nat, (Op.equalIn (d + 1) t .nilIface .nilIface).run P w = .ok true w := fun d => by simp [Op.equalIn, run_underlying hu]
    simp [binOp, Op.equal, Op.maxDepth, h]
   refine As (s := do eqGuard .eql t x (.const .nilIface) (ρ x) (ρ (.const .nilIface)); binOp .eql t (ρ x) (ρ (.const .nilIface))) rfl (u := .bool true) (w' := w) ?_ (Au.pure H rfl (CN _))
   rw [hx', hy', Sem.run_bind]
   simp [eqGuard, hq]
  | false =>
  rw [hn, cond_false] at hr
  split at hr
  ·obtain ⟨h0, u, h1, h2⟩ := AJZ (P := P) (t := t) (ox := x) (oy := y) hr (hev x) (hev y) hobl
   exact As (s := do eqGuard .shr t x y (ρ x) (ρ y); binOp .shr t (ρ x) (ρ y)) rfl h1 (Au.pure H h0 h2)
  ·obtain ⟨h0, u, h1, h2⟩ := AJa (P := P) (t := t) (ox := x) (oy := y) hr (hev x) (hev y) hobl
   exact As (s := do eqGuard .shl t x y (ρ x) (ρ y); binOp .shl t (ρ x) (ρ y)) rfl h1 (Au.pure H h0 h2)
  ·obtain ⟨h0, u, h1, h2⟩ := AHC (ox := x) (oy := y) hr (hev x) (hev y) hobl
   exact As (s := do eqGuard o t x y (ρ x) (ρ y); binOp o t (ρ x) (ρ y)) rfl h1 (Au.pure H h0 h2)
 ·rename_i o _ x
  obtain ⟨h0, u, h1, h2⟩ := AKc hr (hev x) hobl
  exact As (s := Op.unary o (ρ x)) rfl h1 (Au.pure H h0 h2)
 ·rename_i t x i
  obtain ⟨h0, u, h1, h2⟩ := ADT hr (hev x) (hev i) hobl
  exact As (s := Instr.index t (ρ x) (ρ i)) rfl h1 (Au.pure H h0 h2)
 ·rename_i s d x
  obtain ⟨h0, u, h1, h2⟩ := ADS H hr (hev x)
  exact As (s := convert s d (ρ x)) rfl h1 (Au.pure H h0 h2)
 ·rename_i t len parts
  obtain ⟨u, w', h1, h2⟩ := ADJ H hr (Io hev parts.toList)
  refine As (s := Instr.buildSlice t len (parts.map fun (i, x) => (i, ρ x))) rfl ?_ h2
  rw [<- h1]
  congr 2
  rw [<- Array.toList_map, Array.toArray_toList]
 ·rename_i t
  obtain ⟨u, w', h1, h2⟩ := Un H hr
  exact As (s := Instr.makeMap t none) rfl h1 h2
 ·rename_i t n
  obtain ⟨u, w', h1, h2⟩ := Um H hr (hev n) hobl
  exact As (s := Instr.makeChan t (ρ n)) rfl h1 h2
 ·rename_i t m k ok
  obtain ⟨u, h1, h2⟩ := XH H hr (hev m) (hev k) hobl
  exact As (s := Instr.lookup t (ρ m) (ρ k) ok) rfl h1 h2
 ·rename_i t m k x
  obtain ⟨w', h1, h2⟩ := NW H hr (hev m) (hev k) (hev x)
  unfold DF
  simp [execOp, h1, h2]
 ·rename_i t m k x
  obtain ⟨w', h1, h2⟩ := NW H hr (hev m) (hev k) (hev x)
  unfold DF
  simp [execOp, h1, h2]
 ·rename_i t parts
  obtain ⟨h0, u, h1, h2⟩ := ABD H hr (Io hev parts.toList)
  refine As (s := Instr.build t (parts.map fun (i, x) => (i, ρ x))) rfl ?_ (Au.pure H h0 h2)
  rw [<- h1]
  congr 2
  rw [<- Array.toList_map, Array.toArray_toList]
 ·rename_i t x f
  obtain ⟨h0, u, h1, h2⟩ := ABE H hr (hev x)
  exact As (s := Instr.field t (ρ x) f) rfl h1 (Au.pure H h0 h2)
 ·rename_i t l c
  obtain ⟨u, w', h1, h2⟩ := AG8 H hr (hev l) (hev c) hobl
  exact As (s := Instr.makeSlice t (ρ l) (ρ c)) rfl h1 h2
 ·rename_i t x lo hi mx
  split at hr <;> try (simp [Req.run] at hr; done)
  obtain ⟨h0, u, h1, h2⟩ := ABC H (vlo := lo.map ρ) (vhi := hi.map ρ) hr (hev x) (by cases lo <;> simp [W7, hev]) (by cases hi <;> simp [W7, hev]) hobl
  exact As (s := Instr.sliceAt t (ρ x) (lo.map ρ) (hi.map ρ) Option.none) rfl h1 (Au.pure H h0 h2)
 ·rename_i f first captured
  split at hr <;> try (simp [Req.run] at hr; done)
  ·rename_i hf
   simp only [Req.ret, Req.run, Option.some.injEq] at hr
   subst hr
   have hf' : first = #[] := by rw [<- Array.toArray_toList (xs := first), hf]
   subst hf'
   refine As (s := Instr.makeFunc (.func f) (#[].map ρ) (captured.map ρ)) rfl (u := .func (.func f) #[] (captured.map ρ)) (w' := w) (by simp [Instr.makeFunc]) (Au.pure H rfl ⟨captured.map ρ, rfl, ?_⟩)
   simpa using Cq hev captured.toList
  ·rename_i x hf
   have hf' : first = #[x] := by rw [<- Array.toArray_toList (xs := first), hf]
   subst hf'
   split at hr <;> try (simp [Req.run] at hr; done)
   ·rename_i id e hc
    have hx := hev x
    rw [e] at hx
    obtain ⟨g, h1, h2⟩ := hx
    injection h2 with h2
    have hc' : captured = #[] := by rw [<- Array.toArray_toList (xs := captured), hc]
    subst hc'
    simp only [Req.ret, Req.run, Option.some.injEq] at hr
    subst hr
    refine As (s := Instr.makeFunc (.func f) (#[x].map ρ) (#[].map ρ)) rfl (u := .func (.func f) #[.pointer (some ⟨g, 0, none⟩)] #[]) (w' := w) (by simp [Instr.makeFunc, h2]) (Au.pure H rfl ⟨g, h1, rfl⟩)
   ·rename_i k n e hc
    have hx := hev x
    rw [e] at hx
    obtain ⟨cs, h1, v0, r0, h2, h3, h4⟩ := hx
    injection h1 with h1
    obtain ⟨rfl, hn⟩ := Ak h3
    have h4' : r0 = [] := h4
    subst h4'
    have hcs : cs = #[.int k n] := by rw [<- Array.toArray_toList (xs := cs), h2]
    subst hcs
    have hc' : captured = #[] := by rw [<- Array.toArray_toList (xs := captured), hc]
    subst hc'
    simp only [Req.ret, Req.run, Option.some.injEq] at hr
    subst hr
    refine As (s := Instr.makeFunc (.func f) (#[x].map ρ) (#[].map ρ)) rfl (u := .func (.func f) #[.agg #[.int k n]] #[]) (w' := w) (by simp [Instr.makeFunc, h1]) (Au.pure H rfl rfl)
 ·rename_i x i
  unfold NN at hr
  split at hr <;> try (simp [Req.run] at hr; done)
  rename_i l e
  split at hr <;> try (simp [Req.run] at hr; done)
  rename_i hi
  simp only [Req.ret, Req.run, Option.some.injEq] at hr
  subst hr
  have hx := hev x
  rw [e] at hx
  obtain ⟨cs, h1, h2⟩ := hx
  injection h1 with h1
  have hlen := Kh h2
  simp only [Array.length_toList] at hlen
  refine As (s := Instr.extract (ρ x) i) rfl (u := cs.toList.getD i undef) (w' := w) ?_ (Au.pure H rfl (QK i hi h2))
  have : i < cs.size := by omega
  simp [Instr.extract, h1, this]
 ·-- call
  rename_i c
  split at hr <;> try (simp [Req.run] at hr; done)
  ·rename_i b hb
   have hh : ∀ consts, ∃ u w', (builtin b c.argTypes ty consts (c.args.map ρ)).run P w = .ok (.value u) w' /\ Au out nx φ ow w u w' := by
    intro consts
    have := Uq H (ty := ty) (consts := consts) hr (NY hev c.args.toList) hobl
    rwa [show (c.args.toList.map ρ).toArray = c.args.map ρ from by rw [<- Array.toList_map, Array.toArray_toList]] at this
   unfold DF
   simp only [execOp, resolve, hb, invoke, Sem.run_bind, Sem.run_pure, Result.andThen_ok]
   obtain ⟨u, w', h1, h2⟩ := hh _
   have fin : ∀ r : Result Next, r = .ok (.value u) w' -> (match r with
    | .ok (.value v) w' => Au out nx φ ow w v w'
    | .ok .skip w' => Au out nx φ ow w undef w'
    | .ok (.enter f args) w' => Calls P f args w' fun
     | .returned v, w'' => Au out nx φ ow w v w''
     | _, _ => False
    | _ => False) := by
    intro r hr
    subst hr
    exact h2
   exact fin _ h1
  ·rename_i f hf
   split at hr <;> try (simp [Req.run] at hr; done)
   ·rename_i g caps e
    have hfv := hev f
    rw [e] at hfv
    obtain ⟨cs, h1, h2⟩ := hfv
    injection h1 with h1
    have hargs : ((Dj (c.args.toList.map ev)).app caps).holds φ ow w (c.args.map ρ ++ cs).toList := by
     simpa using FW (G0 _) (Cq hev c.args.toList) h2
    obtain ⟨hc, hcalls⟩ := hS g _ nx hp out φ ow w (c.args.map ρ ++ cs) H hargs hr hobl
    unfold DF
    simp only [execOp, resolve, hf, h1, Deferred.ofValue, Sem.run_bind, Sem.run_pure, Result.andThen_ok, invoke, Array.empty_append, hc]
    exact Calls.mono hcalls fun e' w' ⟨v, he, hp⟩ => by subst he; exact hp
   ·rename_i g e
    have hfv := hev f
    rw [e] at hfv
    obtain ⟨_, _, hr0⟩ := hfv
    injection hr0 with h1
    have hargs : ((Dj (c.args.toList.map ev)).app .nil).holds φ ow w (c.args.map ρ ++ #[]).toList := by
     simpa using FW (m := .nil) (ds := []) (G0 _) (Cq hev c.args.toList) rfl
    obtain ⟨hc, hcalls⟩ := hS g _ nx hp out φ ow w (c.args.map ρ ++ #[]) H hargs hr hobl
    unfold DF
    simp only [execOp, resolve, hf, h1, Deferred.ofValue, Sem.run_bind, Sem.run_pure, Result.andThen_ok, invoke, Array.empty_append, hc]
    exact Calls.mono hcalls fun e' w' ⟨v, he, hp⟩ => by subst he; exact hp
   ·rename_i id g e
    have hfv := hev f
    rw [e] at hfv
    obtain ⟨b, h1, h2⟩ := hfv
    injection h2 with h2
    have hargs : (AV.cons (.ref id 0) (Dj (c.args.toList.map ev))).holds φ ow w ((#[Value.pointer (some ⟨b, 0, none⟩)] : Array Value) ++ c.args.map ρ).toList := by
     refine ⟨.pointer (some ⟨b, 0, none⟩), (c.args.map ρ).toList, by simp, ⟨b, h1, rfl⟩, ?_⟩
     simpa using Cq hev c.args.toList
    obtain ⟨hc, hcalls⟩ := hS g _ nx hp out φ ow w _ H hargs hr hobl
    unfold DF
    simp only [execOp, resolve, hf, h2, Deferred.ofValue, Sem.run_bind, Sem.run_pure, Result.andThen_ok, invoke, Array.append_empty, hc]
    exact Calls.mono hcalls fun e' w' ⟨v, he, hp⟩ => by subst he; exact hp
   ·rename_i v e
    split at hr <;> try (simp [Req.run] at hr; done)
    rename_i g k n hb
    have hin : inK k n := by
     by_cases h : inK k n
     ·exact h
     ·rw [if_neg h] at hr; cases hr
    rw [if_pos hin] at hr
    change (S g (AV.cons (.agg (.cons (.dat (.int k) n) .nil)) (Dj (c.args.toList.map ev))) nx).run hp = some out at hr
    have hfv := hev f
    rw [e] at hfv
    injection hfv with hfv
    have hv : v = .func (.func g) #[.agg #[.int k n]] #[] := by
     unfold Ub at hb
     split at hb <;> try (cases hb; done)
     rename_i g' r c'
     split at hb <;> try (cases hb; done)
     rename_i cs hr1 hc1
     split at hb <;> try (cases hb; done)
     rename_i k' n' hcs
     injection hb with hb
     injection hb with e1 hb
     injection hb with e2 e3
     subst e1; subst e2; subst e3
     rw [<- Array.toArray_toList (xs := r), hr1, <- Array.toArray_toList (xs := c'), hc1, <- Array.toArray_toList (xs := cs), hcs]
    rw [hv] at hfv
    have hargs : (AV.cons (.agg (.cons (.dat (.int k) n) .nil)) (Dj (c.args.toList.map ev))).holds φ ow w ((#[Value.agg #[.int k n]] : Array Value) ++ c.args.map ρ).toList := by
     refine ⟨.agg #[.int k n], (c.args.map ρ).toList, by simp, ⟨#[.int k n], rfl, .int k n, [], rfl, ⟨rfl, rfl, rfl, hin⟩, rfl⟩, ?_⟩
     simpa using Cq hev c.args.toList
    obtain ⟨hc, hcalls⟩ := hS g _ nx hp out φ ow w _ H hargs hr hobl
    unfold DF
    simp only [execOp, resolve, hf, hfv, Deferred.ofValue, Sem.run_bind, Sem.run_pure, Result.andThen_ok, invoke, Array.append_empty, hc]
    exact Calls.mono hcalls fun e' w' ⟨v, he, hp⟩ => by subst he; exact hp
end
end AL
end
section
set_option linter.unusedVariables false
set_option linter.unusedSimpArgs false
namespace AL
open Go
structure Fr (φ0 : Hnd) (ow0 : Own) (w0 : World) (φ : Hnd) (ow : Own) (w : World) : Prop where
 size : w0.heap.size <= w.heap.size
 os : w.os = w0.os
 tape : w.tape = w0.tape
 output : w.output = w0.output
 blk : ∀ b, b < w0.heap.size -> (ow0 b = Option.none \/ ow0 b = some 0) -> ow b = ow0 b /\ w.heap[b]? = w0.heap[b]?
 frn : ∀ b, ow b = some 0 -> b < w0.heap.size /\ ow0 b = some 0
 phi : Aw φ0 φ
theorem Fr.step {φ0 φ φ' : Hnd} {ow0 ow ow' : Own} {w0 w w' : World} {X : List Nat} {nx : Nat} (h : Fr φ0 ow0 w0 φ ow w) (E : Ext X nx φ ow w φ' ow' w') (hX : 0 ∉ X) (hn : 0 < nx) : Fr φ0 ow0 w0 φ' ow' w' := by
 refine ⟨Nat.le_trans h.size E.size, E.os.trans h.os, E.tape.trans h.tape, E.output.trans h.output, ?_, ?_, h.phi.trans E.phi⟩
 ·intro b hb h0
  obtain ⟨h1, h2⟩ := h.blk b hb h0
  obtain ⟨h3, h4⟩ := E.blk b (Nat.lt_of_lt_of_le hb h.size) (by
   intro id hid
   rw [h1] at hid
   rcases h0 with h0 | h0
   ·rw [h0] at hid; cases hid
   ·rw [h0] at hid
    injection hid with hid
    subst hid
    exact hX)
  exact ⟨h3.trans h1, h4.trans h2⟩
 ·intro b hb
  obtain ⟨_, h1⟩ := E.AC5 b 0 hb
  rcases h1 with (h1 | h1) | h1
  ·exact absurd h1 hX
  ·omega
  ·exact h.frn b h1.2
def Dh (next k id : Nat) : Prop := next + 64 * k <= id /\ id < next + 64 * k + 64
def up (b : Nat -> Bool) (i : Nat) : Nat -> Bool := fun k => if k = i then true else b k
section
variable (D0 : List Deferred) (φ0 : Hnd) (ow0 : Own) (w0 : World)
def H6 (next N : Nat) (b : Nat -> Bool) (st : St) (a : Act) (w : World) : Prop :=
 ∃ φ ow, a.tmps.size = st.n /\ a.defers = D0 /\ (∀ t, (st.env t).holds φ ow w [a.tmps.getD t undef]) /\ (∀ id, cH φ ow w id (st.heap id)) /\
  (∀ id, next <= id -> (∀ k, b k = true -> ¬ Dh next k id) -> φ id = Option.none) /\
  (∀ c id, ow c = some id -> c < w.heap.size /\ (id < next \/ ∃ k, k < N /\ b k = true /\ Dh next k id)) /\ Fr φ0 ow0 w0 φ ow w
def BN (st : St) (a : Act) (w : World) : Prop :=
 ∃ φ ow, a.tmps.size = st.n /\ a.defers = D0 /\ (∀ t, (st.env t).holds φ ow w [a.tmps.getD t undef]) /\ (∀ id, cH φ ow w id (st.heap id)) /\
  (∀ id, st.next <= id -> φ id = Option.none) /\ (∀ c id, ow c = some id -> c < w.heap.size /\ id < st.next) /\ 0 < st.next /\ Fr φ0 ow0 w0 φ ow w
end
section
variable {D0 : List Deferred} {φ0 : Hnd} {ow0 : Own} {w0 : World} {P : Program} {C : Cfg}
theorem Bd {φ : Hnd} {ow : Own} {w : World} {env : Nat -> AV} {a : Act} (h : ∀ t, (env t).holds φ ow w [a.tmps.getD t undef]) : ∀ x, (Ah env x).holds φ ow w [a.eval x]
 | .tmp t => h t
 | .const v => IG v
 | .func f => ⟨#[], rfl, rfl⟩
 | .global g => rfl
theorem G1 : ∀ (u : Upd) (st : St) (id : Nat), (id ∈ ids u /\ ∃ c, (id, c) ∈ u /\ (st.upd u).heap id = c) \/ (id ∉ ids u /\ (st.upd u).heap id = st.heap id)
 | [], st, id => .inr ⟨by simp [ids], rfl⟩
 | (i, c) :: r, st, id => by
  simp only [St.upd]
  cases e : Nat.beq id i with
  | true =>
   have := Nat.eq_of_beq_eq_true e
   subst this
   exact .inl ⟨by simp [ids], c, by simp, by simp⟩
  | false =>
   have hne : id ≠ i := fun h => by subst h; rw [Nat.beq_refl] at e; cases e
   rcases G1 r st id with ⟨h1, c', h2, h3⟩ | ⟨h1, h2⟩
   ·exact .inl ⟨by simp only [ids, List.map_cons, List.mem_cons]; exact .inr h1, c', by simp [h2], by simpa using h3⟩
   ·refine .inr ⟨?_, by simpa using h2⟩
    simp only [ids, List.map_cons, List.mem_cons, not_or]
    exact ⟨hne, h1⟩
theorem Dv (u : Upd) (st : St) : (st.upd u).env = st.env /\ (st.upd u).next = st.next /\ (st.upd u).n = st.n := by
 induction u with
 | nil => exact ⟨rfl, rfl, rfl⟩
 | cons p r ih => exact ih
theorem Bg (st : St) (d : Option Tmp) (a : AV) : (st.put d a).heap = st.heap /\ (st.put d a).next = st.next /\ (st.put d a).n = st.n := by cases d <;> exact ⟨rfl, rfl, rfl⟩
theorem Rt (st : St) (d : Option Tmp) (a : AV) (t : Nat) : (st.put d a).env t = if d = some t then a else st.env t := by
 cases d with
 | none => simp [St.put]
 | some d =>
  simp only [St.put]
  by_cases e : t = d
  ·subst e; simp [Nat.beq_refl]
  ·have : Nat.beq t d = false := by
    cases h : Nat.beq t d with
    | false => rfl
    | true => exact absurd (Nat.eq_of_beq_eq_true h) e
   rw [this]
   simp [Ne.symm e]
theorem Ku {φ φ' : Hnd} {ow ow' : Own} {w w' : World} {st : St} {a : Act} (hn : a.tmps.size = st.n) (h : ∀ t, (st.env t).holds φ ow w [a.tmps.getD t undef]) (hk : ∀ {av vs}, AV.holds φ ow w av vs -> AV.holds φ' ow' w' av vs)
  {d : Option Tmp} (hd : Bw st.n d = true) {v : Value} {r : AV} (hr : r.holds φ' ow' w' [v]) : ∀ t, ((st.put d r).env t).holds φ' ow' w' [(a.put d v).tmps.getD t undef] := by
 intro t
 rw [Rt]
 cases d with
 | none => simpa [Act.put] using hk (h t)
 | some d =>
  have hlt : d < a.tmps.size := by
   rw [hn]
   simp only [Bw, Nat.blt] at hd
   exact Nat.le_of_ble_eq_true hd
  by_cases e : d = t
  ·subst e
   simpa [Act.put, Array.getElem?_setIfInBounds, hlt] using hr
  ·rw [if_neg (fun h => e (Option.some.inj h))]
   simpa [Act.put, Array.getElem?_setIfInBounds, e] using hk (h t)
theorem Fc (a : Act) (d : Option Tmp) (v : Value) : (a.put d v).tmps.size = a.tmps.size /\ (a.put d v).defers = a.defers := by cases d <;> simp [Act.put]
theorem QS {next i : Nat} {ord : Nat -> Bool} {tch : List Nat} : ∀ {u : Upd}, Ed next i ord tch u = true -> ∀ id ∈ ids u, 0 < id /\ ((id ∈ tch /\ (id < next \/ ord ((id - next) / 64) = true)) \/ Dh next i id)
 | [], _, id, hid => by simp [ids] at hid
 | (j, c) :: r, h, id, hid => by
  simp only [Ed, Bool.and_eq_true, Bool.or_eq_true] at h
  obtain ⟨⟨h1, h2⟩, h3⟩ := h
  simp only [ids, List.map_cons, List.mem_cons] at hid
  rcases hid with rfl | hid
  ·refine ⟨Nat.le_of_ble_eq_true h1, ?_⟩
   rcases h2 with ⟨h2, h4⟩ | ⟨h2, h4⟩
   ·exact .inl ⟨Am.1 h2, h4.imp (fun h => Nat.le_of_ble_eq_true h) (fun h => h)⟩
   ·exact .inr ⟨Nat.le_of_ble_eq_true h2, Nat.le_of_ble_eq_true h4⟩
  ·exact QS h3 id hid
theorem ABF {next k i id : Nat} (h : k ≠ i) (h1 : Dh next k id) (h2 : Dh next i id) : False := by
 unfold Dh at *
 omega
theorem Ru {ro : Option Nat} {rm : Nat} (hS : ∀ f, AT C.P f (C.S f)) {next N i : Nat} {b : Nat -> Bool} {st : St} {a : Act} {w : World} {o : Oper} {Q : Exit -> Act -> World -> Prop} {K : Act -> World -> Prop} (hnx : 0 < next)
  (hR : H6 D0 φ0 ow0 w0 next N b st a w) (hb : b i = false) (hi : i < N) {ord : Nat -> Bool} (hord : ∀ k, ord k = true -> b k = true /\ k < N) {out : Out} {tch : List Nat}
  (hr : (Br C.P C.S C.wr o.op (Ah st.env) (next + 64 * i)).run st.heap = some out) (hobl : ∀ p ∈ out.Bu, p) (hu : Ed next i ord tch out.upd = true) (hd : Bw st.n o.dst = true)
  (hK : ∀ a' w', H6 D0 φ0 ow0 w0 next N (up b i) ((st.upd out.upd).put o.dst out.res) a' w' -> K a' w') : o.wpIn (rnd ro) rm C.P a w K Q := by
 obtain ⟨φ, ow, hn, hdf, henv, hheap, hfresh, hown, hfr⟩ := hR
 have H : Hyp st.heap (next + 64 * i) φ ow w := by
  refine ⟨hheap, ?_, ?_⟩
  ·intro id h1 h2
   refine hfresh id (by omega) ?_
   intro k hk hw
   exact ABF (fun e => by subst e; rw [hb] at hk; cases hk) hw ⟨h1, h2⟩
  ·intro c id hc
   obtain ⟨h1, h2⟩ := hown c id hc
   refine ⟨h1, ?_⟩
   rcases h2 with h2 | ⟨k, _, hk, hw⟩
   ·left; omega
   ·have hne : k ≠ i := fun e => by subst e; rw [hb] at hk; cases hk
    unfold Dh at hw
    omega
 have hrun := AKe H hS (ty := o.type) hr (Bd henv) hobl
 refine DF.wpR hrun ?_
 rintro v w' ⟨φ', ow', E, hres, hupd⟩
 have hmem := QS hu
 refine hK _ _ ⟨φ', ow', ?_, ?_, ?_, ?_, ?_, ?_, hfr.step E (fun h => by have := (hmem 0 h).1; omega) (by omega)⟩
 ·rw [(Fc a o.dst v).1, hn, (Bg _ _ _).2.2, (Dv _ _).2.2]
 ·rw [(Fc a o.dst v).2, hdf]
 ·have henv' : ∀ t, ((st.upd out.upd).env t).holds φ ow w [a.tmps.getD t undef] := by rw [(Dv _ _).1]; exact henv
  exact Ku (st := st.upd out.upd) (by rw [(Dv _ _).2.2]; exact hn) henv' (fun h => AV.Ab E.phi E.keep h) (by rw [(Dv _ _).2.2]; exact hd) hres
 ·intro id
  rw [(Bg _ _ _).1]
  rcases G1 out.upd st id with ⟨h1, c, h2, h3⟩ | ⟨h1, h2⟩
  ·rw [h3]; exact hupd _ h2
  ·rw [h2]; exact E.chunk h1 (hheap id)
 ·intro id h1 h2
  have hni : ¬ Dh next i id := h2 i (by simp [up])
  rw [E.AJX id (by unfold Dh at hni; omega)]
  refine hfresh id h1 fun k hk => h2 k ?_
  unfold up
  by_cases e : k = i
  ·rw [if_pos e]
  ·rw [if_neg e]; exact hk
 ·intro c id hc
  obtain ⟨h1, h2⟩ := E.AC5 c id hc
  refine ⟨h1, ?_⟩
  have old : (id < next \/ ∃ k, k < N /\ b k = true /\ Dh next k id) -> (id < next \/ ∃ k, k < N /\ up b i k = true /\ Dh next k id) := by
   rintro (h | ⟨k, hk1, hk2, hk3⟩)
   ·exact .inl h
   ·exact .inr ⟨k, hk1, by unfold up; by_cases e : k = i <;> simp [e, hk2], hk3⟩
  have here : Dh next i id -> (id < next \/ ∃ k, k < N /\ up b i k = true /\ Dh next k id) := fun h => .inr ⟨i, hi, by simp [up], h⟩
  rcases h2 with (h2 | h2) | h2
  ·rcases (hmem id h2).2 with ⟨_, h3⟩ | h3
   ·by_cases hlt : id < next
    ·exact .inl hlt
    ·rcases h3 with h3 | h3
     ·exact absurd h3 hlt
     ·obtain ⟨k1, k2⟩ := hord _ h3
      refine old (.inr ⟨_, k2, k1, ?_⟩)
      unfold Dh
      have := Nat.div_add_mod (id - next) 64
      have := Nat.mod_lt (id - next) (show 0 < 64 by decide)
      omega
   ·exact here h3
  ·exact here ⟨h2.1, h2.2⟩
  ·exact old (hown c id h2.2).2
theorem step_skip {next N i : Nat} {b : Nat -> Bool} {st : St} {a : Act} {w : World} {d : Option Tmp} (hR : H6 D0 φ0 ow0 w0 next N b st a w) (hd : Bw st.n d = true) :
  H6 D0 φ0 ow0 w0 next N (up b i) (st.put d (.raw undef)) (a.put d undef) w := by
 obtain ⟨φ, ow, hn, hdf, henv, hheap, hfresh, hown, hfr⟩ := hR
 refine ⟨φ, ow, ?_, ?_, Ku hn henv (fun h => h) hd rfl, ?_, ?_, ?_, hfr⟩
 ·rw [(Fc a d _).1, hn, (Bg _ _ _).2.2]
 ·rw [(Fc a d _).2, hdf]
 ·rw [(Bg _ _ _).1]; exact hheap
 ·intro id h1 h2
  refine hfresh id h1 fun k hk => h2 k ?_
  unfold up
  by_cases e : k = i
  ·rw [if_pos e]
  ·rw [if_neg e]; exact hk
 ·intro c id hc
  obtain ⟨h1, h2⟩ := hown c id hc
  refine ⟨h1, h2.imp (fun h => h) fun ⟨k, k1, k2, k3⟩ => ⟨k, k1, ?_, k3⟩⟩
  unfold up
  by_cases e : k = i <;> simp [e, k2]
structure Itm where
 i : Nat
 o : Oper
 eff : Option Out
 t : Trc
def BO (st : St) (o : Oper) : Option Out -> St
 | some out => (st.upd out.upd).put o.dst out.res
 | Option.none => st.put o.dst (.raw undef)
def A7 (b : Nat -> Bool) : List Itm -> St -> St
 | [], s => s
 | x :: r, s => A7 b r (bif b x.i then BO s x.o x.eff else s)
def NZ (ops : Array Oper) (st : St) (o : Oper) (run : Bool) (rd : List Nat) : Prop :=
 (o.guard = Option.none /\ run = true /\ rd = []) \/
 (∃ j want d c, o.guard = some (j, want) /\ (ops[j]?).bind (·.dst) = some d /\ st.env d = .dat .bool c /\ run = (c == want) /\ rd = [d]) \/
 ∃ j want d v, o.guard = some (j, want) /\ (ops[j]?).bind (·.dst) = some d /\ st.env d = .raw v /\ Hk v = true /\ run = false /\ rd = [d]
def Valid (C : Cfg) (ops : Array Oper) (bef : Option (Array Nat)) (next : Nat) (x : Itm) (st : St) : Prop :=
 Bw st.n x.o.dst = true /\ match x.eff with
 | some out => ∃ rd, NZ ops st x.o true rd /\ (Br C.P C.S C.wr x.o.op (Ah st.env) (next + 64 * x.i)).run st.heap = some out /\ (∀ p ∈ out.Bu, p) /\
   Ed next x.i (IE bef x.i) ((Br C.P C.S C.wr x.o.op (Ah st.env) (next + 64 * x.i)).Bc st.heap) out.upd = true /\
   x.t = ⟨x.i, rd ++ EL x.o, x.o.dst, (Br C.P C.S C.wr x.o.op (Ah st.env) (next + 64 * x.i)).Bc st.heap, ids out.upd, ED C.P x.o.op (Ah st.env), (ids out.upd).map fun id => (id, st.heap id, ((st.upd out.upd).put x.o.dst out.res).heap id)⟩
 | Option.none => ∃ rd, NZ ops st x.o false rd /\ x.t = ⟨x.i, rd, x.o.dst, [], [], Option.none, []⟩
def Good (C : Cfg) (ops : Array Oper) (bef : Option (Array Nat)) (next : Nat) : Nat -> List Itm -> St -> Prop
 | _, [], _ => True
 | i, x :: r, st => x.i = i /\ ops[i]? = some x.o /\ Valid C ops bef next x st /\ Good C ops bef next (i + 1) r (BO st x.o x.eff)
def B4 : List Itm -> St -> St
 | [], s => s
 | x :: r, s => B4 r (BO s x.o x.eff)
theorem G2 : ∀ {l : List Prop} {q : Prop}, W4 l q -> (∀ p ∈ l, p) /\ q
 | [], _, h => ⟨fun p hp => (by cases hp), h⟩
 | p :: l, _, ⟨h1, h2⟩ => by
  obtain ⟨h3, h4⟩ := G2 h2
  refine ⟨fun r hr => ?_, h4⟩
  rcases List.mem_cons.1 hr with e | hr
  ·rw [e]; exact h1
  ·exact h3 r hr
theorem Cg {st : St} {d : Nat} {a : AV} (h : st.env d = a) : st.put (some d) a = st := by
 cases st with
 | mk env heap next n =>
  simp only [St.put]
  congr 1
  funext t
  cases e : Nat.beq t d with
  | true => have := Nat.eq_of_beq_eq_true e; subst this; exact h.symm
  | false => rfl
def QT (b : Array Nat) (tr : List Trc) : Prop := IC b tr = true \/ ∃ q, F7 b tr = some q /\ ∀ p ∈ q.1, p
theorem F9 {ops : Array Oper} {bef : Option (Array Nat)} {next : Nat} {K : St -> Prop} : ∀ (l : List Oper) (i : Nat) (tr : List Trc) (st : St), ops.toList.drop i = l -> Cv C ops bef next l i tr st K ->
  ∃ L, L.length = l.length /\ Good C ops bef next i L st /\ K (B4 L st) /\ ∀ b, bef = some b -> QT b (tr.reverse ++ L.map (·.t))
 | [], i, tr, st, hl, h => by
  unfold Cv at h
  cases bef with
  | none => exact ⟨[], rfl, trivial, h, fun b hb => by cases hb⟩
  | some b =>
   change (bif IC b tr.reverse then K st else match F7 b tr.reverse with
    | some q => W4 q.1 (K st)
    | Option.none => Av 3) at h
   cases ht : IC b tr.reverse with
   | false =>
    rw [ht, cond_false] at h
    cases hq : F7 b tr.reverse with
    | none => rw [hq] at h; cases h
    | some q =>
     rw [hq] at h
     obtain ⟨h1, h2⟩ := G2 h
     exact ⟨[], rfl, trivial, h2, fun b' hb => by injection hb with hb; subst hb; exact .inr ⟨q, by simpa using hq, h1⟩⟩
   | true =>
    rw [ht] at h
    exact ⟨[], rfl, trivial, h, fun b' hb => by injection hb with hb; subst hb; exact .inl (by simpa using ht)⟩
 | o :: r, i, tr, st, hl, h => by
  have hoi : ops[i]? = some o := by
   have : (ops.toList.drop i)[0]? = some o := by rw [hl]; rfl
   simpa [List.getElem?_drop] using this
  have hr : ops.toList.drop (i + 1) = r := by
   rw [<- List.tail_drop, hl]; rfl
  -- the operation runs
  have run : ∀ rd st1, st1 = st -> NZ ops st o true rd -> ID C o next i (IE bef i) st1 (fun tch upd st' => Cv C ops bef next r (i + 1) (⟨i, rd ++ EL o, o.dst, tch, upd, ED C.P o.op (Ah st1.env), upd.map fun id => (id, st1.heap id, st'.heap id)⟩ :: tr) st' K) ->
    ∃ L, L.length = (o :: r).length /\ Good C ops bef next i L st /\ K (B4 L st) /\ ∀ b, bef = some b -> QT b (tr.reverse ++ L.map (·.t)) := by
   intro rd st1 e hg hh
   subst e
   unfold ID at hh
   simp only at hh
   split at hh
   ·rename_i out hout
    cases hb : Ed next i (IE bef i) ((Br C.P C.S C.wr o.op (Ah st1.env) (next + 64 * i)).Bc st1.heap) out.upd && Bw st1.n o.dst with
    | false => rw [hb] at hh; cases hh
    | true =>
     rw [hb] at hh
     simp only [Bool.and_eq_true] at hb
     obtain ⟨hobl, hh⟩ := G2 hh
     obtain ⟨L, h1, h2, h3, h4⟩ := F9 r (i + 1) _ _ hr hh
     refine ⟨⟨i, o, some out, ⟨i, rd ++ EL o, o.dst, (Br C.P C.S C.wr o.op (Ah st1.env) (next + 64 * i)).Bc st1.heap, ids out.upd, ED C.P o.op (Ah st1.env), (ids out.upd).map fun id => (id, st1.heap id, ((st1.upd out.upd).put o.dst out.res).heap id)⟩⟩ :: L, by simp [h1], ⟨rfl, hoi, ⟨hb.2, rd, hg, hout, hobl, hb.1, rfl⟩, h2⟩, h3, ?_⟩
     intro b hbb
     simpa using h4 b hbb
   ·cases hh
  unfold Cv at h
  simp only at h
  split at h
  ·rename_i hg
   exact run [] st rfl (.inl ⟨hg, rfl, rfl⟩) (by simpa using h)
  ·rename_i j want hg
   split at h
   ·rename_i d hd
    split at h
    ·rename_i c hc
     have key : ∀ c', c' = c -> (bif c' == want then ID C o next i (IE bef i) (st.put (some d) (.dat .bool c')) (fun tch upd st' => Cv C ops bef next r (i + 1) (⟨i, [d] ++ EL o, o.dst, tch, upd, ED C.P o.op (Ah (st.put (some d) (.dat .bool c')).env), upd.map fun id => (id, (st.put (some d) (.dat .bool c')).heap id, st'.heap id)⟩ :: tr) st' K) else
       bif Bw st.n o.dst then Cv C ops bef next r (i + 1) (⟨i, [d], o.dst, [], [], Option.none, []⟩ :: tr) ((st.put (some d) (.dat .bool c')).put o.dst (.raw undef)) K else Av 6) ->
       ∃ L, L.length = (o :: r).length /\ Good C ops bef next i L st /\ K (B4 L st) /\ ∀ b, bef = some b -> QT b (tr.reverse ++ L.map (·.t)) := by
      intro c' e hh
      subst e
      rw [Cg hc] at hh
      cases hw : c' == want with
      | true =>
       rw [hw] at hh
       exact run [d] st rfl (.inr (.inl ⟨j, want, d, c', hg, hd, hc, hw.symm, rfl⟩)) hh
      | false =>
       rw [hw] at hh
       cases hds : Bw st.n o.dst with
       | false => rw [hds] at hh; cases hh
       | true =>
        rw [hds] at hh
        obtain ⟨L, h1, h2, h3, h4⟩ := F9 r (i + 1) _ _ hr hh
        refine ⟨⟨i, o, Option.none, ⟨i, [d], o.dst, [], [], Option.none, []⟩⟩ :: L, by simp [h1], ⟨rfl, hoi, ⟨hds, [d], .inr (.inl ⟨j, want, d, c', hg, hd, hc, hw.symm, rfl⟩), rfl⟩, h2⟩, h3, ?_⟩
        intro b hbb
        simpa using h4 b hbb
     cases c
     ·exact key false rfl h
     ·exact key true rfl h
    ·rename_i v hv
     cases hb : Hk v && Bw st.n o.dst with
     | false => rw [hb] at h; cases h
     | true =>
      rw [hb, cond_true] at h
      simp only [Bool.and_eq_true] at hb
      obtain ⟨L, h1, h2, h3, h4⟩ := F9 r (i + 1) _ _ hr h
      refine ⟨⟨i, o, Option.none, ⟨i, [d], o.dst, [], [], Option.none, []⟩⟩ :: L, by simp [h1], ⟨rfl, hoi, ⟨hb.2, [d], .inr (.inr ⟨j, want, d, v, hg, hd, hv, hb.1, rfl, rfl⟩), rfl⟩, h2⟩, h3, ?_⟩
      intro b hbb
      simpa using h4 b hbb
    ·cases h
   ·cases h
end
end AL
end
section
set_option linter.unusedVariables false
set_option linter.unusedSimpArgs false
namespace AL
open Go
section
variable {D0 : List Deferred} {φ0 : Hnd} {ow0 : Own} {w0 : World} {C : Cfg} {ops : Array Oper} {Q : Exit -> Act -> World -> Prop}
theorem GA {φ : Hnd} {ow : Own} {w : World} {st : St} {a : Act} {o : Oper} {run : Bool} {rd : List Nat} (h : NZ ops st o run rd) (henv : ∀ t, (st.env t).holds φ ow w [a.tmps.getD t undef]) :
  Region.wanted o (yielded ops a.tmps) = run := by
 rcases h with ⟨h1, h2, _⟩ | ⟨j, want, d, c, h1, h2, h3, h4, _⟩ | ⟨j, want, d, v, h1, h2, h3, h5, h4, _⟩
 ·simp [Region.wanted, h1, h2]
 rotate_left
 ·have hd := henv d
  rw [h3] at hd
  have hv : a.tmps.getD d undef = v := by injection hd
  have hy : yielded ops a.tmps j = none := by
   rw [Array.getD_eq_getD_getElem?] at hv
   simp only [yielded, h2, Option.bind_some]
   cases hx : a.tmps[d]? with
   | none => simp
   | some u =>
    rw [hx] at hv
    have hv : u = v := by simpa using hv
    subst hv
    cases u <;> first | rfl | (simp [Hk] at h5; done)
  simp only [Region.wanted, h1, hy, h4]
  rfl
 ·have hd := henv d
  rw [h3] at hd
  have hv := BL hd
  have ht : a.tmps[d]? = some (.bool c) := by
   rw [Array.getD_eq_getD_getElem?] at hv
   cases hx : a.tmps[d]? with
   | none => rw [hx] at hv; simp [undef] at hv
   | some v => rw [hx] at hv; simpa using hv
  have hy : yielded ops a.tmps j = some c := by simp [yielded, h2, ht]
  simp only [Region.wanted, h1, hy, h4]
  cases c <;> cases want <;> rfl
theorem H6.congr {next N : Nat} {b b' : Nat -> Bool} {st : St} {a : Act} {w : World} (h : H6 D0 φ0 ow0 w0 next N b st a w) (e : ∀ k, b k = b' k) : H6 D0 φ0 ow0 w0 next N b' st a w := by
 obtain rfl : b = b' := funext e
 exact h
theorem QU {ro : Option Nat} {rm : Nat} (hS : ∀ f, AT C.P f (C.S f)) {next N : Nat} (hnx : 0 < next) {F : St} (hQ : ∀ a w, H6 D0 φ0 ow0 w0 next N (fun k => decide (k < N)) F a w -> Q .normal a w) :
  ∀ (L : List Itm) (i : Nat) (st : St) (a : Act) (w : World), B4 L st = F -> i + L.length = N -> Good C ops none next i L st -> H6 D0 φ0 ow0 w0 next N (fun k => decide (k < i)) st a w -> wpOpsIn (rnd ro) rm C.P ops Q (List.range' i L.length) a w
 | [], i, st, a, w, hF, hN, _, hR => by
  have : i = N := by simpa using hN
  subst this; subst hF
  exact hQ a w hR
 | x :: L, i, st, a, w, hF, hN, ⟨hxi, hox, hval, hgood⟩, hR => by
  subst hxi
  have hiN : x.i < N := by simp at hN; omega
  have hup : ∀ k, up (fun k => decide (k < x.i)) x.i k = decide (k < x.i + 1) := by
   intro k
   unfold up
   by_cases e : k = x.i
   ·simp [e]
   ·simp only [if_neg e]
    congr 1
    exact propext ⟨fun h => by omega, fun h => by omega⟩
  rw [List.length_cons, List.range'_succ]
  have hrec : ∀ a' w', H6 D0 φ0 ow0 w0 next N (up (fun k => decide (k < x.i)) x.i) (BO st x.o x.eff) a' w' -> wpOpsIn (rnd ro) rm C.P ops Q (List.range' (x.i + 1) L.length) a' w' := by
   intro a' w' h
   exact QU hS hnx hQ L (x.i + 1) _ a' w' hF (by simp at hN; omega) hgood (h.congr hup)
  rw [wpOpsIn_cons, wpOpIn, hox]
  obtain ⟨φ, ow, hn, hdf, henv, hrest⟩ := id hR
  obtain ⟨hds, hval⟩ := hval
  cases heff : x.eff with
  | none =>
   rw [heff] at hval hrec
   obtain ⟨rd, hg, _⟩ := hval
   have hw := GA hg henv
   simp only [hw]
   rw [if_neg (by simp)]
   exact ⟨fun _ _ => trivial, hrec _ _ (step_skip hR hds)⟩
  | some out =>
   rw [heff] at hval hrec
   obtain ⟨rd, hg, h1, h2, h3, _⟩ := hval
   have hw := GA hg henv
   simp only [hw]
   rw [if_pos trivial]
   exact Ru hS hnx hR (by simp) hiN (ord := fun k => Nat.blt k x.i) (fun k hk => by
    have := Nat.le_of_ble_eq_true hk
    simp; omega) h1 h2 h3 hds hrec
def Kv (x : Itm) : List Nat := match x.eff with
 | some out => ids out.upd
 | none => []
def AJe : Option Out -> AV
 | some out => out.res
 | none => .raw undef
theorem Em (st : St) (o : Oper) (e : Option Out) (t : Nat) : (BO st o e).env t = if o.dst = some t then AJe e else st.env t := by
 cases e with
 | none => simp [BO, Rt, AJe]
 | some out => simp [BO, Rt, AJe, (Dv _ _).1]
theorem Jg (st : St) (o : Oper) (e : Option Out) : (BO st o e).n = st.n /\ (BO st o e).next = st.next := by
 cases e with
 | none => exact ⟨(Bg _ _ _).2.2, (Bg _ _ _).2.1⟩
 | some out => exact ⟨(Bg _ _ _).2.2.trans (Dv _ _).2.2, (Bg _ _ _).2.1.trans (Dv _ _).2.1⟩
theorem G3 : ∀ (u : Upd) {st st' : St} {id : Nat}, (id ∉ ids u -> st.heap id = st'.heap id) -> (st.upd u).heap id = (st'.upd u).heap id
 | [], st, st', id, h => h (by simp [ids])
 | (i, c) :: r, st, st', id, h => by
  simp only [St.upd]
  cases e : Nat.beq id i with
  | true => simp
  | false =>
   simp only [cond_false]
   refine G3 r fun hn => h ?_
   simp only [ids, List.map_cons, List.mem_cons, not_or]
   exact ⟨fun h => (by subst h; rw [Nat.beq_refl] at e; cases e), hn⟩
theorem DP {x : Itm} {st st' : St} {id : Nat} (h : id ∉ Kv x -> st.heap id = st'.heap id) : (BO st x.o x.eff).heap id = (BO st' x.o x.eff).heap id := by
 unfold Kv at h
 cases e : x.eff with
 | none =>
  rw [e] at h
  simp only [BO, (Bg _ _ _).1]
  exact h (by simp)
 | some out =>
  rw [e] at h
  simp only [BO, (Bg _ _ _).1]
  exact G3 _ h
theorem CF {x : Itm} {st : St} {id : Nat} (h : id ∉ Kv x) : (BO st x.o x.eff).heap id = st.heap id := by
 unfold Kv at h
 cases e : x.eff with
 | none => simp only [BO, (Bg _ _ _).1]
 | some out =>
  rw [e] at h
  simp only [BO, (Bg _ _ _).1]
  rcases G1 out.upd st id with ⟨h1, _⟩ | ⟨_, h2⟩
  ·exact absurd h1 h
  ·exact h2
theorem Ur (b : Nat -> Bool) : ∀ (L M : List Itm) (s : St), A7 b (L ++ M) s = A7 b M (A7 b L s)
 | [], _, _ => rfl
 | x :: L, M, s => Ur b L M _
theorem Ip (b : Nat -> Bool) : ∀ (L : List Itm) (s : St), (A7 b L s).n = s.n /\ (A7 b L s).next = s.next
 | [], _ => ⟨rfl, rfl⟩
 | x :: L, s => by
  simp only [A7]
  obtain ⟨h1, h2⟩ := Ip b L (bif b x.i then BO s x.o x.eff else s)
  cases hb : b x.i <;> rw [hb] at h1 h2 <;> simp only [cond_true, cond_false] at h1 h2 ⊢
  ·exact ⟨h1, h2⟩
  ·exact ⟨h1.trans (Jg _ _ _).1, h2.trans (Jg _ _ _).2⟩
theorem Fe : ∀ (L : List Itm) (s : St), B4 L s = A7 (fun _ => true) L s
 | [], _ => rfl
 | x :: L, s => Fe L _
theorem Ff {b b' : Nat -> Bool} {t : Nat} : ∀ {L : List Itm} {s s' : St}, s.env t = s'.env t -> (∀ x ∈ L, x.o.dst = some t -> b x.i = b' x.i) -> (A7 b L s).env t = (A7 b' L s').env t
 | [], _, _, h, _ => h
 | x :: L, s, s', h, hb => by
  simp only [A7]
  refine Ff ?_ fun y hy => hb y (List.mem_cons_of_mem _ hy)
  have h0 := hb x (by simp)
  by_cases e : x.o.dst = some t
  ·rw [h0 e]
   cases b' x.i
   ·exact h
   ·simp only [cond_true, Em, if_pos e]
  ·cases b x.i <;> cases b' x.i <;> simp only [cond_true, cond_false, Em, if_neg e] <;> exact h
theorem EU {b b' : Nat -> Bool} {id : Nat} : ∀ {L : List Itm} {s s' : St}, s.heap id = s'.heap id -> (∀ x ∈ L, id ∈ Kv x -> b x.i = b' x.i) -> (A7 b L s).heap id = (A7 b' L s').heap id
 | [], _, _, h, _ => h
 | x :: L, s, s', h, hb => by
  simp only [A7]
  refine EU ?_ fun y hy => hb y (List.mem_cons_of_mem _ hy)
  have h0 := hb x (by simp)
  by_cases e : id ∈ Kv x
  ·rw [h0 e]
   cases b' x.i
   ·exact h
   ·exact DP fun _ => h
  ·cases b x.i <;> cases b' x.i <;> simp only [cond_true, cond_false, CF e] <;> exact h
theorem Us {P : Program} {S : FuncId -> Bo} {wr : Md} {op : Op} {ev ev' : Operand -> AV} {nx : Nat} (h : ∀ x ∈ op.operands.toList, ev x = ev' x) : Br P S wr op ev nx = Br P S wr op ev' nx := by
 unfold Br
 cases op <;> try rfl
 case move x => simp only [h x (by simp [Op.operands])]
 case assign x => simp only [h x (by simp [Op.operands])]
 case pick c a b => simp only [h c (by simp [Op.operands]), h a (by simp [Op.operands]), h b (by simp [Op.operands])]
 case box e x => simp only [h x (by simp [Op.operands])]
 case load t x => simp only [h x (by simp [Op.operands])]
 case store t x y => simp only [h x (by simp [Op.operands]), h y (by simp [Op.operands])]
 case nilCheck x => simp only [h x (by simp [Op.operands])]
 case fieldAddr s x f => simp only [h x (by simp [Op.operands])]
 case indexAddr t x y => simp only [h x (by simp [Op.operands]), h y (by simp [Op.operands])]
 case binOp o t x y u => simp only [h x (by simp [Op.operands]), h y (by simp [Op.operands])]
 case index t x y => simp only [h x (by simp [Op.operands]), h y (by simp [Op.operands])]
 case unOp o t x => simp only [h x (by simp [Op.operands])]
 case convert s d x => simp only [h x (by simp [Op.operands])]
 case buildSlice t len parts =>
  simp only
  congr 1
  apply List.map_congr_left
  intro p hp
  rw [h p.2]
  simp only [Op.operands, List.mem_map]
  exact ⟨p, hp, rfl⟩
 case build t parts =>
  simp only
  congr 1
  apply List.map_congr_left
  intro p hp
  rw [h p.2]
  simp only [Op.operands, Array.toList_map, List.mem_map]
  exact ⟨p, hp, rfl⟩
 case makeMap t r => cases r <;> rfl
 case makeChan t n => simp only [h n (by simp [Op.operands])]
 case field t x f => simp only [h x (by simp [Op.operands])]
 case lookup t m k ok => simp only [h m (by simp [Op.operands]), h k (by simp [Op.operands])]
 case mapUpdate t m k x => simp only [h m (by simp [Op.operands]), h k (by simp [Op.operands]), h x (by simp [Op.operands])]
 case insert t m k x => simp only [h m (by simp [Op.operands]), h k (by simp [Op.operands]), h x (by simp [Op.operands])]
 case makeSlice t x y => simp only [h x (by simp [Op.operands]), h y (by simp [Op.operands])]
 case slice t x lo hi mx =>
  have hx := h x (by simp [Op.operands])
  have hlo : lo.map ev = lo.map ev' := by
   cases lo with
   | none => rfl
   | some y => simp only [Option.map_some, h y (by simp [Op.operands])]
  have hhi : hi.map ev = hi.map ev' := by
   cases hi with
   | none => rfl
   | some y => simp only [Option.map_some, h y (by simp [Op.operands])]
  simp only [hx, hlo, hhi]
 case makeFunc fn first captured =>
  cases fn <;> try rfl
  have : captured.toList.map ev = captured.toList.map ev' := List.map_congr_left fun x hx => h x (by simp [Op.operands]; right; simpa using hx)
  simp only [this]
  split
  ·rfl
  ·rename_i x hf
   rw [h x (by simp [Op.operands]; left; rw [<- Array.mem_toList_iff, hf]; simp)]
  ·rfl
 case extract x i => simp only [h x (by simp [Op.operands])]
 case call c =>
  have ha : c.args.toList.map ev = c.args.toList.map ev' := List.map_congr_left fun x hx => h x (by simp [Op.operands, Call.operands]; right; simpa using hx)
  simp only [ha]
  cases hc : c.callee with
  | value f => simp only [h f (by simp [Op.operands, Call.operands, hc])]
  | invoke r n => rfl
  | builtin b => rfl
theorem D2 : ∀ {l : List Operand} {t : Nat}, .tmp t ∈ l -> t ∈ Hj l
 | .tmp u :: r, t, h => by
  rcases List.mem_cons.1 h with h | h
  ·injection h with h; subst h; simp [Hj]
  ·simp [Hj, D2 h]
 | .const v :: r, t, h => by
  rcases List.mem_cons.1 h with h | h
  ·cases h
  ·exact D2 (l := r) h
 | .global g :: r, t, h => by
  rcases List.mem_cons.1 h with h | h
  ·cases h
  ·exact D2 (l := r) h
 | .func f :: r, t, h => by
  rcases List.mem_cons.1 h with h | h
  ·cases h
  ·exact D2 (l := r) h
theorem Ut {bef : Array Nat} : ∀ {L1 : List Trc} {x : Trc} {L2 : List Trc}, IC bef (L1 ++ x :: L2) = true -> (∀ y ∈ L2, (bef.getD y.i 0).testBit x.i = true \/ apart x y = true) /\ (∀ z ∈ L1, (bef.getD x.i 0).testBit z.i = true \/ apart z x = true)
 | [], x, L2, h => by
  simp only [List.nil_append, IC, Bool.and_eq_true, List.all_eq_true, Bool.or_eq_true] at h
  exact ⟨h.1, fun z hz => by cases hz⟩
 | z :: L1, x, L2, h => by
  simp only [List.cons_append, IC, Bool.and_eq_true, List.all_eq_true, Bool.or_eq_true] at h
  obtain ⟨h1, h2⟩ := Ut h.2
  refine ⟨h1, fun u hu => ?_⟩
  rcases List.mem_cons.1 hu with rfl | hu
  ·exact h.1 x (by simp)
  ·exact h2 u hu
theorem C0 {x : Nat} {a b : List Nat} (h : (!Bn a b) = true) (ha : x ∈ a) : x ∉ b := Dy (by simpa using h) ha
theorem apart_spec {a b : Trc} (h : apart a b = true) : (∀ t, a.wt = some t -> t ∉ b.rd) /\ (∀ t, b.wt = some t -> t ∉ a.rd) /\ (∀ t, a.wt = some t -> b.wt ≠ some t) /\ (∀ i ∈ a.upd, i ∉ b.tch) /\ (∀ i ∈ b.upd, i ∉ a.tch) /\ (∀ i ∈ a.upd, i ∉ b.upd) := by
 simp only [apart, Bool.and_eq_true] at h
 obtain ⟨⟨⟨⟨⟨h1, h2⟩, h3⟩, h4⟩, h5⟩, h6⟩ := h
 refine ⟨fun t ht => ?_, fun t ht => ?_, fun t ht hb => ?_, fun i hi => C0 h4 hi, fun i hi => C0 h5 hi, fun i hi => C0 h6 hi⟩
 ·rw [ht] at h1; exact C0 h1 (by simp [H5])
 ·rw [ht] at h2; exact C0 h2 (by simp [H5])
 ·rw [ht, hb] at h3; exact C0 h3 (x := t) (by simp [H5]) (by simp [H5])
theorem DG {a b : Trc} (h : Ee a b = true) : (∀ t, a.wt = some t -> t ∉ b.rd) /\ (∀ t, b.wt = some t -> t ∉ a.rd) /\ (∀ t, a.wt = some t -> b.wt ≠ some t) /\ (∀ i ∈ a.upd, i ∉ b.Kf) /\ (∀ i ∈ b.upd, i ∉ a.Kf) /\ (∀ i ∈ a.upd, i ∉ b.upd) := by
 simp only [Ee, Bool.and_eq_true] at h
 obtain ⟨⟨⟨⟨⟨h1, h2⟩, h3⟩, h4⟩, h5⟩, h6⟩ := h
 refine ⟨fun t ht => ?_, fun t ht => ?_, fun t ht hb => ?_, fun i hi => C0 h4 hi, fun i hi => C0 h5 hi, fun i hi => C0 h6 hi⟩
 ·rw [ht] at h1; exact C0 h1 (by simp [H5])
 ·rw [ht] at h2; exact C0 h2 (by simp [H5])
 ·rw [ht, hb] at h3; exact C0 h3 (x := t) (by simp [H5]) (by simp [H5])
theorem Kw : ∀ (l : List Nat), Bn l [] = false
 | [] => rfl
 | x :: r => by simp [Bn, BX, Kw r]
theorem Zv {a b : Trc} (h : apart a b = true) : Ee a b = true := by
 simp only [apart, Bool.and_eq_true] at h
 obtain ⟨⟨⟨⟨⟨h1, h2⟩, h3⟩, h4⟩, h5⟩, h6⟩ := h
 have e1 : (!Bn a.upd b.Kf) = true := by
  unfold Trc.Kf
  cases b.sft with
  | none => exact h4
  | some _ => simp [Kw]
 have e2 : (!Bn b.upd a.Kf) = true := by
  unfold Trc.Kf
  cases a.sft with
  | none => exact h5
  | some _ => simp [Kw]
 simp only [Ee, h1, h2, h3, e1, e2, h6, Bool.and_self]
def DT (o : EM) : Prop := ∃ q, o = some q /\ ∀ p ∈ q.1, p
theorem Kx {a b : EM} (h : DT (a.and b)) : DT a /\ DT b := by
 obtain ⟨q, h, hq⟩ := h
 cases a with
 | none => cases h
 | some a => cases b with
  | none => cases h
  | some b =>
   injection h with h
   subst h
   exact ⟨⟨a, rfl, fun p hp => hq p (List.mem_append_left _ hp)⟩, ⟨b, rfl, fun p hp => hq p (List.mem_append_right _ hp)⟩⟩
theorem AHD {a b : Nat} {α : Type} {x : Option α} {z : α} (h : (bif Nat.beq a b then x else Option.none) = some z) : a = b /\ x = some z := by
 cases e : Nat.beq a b with
 | false => rw [e] at h; cases h
 | true => rw [e] at h; exact ⟨Nat.eq_of_beq_eq_true e, h⟩
theorem ABG {a b : AV} (h : DT (W5 a b)) : a = b := by
 obtain ⟨q, h, hq⟩ := h
 cases a <;> cases b <;> simp only [W5] at h <;> try (cases h; done)
 ·rename_i T x T' y
  split at h <;> try (cases h; done)
  rename_i e
  subst e
  injection h with h
  subst h
  have := hq _ (List.mem_cons_self ..)
  rw [NG] at this
  rw [this]
 ·exact congrArg _ (AHD h).1
 ·exact congrArg _ (AHD h).1
 ·exact congrArg _ (AHD h).1
 ·obtain ⟨rfl, h2⟩ := AHD h
  clear h
  split at h2 <;> try (cases h2; done)
  rename_i e
  subst e
  injection h2 with h2
  subst h2
  have := hq _ (List.mem_cons_self ..)
  rw [NG] at this
  rw [this]
theorem ADU {a b : Option AV} (h : DT (AIn a b)) : a = b := by
 cases a with
 | none => obtain ⟨q, h, _⟩ := h; cases h
 | some a => cases b with
  | none => obtain ⟨q, h, _⟩ := h; cases h
  | some b => rw [ABG h]
theorem Ky {id off : Nat} : ∀ {l : List (Nat × Chunk × Chunk)}, DT (F6 id off l) -> ∀ o n, (id, o, n) ∈ l -> cellAt off o = cellAt off n
 | (j, o, n) :: r, h, o', n', hm => by
  unfold F6 at h
  rcases List.mem_cons.1 hm with e | hm
  ·injection e with e1 e2
   injection e2 with e2 e3
   subst e1; subst e2; subst e3
   rw [Nat.beq_refl, cond_true] at h
   exact ADU (Kx h).1
  ·cases e : Nat.beq j id with
   | false => rw [e] at h; exact Ky h _ _ hm
   | true => rw [e] at h; exact Ky (Kx h).2 _ _ hm
theorem QV {s : Nat × Nat} : ∀ {tr : List Trc}, DT (Rm s tr) -> ∀ t ∈ tr, DT (F6 s.1 s.2 t.ups)
 | t :: r, h, u, hu => by
  rcases List.mem_cons.1 hu with rfl | hu
  ·exact (Kx h).1
  ·exact QV (Kx h).2 u hu
theorem Ly {tr : List Trc} : ∀ {l : List (Nat × Nat)}, DT (NO tr l) -> ∀ s ∈ l, DT (Rm s tr)
 | s :: r, h, u, hu => by
  rcases List.mem_cons.1 hu with rfl | hu
  ·exact (Kx h).1
  ·exact Ly (Kx h).2 u hu
theorem QW {bef : Array Nat} : ∀ {L1 : List Trc} {x : Trc} {L2 : List Trc}, Kg bef (L1 ++ x :: L2) = true -> (∀ y ∈ L2, (bef.getD y.i 0).testBit x.i = true \/ Ee x y = true) /\ (∀ z ∈ L1, (bef.getD x.i 0).testBit z.i = true \/ Ee z x = true)
 | [], x, L2, h => by
  simp only [List.nil_append, Kg, Bool.and_eq_true, List.all_eq_true, Bool.or_eq_true] at h
  exact ⟨h.1, fun z hz => by cases hz⟩
 | z :: L1, x, L2, h => by
  simp only [List.cons_append, Kg, Bool.and_eq_true, List.all_eq_true, Bool.or_eq_true] at h
  obtain ⟨h1, h2⟩ := QW h.2
  refine ⟨h1, fun u hu => ?_⟩
  rcases List.mem_cons.1 hu with rfl | hu
  ·exact h.1 x (by simp)
  ·exact h2 u hu
theorem Na {bef : Array Nat} {s : Nat × Nat} : ∀ {L1 : List Trc} {x : Trc} {L2 : List Trc}, x.sft = some s -> s ∉ QI bef (L1 ++ x :: L2) -> (∀ y ∈ L2, (bef.getD y.i 0).testBit x.i = true \/ apart x y = true) /\ (∀ z ∈ L1, (bef.getD x.i 0).testBit z.i = true \/ apart z x = true)
 | [], x, L2, hs, h => by
  refine ⟨fun y hy => ?_, fun z hz => by cases hz⟩
  cases e : (bef.getD y.i 0).testBit x.i || apart x y with
  | true => simpa using e
  | false =>
   refine absurd ?_ h
   simp only [List.nil_append, QI]
   refine List.mem_append_left _ (List.mem_flatMap.2 ⟨y, hy, ?_⟩)
   rw [e, hs]
   simp [AG6]
 | z :: L1, x, L2, hs, h => by
  simp only [List.cons_append, QI, List.mem_append, not_or] at h
  obtain ⟨h1, h2⟩ := Na hs h.2
  refine ⟨h1, fun u hu => ?_⟩
  rcases List.mem_cons.1 hu with rfl | hu
  ·cases e : (bef.getD x.i 0).testBit u.i || apart u x with
   | true => simpa using e
   | false =>
    refine absurd ?_ h.1
    refine List.mem_flatMap.2 ⟨x, by simp, ?_⟩
    rw [e, hs]
    simp [AG6]
  ·exact h2 u hu
theorem XJ {bef : Array Nat} {L1 : List Trc} {x : Trc} {L2 : List Trc} (h : QT bef (L1 ++ x :: L2)) : (∀ y ∈ L2, (bef.getD y.i 0).testBit x.i = true \/ Ee x y = true) /\ (∀ z ∈ L1, (bef.getD x.i 0).testBit z.i = true \/ Ee z x = true) /\
  ((∀ y ∈ L2, (bef.getD y.i 0).testBit x.i = true \/ apart x y = true) /\ (∀ z ∈ L1, (bef.getD x.i 0).testBit z.i = true \/ apart z x = true) \/ x.sft = none \/ ∃ s, x.sft = some s /\ ∀ t ∈ L1 ++ x :: L2, DT (F6 s.1 s.2 t.ups)) := by
 rcases h with h | ⟨q, h, hq⟩
 ·obtain ⟨h1, h2⟩ := Ut h
  exact ⟨fun y hy => (h1 y hy).imp (fun h => h) Zv, fun y hy => (h2 y hy).imp (fun h => h) Zv, .inl ⟨h1, h2⟩⟩
 ·unfold F7 at h
  cases e : Kg bef (L1 ++ x :: L2) with
  | false => rw [e] at h; cases h
  | true =>
   rw [e, cond_true] at h
   obtain ⟨h1, h2⟩ := QW e
   refine ⟨h1, h2, ?_⟩
   cases hs : x.sft with
   | none => exact .inr (.inl rfl)
   | some s =>
    by_cases hm : s ∈ QI bef (L1 ++ x :: L2)
    ·exact .inr (.inr ⟨s, rfl, QV (Ly ⟨q, h, hq⟩ s hm)⟩)
    ·exact .inl (Na hs hm)
theorem ADV {P : Program} {S : FuncId -> Bo} {wr : Md} {op : Op} {ev : Operand -> AV} {nx id off : Nat} {hp hp' : Nat -> Chunk} {out : Out} (h : ED P op ev = some (id, off)) (hr : (Br P S wr op ev nx).run hp = some out) (hc : cellAt off (hp' id) = cellAt off (hp id)) : (Br P S wr op ev nx).run hp' = some out := by
 unfold ED at h
 split at h <;> try (cases h; done)
 rename_i t a
 split at h <;> try (cases h; done)
 rename_i d i id' off' h1 h2 h3
 cases ha : Di d with
 | true => rw [ha] at h; cases h
 | false =>
  rw [ha] at h
  injection h with h
  injection h with e1 e2
  subst e1; subst e2
  simp only [Br, Jc, FA, h1, h2, h3, Req.run, ha] at hr ⊢
  have key : ∀ c : Chunk, Req.run hp' (match c with
    | .box _ cells => if off' <= cells.len then C3 false i.size (cells.drop off') else .fail
    | _ => .fail) = match cellAt off' c with
    | some x => if i.size = 1 then some ⟨[], x.strip, []⟩ else none
    | none => none := by
   intro c
   cases c <;> try rfl
   rename_i e cells
   simp only [cellAt]
   by_cases hl : off' <= cells.len
   ·rw [if_pos hl, if_pos hl]
    cases cells.drop off' <;> simp only [C3, Hg, Bool.false_eq_true, if_false] <;> try rfl
    by_cases hi : i.size = 1
    ·rw [if_pos hi, if_pos hi]; rfl
    ·rw [if_neg hi, if_neg hi]; rfl
   ·rw [if_neg hl, if_neg hl]; rfl
  have key' : ∀ c : Chunk, Req.run hp (match c with
    | .box _ cells => if off' <= cells.len then C3 false i.size (cells.drop off') else .fail
    | _ => .fail) = Req.run hp' (match c with
    | .box _ cells => if off' <= cells.len then C3 false i.size (cells.drop off') else .fail
    | _ => .fail) := by
   intro c
   cases c <;> try rfl
   rename_i e cells
   by_cases hl : off' <= cells.len
   ·simp only [if_pos hl]
    unfold C3
    cases Hg false i.size (cells.drop off') <;> rfl
   ·simp only [if_neg hl]; rfl
  have e := key (hp' id')
  have e' := key (hp id')
  rw [hc] at e
  exact (e.trans e'.symm).trans ((key' _).symm.trans hr)
theorem En {bef : Option (Array Nat)} {next : Nat} : ∀ {L1 : List Itm} {x : Itm} {L2 : List Itm} {i : Nat} {st : St}, Good C ops bef next i (L1 ++ x :: L2) st ->
  x.i = i + L1.length /\ ops[x.i]? = some x.o /\ Valid C ops bef next x (B4 L1 st) /\ (∀ z ∈ L1, z.i < x.i) /\ (∀ y ∈ L2, x.i < y.i)
 | [], x, L2, i, st, h => by
  obtain ⟨h1, h2, h3, h4⟩ := h
  subst h1
  refine ⟨rfl, h2, h3, fun z hz => (by cases hz), fun y hy => ?_⟩
  have lt : ∀ (M : List Itm) (j : Nat) (s : St), Good C ops bef next j M s -> ∀ y ∈ M, j <= y.i := by
   intro M
   induction M with
   | nil => intro j s _ y hy; cases hy
   | cons u M ih =>
    intro j s hg y hy
    rcases List.mem_cons.1 hy with rfl | hy
    ·exact Nat.le_of_eq hg.1.symm
    ·have := ih (j + 1) _ hg.2.2.2 y hy; omega
  exact lt L2 (x.i + 1) _ h4 y hy
 | z :: L1, x, L2, i, st, h => by
  obtain ⟨h1, _, _, h4⟩ := h
  obtain ⟨g1, g2, g3, g4, g5⟩ := En h4
  refine ⟨by simp only [List.length_cons]; omega, g2, g3, fun u hu => ?_, g5⟩
  rcases List.mem_cons.1 hu with rfl | hu
  ·omega
  ·exact g4 u hu
theorem QX {bef : Option (Array Nat)} {next : Nat} {x : Itm} {st : St} (h : Valid C ops bef next x st) : x.t.i = x.i /\ x.t.wt = x.o.dst /\ x.t.upd = Kv x := by
 obtain ⟨_, h⟩ := h
 unfold Kv
 cases e : x.eff with
 | none => rw [e] at h; obtain ⟨rd, _, h⟩ := h; rw [h]; exact ⟨rfl, rfl, rfl⟩
 | some out => rw [e] at h; obtain ⟨rd, _, _, _, _, h⟩ := h; rw [h]; exact ⟨rfl, rfl, rfl⟩
theorem QY {bef : Option (Array Nat)} {next : Nat} : ∀ {L1 L2 : List Itm} {i : Nat} {st : St}, Good C ops bef next i (L1 ++ L2) st -> Good C ops bef next i L1 st
 | [], _, _, _, _ => trivial
 | _ :: L1, _, _, _, ⟨h1, h2, h3, h4⟩ => ⟨h1, h2, h3, QY h4⟩
theorem Nb {bef : Option (Array Nat)} {next id off : Nat} {b : Nat -> Bool} : ∀ {L : List Itm} {i : Nat} {s s' : St}, Good C ops bef next i L s -> (∀ y ∈ L, DT (F6 id off y.t.ups)) -> cellAt off (s'.heap id) = cellAt off (s.heap id) -> cellAt off ((A7 b L s').heap id) = cellAt off (s.heap id)
 | [], _, _, _, _, _, h => h
 | x :: L, i, s, s', ⟨h1, h2, h3, h4⟩, hk, h => by
  have e1 : cellAt off ((BO s x.o x.eff).heap id) = cellAt off (s.heap id) := by
   by_cases e : id ∈ Kv x
   ·have hkx := hk x (by simp)
    obtain ⟨_, h3⟩ := h3
    unfold Kv at e
    cases he : x.eff with
    | none => rw [he] at e; simp at e
    | some out =>
     rw [he] at e h3
     obtain ⟨rd, _, _, _, _, ht⟩ := h3
     rw [ht] at hkx
     exact (Ky hkx _ _ (List.mem_map.2 ⟨id, e, rfl⟩)).symm
   ·rw [CF e]
  have e2 : cellAt off ((bif b x.i then BO s' x.o x.eff else s').heap id) = cellAt off ((BO s x.o x.eff).heap id) := by
   cases b x.i with
   | false => rw [cond_false, e1]; exact h
   | true =>
    rw [cond_true]
    by_cases e : id ∈ Kv x
    ·rw [DP (st' := s) (fun h => absurd e h)]
    ·rw [CF e, e1]; exact h
  simp only [A7]
  rw [Nb h4 (fun y hy => hk y (List.mem_cons_of_mem _ hy)) e2, e1]
theorem ADW {ro : Option Nat} {rm : Nat} (hS : ∀ f, AT C.P f (C.S f)) {next N : Nat} (hnx : 0 < next) {B : Array Nat} {L1 L2 : List Itm} {x : Itm} {s0 : St} (hg : Good C ops (some B) next 0 (L1 ++ x :: L2) s0) (hN : (L1 ++ x :: L2).length = N)
  (ht : QT B ((L1 ++ x :: L2).map (·.t))) {b : Nat -> Bool} (hb : b x.i = false) (hbN : ∀ k, b k = true -> k < N) (hpre : ∀ j, (B.getD x.i 0).testBit j = true -> b j = true) (hcl : ∀ k, b k = true -> ∀ j, (B.getD k 0).testBit j = true -> b j = true)
  {a : Act} {w : World} (hR : H6 D0 φ0 ow0 w0 next N b (A7 b (L1 ++ x :: L2) s0) a w) {K : Act -> World -> Prop} (hK : ∀ a' w', H6 D0 φ0 ow0 w0 next N (up b x.i) (A7 (up b x.i) (L1 ++ x :: L2) s0) a' w' -> K a' w') :
  wpOpIn (rnd ro) rm C.P ops Q x.i K a w := by
 obtain ⟨hxi, hox, hval, hlt1, hlt2⟩ := En hg
 have hiN : x.i < N := by rw [hxi, <- hN]; simp
 rw [List.map_append, List.map_cons] at ht
 obtain ⟨hp2, hp1, hsoft⟩ := XJ ht
 obtain ⟨ti, tw, tu⟩ := QX hval
 -- the traces of the others
 have vt : ∀ y ∈ L1 ++ x :: L2, y.t.i = y.i /\ y.t.wt = y.o.dst /\ y.t.upd = Kv y := by
  intro y hy
  obtain ⟨M1, M2, e⟩ := List.append_of_mem hy
  rw [e] at hg
  exact QX (En hg).2.2.1
 have far2 : ∀ y ∈ L2, b y.i = true -> Ee x.t y.t = true := by
  intro y hy hby
  rcases hp2 y.t (List.mem_map_of_mem hy) with h | h
  ·rw [(vt y (by simp [hy])).1, ti] at h
   rw [hcl _ hby _ h] at hb
   cases hb
  ·exact h
 have far1 : ∀ z ∈ L1, b z.i = true \/ Ee z.t x.t = true := by
  intro z hz
  rcases hp1 z.t (List.mem_map_of_mem hz) with h | h
  ·rw [(vt z (by simp [hz])).1, ti] at h
   exact .inl (hpre _ h)
  ·exact .inr h
 have hsplit : ∀ c : Nat -> Bool, A7 c (L1 ++ x :: L2) s0 = A7 c L2 (bif c x.i then BO (A7 c L1 s0) x.o x.eff else A7 c L1 s0) := fun c => by rw [Ur]; rfl
 -- slots and chunks that it reads
 have venv : ∀ t ∈ x.t.rd, (A7 b (L1 ++ x :: L2) s0).env t = (B4 L1 s0).env t := by
  intro t htr
  rw [hsplit, hb, cond_false, Fe]
  have e1 : (A7 b L2 (A7 b L1 s0)).env t = (A7 (fun _ => false) L2 (A7 b L1 s0)).env t := by
   refine Ff rfl fun y hy hyt => ?_
   cases hby : b y.i with
   | false => rfl
   | true =>
    have := (DG (far2 y hy hby)).2.1 t (by rw [(vt y (by simp [hy])).2.1]; exact hyt)
    exact absurd htr this
  have e2 : ∀ (M : List Itm) (s : St), A7 (fun _ => false) M s = s := by
   intro M
   induction M with
   | nil => intro s; rfl
   | cons y M ih => intro s; simp only [A7, cond_false]; exact ih s
  rw [e1, e2]
  refine Ff rfl fun z hz hzt => ?_
  rcases far1 z hz with h | h
  ·exact h
  ·have := (DG h).1 t (by rw [(vt z (by simp [hz])).2.1]; exact hzt)
   exact absurd htr this
 have vheap : ∀ tch : List Nat, (∀ y ∈ L2, b y.i = true -> ∀ i ∈ y.t.upd, i ∉ tch) -> (∀ z ∈ L1, b z.i = true \/ ∀ i ∈ z.t.upd, i ∉ tch) -> ∀ id ∈ tch, (A7 b (L1 ++ x :: L2) s0).heap id = (B4 L1 s0).heap id := by
  intro tch t2 t1 id hid
  rw [hsplit, hb, cond_false, Fe]
  have e1 : (A7 b L2 (A7 b L1 s0)).heap id = (A7 (fun _ => false) L2 (A7 b L1 s0)).heap id := by
   refine EU rfl fun y hy hyt => ?_
   cases hby : b y.i with
   | false => rfl
   | true =>
    have := t2 y hy hby id (by rw [(vt y (by simp [hy])).2.2]; exact hyt)
    exact absurd hid this
  have e2 : ∀ (M : List Itm) (s : St), A7 (fun _ => false) M s = s := by
   intro M
   induction M with
   | nil => intro s; rfl
   | cons y M ih => intro s; simp only [A7, cond_false]; exact ih s
  rw [e1, e2]
  refine EU rfl fun z hz hzt => ?_
  rcases t1 z hz with h | h
  ·exact h
  ·have := h id (by rw [(vt z (by simp [hz])).2.2]; exact hzt)
   exact absurd hid this
 -- what it leaves
 have hfin : A7 (up b x.i) (L1 ++ x :: L2) s0 = BO (A7 b (L1 ++ x :: L2) s0) x.o x.eff := by
  have hupx : up b x.i x.i = true := by simp [up]
  have hup1 : ∀ z ∈ L1, up b x.i z.i = b z.i := fun z hz => by unfold up; rw [if_neg (by have := hlt1 z hz; omega)]
  have hup2 : ∀ y ∈ L2, up b x.i y.i = b y.i := fun y hy => by unfold up; rw [if_neg (by have := hlt2 y hy; omega)]
  have env : ∀ t, (A7 (up b x.i) (L1 ++ x :: L2) s0).env t = (BO (A7 b (L1 ++ x :: L2) s0) x.o x.eff).env t := by
   intro t
   rw [Em, hsplit, hsplit, hupx, hb, cond_true, cond_false]
   by_cases e : x.o.dst = some t
   ·rw [if_pos e]
    have : (A7 (up b x.i) L2 (BO (A7 (up b x.i) L1 s0) x.o x.eff)).env t = (A7 (fun _ => false) L2 (BO (A7 (up b x.i) L1 s0) x.o x.eff)).env t := by
     refine Ff rfl fun y hy hyt => ?_
     rw [hup2 y hy]
     cases hby : b y.i with
     | false => rfl
     | true =>
      have := (DG (far2 y hy hby)).2.2.1 t (by rw [tw]; exact e)
      rw [(vt y (by simp [hy])).2.1] at this
      exact absurd hyt this
    rw [this]
    have e2 : ∀ (M : List Itm) (s : St), A7 (fun _ => false) M s = s := by
     intro M
     induction M with
     | nil => intro s; rfl
     | cons y M ih => intro s; simp only [A7, cond_false]; exact ih s
    rw [e2, Em, if_pos e]
   ·rw [if_neg e]
    refine Ff ?_ fun y hy _ => hup2 y hy
    rw [Em, if_neg e]
    exact Ff rfl fun z hz _ => hup1 z hz
  have heap : ∀ id, (A7 (up b x.i) (L1 ++ x :: L2) s0).heap id = (BO (A7 b (L1 ++ x :: L2) s0) x.o x.eff).heap id := by
   intro id
   rw [hsplit, hsplit, hupx, hb, cond_true, cond_false]
   by_cases e : id ∈ Kv x
   ·have : (A7 (up b x.i) L2 (BO (A7 (up b x.i) L1 s0) x.o x.eff)).heap id = (A7 (fun _ => false) L2 (BO (A7 (up b x.i) L1 s0) x.o x.eff)).heap id := by
     refine EU rfl fun y hy hyt => ?_
     rw [hup2 y hy]
     cases hby : b y.i with
     | false => rfl
     | true =>
      have := (DG (far2 y hy hby)).2.2.2.2.2 id (by rw [tu]; exact e)
      rw [(vt y (by simp [hy])).2.2] at this
      exact absurd hyt this
    rw [this]
    have e2 : ∀ (M : List Itm) (s : St), A7 (fun _ => false) M s = s := by
     intro M
     induction M with
     | nil => intro s; rfl
     | cons y M ih => intro s; simp only [A7, cond_false]; exact ih s
    rw [e2]
    exact DP fun h => absurd e h
   ·rw [CF e]
    refine EU ?_ fun y hy _ => hup2 y hy
    rw [CF e]
    exact EU rfl fun z hz _ => hup1 z hz
  have hn : (A7 (up b x.i) (L1 ++ x :: L2) s0).n = (BO (A7 b (L1 ++ x :: L2) s0) x.o x.eff).n := by rw [(Ip _ _ _).1, (Jg _ _ _).1, (Ip _ _ _).1]
  have hnx : (A7 (up b x.i) (L1 ++ x :: L2) s0).next = (BO (A7 b (L1 ++ x :: L2) s0) x.o x.eff).next := by rw [(Ip _ _ _).2, (Jg _ _ _).2, (Ip _ _ _).2]
  revert env heap hn hnx
  generalize A7 (up b x.i) (L1 ++ x :: L2) s0 = s1
  generalize BO (A7 b (L1 ++ x :: L2) s0) x.o x.eff = s2
  intro env heap hn hnx
  cases s1; cases s2
  simp only at env heap hn hnx
  rw [show _ = _ from funext env, show _ = _ from funext heap, hn, hnx]
 rw [hfin] at hK
 rw [wpOpIn, hox]
 obtain ⟨φ, ow, hn, hdf, henv, hrest⟩ := id hR
 obtain ⟨hds, hval⟩ := hval
 have hds' : Bw (A7 b (L1 ++ x :: L2) s0).n x.o.dst = true := by
  rw [(Ip _ _ _).1]
  rw [Fe, (Ip _ _ _).1] at hds
  exact hds
 -- the guard
 have guard : ∀ run rd, NZ ops (B4 L1 s0) x.o run rd -> (∀ t ∈ rd, t ∈ x.t.rd) -> Region.wanted x.o (yielded ops a.tmps) = run := by
  intro run rd h hsub
  refine GA (st := A7 b (L1 ++ x :: L2) s0) (rd := rd) ?_ henv
  rcases h with h | ⟨j, want, d, c, h1, h2, h3, h4, h5⟩ | ⟨j, want, d, v, h1, h2, h3, h6, h4, h5⟩
  ·exact .inl h
  ·refine .inr (.inl ⟨j, want, d, c, h1, h2, ?_, h4, h5⟩)
   rw [venv d (hsub d (by rw [h5]; simp))]
   exact h3
  ·refine .inr (.inr ⟨j, want, d, v, h1, h2, ?_, h6, h4, h5⟩)
   rw [venv d (hsub d (by rw [h5]; simp))]
   exact h3
 cases heff : x.eff with
 | none =>
  rw [heff] at hval hK
  obtain ⟨rd, hgd, htr⟩ := hval
  have hw := guard _ _ hgd (by rw [htr]; intro t h; exact h)
  simp only [hw]
  rw [if_neg (by simp)]
  exact ⟨fun _ _ => trivial, hK _ _ (step_skip hR hds')⟩
 | some out =>
  rw [heff] at hval hK
  obtain ⟨rd, hgd, h1, h2, h3, htr⟩ := hval
  have hw := guard _ _ hgd (by rw [htr]; intro t h; exact List.mem_append_left _ h)
  simp only [hw]
  rw [if_pos trivial]
  have hev : Br C.P C.S C.wr x.o.op (Ah (B4 L1 s0).env) (next + 64 * x.i) = Br C.P C.S C.wr x.o.op (Ah (A7 b (L1 ++ x :: L2) s0).env) (next + 64 * x.i) := by
   refine Us fun y hy => ?_
   cases y <;> try rfl
   rename_i t
   refine (venv t ?_).symm
   rw [htr]
   exact List.mem_append_right _ (D2 hy)
  have hsame : (Br C.P C.S C.wr x.o.op (Ah (B4 L1 s0).env) (next + 64 * x.i)).run (A7 b (L1 ++ x :: L2) s0).heap = some out := by
   have htch : x.t.tch = (Br C.P C.S C.wr x.o.op (Ah (B4 L1 s0).env) (next + 64 * x.i)).Bc (B4 L1 s0).heap := by rw [htr]
   have Kf : (∀ y ∈ L2, b y.i = true -> ∀ i ∈ y.t.upd, i ∉ x.t.tch) -> (∀ z ∈ L1, b z.i = true \/ ∀ i ∈ z.t.upd, i ∉ x.t.tch) -> (Br C.P C.S C.wr x.o.op (Ah (B4 L1 s0).env) (next + 64 * x.i)).run (A7 b (L1 ++ x :: L2) s0).heap = some out := by
    intro t2 t1
    obtain ⟨l1, l2⟩ := Req.Wu (hp := (B4 L1 s0).heap) (hp' := (A7 b (L1 ++ x :: L2) s0).heap) (r := Br C.P C.S C.wr x.o.op (Ah (B4 L1 s0).env) (next + 64 * x.i)) (fun id hid => vheap x.t.tch t2 t1 id (by rw [htch]; exact hid))
    rw [l1]; exact h1
   rcases hsoft with ⟨g2, g1⟩ | hn | ⟨s, hs, hk⟩
   ·refine Kf (fun y hy hby => ?_) (fun z hz => ?_)
    ·rcases g2 y.t (List.mem_map_of_mem hy) with h | h
     ·rw [(vt y (by simp [hy])).1, ti] at h
      rw [hcl _ hby _ h] at hb
      cases hb
     ·exact (apart_spec h).2.2.2.2.1
    ·rcases g1 z.t (List.mem_map_of_mem hz) with h | h
     ·rw [(vt z (by simp [hz])).1, ti] at h
      exact .inl (hpre _ h)
     ·exact .inr (apart_spec h).2.2.2.1
   ·have e : x.t.Kf = x.t.tch := by unfold Trc.Kf; rw [hn]
    refine Kf (fun y hy hby => ?_) (fun z hz => ?_)
    ·rw [<- e]; exact (DG (far2 y hy hby)).2.2.2.2.1
    ·rw [<- e]; exact (far1 z hz).imp (fun h => h) fun h => (DG h).2.2.2.1
   ·have hso : ED C.P x.o.op (Ah (B4 L1 s0).env) = some (s.1, s.2) := by rw [htr] at hs; exact hs
    have hk' : ∀ y ∈ L1 ++ x :: L2, DT (F6 s.1 s.2 y.t.ups) := fun y hy => hk y.t (by
     have := List.mem_map_of_mem (f := fun x : Itm => x.t) hy
     rwa [List.map_append, List.map_cons] at this)
    refine ADV hso h1 ?_
    rw [Nb hg hk' rfl, Fe]
    exact (Nb (QY hg) (fun y hy => hk' y (List.mem_append_left _ hy)) rfl).symm
  rw [hev] at hsame h3
  exact Ru hS hnx hR hb hiN (ord := fun k => (B.getD x.i 0).testBit k) (fun k hk => ⟨hpre k hk, hbN k (hpre k hk)⟩) hsame h2 h3 hds' hK
end
end AL
end
section
set_option linter.unusedVariables false
set_option linter.unusedSimpArgs false
namespace AL
open Go
def bitsOf (g : Nat -> Nat) (o : Oper) : Nat := o.after.foldl (fun s e => if Region.binds .any e then s ||| 2 ^ e.on ||| g e.on else s) 0
theorem QZ (g : Nat -> Nat) (j : Nat) : ∀ (l : List Edge) (s : Nat), (l.foldl (fun s e => if Region.binds .any e then s ||| 2 ^ e.on ||| g e.on else s) s).testBit j = true ->
  s.testBit j = true \/ ∃ e ∈ l, Region.binds .any e = true /\ (j = e.on \/ (g e.on).testBit j = true)
 | [], s, h => .inl h
 | e :: l, s, h => by
  rw [List.foldl_cons] at h
  rcases QZ g j l _ h with h1 | ⟨e', h1, h2⟩
  ·by_cases hb : Region.binds .any e = true
   ·rw [if_pos hb] at h1
    simp only [Nat.testBit_or, Bool.or_eq_true, Nat.testBit_two_pow, decide_eq_true_eq] at h1
    rcases h1 with (h1 | h1) | h1
    ·exact .inl h1
    ·exact .inr ⟨e, by simp, hb, .inl h1.symm⟩
    ·exact .inr ⟨e, by simp, hb, .inr h1⟩
   ·rw [if_neg hb] at h1
    exact .inl h1
  ·exact .inr ⟨e', List.mem_cons_of_mem _ h1, h2⟩
def Iq (acc : Array Nat) (o : Oper) : Array Nat := acc.push (o.after.foldl (fun s e => if Region.binds .any e then s ||| 2 ^ e.on ||| acc.getD e.on 0 else s) 0)
theorem ABH (ops : Array Oper) : Region.before ops = ops.toList.foldl Iq #[] := by
 unfold Region.before
 rw [<- Array.foldl_toList]
 rfl
theorem Uu : ∀ (l : List Oper) (acc : Array Nat), (l.foldl Iq acc).size = acc.size + l.length /\ (∀ j, j < acc.size -> (l.foldl Iq acc).getD j 0 = acc.getD j 0) /\
  ∀ k o, l[k]? = some o -> (l.foldl Iq acc).getD (acc.size + k) 0 = bitsOf (fun j => if j < acc.size + k then (l.foldl Iq acc).getD j 0 else 0) o
 | [], acc => ⟨by simp, fun _ _ => rfl, fun k o h => by simp at h⟩
 | o :: l, acc => by
  rw [List.foldl_cons]
  obtain ⟨h1, h2, h3⟩ := Uu l (Iq acc o)
  have hs : (Iq acc o).size = acc.size + 1 := by simp [Iq]
  have hold : ∀ j, j < acc.size -> (l.foldl Iq (Iq acc o)).getD j 0 = acc.getD j 0 := by
   intro j hj
   rw [h2 j (by omega)]
   simp [Iq, Array.getElem?_push, Nat.ne_of_lt hj]
  refine ⟨by rw [h1, hs]; simp; omega, hold, ?_⟩
  intro k o' hk
  cases k with
  | zero =>
   simp only [List.getElem?_cons_zero, Option.some.injEq] at hk
   subst hk
   rw [Nat.add_zero, h2 acc.size (by omega)]
   have : (Iq acc o).getD acc.size 0 = o.after.foldl (fun s e => if Region.binds .any e then s ||| 2 ^ e.on ||| acc.getD e.on 0 else s) 0 := by simp [Iq]
   rw [this]
   unfold bitsOf
   congr 1
   funext s e
   by_cases hb : Region.binds .any e = true
   ·rw [if_pos hb, if_pos hb]
    simp only
    by_cases hlt : e.on < acc.size
    ·rw [if_pos hlt, hold _ hlt]
    ·rw [if_neg hlt]
     have : acc.getD e.on 0 = 0 := by simp [Array.getElem?_eq_none (by omega : acc.size <= e.on)]
     rw [this]
   ·rw [if_neg hb, if_neg hb]
  | succ k =>
   have := h3 k o' (by simpa using hk)
   rw [hs] at this
   rw [show acc.size + (k + 1) = acc.size + 1 + k from by omega]
   exact this
theorem Ir {ops : Array Oper} {k j : Nat} (h : ((Region.before ops).getD k 0).testBit j = true) :
  ∃ o e, ops[k]? = some o /\ e ∈ o.after.toList /\ Region.binds .any e = true /\ (j = e.on \/ (e.on < k /\ ((Region.before ops).getD e.on 0).testBit j = true)) := by
 rw [ABH] at h ⊢
 obtain ⟨h1, _, h3⟩ := Uu ops.toList #[]
 cases ho : ops[k]? with
 | none =>
  have hk : ops.size <= k := by
   rcases Nat.lt_or_ge k ops.size with hk | hk
   ·rw [Array.getElem?_eq_getElem hk] at ho; cases ho
   ·exact hk
  have hsz : (ops.toList.foldl Iq #[]).size <= k := by rw [h1]; simpa using hk
  rw [Array.getD_eq_getD_getElem?, Array.getElem?_eq_none hsz] at h
  simp at h
 | some o =>
  have h4 := h3 k o (by simpa using ho)
  simp only [Array.size_empty, Nat.zero_add] at h4
  rw [h4] at h
  unfold bitsOf at h
  rw [<- Array.foldl_toList] at h
  rcases QZ (fun j => if j < k then (ops.toList.foldl Iq #[]).getD j 0 else 0) j _ _ h with h5 | ⟨e, h5, h6, h7⟩
  ·simp at h5
  ·refine ⟨o, e, rfl, h5, h6, h7.imp (fun h => h) fun h => ?_⟩
   by_cases hlt : e.on < k
   ·rw [if_pos hlt] at h; exact ⟨hlt, h⟩
   ·rw [if_neg hlt] at h; simp at h
theorem Uv {ops : Array Oper} {b : Nat -> Bool} (hd : ∀ k o e, ops[k]? = some o -> e ∈ o.after.toList -> Region.binds .any e = true -> b k = true -> b e.on = true) :
  ∀ n k, k <= n -> b k = true -> ∀ j, ((Region.before ops).getD k 0).testBit j = true -> b j = true := by
 intro n
 induction n with
 | zero =>
  intro k hk hb j hj
  obtain ⟨o, e, h1, h2, h3, h4⟩ := Ir hj
  rcases h4 with rfl | ⟨h4, _⟩
  ·exact hd k o e h1 h2 h3 hb
  ·omega
 | succ n ih =>
  intro k hk hb j hj
  obtain ⟨o, e, h1, h2, h3, h4⟩ := Ir hj
  rcases h4 with rfl | ⟨h4, h5⟩
  ·exact hd k o e h1 h2 h3 hb
  ·exact ih e.on (by omega) (hd k o e h1 h2 h3 hb) j h5
theorem Jh : ∀ {l : List Oper} {i : Nat}, EN i l = true -> ∀ k o e, l[k]? = some o -> e ∈ o.after.toList -> Region.binds .any e = true -> e.on < i + k
 | [], _, _, k, o, e, h, _, _ => by simp at h
 | x :: l, i, h, k, o, e, hk, he, hb => by
  simp only [EN, Bool.and_eq_true, List.all_eq_true] at h
  cases k with
  | zero =>
   simp only [List.getElem?_cons_zero, Option.some.injEq] at hk
   subst hk
   have := h.1 e he
   rw [hb] at this
   have := Nat.le_of_ble_eq_true (show Nat.ble (e.on + 1) i = true by simpa [Nat.blt] using this)
   omega
  | succ k =>
   have := Jh h.2 k o e (by simpa using hk) he hb
   omega
section
variable {D0 : List Deferred} {φ0 : Hnd} {ow0 : Own} {w0 : World} {C : Cfg} {ops : Array Oper} {Q : Exit -> Act -> World -> Prop}
def bOf (listed : Array Bool) : Nat -> Bool := fun k => listed.getD k false
theorem AHE {listed : Array Bool} {i : Nat} (hi : i < listed.size) : bOf (listed.setIfInBounds i true) = up (bOf listed) i := by
 funext k
 unfold bOf up
 by_cases e : k = i
 ·subst e
  simp [Array.getElem?_setIfInBounds, hi]
 ·rw [if_neg e]
  simp [Array.getElem?_setIfInBounds, Ne.symm e]
theorem count_set {N i : Nat} {b : Nat -> Bool} (hi : i < N) (hb : b i = false) : ((List.range N).filter fun k => !(up b i k)).length + 1 = ((List.range N).filter fun k => !(b k)).length := by
 have : ∀ (l : List Nat), l.Nodup -> i ∈ l -> (l.filter fun k => !(up b i k)).length + 1 = (l.filter fun k => !(b k)).length := by
  intro l
  induction l with
  | nil => intro _ h; cases h
  | cons x l ih =>
   intro hn hm
   rw [List.nodup_cons] at hn
   rcases List.mem_cons.1 hm with rfl | hm
   ·have h1 : (l.filter fun k => !(up b i k)) = l.filter fun k => !(b k) := by
     refine List.filter_congr fun k hk => ?_
     unfold up
     rw [if_neg (by intro e; subst e; exact hn.1 hk)]
    rw [List.filter_cons, List.filter_cons]
    simp [up, hb]
    exact congrArg List.length (by simpa [up] using h1)
   ·have hx : x ≠ i := by intro e; subst e; exact hn.1 hm
    have := ih hn.2 hm
    rw [List.filter_cons, List.filter_cons]
    have e : up b i x = b x := by unfold up; rw [if_neg hx]
    rw [e]
    cases b x
    ·simp only [Bool.not_false, if_true, List.length_cons]; omega
    ·simpa using this
 exact this _ List.nodup_range (List.mem_range.2 hi)
theorem AHF {ro : Option Nat} {rm : Nat} (hS : ∀ f, AT C.P f (C.S f)) {next : Nat} (hnx : 0 < next) {L : List Itm} {s0 : St} (hg : Good C ops (some (Region.before ops)) next 0 L s0) (hL : L.length = ops.size) (ht : QT (Region.before ops) (L.map (·.t)))
  (he : EN 0 ops.toList = true) (hQ : ∀ a w, H6 D0 φ0 ow0 w0 next ops.size (fun k => decide (k < ops.size)) (B4 L s0) a w -> Q .normal a w) :
  ∀ (fuel : Nat) (listed : Array Bool) (a : Act) (w : World), listed.size = ops.size -> ((List.range ops.size).filter fun k => !(bOf listed k)).length <= fuel ->
   (∀ k o e, ops[k]? = some o -> e ∈ o.after.toList -> Region.binds .any e = true -> bOf listed k = true -> bOf listed e.on = true) ->
   H6 D0 φ0 ow0 w0 next ops.size (bOf listed) (A7 (bOf listed) L s0) a w -> wpAnyIn (rnd ro) rm C.P .any ops Q fuel listed a w := by
 have hbN : ∀ (listed : Array Bool), listed.size = ops.size -> ∀ k, bOf listed k = true -> k < ops.size := by
  intro listed hs k hk
  rcases Nat.lt_or_ge k ops.size with h | h
  ·exact h
  ·unfold bOf at hk
   simp [Array.getElem?_eq_none (show listed.size <= k by omega)] at hk
 -- all are listed
 have hdone : ∀ (listed : Array Bool) (a : Act) (w : World), listed.size = ops.size -> (∀ k, k < ops.size -> bOf listed k = true) -> H6 D0 φ0 ow0 w0 next ops.size (bOf listed) (A7 (bOf listed) L s0) a w -> Q .normal a w := by
  intro listed a w hs hall hR
  have e : bOf listed = fun k => decide (k < ops.size) := by
   funext k
   by_cases hk : k < ops.size
   ·rw [hall k hk]; simp [hk]
   ·have : bOf listed k = false := by
     cases h : bOf listed k with
     | false => rfl
     | true => exact absurd (hbN listed hs k h) hk
    rw [this]; simp [hk]
  have e2 : A7 (bOf listed) L s0 = B4 L s0 := by
   rw [Fe]
   have : ∀ (M : List Itm) (s : St), (∀ x ∈ M, bOf listed x.i = true) -> A7 (bOf listed) M s = A7 (fun _ => true) M s := by
    intro M
    induction M with
    | nil => intro s _; rfl
    | cons x M ih =>
     intro s h
     simp only [A7, h x (by simp)]
     exact ih _ fun y hy => h y (List.mem_cons_of_mem _ hy)
   refine this L s0 fun x hx => hall _ ?_
   obtain ⟨L1, L2, e⟩ := List.append_of_mem hx
   have h1 := hg
   rw [e] at h1
   have := (En h1).1
   rw [this, <- hL, e]
   simp
  rw [e2, e] at hR
  exact hQ a w hR
 -- one that is not listed, all its edges being so
 have hready : ∀ listed : Array Bool, listed.size = ops.size -> (∃ k, k < ops.size /\ bOf listed k = false) -> Region.ready .any ops listed ≠ [] := by
  intro listed hs hex
  have hmin : ∀ n k, k <= n -> k < ops.size -> bOf listed k = false -> ∃ i, i < ops.size /\ bOf listed i = false /\ ∀ j, j < i -> bOf listed j = true := by
   intro n
   induction n with
   | zero => intro k hk h1 h2; exact ⟨k, h1, h2, fun j hj => by omega⟩
   | succ n ih =>
    intro k hk h1 h2
    by_cases hlow : ∃ j, j < k /\ bOf listed j = false
    ·obtain ⟨j, hj, hj2⟩ := hlow
     exact ih j (by omega) (by omega) hj2
    ·refine ⟨k, h1, h2, fun j hj => ?_⟩
     cases hb : bOf listed j with
     | true => rfl
     | false => exact absurd ⟨j, hj, hb⟩ hlow
  obtain ⟨k, hk, hkb⟩ := hex
  obtain ⟨i, hi, hib, hlow⟩ := hmin k k (Nat.le_refl _) hk hkb
  have : i ∈ Region.ready .any ops listed := by
   unfold Region.ready
   rw [List.mem_filter, List.mem_range]
   refine ⟨hi, ?_⟩
   have hoi : ops[i]? = some ops[i] := Array.getElem?_eq_getElem hi
   have hl : listed.getD i true = false := by
    have h1 : i < listed.size := by omega
    unfold bOf at hib
    simp only [Array.getD_eq_getD_getElem?, Array.getElem?_eq_getElem h1, Option.getD_some] at hib ⊢
    exact hib
   rw [hl, hoi]
   simp only [Bool.not_false, Option.map_some, Option.getD_some, Bool.true_and]
   rw [Array.all_eq_true']
   intro e hem
   cases hb : Region.binds .any e with
   | false => rfl
   | true =>
    have := Jh he i ops[i] e (by simp) (by simpa using hem) hb
    simpa [bOf] using hlow e.on (by omega)
  intro h
  rw [h] at this
  cases this
 intro fuel
 induction fuel with
 | zero =>
  intro listed a w hs hc hcl hR
  have hall : ∀ k, k < ops.size -> bOf listed k = true := by
   intro k hk
   cases hb : bOf listed k with
   | true => rfl
   | false =>
    have : k ∈ (List.range ops.size).filter fun k => !(bOf listed k) := List.mem_filter.2 ⟨List.mem_range.2 hk, by simp [hb]⟩
    rw [List.eq_nil_of_length_eq_zero (Nat.le_zero.1 hc)] at this
    cases this
  refine ⟨?_, hdone listed a w hs hall hR⟩
  refine List.eq_nil_iff_forall_not_mem.2 fun i hi => ?_
  unfold Region.ready at hi
  rw [List.mem_filter, List.mem_range] at hi
  have h1 := hall i hi.1
  have h2 : i < listed.size := by omega
  unfold bOf at h1
  simp only [Array.getD_eq_getD_getElem?, Array.getElem?_eq_getElem h2, Option.getD_some] at h1
  have h3 := hi.2
  simp only [Array.getD_eq_getD_getElem?, Array.getElem?_eq_getElem h2, Option.getD_some, h1] at h3
  simp at h3
 | succ fuel ih =>
  intro listed a w hs hc hcl hR
  refine ⟨fun hr => ?_, fun i hi => ?_⟩
  ·refine hdone listed a w hs (fun k hk => ?_) hR
   cases hb : bOf listed k with
   | true => rfl
   | false => exact absurd hr (hready listed hs ⟨k, hk, hb⟩)
  ·unfold Region.ready at hi
   rw [List.mem_filter, List.mem_range, Bool.and_eq_true] at hi
   obtain ⟨hiN, hi1, hi2⟩ := hi
   have h2 : i < listed.size := by omega
   have hib : bOf listed i = false := by
    simp only [Array.getD_eq_getD_getElem?, Array.getElem?_eq_getElem h2, Option.getD_some] at hi1
    unfold bOf
    simp only [Array.getD_eq_getD_getElem?, Array.getElem?_eq_getElem h2, Option.getD_some]
    simpa using hi1
   have hedge : ∀ o e, ops[i]? = some o -> e ∈ o.after.toList -> Region.binds .any e = true -> bOf listed e.on = true := by
    intro o e ho hem hb
    rw [ho] at hi2
    simp only [Option.map_some, Option.getD_some, Array.all_eq_true'] at hi2
    have := hi2 e (by simpa using hem)
    rw [hb] at this
    simpa [bOf] using this
   -- the item
   have hex : ∃ L1 x L2, L = L1 ++ x :: L2 /\ L1.length = i := by
    have hlt : i < L.length := by omega
    exact ⟨L.take i, L[i], L.drop (i + 1), by rw [<- List.drop_eq_getElem_cons hlt, List.take_append_drop], by rw [List.length_take]; omega⟩
   obtain ⟨L1, x, L2, rfl, hl1⟩ := hex
   have hxi : x.i = i := by rw [(En hg).1, hl1]; omega
   subst hxi
   have hcl' : ∀ k, bOf listed k = true -> ∀ j, ((Region.before ops).getD k 0).testBit j = true -> bOf listed j = true := fun k hk j hj => Uv hcl k k (Nat.le_refl _) hk j hj
   refine ADW hS hnx hg (by simpa using hL) ht hib (hbN listed hs) (fun j hj => ?_) hcl' hR fun a' w' h => ?_
   ·obtain ⟨o, e, q1, q2, q3, q4⟩ := Ir hj
    have hon := hedge o e q1 q2 q3
    rcases q4 with rfl | ⟨_, q4⟩
    ·exact hon
    ·exact hcl' _ hon j q4
   ·have hset := AHE (listed := listed) h2
    refine ih (listed.setIfInBounds x.i true) a' w' (by simpa using hs) ?_ ?_ (by rw [hset]; exact h)
    ·rw [hset]
     have := count_set hiN hib
     omega
    ·rw [hset]
     intro k o e q1 q2 q3 q4
     unfold up at q4 ⊢
     by_cases hk : k = x.i
     ·subst hk
      by_cases hj : e.on = x.i
      ·rw [if_pos hj]
      ·rw [if_neg hj]; exact hedge o e q1 q2 q3
     ·rw [if_neg hk] at q4
      by_cases hj : e.on = x.i
      ·rw [if_pos hj]
      ·rw [if_neg hj]; exact hcl k o e q1 q2 q3 q4
theorem Eo {ro : Option Nat} {rm : Nat} (hS : ∀ f, AT C.P f (C.S f)) (hm : C.P.follows .mixedOrders = true) {id : Nat} {draw : Bool} {st : St} {K : St -> Prop} (h : Cw C ops draw st K) {a : Act} {w : World} (hsat : BN D0 φ0 ow0 w0 st a w)
  (hK : ∀ st', K st' -> ∀ a' w', BN D0 φ0 ow0 w0 st' a' w' -> Q .normal a' w') : (Code.region id ops draw).wpIn (rnd ro) rm C.P Q a w := by
 unfold Cw at h
 cases hc : !draw || EN 0 ops.toList with
 | false => rw [hc] at h; cases h
 | true =>
  rw [hc, cond_true] at h
  obtain ⟨L, hL, hgood, hk, htr⟩ := F9 _ 0 [] st (by simp) h
  obtain ⟨φ, ow, hn, hdf, henv, hheap, hfresh, hown, hnx, hfr⟩ := hsat
  have hlen : L.length = ops.size := by simpa using hL
  -- at the end
  have hend : ∀ a w, H6 D0 φ0 ow0 w0 st.next ops.size (fun k => decide (k < ops.size)) (B4 L st) a w -> Q .normal a w := by
   rintro a w ⟨φ, ow, hn, hdf, henv, hheap, hfresh, hown, hfr⟩
   refine hK _ hk a w ⟨φ, ow, hn, hdf, henv, hheap, ?_, ?_, ?_, hfr⟩
   ·intro id hid
    have hid' : st.next + 64 * ops.size <= id := hid
    refine hfresh id (by omega) fun k hk hw => ?_
    have : k < ops.size := by simpa using hk
    unfold Dh at hw
    omega
   ·intro c id hc
    obtain ⟨h1, h2⟩ := hown c id hc
    refine ⟨h1, ?_⟩
    show id < st.next + 64 * ops.size
    rcases h2 with h2 | ⟨k, h2, _, h3⟩
    ·omega
    ·unfold Dh at h3; omega
   ·show 0 < st.next + 64 * ops.size
    omega
  cases draw with
  | false =>
   refine wpIn_region ?_
   rw [List.range_eq_range', <- hlen]
   refine QU hS hnx (N := ops.size) (F := B4 L st) hend L 0 st a w rfl (by omega) hgood ⟨φ, ow, hn, hdf, henv, hheap, ?_, ?_, hfr⟩
   ·intro id hid _; exact hfresh id hid
   ·intro c id hc
    exact ⟨(hown c id hc).1, .inl (hown c id hc).2⟩
  | true =>
   have he : EN 0 ops.toList = true := by simpa using hc
   refine wpIn_region_any hm ?_
   have hrep : ∀ k, bOf (Array.replicate ops.size false) k = false := by
    intro k
    unfold bOf
    simp [Array.getElem?_replicate]
    split <;> rfl
   have e0 : A7 (bOf (Array.replicate ops.size false)) L st = st := by
    have : ∀ (M : List Itm) (s : St), A7 (bOf (Array.replicate ops.size false)) M s = s := by
     intro M
     induction M with
     | nil => intro s; rfl
     | cons y M ih => intro s; simp only [A7, hrep, cond_false]; exact ih s
    exact this L st
   refine AHF hS hnx hgood hlen (by simpa using htr _ rfl) he hend ops.size _ a _ (by simp) ?_ ?_ ?_
   ·exact Nat.le_trans (List.length_filter_le _ _) (by simp)
   ·intro k o e _ _ _ hk
    rw [hrep] at hk
    cases hk
   ·rw [e0]
    have hdr : A8 ow w ow { w with drawn := w.drawn + 1 } := ⟨Nat.le_refl _, fun b _ h => ⟨h, rfl⟩⟩
    refine ⟨φ, ow, hn, hdf, fun t => AV.Ab (Aw.refl φ) hdr (henv t), fun id => Cp (Aw.refl φ) hdr (fun b _ h => ⟨h, rfl⟩) (hheap id), fun id hid _ => hfresh id hid, fun c id hc => ⟨(hown c id hc).1, .inl (hown c id hc).2⟩, ?_⟩
    exact ⟨hfr.size, hfr.os, hfr.tape, hfr.output, hfr.blk, hfr.frn, hfr.phi⟩
theorem Kz (hS : ∀ f, AT C.P f (C.S f)) (hm : C.P.follows .mixedOrders = true) {id : Nat} {draw : Bool} {st : St} {K : St -> Prop} (h : Cw C ops draw st K) {a : Act} {w : World} (hsat : BN D0 φ0 ow0 w0 st a w)
  (hK : ∀ st', K st' -> ∀ a' w', BN D0 φ0 ow0 w0 st' a' w' -> Q .normal a' w') : (Code.region id ops draw).wp C.P Q a w :=
 (wpIn_wide (n := 0)).1 (Eo (ro := none) (rm := 0) hS hm h hsat hK)
end
end AL
end
section
set_option linter.unusedVariables false
set_option linter.unusedSimpArgs false
namespace AL
open Go
section
variable {φ : Hnd} {ow : Own} {w : World}
theorem K0 : ∀ (u : Upd) (heap : Nat -> Chunk) (j : Nat), (∃ c, (j, c) ∈ u /\ AA3 heap u j = c) \/ (j ∉ ids u /\ AA3 heap u j = heap j)
 | [], heap, j => .inr ⟨by simp [ids], rfl⟩
 | (i, c) :: r, heap, j => by
  unfold AA3
  by_cases h : j = i
  ·subst h
   simp only [Nat.beq_refl, cond_true]
   exact .inl ⟨c, by simp, rfl⟩
  ·have : Nat.beq j i = false := Bool.eq_false_iff.2 fun e => h (Nat.eq_of_beq_eq_true e)
   simp only [this, cond_false]
   rcases K0 r heap j with ⟨c', h1, h2⟩ | ⟨h1, h2⟩
   ·exact .inl ⟨c', List.mem_cons_of_mem _ h1, h2⟩
   ·refine .inr ⟨?_, h2⟩
    simp only [ids, List.map_cons, List.mem_cons, not_or]
    exact ⟨h, h1⟩
structure Hand (ow ow' : Own) : Prop where
 none : ∀ c, ow' c = Option.none ↔ ow c = Option.none
 zero : ∀ c, ow' c = some 0 ↔ ow c = some 0
theorem Hand.refl (ow : Own) : Hand ow ow := ⟨fun _ => Iff.rfl, fun _ => Iff.rfl⟩
theorem Hand.trans {a b c : Own} (h : Hand a b) (k : Hand b c) : Hand a c := ⟨fun x => (k.none x).trans (h.none x), fun x => (k.zero x).trans (h.zero x)⟩
theorem Hand.keep {ow' : Own} (h : Hand ow ow') : A8 ow w ow' w := ⟨Nat.le_refl _, fun b _ hb => ⟨(h.none b).2 hb, rfl⟩⟩
theorem IH (b : Nat) (heap : Nat -> Chunk) : FC b heap = heap \/ ∃ e e' T l h hs o, heap b = .BC e e' T l (h :: hs) /\
  (EK e' T (h :: hs) l fun l d => if BX b d || !(FM d) || BX 0 d || Nat.beq b 0 then .fail else .out ⟨[], .nil, (b, .BC e e' T l []) :: d.map fun j => (j, .none)⟩).run heap = some o /\ FC b heap = AA3 heap o.upd := by
 unfold FC
 cases hb : heap b <;> try (exact .inl rfl)
 rename_i e e' T l hs
 cases hs with
 | nil => exact .inl rfl
 | cons h hs =>
  simp only
  split
  ·rename_i o ho
   exact .inr ⟨e, e', T, l, h, hs, o, rfl, ho, rfl⟩
  ·exact .inl rfl
theorem XK {b : Nat} {heap : Nat -> Chunk} (hc : ∀ i, cH φ ow w i (heap i)) : ∃ ow', Hand ow ow' /\ ∀ i, cH φ ow' w i (FC b heap i) := by
 rcases IH b heap with hcl | ⟨e, e', T, l, h, hs, o, hb, ho, hcl⟩
 ·exact ⟨ow, Hand.refl _, by rw [hcl]; exact hc⟩
 ·rw [hcl]
  obtain ⟨l', h1, h2, h3⟩ := Ie (φ := φ) (w := w) (id := b) (h :: hs) l _ ho
  split at h1 <;> try (simp [Req.run] at h1; done)
  rename_i hcond
  simp only [Bool.or_eq_true, Bool.not_eq_true', not_or, Bool.not_eq_true, Bool.not_eq_false] at hcond
  obtain ⟨⟨⟨c1, c2⟩, c3⟩, c4⟩ := hcond
  simp only [Req.run, Option.some.injEq] at h1
  subst h1
  have hbd : b ∉ (h :: hs).map (·.2) := fun h => by have := Am.2 h; rw [c1] at this; cases this
  have h0d : 0 ∉ (h :: hs).map (·.2) := fun h => by have := Am.2 h; rw [c3] at this; cases this
  have hb0 : b ≠ 0 := fun h => by rw [h] at c4; cases c4
  have hcb := hc b
  rw [hb] at hcb
  obtain ⟨v, xs, pos, hv, hown, hvb, hlim, hsub⟩ := hcb
  obtain ⟨pos', hpos, hsub'⟩ := h3 ow pos xs (fun p _ => hc p.2) (Dm.1 c2) hbd hsub
  refine ⟨Al ((h :: hs).map (·.2)) b ow, ⟨fun c => CJ, fun c => ⟨fun hm => ?_, fun hm => CA hm h0d⟩⟩, fun i => ?_⟩
  ·rcases Ce hm with ⟨h1, _⟩ | ⟨h1, _⟩
   ·exact h1
   ·exact absurd h1.symm hb0
  ·rcases K0 ((b, Chunk.BC e e' T l' []) :: ((h :: hs).map (·.2)).map fun j => (j, Chunk.none)) heap i with ⟨c, k1, k2⟩ | ⟨k1, k2⟩
   ·rw [k2]
    rcases List.mem_cons.1 k1 with k1 | k1
    ·injection k1 with e1 e2
     subst e1; subst e2
     exact ⟨v, xs, pos', hv, by rw [h2]; exact hown, fun g hg => ⟨CA (hvb g hg).1 hbd, by rw [hpos g (hvb g hg).1]; exact (hvb g hg).2⟩, by rw [h2]; exact hlim, hsub'⟩
    ·obtain ⟨j, _, e1⟩ := List.mem_map.1 k1
     injection e1 with e1 e2
     subst e2
     trivial
   ·rw [k2]
    have k3 : i ∉ (h :: hs).map (·.2) := by
     intro hi
     refine k1 ?_
     simp only [ids, List.map_cons, List.mem_cons]
     right
     obtain ⟨p, hp, rfl⟩ := List.mem_map.1 hi
     rcases List.mem_cons.1 hp with rfl | hp
     ·exact .inl rfl
     ·refine .inr ?_
      simp only [List.map_map, List.mem_map]
      exact ⟨p, hp, rfl⟩
    exact Cp (Aw.refl φ) (Hp _ _) (fun c _ hb => ⟨CA hb k3, rfl⟩) (hc i)
theorem G4 {ρ : Ren} : ∀ (l : List (Nat × Chunk)) (heap : Nat -> Chunk) (ow : Own), (∀ i, cH φ ow w i (heap i)) -> ∃ ow', Hand ow ow' /\ ∀ i, cH φ ow' w i (Cx ρ l heap i)
 | [], heap, ow, hc => ⟨ow, Hand.refl _, hc⟩
 | (a, c) :: r, heap, ow, hc => by
  have skip : Cx ρ ((a, c) :: r) heap = Cx ρ r heap -> ∃ ow', Hand ow ow' /\ ∀ i, cH φ ow' w i (Cx ρ ((a, c) :: r) heap i) := by
   intro h
   rw [h]
   exact G4 r heap ow hc
  cases c <;> try (exact skip rfl)
  rename_i e e' T l hs
  cases hs with
  | cons => exact skip rfl
  | nil =>
   obtain ⟨ow1, k1, k2⟩ := XK (b := (ρ.find a).getD a) hc
   obtain ⟨ow2, k3, k4⟩ := G4 r _ ow1 k2
   exact ⟨ow2, k1.trans k3, k4⟩
def Ren.le (ρ ρ' : Ren) : Prop := ∀ a b, ρ.find a = some b -> ρ'.find a = some b
theorem Ren.le_refl (ρ : Ren) : ρ.le ρ := fun _ _ h => h
theorem Ren.le_trans {a b c : Ren} (h : a.le b) (k : b.le c) : a.le c := fun x y e => k x y (h x y e)
theorem B6 {ρ ρ' : Ren} {a b : Nat} (h : ρ.bind a b = some ρ') : ρ.le ρ' /\ ρ'.find a = some b := by
 unfold Ren.bind at h
 split at h
 ·rename_i c hc
  cases hcb : Nat.beq c b with
  | false => rw [hcb] at h; cases h
  | true =>
   rw [hcb] at h
   injection h with h
   subst h
   rw [Nat.eq_of_beq_eq_true hcb] at hc
   exact ⟨Ren.le_refl _, hc⟩
 ·rename_i hc
  injection h with h
  subst h
  refine ⟨fun x y e => ?_, by simp [Ren.find]⟩
  unfold Ren.find
  cases hx : Nat.beq a x with
  | false => exact e
  | true =>
   rw [Nat.eq_of_beq_eq_true hx] at hc
   rw [hc] at e
   cases e
theorem G5 : ∀ {ρ : Ren} {a b : Nat}, ρ.find a = some b -> (a, b) ∈ ρ
 | (x, y) :: r, a, b, h => by
  unfold Ren.find at h
  cases hx : Nat.beq x a with
  | false => rw [hx] at h; exact List.mem_cons_of_mem _ (G5 h)
  | true =>
   rw [hx] at h
   injection h with h
   rw [Nat.eq_of_beq_eq_true hx, h]
   simp
def Ren.inv : Ren -> Nat -> Option Nat
 | [], _ => Option.none
 | (x, y) :: r, b => if y = b then some x else Ren.inv r b
theorem Rv : ∀ {ρ : Ren} {a b : Nat}, ρ.inv b = some a -> (a, b) ∈ ρ
 | (x, y) :: r, a, b, h => by
  unfold Ren.inv at h
  split at h
  ·rename_i e
   injection h with h
   rw [h, e]
   simp
  ·exact List.mem_cons_of_mem _ (Rv h)
theorem inv_of : ∀ {ρ : Ren} {a b : Nat}, ρ.inj = true -> (a, b) ∈ ρ -> ρ.inv b = some a
 | (x, y) :: r, a, b, hi, h => by
  simp only [Ren.inj, Bool.and_eq_true, List.all_eq_true] at hi
  unfold Ren.inv
  rcases List.mem_cons.1 h with h | h
  ·injection h with h1 h2
   rw [if_pos h2.symm, h1]
  ·rw [if_neg]
   ·exact inv_of hi.2 h
   ·intro e
    have := hi.1 _ h
    simp [e] at this
def GB (φ0 φ : Hnd) (ρ : Ren) : Hnd := fun id => match ρ.find id with
 | some b => φ b
 | Option.none => φ0 id
def D3 (ow : Own) (ρ : Ren) : Own := fun c => match ow c with
 | Option.none => Option.none
 | some 0 => some 0
 | some (j + 1) => ρ.inv (j + 1)
section
variable {φ0 : Hnd} {ow1 : Own} {ρf : Ren}
theorem Nc (h : Hand ow ow1) : A8 ow w (D3 ow1 ρf) w := ⟨Nat.le_refl _, fun b _ hb => ⟨by unfold D3; rw [(h.none b).2 hb], rfl⟩⟩
theorem K3 : A8 ow1 w (D3 ow1 ρf) w := ⟨Nat.le_refl _, fun b _ hb => ⟨by unfold D3; rw [hb], rfl⟩⟩
theorem Bh {a b : Nat} (h : ρf.find a = some b) : GB φ0 φ ρf a = φ b := by unfold GB; rw [h]
def Tr (φ0 φ : Hnd) (ow ow1 : Own) (w : World) (ρf : Ren) (a a' : AV) : Prop := ∀ vs, a'.holds φ ow w vs -> a.holds (GB φ0 φ ρf) (D3 ow1 ρf) w vs
theorem GC (hH : Hand ow ow1) : ∀ (a a' : AV) (ρ ρ' : Ren) (ps : List Prop), AJ ρ a a' = some (ρ', ps) -> ρ.le ρ' /\ (ρ'.le ρf -> (∀ p ∈ ps, p) -> Tr φ0 φ ow ow1 w ρf a a') := by
 intro a
 induction a with
 | bot =>
  intro a' ρ ρ' ps h
  unfold AJ at h
  cases hs : a'.single <;> rw [hs] at h <;> simp at h
  obtain ⟨rfl, rfl⟩ := h
  exact ⟨Ren.le_refl _, fun _ _ vs hv => AV.JZ hv hs⟩
 | raw v =>
  intro a' ρ ρ' ps h
  cases a' <;> simp [AJ] at h
  obtain ⟨rfl, rfl⟩ := h
  refine ⟨Ren.le_refl _, fun _ hp vs hv => ?_⟩
  have := hp _ (List.mem_singleton.2 rfl)
  subst this
  exact hv
 | dat T x =>
  intro a' ρ ρ' ps h
  cases a' with
  | dat T' y =>
   simp only [AJ] at h
   split at h <;> try (cases h; done)
   rename_i hT
   subst hT
   injection h with h
   injection h with h1 h2
   subst h1; subst h2
   refine ⟨Ren.le_refl _, fun _ hp vs hv => ?_⟩
   have : y = x := hp _ (List.mem_singleton.2 rfl)
   subst this
   exact AV.Ab (a := .dat _ y) (Aw.refl φ) (Nc hH) hv
  | raw u =>
   have key : ∃ t, T = .sl t /\ u = .slice none 0 0 := by
    cases T <;> try (simp [AJ] at h; done)
    rename_i t
    cases u <;> try (simp [AJ] at h; done)
    rename_i A n c
    cases A <;> try (simp [AJ] at h; done)
    cases n <;> try (simp [AJ] at h; done)
    cases c <;> try (simp [AJ] at h; done)
    exact ⟨t, rfl, rfl⟩
   obtain ⟨t, rfl, rfl⟩ := key
   simp only [AJ, Option.some.injEq, Prod.mk.injEq] at h
   obtain ⟨rfl, rfl⟩ := h
   refine ⟨Ren.le_refl _, fun _ hp vs hv => ?_⟩
   have : x = [] := hp _ (List.mem_singleton.2 rfl)
   subst this
   have : vs = [.slice none 0 0] := hv
   subst this
   exact ⟨rfl, rfl, none, 0, rfl, Nat.le_refl _, Nat.zero_le _, Nat.zero_le _, .inl rfl⟩
  | _ => simp [AJ] at h
 | isNil p => intro a' ρ ρ' ps h; cases a' <;> simp [AJ] at h
 | arr id =>
  intro a' ρ ρ' ps h
  cases a' <;> simp [AJ] at h
  obtain ⟨_, hb, rfl, rfl⟩ := h
  obtain ⟨h1, h2⟩ := B6 hb
  refine ⟨h1, fun hle _ vs ⟨A, n, c, k1, k2⟩ => ⟨A, n, c, ?_, k2⟩⟩
  rw [Bh (hle _ _ h2)]
  exact k1
 | vw id sz lo hi =>
  intro a' ρ ρ' ps h
  cases a' with
  | vw id' sz' lo' hi' =>
   simp only [AJ] at h
   cases hz : Nat.beq sz sz' <;> rw [hz] at h <;> simp at h
   obtain ⟨_, hb, rfl, rfl⟩ := h
   have hz' := Nat.eq_of_beq_eq_true hz
   subst hz'
   obtain ⟨h1, h2⟩ := B6 hb
   refine ⟨h1, fun hle hp vs hv => ?_⟩
   have e1 : lo' = lo := hp _ (by simp)
   have e2 : hi' = hi := hp _ (by simp)
   subst e1; subst e2
   obtain ⟨A, n, c, X, k1, k2⟩ := hv
   refine ⟨A, n, c, X, ?_, k2⟩
   rw [Bh (hle _ _ h2)]
   exact k1
  | _ => simp [AJ] at h
 | ref id off =>
  intro a' ρ ρ' ps h
  cases a' with
  | ref id' off' =>
   simp only [AJ] at h
   cases hz : Nat.beq off off' <;> rw [hz] at h <;> simp at h
   obtain ⟨_, hb, rfl, rfl⟩ := h
   have hz' := Nat.eq_of_beq_eq_true hz
   subst hz'
   obtain ⟨h1, h2⟩ := B6 hb
   refine ⟨h1, fun hle hp vs ⟨g, k1, k2⟩ => ⟨g, ?_, k2⟩⟩
   rw [Bh (hle _ _ h2)]
   exact k1
  | _ => simp [AJ] at h
 | elt id sz i off =>
  intro a' ρ ρ' ps h
  cases a' with
  | elt id' sz' i' off' =>
   simp only [AJ] at h
   cases hz : Nat.beq sz sz' && Nat.beq off off' <;> rw [hz] at h <;> simp at h
   obtain ⟨_, hb, rfl, rfl⟩ := h
   simp only [Bool.and_eq_true] at hz
   have hz' := Nat.eq_of_beq_eq_true hz.1
   have hz2 := Nat.eq_of_beq_eq_true hz.2
   subst hz'; subst hz2
   obtain ⟨h1, h2⟩ := B6 hb
   refine ⟨h1, fun hle hp vs hv => ?_⟩
   have e1 : i' = i := hp _ (by simp)
   subst e1
   obtain ⟨g, n, c, k1, k2⟩ := hv
   refine ⟨g, n, c, ?_, k2⟩
   rw [Bh (hle _ _ h2)]
   exact k1
  | _ => simp [AJ] at h
 | spt T x =>
  intro a' ρ ρ' ps h
  cases a' with
  | spt T' y =>
   simp only [AJ] at h
   split at h <;> try (cases h; done)
   rename_i hT
   subst hT
   injection h with h
   injection h with h1 h2
   subst h1; subst h2
   refine ⟨Ren.le_refl _, fun _ hp vs hv => ?_⟩
   have : y = x := hp _ (List.mem_singleton.2 rfl)
   subst this
   exact AV.Ab (a := .spt _ y) (Aw.refl φ) (Nc hH) hv
  | _ => simp [AJ] at h
 | fn f c ih =>
  intro a' ρ ρ' ps h
  cases a' with
  | fn g c' =>
   simp only [AJ] at h
   cases hz : Nat.beq f g <;> rw [hz] at h <;> simp only [cond_true, cond_false] at h <;> try (cases h; done)
   have hz' := Nat.eq_of_beq_eq_true hz
   subst hz'
   obtain ⟨h1, h2⟩ := ih _ _ _ _ h
   exact ⟨h1, fun hle hp vs ⟨cs, k1, k2⟩ => ⟨cs, k1, h2 hle hp _ k2⟩⟩
  | _ => simp [AJ] at h
 | BY id =>
  intro a' ρ ρ' ps h
  cases a' <;> simp [AJ] at h
  obtain ⟨_, hb, rfl, rfl⟩ := h
  obtain ⟨h1, h2⟩ := B6 hb
  refine ⟨h1, fun hle _ vs ⟨g, k1, k2⟩ => ⟨g, ?_, k2⟩⟩
  rw [Bh (hle _ _ h2)]
  exact k1
 | chv id =>
  intro a' ρ ρ' ps h
  cases a' <;> simp [AJ] at h
  obtain ⟨_, hb, rfl, rfl⟩ := h
  obtain ⟨h1, h2⟩ := B6 hb
  refine ⟨h1, fun hle _ vs ⟨g, k1, k2⟩ => ⟨g, ?_, k2⟩⟩
  rw [Bh (hle _ _ h2)]
  exact k1
 | bfn id f =>
  intro a' ρ ρ' ps h
  cases a' with
  | bfn id' f' =>
   simp only [AJ] at h
   cases hz : Nat.beq f f' <;> rw [hz] at h <;> simp only [cond_true, cond_false] at h <;> try (cases h; done)
   have hz' := Nat.eq_of_beq_eq_true hz
   subst hz'
   simp at h
   obtain ⟨_, hb, rfl, rfl⟩ := h
   obtain ⟨h1, h2⟩ := B6 hb
   refine ⟨h1, fun hle _ vs ⟨g, k1, k2⟩ => ⟨g, ?_, k2⟩⟩
   rw [Bh (hle _ _ h2)]
   exact k1
  | _ => simp [AJ] at h
 | opq id =>
  intro a' ρ ρ' ps h
  cases a' <;> simp [AJ] at h
  obtain ⟨_, hb, rfl, rfl⟩ := h
  obtain ⟨h1, h2⟩ := B6 hb
  refine ⟨h1, fun hle _ vs ⟨g, k1, k2⟩ => ⟨g, ?_, k2⟩⟩
  rw [Bh (hle _ _ h2)]
  exact k1
 | idn id T x =>
  intro a' ρ ρ' ps h
  cases a' with
  | idn id' T' y =>
   simp only [AJ] at h
   split at h <;> try (cases h; done)
   rename_i hT
   subst hT
   simp only [Option.map_eq_some_iff, Prod.mk.injEq] at h
   obtain ⟨_, hb, rfl, rfl⟩ := h
   obtain ⟨h1, h2⟩ := B6 hb
   refine ⟨h1, fun hle hp vs ⟨g, k1, k2, k3, k4⟩ => ?_⟩
   have e2 : y = x := hp _ (.head _)
   subst e2
   refine ⟨g, ?_, k2, k3, Ty.AO (Nc hH) k4⟩
   rw [Bh (hle _ _ h2)]
   exact k1
  | _ => simp [AJ] at h
 | nil =>
  intro a' ρ ρ' ps h
  cases a' <;> simp [AJ] at h
  obtain ⟨rfl, rfl⟩ := h
  exact ⟨Ren.le_refl _, fun _ _ vs hv => hv⟩
 | cons a b iha ihb =>
  intro a' ρ ρ' ps h
  cases a' with
  | cons a2 b2 =>
   simp only [AJ] at h
   split at h <;> try (cases h; done)
   rename_i ρ1 p h1
   split at h <;> try (cases h; done)
   rename_i ρ2 q h2
   injection h with h
   injection h with h3 h4
   subst h3; subst h4
   obtain ⟨k1, k2⟩ := iha _ _ _ _ h1
   obtain ⟨k3, k4⟩ := ihb _ _ _ _ h2
   refine ⟨Ren.le_trans k1 k3, fun hle hp vs ⟨v, r, e, g1, g2⟩ => ⟨v, r, e, k2 (Ren.le_trans k3 hle) (fun p hp' => hp p (by simp [hp'])) _ g1, k4 hle (fun p hp' => hp p (by simp [hp'])) _ g2⟩⟩
  | _ => simp [AJ] at h
 | agg l ih =>
  intro a' ρ ρ' ps h
  cases a' with
  | agg l' =>
   simp only [AJ] at h
   obtain ⟨h1, h2⟩ := ih _ _ _ _ h
   exact ⟨h1, fun hle hp vs ⟨cs, k1, k2⟩ => ⟨cs, k1, h2 hle hp _ k2⟩⟩
  | _ => simp [AJ] at h
 | tup l ih =>
  intro a' ρ ρ' ps h
  cases a' with
  | tup l' =>
   simp only [AJ] at h
   obtain ⟨h1, h2⟩ := ih _ _ _ _ h
   exact ⟨h1, fun hle hp vs ⟨cs, k1, k2⟩ => ⟨cs, k1, h2 hle hp _ k2⟩⟩
  | _ => simp [AJ] at h
end
end
end AL
end
section
set_option linter.unusedVariables false
set_option linter.unusedSimpArgs false
namespace AL
open Go
section
variable {φ : Hnd} {ow : Own} {w : World} {φ0 : Hnd} {ow1 : Own} {ρf : Ren}
theorem Is : ∀ (hs hs' : List (Int × Nat)) (ρ ρ' : Ren) (ps : List Prop), DO ρ hs hs' = some (ρ', ps) -> ρ.le ρ' /\
  (ρ'.le ρf -> (∀ p ∈ ps, p) -> hs.map (·.1) = hs'.map (·.1) /\ ∀ j, match BV hs j with
   | some k => ∃ k', BV hs' j = some k' /\ ρf.find k = some k'
   | Option.none => BV hs' j = Option.none)
 | [], [], ρ, ρ', ps, h => by
  simp only [DO, Option.some.injEq, Prod.mk.injEq] at h
  obtain ⟨rfl, rfl⟩ := h
  exact ⟨Ren.le_refl _, fun _ _ => ⟨rfl, fun j => rfl⟩⟩
 | [], _ :: _, ρ, ρ', ps, h => by simp [DO] at h
 | _ :: _, [], ρ, ρ', ps, h => by simp [DO] at h
 | (i, k) :: r, (i', k') :: r', ρ, ρ', ps, h => by
  simp only [DO] at h
  split at h <;> try (cases h; done)
  rename_i ρ1 h1
  split at h <;> try (cases h; done)
  rename_i ρ2 q h2
  simp only [Option.some.injEq, Prod.mk.injEq] at h
  obtain ⟨rfl, rfl⟩ := h
  obtain ⟨k1, k2⟩ := B6 h1
  obtain ⟨k3, k4⟩ := Is r r' _ _ _ h2
  refine ⟨Ren.le_trans k1 k3, fun hle hp => ?_⟩
  obtain ⟨g1, g2⟩ := k4 hle (fun p hp' => hp p (List.mem_cons_of_mem _ hp'))
  have hi : i' = i := hp _ (by simp)
  subst hi
  refine ⟨by simp [g1], fun j => ?_⟩
  unfold BV
  by_cases hj : i' = (j : Int)
  ·rw [if_pos hj, if_pos hj]
   exact ⟨k', rfl, hle _ _ (k3 _ _ k2)⟩
  ·rw [if_neg hj, if_neg hj]
   exact g2 j
theorem D4 {a b c : Nat} (hinj : ρf.inj = true) (hf : ρf.find a = some b) (hb : 0 < b) (h : ow1 c = some b) : D3 ow1 ρf c = some a := by
 unfold D3
 rw [h]
 obtain ⟨b', rfl⟩ := Nat.exists_eq_succ_of_ne_zero (by omega : b ≠ 0)
 exact inv_of hinj (G5 hf)
theorem Uw {a b : Nat} (hinj : ρf.inj = true) (hf : ρf.find a = some b) (hb : 0 < b) {v : Value} {e : TypeId} {T : Ty} {l : List T.den} (h : EJ ow1 w b v e T l) : EJ (D3 ow1 ρf) w a v e T l :=
 FZ K3 (fun g hg => D4 hinj hf hb (h.choose_spec.2.1 g hg)) h
theorem XL (a b : Nat) (hinj : ρf.inj = true) (hf : ρf.find a = some b) (hb : 0 < b) : ∀ (c c' : Chunk) (ρ ρ' : Ren) (ps : List Prop), Ae ρ c c' = some (ρ', ps) -> ρ'.le ρf -> (∀ p ∈ ps, p) -> cH φ ow1 w b c' -> cH (GB φ0 φ ρf) (D3 ow1 ρf) w a c := by
 intro c c' ρ ρ' ps h hle hp hc
 have hφ : ∀ v, φ b = some v -> GB φ0 φ ρf a = some v := fun v hv => by rw [Bh hf]; exact hv
 cases c with
 | none => trivial
 | box e cells =>
  cases c' <;> try (simp [Ae] at h; done)
  rename_i e' cells'
  simp only [Ae] at h
  cases hz : Nat.beq e e' <;> rw [hz] at h <;> simp only [cond_true, cond_false] at h <;> try (cases h; done)
  have hz' := Nat.eq_of_beq_eq_true hz
  subst hz'
  obtain ⟨g, cs, h1, h2, h3, h4⟩ := hc
  exact ⟨g, cs, hφ _ h1, D4 hinj hf hb h2, h3, (GC (φ0 := φ0) (Hand.refl ow1) _ _ _ _ _ h).2 hle hp _ h4⟩
 | arr e T l =>
  cases c' <;> try (simp [Ae] at h; done)
  rename_i e' T' l'
  simp only [Ae] at h
  cases hz : Nat.beq e e' <;> rw [hz] at h <;> simp only [cond_true, cond_false] at h <;> try (cases h; done)
  have hz' := Nat.eq_of_beq_eq_true hz
  subst hz'
  split at h <;> try (cases h; done)
  rename_i hT
  subst hT
  simp only [Option.some.injEq, Prod.mk.injEq] at h
  obtain ⟨rfl, rfl⟩ := h
  have hl : l' = l := hp _ (List.mem_singleton.2 rfl)
  subst hl
  obtain ⟨v, h1, h2⟩ := hc
  exact ⟨v, hφ _ h1, Uw hinj hf hb h2⟩
 | lit e n cells =>
  cases c' <;> try (simp [Ae] at h; done)
  rename_i e' n' cells'
  simp only [Ae] at h
  cases hz : Nat.beq e e' && Nat.beq n n' <;> rw [hz] at h <;> simp only [cond_true, cond_false] at h <;> try (cases h; done)
  simp only [Bool.and_eq_true] at hz
  have hz1 := Nat.eq_of_beq_eq_true hz.1
  have hz2 := Nat.eq_of_beq_eq_true hz.2
  subst hz1; subst hz2
  obtain ⟨g, cs, h1, h2, h3, h4, h5⟩ := hc
  exact ⟨g, cs, hφ _ h1, D4 hinj hf hb h2, h3, h4, (GC (φ0 := φ0) (Hand.refl ow1) _ _ _ _ _ h).2 hle hp _ h5⟩
 | sld T l =>
  cases c' <;> try (simp [Ae] at h; done)
  rename_i T' l'
  simp only [Ae] at h
  split at h <;> try (cases h; done)
  rename_i hT
  subst hT
  simp only [Option.some.injEq, Prod.mk.injEq] at h
  obtain ⟨rfl, rfl⟩ := h
  have hl : l' = l := hp _ (List.mem_singleton.2 rfl)
  subst hl
  obtain ⟨v, h1, h2⟩ := hc
  exact ⟨v, hφ _ h1, Ty.AO K3 h2⟩
 | BC e e1 T l hs =>
  cases c' <;> try (simp [Ae] at h; done)
  rename_i e' e1' T' l' hs'
  simp only [Ae] at h
  cases hz : Nat.beq e e' && Nat.beq e1 e1' <;> rw [hz] at h <;> simp only [cond_true, cond_false] at h <;> try (cases h; done)
  simp only [Bool.and_eq_true] at hz
  have hz1 := Nat.eq_of_beq_eq_true hz.1
  have hz2 := Nat.eq_of_beq_eq_true hz.2
  subst hz1; subst hz2
  split at h <;> try (cases h; done)
  rename_i hT
  subst hT
  split at h <;> try (cases h; done)
  rename_i ρ1 qs hm
  simp only [Option.some.injEq, Prod.mk.injEq] at h
  obtain ⟨rfl, rfl⟩ := h
  have hl : l' = l := hp _ (.head _)
  subst hl
  obtain ⟨_, hm2⟩ := Is (ρf := ρf) hs hs' _ _ _ hm
  obtain ⟨g1, g2⟩ := hm2 hle (fun p hp' => hp p (List.mem_cons_of_mem _ hp'))
  obtain ⟨v, xs, pos, hv, hown, hvb, hlim, s1, s2, s3, s4⟩ := hc
  refine ⟨v, xs, pos, hφ _ hv, hown, fun g hg => ⟨D4 hinj hf hb (hvb g hg).1, (hvb g hg).2⟩, hlim, s1, ?_, by rw [g1]; exact s3, ?_⟩
  ·intro p hp
   have h6 : p.1 ∈ hs'.map (·.1) := by rw [<- g1]; exact List.mem_map.2 ⟨p, hp, rfl⟩
   obtain ⟨p', hp', e⟩ := List.mem_map.1 h6
   rw [<- e]
   exact s2 p' hp'
  ·intro j h hj
   have h7 := s4 j h hj
   have h8 := g2 j
   cases hh : BV hs j with
   | some k =>
    rw [hh] at h8
    obtain ⟨k', h9, h10⟩ := h8
    rw [h9] at h7
    simp only at h7 ⊢
    rw [Bh h10]
    exact h7
   | none =>
    rw [hh] at h8
    simp only at h8
    rw [h8] at h7
    exact ⟨Uw hinj hf hb h7.1, h7.2⟩
 | mp k V l =>
  cases c' <;> try (simp [Ae] at h; done)
  rename_i k' V' l'
  simp only [Ae] at h
  split at h <;> try (cases h; done)
  rename_i hT
  subst hT
  split at h <;> try (cases h; done)
  rename_i hk
  subst hk
  simp only [Option.some.injEq, Prod.mk.injEq] at h
  obtain ⟨rfl, rfl⟩ := h
  have hl : l' = l := hp _ (List.mem_singleton.2 rfl)
  subst hl
  obtain ⟨g, es, clock, h1, h2, h3, h4, h5⟩ := hc
  exact ⟨g, es, clock, hφ _ h1, D4 hinj hf hb h2, h3, h4, C2 K3 h5⟩
 | mpo K e B outs =>
  cases c' <;> try (simp [Ae] at h; done)
  cases outs <;> try (simp [Ae] at h; done)
  rename_i K' e' B' outs'
  simp only [Ae] at h
  split at h <;> try (cases h; done)
  rename_i hk
  obtain ⟨rfl, rfl⟩ := hk
  simp only [Option.some.injEq, Prod.mk.injEq] at h
  obtain ⟨rfl, rfl⟩ := h
  have hl : B' = B := hp _ (List.mem_singleton.2 rfl)
  subst hl
  obtain ⟨g, es, clock, L, h1, h2, h3, h4, h5⟩ := hc
  exact ⟨g, es, clock, L, hφ _ h1, D4 hinj hf hb h2, h3, Cb (fun _ _ ⟨v, e1, e2⟩ => ⟨v, e1, He (fun b _ h => ⟨D4 hinj hf hb h, rfl⟩) e2⟩) h4, fun k hk => by cases hk⟩
 | orw id => exact trivial
 | ch cap n =>
  cases c' <;> try (simp [Ae] at h; done)
  rename_i cap' n'
  simp only [Ae, Option.some.injEq, Prod.mk.injEq] at h
  obtain ⟨rfl, rfl⟩ := h
  have h1 : cap' = cap := hp _ (by simp)
  have h2 : n' = n := hp _ (by simp)
  subst h1; subst h2
  obtain ⟨g, c, s, r, buf, h1, h2, h3, h4⟩ := hc
  exact ⟨g, c, s, r, buf, hφ _ h1, D4 hinj hf hb h2, h3, h4⟩
 | mpf K l => cases c' <;> (simp [Ae] at h; done)
 | glb g =>
  cases c' <;> try (simp [Ae] at h; done)
  rename_i g'
  simp only [Ae] at h
  cases hz : Nat.beq g g' <;> rw [hz] at h <;> simp only [cond_true, cond_false] at h <;> try (cases h; done)
  have hz' := Nat.eq_of_beq_eq_true hz
  subst hz'
  obtain ⟨h1, h2, h3⟩ := hc
  refine ⟨?_, h2, h3⟩
  unfold D3
  rw [h1]
theorem Nd : ∀ (c c' : Chunk) (ρ ρ' : Ren) (ps : List Prop), Ae ρ c c' = some (ρ', ps) -> ρ.le ρ' := by
 intro c c' ρ ρ' ps h
 have av : ∀ x y ρ ρ' ps, AJ ρ x y = some (ρ', ps) -> ρ.le ρ' := fun x y ρ ρ' ps h => (GC (φ := fun _ => none) (φ0 := fun _ => none) (w := default) (ρf := []) (Hand.refl (fun _ => none)) _ _ _ _ _ h).1
 unfold Ae at h
 split at h <;> try (cases h; done)
 ·injection h with h; injection h with h _; subst h; exact Ren.le_refl _
 ·rename_i e c e' c'
  cases hz : Nat.beq e e' <;> rw [hz] at h <;> simp only [cond_true, cond_false] at h <;> try (cases h; done)
  exact av _ _ _ _ _ h
 ·rename_i e T l e' T' l'
  cases hz : Nat.beq e e' <;> rw [hz] at h <;> simp only [cond_true, cond_false] at h <;> try (cases h; done)
  split at h <;> try (cases h; done)
  injection h with h; injection h with h _; subst h; exact Ren.le_refl _
 ·rename_i e n c e' n' c'
  cases hz : Nat.beq e e' && Nat.beq n n' <;> rw [hz] at h <;> simp only [cond_true, cond_false] at h <;> try (cases h; done)
  exact av _ _ _ _ _ h
 ·split at h <;> try (cases h; done)
  injection h with h; injection h with h _; subst h; exact Ren.le_refl _
 ·rename_i e e1 T l hs e' e1' T' l' hs'
  cases hz : Nat.beq e e' && Nat.beq e1 e1' <;> rw [hz] at h <;> simp only [cond_true, cond_false] at h <;> try (cases h; done)
  split at h <;> try (cases h; done)
  split at h <;> try (cases h; done)
  rename_i hm
  injection h with h; injection h with h _; subst h
  exact (Is (ρf := []) _ _ _ _ _ hm).1
 ·split at h <;> try (cases h; done)
  split at h <;> try (cases h; done)
  injection h with h; injection h with h _; subst h; exact Ren.le_refl _
 ·split at h <;> try (cases h; done)
  injection h with h; injection h with h _; subst h; exact Ren.le_refl _
 ·injection h with h; injection h with h _; subst h; exact Ren.le_refl _
 ·rename_i g g'
  cases hz : Nat.beq g g' <;> rw [hz] at h <;> simp only [cond_true, cond_false] at h <;> try (cases h; done)
  injection h with h; injection h with h _; subst h; exact Ren.le_refl _
theorem Qa (hH : Hand ow ow1) {env : Nat -> AV} : ∀ (l : List (Nat × AV)) (ρ ρ' : Ren) (ps ps' : List Prop), CW env l ρ ps = some (ρ', ps') -> ρ.le ρ' /\ (∀ p ∈ ps, p ∈ ps') /\
  (ρ'.le ρf -> (∀ p ∈ ps', p) -> ∀ x ∈ l, Tr φ0 φ ow ow1 w ρf x.2 (env x.1))
 | [], ρ, ρ', ps, ps', h => by
  simp only [CW, Option.some.injEq, Prod.mk.injEq] at h
  obtain ⟨rfl, rfl⟩ := h
  exact ⟨Ren.le_refl _, fun p hp => hp, fun _ _ x hx => by cases hx⟩
 | (t, a) :: r, ρ, ρ', ps, ps', h => by
  simp only [CW] at h
  split at h <;> try (cases h; done)
  rename_i ρ1 q h1
  obtain ⟨k1, k2⟩ := GC (φ := φ) (φ0 := φ0) (w := w) (ρf := ρf) hH _ _ _ _ _ h1
  obtain ⟨k3, k4, k5⟩ := Qa hH r _ _ _ _ h
  refine ⟨Ren.le_trans k1 k3, fun p hp => k4 p (by simp [hp]), fun hle hp x hx => ?_⟩
  rcases List.mem_cons.1 hx with rfl | hx
  ·exact k2 (Ren.le_trans k3 hle) fun p hp' => hp p (k4 p (by simp [hp']))
  ·exact k5 hle hp x hx
theorem Iu {heap : Nat -> Chunk} : ∀ (l : List (Nat × Chunk)) (ρ ρ' : Ren) (ps ps' : List Prop), CX heap l ρ ps = some (ρ', ps') -> ρ.le ρ' /\ (∀ p ∈ ps, p ∈ ps') /\
  (ρ'.le ρf -> ρf.inj = true -> (∀ a b, ρf.find a = some b -> 0 < b) -> (∀ p ∈ ps', p) -> (∀ i, cH φ ow1 w i (heap i)) -> ∀ x ∈ l, cH (GB φ0 φ ρf) (D3 ow1 ρf) w x.1 x.2)
 | [], ρ, ρ', ps, ps', h => by
  simp only [CX, Option.some.injEq, Prod.mk.injEq] at h
  obtain ⟨rfl, rfl⟩ := h
  exact ⟨Ren.le_refl _, fun p hp => hp, fun _ _ _ _ _ x hx => by cases hx⟩
 | (a, c) :: r, ρ, ρ', ps, ps', h => by
  simp only [CX] at h
  split at h <;> try (cases h; done)
  rename_i ρ0 h0
  split at h <;> try (cases h; done)
  rename_i ρ1 q h1
  obtain ⟨k1, k2⟩ := B6 h0
  have k3 := Nd _ _ _ _ _ h1
  obtain ⟨k4, k5, k6⟩ := Iu r _ _ _ _ h
  refine ⟨Ren.le_trans k1 (Ren.le_trans k3 k4), fun p hp => k5 p (by simp [hp]), fun hle hinj hpos hp hc x hx => ?_⟩
  rcases List.mem_cons.1 hx with rfl | hx
  ·have hf := hle _ _ (k4 _ _ (k3 _ _ k2))
   exact XL a _ hinj hf (hpos _ _ hf) _ _ _ _ _ h1 (Ren.le_trans k4 hle) (fun p hp' => hp p (k5 p (by simp [hp']))) (hc _)
  ·exact k6 hle hinj hpos hp hc x hx
theorem Lz : ∀ (l : List (Nat × AV)) (t : Nat) (d : AV), (∃ a, (t, a) ∈ l /\ Ef l t d = a) \/ Ef l t d = d
 | [], t, d => .inr rfl
 | (x, a) :: r, t, d => by
  unfold Ef
  cases h : Nat.beq x t with
  | true =>
   rw [Nat.eq_of_beq_eq_true h]
   exact .inl ⟨a, by simp, rfl⟩
  | false =>
   rcases Lz r t d with ⟨a', h1, h2⟩ | h1
   ·exact .inl ⟨a', List.mem_cons_of_mem _ h1, h2⟩
   ·exact .inr h1
theorem G6 : ∀ (l : List (Nat × Chunk)) (t : Nat) (d : Chunk), (∃ a, (t, a) ∈ l /\ Dk l t d = a) \/ Dk l t d = d
 | [], t, d => .inr rfl
 | (x, a) :: r, t, d => by
  unfold Dk
  cases h : Nat.beq x t with
  | true =>
   rw [Nat.eq_of_beq_eq_true h]
   exact .inl ⟨a, by simp, rfl⟩
  | false =>
   rcases G6 r t d with ⟨a', h1, h2⟩ | h1
   ·exact .inl ⟨a', List.mem_cons_of_mem _ h1, h2⟩
   ·exact .inr h1
end
theorem GD {D0 : List Deferred} {φ0 : Hnd} {ow0 : Own} {w0 : World} {fix : List Nat} (hbase : ∀ id, id ∉ fix -> φ0 id = none) {A : Ann} {x : A.ι} {s0 st : St} {a : Act} {w : World} (h : entails fix A x s0 st) (hs : BN D0 φ0 ow0 w0 st a w) : BN D0 φ0 ow0 w0 (Dw A x s0) a w := by
 unfold entails at h
 split at h <;> try (cases h; done)
 rename_i ρ1 hf
 split at h <;> try (cases h; done)
 rename_i ρ2 ps2 he
 split at h <;> try (cases h; done)
 rename_i ρ3 ps3 hh
 cases hb : ρ3.ok fix s0.next && (Nat.beq st.n s0.n && (Nat.blt 0 s0.next && fix.all fun i => Nat.blt i s0.next)) with
 | false => rw [hb] at h; cases h
 | true =>
  rw [hb, cond_true] at h
  obtain ⟨hps, _⟩ := G2 h
  simp only [Bool.and_eq_true, Ren.ok, List.all_eq_true, Bool.or_eq_true, Bool.not_eq_true'] at hb
  obtain ⟨⟨hinj, hall⟩, hn, hnx, hbn⟩ := hb
  have hn' := Nat.eq_of_beq_eq_true hn
  have hnx' : 0 < s0.next := Nat.le_of_ble_eq_true hnx
  have hbn' : ∀ i ∈ fix, i < s0.next := fun i hi => Nat.le_of_ble_eq_true (hbn i hi)
  obtain ⟨φ, ow, hsz, hdf, henv, hheap, hfresh, hown, _, hfr⟩ := hs
  obtain ⟨ow1, hH, hheap1⟩ := G4 (ρ := ρ2) (A.heap x) st.heap ow hheap
  obtain ⟨e1, e2, e3⟩ := Qa (φ := φ) (φ0 := φ0) (w := w) (ρf := ρ3) hH _ _ _ _ _ he
  obtain ⟨g1, g2, g3⟩ := Iu (φ := φ) (φ0 := φ0) (w := w) (ow1 := ow1) (ρf := ρ3) _ _ _ _ _ hh
  have hpos : ∀ a b, (a, b) ∈ ρ3 -> 0 < a /\ a < s0.next /\ 0 < b /\ (a = b \/ a ∉ fix) := by
   intro a b hab
   obtain ⟨⟨⟨h1, h2⟩, h3⟩, h4⟩ := hall _ hab
   exact ⟨Nat.le_of_ble_eq_true h1, Nat.le_of_ble_eq_true h2, Nat.le_of_ble_eq_true h3, h4.imp Nat.eq_of_beq_eq_true fun h hm => (by rw [Am.2 hm] at h; cases h)⟩
  have E := e3 g1 (fun p hp => hps p (g2 p hp))
  have G := g3 (Ren.le_refl _) hinj (fun a b hab => (hpos a b (G5 hab)).2.2.1) hps hheap1
  refine ⟨GB φ0 φ ρ3, D3 ow1 ρ3, by rw [hsz]; exact hn', hdf, ?_, ?_, ?_, ?_, hnx', ?_⟩
  ·intro t
   have hv := henv t
   rcases Lz (A.env x) t (bif BX t A.keep then s0.env t else .bot) with ⟨a', h1, h2⟩ | h1
   ·show (Ef _ _ _).holds _ _ _ _
    rw [h2]
    exact E (t, a') (by simp [h1]) _ hv
   ·show (Ef _ _ _).holds _ _ _ _
    rw [h1]
    cases hm : BX t A.keep with
    | false => exact rfl
    | true =>
     rw [cond_true]
     exact E (t, s0.env t) (List.mem_append_right _ (List.mem_map.2 ⟨t, Am.1 hm, rfl⟩)) _ hv
  ·intro id
   show cH _ _ _ id (Dk _ _ _)
   rcases G6 (A.heap x) id (bif BX id A.AN then s0.heap id else .none) with ⟨c, h1, h2⟩ | h1
   ·rw [h2]
    exact G (id, c) (by simp [h1])
   ·rw [h1]
    cases hm : BX id A.AN with
    | false => trivial
    | true =>
     rw [cond_true]
     exact G (id, s0.heap id) (List.mem_append_right _ (List.mem_map.2 ⟨id, Am.1 hm, rfl⟩))
  ·intro id hid
   change s0.next <= id at hid
   unfold GB
   cases hfd : ρ3.find id with
   | some b =>
    have := (hpos _ _ (G5 hfd)).2.1
    omega
   | none => exact hbase id fun hm => (by have := hbn' id hm; omega)
  ·intro c id hc
   show c < w.heap.size /\ id < s0.next
   have hc1 : ow1 c ≠ none := by
    intro hn
    unfold D3 at hc
    rw [hn] at hc
    cases hc
   have hc2 : ow c ≠ none := fun hn => hc1 ((hH.none c).2 hn)
   obtain ⟨j, hj⟩ := Option.ne_none_iff_exists'.1 hc2
   refine ⟨(hown c j hj).1, ?_⟩
   unfold D3 at hc
   split at hc
   ·cases hc
   ·injection hc with hc; omega
   ·exact (hpos _ _ (Rv hc)).2.1
  ·refine ⟨hfr.size, hfr.os, hfr.tape, hfr.output, ?_, ?_, ?_⟩
   ·intro b hb h0
    obtain ⟨h1, h2⟩ := hfr.blk b hb h0
    refine ⟨?_, h2⟩
    rcases h0 with h0 | h0
    ·rw [h0] at h1 ⊢
     unfold D3
     rw [(hH.none b).2 h1]
    ·rw [h0] at h1 ⊢
     unfold D3
     rw [(hH.zero b).2 h1]
   ·intro b hb
    refine hfr.frn b ((hH.zero b).1 ?_)
    unfold D3 at hb
    split at hb
    ·cases hb
    ·assumption
    ·have := (hpos _ _ (Rv hb)).1
     omega
   ·intro id v hv
    unfold GB
    cases hfd : ρ3.find id with
    | none => exact hv
    | some b =>
     simp only
     rcases (hpos _ _ (G5 hfd)).2.2.2 with h1 | h1
     ·rw [<- h1]; exact hfr.phi id v hv
     ·rw [hbase id h1] at hv; cases hv
end AL
end
section
set_option linter.unusedVariables false
set_option linter.unusedSimpArgs false
namespace AL
open Go
section
variable {D0 : List Deferred} {φ0 : Hnd} {ow0 : Own} {w0 : World} {C : Cfg}
theorem AHG {st : St} {t : Nat} {b : Bool} {a : Act} {w : World} (h : st.env t = .dat .bool b) (hs : BN D0 φ0 ow0 w0 st a w) : BN D0 φ0 ow0 w0 (st.put (some t) (.dat .bool b)) a w := by
 rw [Cg h]
 exact hs
theorem Zw {st : St} {c : Operand} {v : Bool} {a : Act} {w : World} (hv : Ah st.env c = .dat .bool v) (hs : BN D0 φ0 ow0 w0 st a w) : BN D0 φ0 ow0 w0 (match (generalizing := false) c with
  | .tmp t => st.put (some t) (.dat .bool v)
  | _ => st) a w := by
 cases c with
 | tmp t => exact AHG hv hs
 | _ => exact hs
theorem Rw (hS : ∀ f, AT C.P f (C.S f)) (hm : C.P.follows .mixedOrders = true) (hbase : ∀ id, id ∉ C.fix -> φ0 id = none) : ∀ (c : Code) {st : St} {K : Exit -> St -> Prop}, B2 C c st K -> ∀ {Q : Exit -> Act -> World -> Prop} {a : Act} {w : World}, BN D0 φ0 ow0 w0 st a w ->
  (∀ e st', K e st' -> ∀ a' w', BN D0 φ0 ow0 w0 st' a' w' -> Q e a' w') -> c.wp C.P Q a w := by
 intro c
 induction c with
 | skip => intro st K h Q a w hs hK; exact wp_skip (hK _ _ h _ _ hs)
 | label l => intro st K h Q a w hs hK; exact wp_label (hK _ _ h _ _ hs)
 | region id ops draw =>
  intro st K h Q a w hs hK
  exact Kz hS hm h hs fun st' h' a' w' hs' => hK _ _ h' _ _ hs'
 | seq x y ihx ihy =>
  intro st K h Q a w hs hK
  simp only [B2] at h
  refine wp_seq ?_
  split at h
  ·refine ihx h hs fun e st' h' a' w' hs' => ?_
   cases e with
   | normal => exact ihy h' hs' hK
   | exit => exact hK _ _ h' _ _ hs'
   | goto => exact hK _ _ h' _ _ hs'
   | ret => exact hK _ _ h' _ _ hs'
   | panic => exact hK _ _ h' _ _ hs'
   | outgrown => exact hK _ _ h' _ _ hs'
  ·rename_i A hA
   refine ihx h.1 hs fun e st' h' a' w' hs' => ?_
   cases e with
   | normal =>
    obtain ⟨x, hx, hent⟩ := h'
    exact ihy (h.2 x hx) (GD hbase hent hs') hK
   | exit => exact hK _ _ h' _ _ hs'
   | goto => exact hK _ _ h' _ _ hs'
   | ret => exact hK _ _ h' _ _ hs'
   | panic => exact hK _ _ h' _ _ hs'
   | outgrown => exact hK _ _ h' _ _ hs'
 | cond c x y ihx ihy =>
  intro st K h Q a w hs hK
  simp only [B2] at h
  have hev : (Ah st.env c).holds hs.choose hs.choose_spec.choose w [a.eval c] := Bd hs.choose_spec.choose_spec.2.2.1 c
  split at h
  ·rename_i v hv
   rw [hv] at hev
   have hb := BL hev
   cases v with
   | true =>
    simp only [brB, cond_true] at h
    exact wp_cond hb (ihx h (Zw hv hs) hK)
   | false =>
    simp only [brB, cond_false] at h
    exact wp_cond hb (ihy h (Zw hv hs) hK)
  ·rename_i p hv
   rw [hv] at hev
   obtain ⟨b, hb, hp⟩ := hev
   injection hb with hb
   cases b with
   | true => exact wp_cond hb (ihx (h.1 (hp rfl)) hs hK)
   | false => exact wp_cond hb (ihy h.2 hs hK)
  ·cases h
 | block id x ih =>
  intro st K h Q a w hs hK
  simp only [B2] at h
  refine wp_block (ih h hs fun e st' h' a' w' hs' => ?_)
  cases e with
  | exit id' =>
   cases hz : Nat.beq id' id with
   | true =>
    simp only [hz, cond_true] at h'
    simp only [Exit.inBlock, Nat.eq_of_beq_eq_true hz, if_true]
    exact hK _ _ h' _ _ hs'
   | false =>
    simp only [hz, cond_false] at h'
    simp only [Exit.inBlock]
    rw [if_neg (fun e => by rw [e, Nat.beq_refl] at hz; cases hz)]
    exact hK _ _ h' _ _ hs'
  | normal => exact hK _ _ h' _ _ hs'
  | goto => exact hK _ _ h' _ _ hs'
  | ret => exact hK _ _ h' _ _ hs'
  | panic => exact hK _ _ h' _ _ hs'
  | outgrown => exact hK _ _ h' _ _ hs'
 | scope x ih =>
  intro st K h Q a w hs hK
  simp only [B2] at h
  refine wp_scope_straight (ih h hs fun e st' h' a' w' hs' => ?_)
  cases e with
  | goto => cases h'
  | normal => exact hK _ _ h' _ _ hs'
  | exit => exact hK _ _ h' _ _ hs'
  | ret => exact hK _ _ h' _ _ hs'
  | panic => exact hK _ _ h' _ _ hs'
  | outgrown => exact hK _ _ h' _ _ hs'
 | exit id => intro st K h Q a w hs hK; exact wp_exit (hK _ _ h _ _ hs)
 | ret => intro st K h Q a w hs hK; exact wp_ret (hK _ _ h _ _ hs)
 | loop x ih =>
  intro st K h Q a w hs hK
  simp only [B2] at h
  split at h
  ·rename_i A hA
   obtain ⟨⟨x0, hx0, hent0⟩, hround⟩ := h
   refine wp_loop_ghost (fun n a w => ∃ x, A.inv x /\ A.AC8 x = n /\ BN D0 φ0 ow0 w0 (Dw A x st) a w) (A.AC8 x0) ⟨x0, hx0, rfl, GD hbase hent0 hs⟩ ?_
   rintro n a' w' ⟨x1, hx1, rfl, hs1⟩
   refine ih (hround x1 hx1) hs1 fun e st' h' a2 w2 hs2 => ?_
   cases e with
   | normal =>
    obtain ⟨y, hy, hlt, hent⟩ := h'
    exact ⟨_, hlt, y, hy, rfl, GD hbase hent hs2⟩
   | exit => exact hK _ _ h' _ _ hs2
   | goto => exact hK _ _ h' _ _ hs2
   | ret => exact hK _ _ h' _ _ hs2
   | panic => exact hK _ _ h' _ _ hs2
   | outgrown => exact hK _ _ h' _ _ hs2
  ·cases h
 | _ => intros st K h; simp only [B2] at h; cases h
end
end AL
end
section
set_option linter.unusedVariables false
set_option linter.unusedSimpArgs false
namespace AL
open Go
inductive Knd where
 | mp (K V : Ty)
 | ch
 | fm (K : Ty) (l : List (K.den × AV))     -- a map of functions, all of it known
 | fl (e : TypeId) (n : Nat) (cells : AV)  -- a row of structs of functions, all of it known
@[reducible] def Knd.ty : Knd -> Ty
 | .mp K V => .sl (.pair K V)
 | .ch => .pair (.int .i64) (.int .i64)
 | .fm _ _ => .unit
 | .fl _ _ _ => .unit
def Knd.chunk : (k : Knd) -> k.ty.den -> Chunk
 | .mp K V, x => .mp K V x
 | .ch, x => .ch x.1 x.2
 | .fm K l, _ => .mpf K l
 | .fl e n cells, _ => .lit e n cells
def Knd.hnd : Knd -> Nat -> AV
 | .mp _ _, c => .BY c
 | .ch, c => .chv c
 | .fm _ _, c => .BY c
 | .fl _ _ _, c => .arr c
def FE : AV -> List Ty
 | .fn _ c => FE c
 | .cons a b => FE a ++ FE b
 | .dat T _ => [T]
 | _ => []
def Ji {K : Ty} : List (K.den × AV) -> List Ty
 | [] => []
 | (_, a) :: r => FE a ++ Ji r
def Knd.tys : Knd -> List Ty
 | .mp _ V => [V]
 | .ch => []
 | .fm _ l => Ji l
 | .fl _ _ c => FE c
def Cs : AV -> AV -> Bool
 | .fn f c, .fn g d => Nat.beq f g && Cs c d
 | .cons a b, .cons c d => Cs a c && Cs b d
 | .nil, .nil => true
 | .dat T x, .dat T' y => if h : T' = T then @decide (Bm h y = x) (T.eqD _ _) else false
 | _, _ => false
def DQ (K : Ty) : List (K.den × AV) -> List (K.den × AV) -> Bool
 | [], [] => true
 | (k, a) :: r, (k', a') :: r' => @decide (k = k') (K.eqD k k') && Cs a a' && DQ K r r'
 | _, _ => false
theorem EV : ∀ {a b : AV}, Cs a b = true -> a = b
 | .fn f c, b, h => by
  cases b <;> simp [Cs] at h
  obtain ⟨h1, h2⟩ := h
  rw [h1, EV h2]
 | .cons a b, c, h => by
  cases c <;> simp [Cs] at h
  rw [EV h.1, EV h.2]
 | .nil, b, h => by cases b <;> simp [Cs] at h; rfl
 | .dat T x, b, h => by
  cases b <;> simp only [Cs, Bool.false_eq_true] at h
  rename_i T' y
  split at h
  ·rename_i e
   subst e
   have h1 := @of_decide_eq_true _ (Ty.eqD _ _ _) h
   rw [NG] at h1
   rw [h1]
  ·cases h
 | .bot, _, h | .raw _, _, h | .isNil _, _, h | .arr _, _, h | .vw _ _ _ _, _, h | .ref _ _, _, h | .elt _ _ _ _, _, h | .spt _ _, _, h | .BY _, _, h | .chv _, _, h | .bfn _ _, _, h | .opq _, _, h | .idn _ _ _, _, h | .agg _, _, h | .tup _, _, h => by simp [Cs] at h
theorem Nf {K : Ty} : ∀ {l l' : List (K.den × AV)}, DQ K l l' = true -> l = l'
 | [], [], _ => rfl
 | [], _ :: _, h => by simp [DQ] at h
 | _ :: _, [], h => by simp [DQ] at h
 | (k, a) :: r, (k', a') :: r', h => by
  simp only [DQ, Bool.and_eq_true] at h
  obtain ⟨⟨h1, h2⟩, h3⟩ := h
  have h1' : k = k' := @of_decide_eq_true _ (K.eqD k k') h1
  rw [h1', EV h2, Nf h3]
theorem DR {φ φ' : Hnd} {ow ow' : Own} {w w' : World} : ∀ {a b : AV} {vs : List Value}, (∀ T ∈ FE b, ∀ cs x, T.rep ow w cs x -> T.rep ow' w' cs x) -> Cs a b = true -> a.holds φ ow w vs -> a.holds φ' ow' w' vs
 | .fn f c, b, vs, hk, h, ⟨cs, h1, h2⟩ => by
  cases b <;> simp [Cs] at h
  refine ⟨cs, h1, DR ?_ h.2 h2⟩
  exact hk
 | .cons a b, c, vs, hk, h, ⟨v, r, h1, h2, h3⟩ => by
  cases c <;> simp [Cs] at h
  exact ⟨v, r, h1, DR (fun T hT => hk T (List.mem_append_left _ hT)) h.1 h2, DR (fun T hT => hk T (List.mem_append_right _ hT)) h.2 h3⟩
 | .nil, _, _, _, _, h => h
 | .dat T x, b, vs, hk, h, ⟨h1, h2, h3⟩ => by
  have e := EV h
  subst e
  exact ⟨h1, h2, hk T (by simp [FE]) _ _ h3⟩
 | .bot, _, _, _, h, _ | .raw _, _, _, _, h, _ | .isNil _, _, _, _, h, _ | .arr _, _, _, _, h, _ | .vw _ _ _ _, _, _, _, h, _ | .ref _ _, _, _, _, h, _ | .elt _ _ _ _, _, _, _, h, _ | .spt _ _, _, _, _, h, _ | .BY _, _, _, _, h, _ | .chv _, _, _, _, h, _ | .bfn _ _, _, _, _, h, _ | .opq _, _, _, _, h, _ | .idn _ _ _, _, _, _, h, _ | .agg _, _, _, _, h, _ | .tup _, _, _, _, h, _ => by simp [Cs] at h
theorem Jj {φ φ' : Hnd} {ow ow' : Own} {w w' : World} {K : Ty} : ∀ {es : List MapEntry} {l l' : List (K.den × AV)}, (∀ T ∈ Ji l', ∀ cs x, T.rep ow w cs x -> T.rep ow' w' cs x) -> DQ K l l' = true -> IA φ ow w K es l -> IA φ' ow' w' K es l
 | [], l, l', hk, h, he => he
 | _ :: _, _, [], hk, h, ⟨k, a, r, e, _⟩ => by subst e; simp [DQ] at h
 | e :: es, _, (k', a') :: r', hk, h, ⟨k, a, r, e1, h1, h2, h3, h4⟩ => by
  subst e1
  simp only [DQ, Bool.and_eq_true] at h
  exact ⟨k, a, r, rfl, h1, h2, DR (fun T hT => hk T (List.mem_append_left _ hT)) h.1.2 h3, Jj (fun T hT => hk T (List.mem_append_right _ hT)) h.2 h4⟩
def AKf {K' K : Ty} (h : K' = K) (l : List (K'.den × AV)) : List (K.den × AV) := @Eq.rec Ty K' (fun U _ => List (U.den × AV)) l K h
inductive AW where
 | nil
 | val (T : Ty) (r : AW)                    -- data; what of it is ours is nobody's from then on
 | AI (T : Ty) (r : AW)                   -- data, for the time of a call
 | own (e : TypeId) (T : Ty) (r : AW)       -- a row of our own
 | By (e e' : TypeId) (T : Ty) (r : AW)   -- a row of rows
 | Cr (T : Ty) (r : AW)                  -- a row, for the time of a call; a row of rows may keep it
 | Ch (e e' : TypeId) (T : Ty) (k : Nat) (r : AW)   -- a row of rows; on the way back row number k (a EO one) is out of it
 | skip (r : AW)                            -- one cell, whatever it is
 | E8 (r : AW)                            -- a nil slice, on the way in
 | obj (n : Nat) (r : AW)                   -- a pointer to object n
 | D5 (f : FuncId) (n : Nat) (r : AW)     -- a method bound to object n
 | clo (f : FuncId) (c : AW) (r : AW)     -- a function with what it captured
 | agg (q : AW) (r : AW)                  -- a struct
 | DM (k : Knd) (r : AW)                  -- a map, a channel of our own
@[reducible] def AW.ty : AW -> Ty
 | .nil => .unit
 | .val T r => .pair T r.ty
 | .AI T r => .pair T r.ty
 | .own _ T r => .pair (.sl T) r.ty
 | .By _ _ T r => .pair (.sl (.sl T)) r.ty
 | .Cr T r => .pair (.sl T) r.ty
 | .Ch _ _ T _ r => .pair (.sl (.sl T)) (.pair (.int .i64) r.ty)
 | .skip r => r.ty
 | .E8 r => r.ty
 | .obj _ r => r.ty
 | .D5 _ _ r => r.ty
 | .clo _ c r => .pair c.ty r.ty
 | .agg q r => .pair q.ty r.ty
 | .DM k r => .pair k.ty r.ty
def AW.size : AW -> Nat
 | .nil => 0
 | .val _ r => r.size + 1
 | .AI _ r => r.size + 1
 | .own _ _ r => r.size + 1
 | .By _ _ _ r => r.size + 1
 | .Cr _ r => r.size + 1
 | .Ch _ _ _ _ r => r.size + 1
 | .skip r => r.size + 1
 | .E8 r => r.size + 1
 | .obj _ r => r.size + 1
 | .D5 _ _ r => r.size + 1
 | .clo _ c r => c.size + r.size
 | .agg q r => q.size + r.size
 | .DM _ r => r.size + 1
def AW.av (box : Bool) : (p : AW) -> Nat -> p.ty.den -> AV
 | .nil, _, _ => .nil
 | .val T r, c, x => .cons (.dat T x.1) (r.av box (c + 1) x.2)
 | .AI T r, c, x => .cons (bif box then .idn c T x.1 else .dat T x.1) (r.av box (c + 1) x.2)
 | .own _ T r, c, x => .cons (.arr c) (r.av box (c + 1) x.2)
 | .By _ _ T r, c, x => .cons (.arr c) (r.av box (c + 1) x.2)
 | .Cr T r, c, x => .cons (.arr c) (r.av box (c + 1) x.2)
 | .Ch _ _ T _ r, c, x => .cons (.arr c) (r.av box (c + 1) x.2.2)
 | .skip r, c, x => .cons (.opq c) (r.av box (c + 1) x)
 | .E8 r, c, x => .cons (.raw (.slice Option.none 0 0)) (r.av box (c + 1) x)
 | .obj n r, c, x => .cons (.ref (n + 1) 0) (r.av box (c + 1) x)
 | .D5 f n r, c, x => .cons (.bfn (n + 1) f) (r.av box (c + 1) x)
 | .clo f q r, c, x => .cons (.fn f (q.av box c x.1)) (r.av box (c + q.size) x.2)
 | .agg q r, c, x => .cons (.agg (q.av box c x.1)) (r.av box (c + q.size) x.2)
 | .DM k r, c, x => .cons (k.hnd c) (r.av box (c + 1) x.2)
def AW.heap : (p : AW) -> Nat -> p.ty.den -> List (Nat × Chunk)
 | .nil, _, _ => []
 | .val T r, c, x => r.heap (c + 1) x.2
 | .AI T r, c, x => r.heap (c + 1) x.2
 | .own e T r, c, x => (c, .arr e T x.1) :: r.heap (c + 1) x.2
 | .By e e' T r, c, x => (c, .BC e e' T x.1 []) :: r.heap (c + 1) x.2
 | .Cr T r, c, x => (c, .sld T x.1) :: r.heap (c + 1) x.2
 | .Ch e e' T _ r, c, x => (c, .BC e e' T x.1 []) :: r.heap (c + 1) x.2.2
 | .skip r, c, x => r.heap (c + 1) x
 | .E8 r, c, x => r.heap (c + 1) x
 | .obj n r, c, x => r.heap (c + 1) x
 | .D5 f n r, c, x => r.heap (c + 1) x
 | .clo f q r, c, x => q.heap c x.1 ++ r.heap (c + q.size) x.2
 | .agg q r, c, x => q.heap c x.1 ++ r.heap (c + q.size) x.2
 | .DM k r, c, x => (c, k.chunk x.1) :: r.heap (c + 1) x.2
def AW.Ci (o : Nat) (ob : Nat -> Nat) : (p : AW) -> Nat -> p.ty.den -> List (Nat × Chunk)
 | .nil, _, _ => []
 | .val T r, c, x => r.Ci o ob (c + 1) x.2
 | .AI T r, c, x => r.Ci o ob (c + 1) x.2
 | .own e T r, c, x => (o + c, .arr e T x.1) :: r.Ci o ob (c + 1) x.2
 | .By e e' T r, c, x => (o + c, .BC e e' T x.1 []) :: r.Ci o ob (c + 1) x.2
 | .Cr T r, c, x => r.Ci o ob (c + 1) x.2
 | .Ch e e' T k r, c, x => (o + c, .BC e e' T x.1 [(x.2.1, ob (1000 + k))]) :: r.Ci o ob (c + 1) x.2.2
 | .skip r, c, x => r.Ci o ob (c + 1) x
 | .E8 r, c, x => r.Ci o ob (c + 1) x
 | .obj n r, c, x => r.Ci o ob (c + 1) x
 | .D5 f n r, c, x => r.Ci o ob (c + 1) x
 | .clo _ q r, c, x => q.Ci o ob c x.1 ++ r.Ci o ob (c + q.size) x.2
 | .agg q r, c, x => q.Ci o ob c x.1 ++ r.Ci o ob (c + q.size) x.2
 | .DM k r, c, x => (o + c, k.chunk x.1) :: r.Ci o ob (c + 1) x.2
def AW.Cy : AW -> Nat -> List Nat
 | .nil, _ => []
 | .val _ r, c => r.Cy (c + 1)
 | .AI _ r, c => r.Cy (c + 1)
 | .own _ _ r, c => r.Cy (c + 1)
 | .By _ _ _ r, c => r.Cy (c + 1)
 | .Cr _ r, c => c :: r.Cy (c + 1)
 | .Ch _ _ _ _ r, c => r.Cy (c + 1)
 | .skip r, c => r.Cy (c + 1)
 | .E8 r, c => r.Cy (c + 1)
 | .obj _ r, c => r.Cy (c + 1)
 | .D5 _ _ r, c => r.Cy (c + 1)
 | .clo _ q r, c => q.Cy c ++ r.Cy (c + q.size)
 | .agg q r, c => q.Cy c ++ r.Cy (c + q.size)
 | .DM _ r, c => r.Cy (c + 1)
def AW.refs : AW -> List Nat
 | .nil => []
 | .val _ r => r.refs
 | .AI _ r => r.refs
 | .own _ _ r => r.refs
 | .By _ _ _ r => r.refs
 | .Cr _ r => r.refs
 | .Ch _ _ _ k r => k :: r.refs
 | .skip r => r.refs
 | .E8 r => r.refs
 | .obj _ r => r.refs
 | .D5 _ _ r => r.refs
 | .clo _ q r => q.refs ++ r.refs
 | .agg q r => q.refs ++ r.refs
 | .DM _ r => r.refs
def AW.CK : AW -> Nat -> List Nat
 | .nil, _ => []
 | .val _ r, c => r.CK (c + 1)
 | .AI _ r, c => c :: r.CK (c + 1)
 | .own _ _ r, c => r.CK (c + 1)
 | .By _ _ _ r, c => r.CK (c + 1)
 | .Cr _ r, c => r.CK (c + 1)
 | .Ch _ _ _ _ r, c => r.CK (c + 1)
 | .skip r, c => c :: r.CK (c + 1)
 | .E8 r, c => r.CK (c + 1)
 | .obj _ r, c => r.CK (c + 1)
 | .D5 _ _ r, c => r.CK (c + 1)
 | .clo _ q r, c => q.CK c ++ r.CK (c + q.size)
 | .agg q r, c => q.CK c ++ r.CK (c + q.size)
 | .DM _ r, c => r.CK (c + 1)
def AW.tys : AW -> List Ty
 | .nil => []
 | .val T r => T :: r.tys
 | .AI _ r => r.tys
 | .own _ T r => T :: r.tys
 | .By _ _ T r => T :: r.tys
 | .Cr _ r => r.tys
 | .Ch _ _ T _ r => T :: r.tys
 | .skip r => r.tys
 | .E8 r => r.tys
 | .obj _ r => r.tys
 | .D5 _ _ r => r.tys
 | .clo _ q r => q.tys ++ r.tys
 | .agg q r => q.tys ++ r.tys
 | .DM k r => k.tys ++ r.tys
structure It where
 own : List (Nat × List Nat)
 EO : List Nat
 sls : Upd
 Aa : List (Nat × Nat)
 rows : List (Nat × Nat)
def It.nil : It := ⟨[], [], [], [], []⟩
def It.app (a b : It) : It := ⟨a.own ++ b.own, a.EO ++ b.EO, a.sls ++ b.sls, a.Aa ++ b.Aa, a.rows ++ b.rows⟩
def Ng (e e' : TypeId) (T : Ty) (a : AV) (k : List (List T.den) -> List Nat -> Req) : Req :=
 match a with
 | .raw (.slice Option.none 0 0) => k [] []
 | .arr id => .look id fun
  | .BC e2 e2' T2 l hs => if h : T2 = T then (if e2 = e /\ e2' = e' then EK e2' T2 hs l fun l d => if BX id d || !(FM d) then .fail else k (Bm (congrArg (fun t => Ty.sl (Ty.sl t)) h) l) (id :: d) else .fail) else .fail
  | _ => .fail
 | _ => .fail
def Iv : (kd : Knd) -> AV -> (kd.ty.den -> List Nat -> Req) -> Req
 | .mp K V, a, k => match a with
  | .BY id => .look id fun
   | .mp K2 V2 l => if h : V2 = V then (if h2 : K2 = K then k (coeM h2 h l) [id] else .fail) else .fail
   | _ => .fail
  | _ => .fail
 | .ch, a, k => match a with
  | .chv id => .look id fun
   | .ch c n => k (c, n) [id]
   | _ => .fail
  | _ => .fail
 | .fm K l, a, k => match a with
  | .BY id => .look id fun
   | .mpf K2 l2 => if h : K2 = K then (bif DQ K (AKf h l2) l then k () [id] else .fail) else .fail
   | _ => .fail
  | _ => .fail
 | .fl e n cells, a, k => match a with
  | .arr id => .look id fun
   | .lit e2 n2 c2 => bif Nat.beq e2 e && Nat.beq n2 n && Cs c2 cells then k () [id] else .fail
   | _ => .fail
  | _ => .fail
def BZ : (p : AW) -> Nat -> AV -> (p.ty.den -> It -> Req) -> Req
 | .nil, _, .nil, k => k () It.nil
 | .val T r, c, .cons a b, k => if T.leaf then Bv T (.cons a.strip .nil) fun x c' u => match c' with
   | .nil => BZ r (c + 1) b fun y it => k (x, y) (It.app ⟨[], [], u, [], []⟩ it)
   | _ => .fail else .fail
 | .AI T r, c, .cons a b, k => if T.leaf then Bv T (.cons a.strip .nil) fun x c' u => match c' with
   | .nil => BZ r (c + 1) b fun y it => k (x, y) (It.app ⟨[], ids u, [], [], []⟩ it)
   | _ => .fail else .fail
 | .own e T r, c, .cons a b, k => IB e T a fun l d u => BZ r (c + 1) b fun y it => k (l, y) (It.app ⟨[(c, d)], [], u, [], []⟩ it)
 | .By e e' T r, c, .cons a b, k => Ng e e' T a fun l d => BZ r (c + 1) b fun y it => k (l, y) (It.app ⟨[(c, d)], [], [], [], []⟩ it)
 | .Cr T r, c, .cons a b, k => match a with
  | .arr id => Bv (.sl T) (.cons (.arr id) .nil) fun x c' u => match c' with
   | .nil => BZ r (c + 1) b fun y it => k (x, y) (It.app ⟨[], ids u, [], [], [(c, id)]⟩ it)
   | _ => .fail
  | _ => .fail
 | .Ch e e' T _ r, c, .cons a b, k => Ng e e' T a fun l d => BZ r (c + 1) b fun y it => k (l, (0 : Int), y) (It.app ⟨[(c, d)], [], [], [], []⟩ it)
 | .skip r, c, .cons a b, k => if a.one then BZ r (c + 1) b fun y it => k y it else .fail
 | .E8 r, c, .cons (.raw (.slice Option.none 0 0)) b, k => BZ r (c + 1) b fun y it => k y it
 | .obj n r, c, .cons (.ref id 0) b, k => BZ r (c + 1) b fun y it => k y (It.app ⟨[], [], [], [(n, id)], []⟩ it)
 | .D5 f n r, c, .cons (.bfn id g) b, k => if g = f then BZ r (c + 1) b fun y it => k y (It.app ⟨[], [], [], [(n, id)], []⟩ it) else .fail
 | .clo f q r, c, .cons (.fn g caps) b, k => if g = f then BZ q c caps fun x it => BZ r (c + q.size) b fun y it' => k (x, y) (It.app it it') else .fail
 | .agg q r, c, .cons (.agg l) b, k => BZ q c l fun x it => BZ r (c + q.size) b fun y it' => k (x, y) (It.app it it')
 | .DM kd r, c, .cons a b, k => Iv kd a fun x d => BZ r (c + 1) b fun y it => k (x, y) (It.app ⟨[(c, d)], [], [], [], []⟩ it)
 | _, _, _, _ => .fail
def AV.hd : AV -> AV
 | .cons a _ => a
 | _ => .bot
def AV.tl : AV -> AV
 | .cons _ b => b
 | _ => .bot
def DS (φ : Hnd) (ow : Own) (w : World) (vs : Nat -> Value) : AW -> Nat -> AV -> Prop
 | .skip r, c, g => g.hd.holds φ ow w [vs c] /\ DS φ ow w vs r (c + 1) g.tl
 | .E8 r, c, g => DS φ ow w vs r (c + 1) g.tl
 | .AI _ r, c, g => g.hd.holds φ ow w [vs c] /\ DS φ ow w vs r (c + 1) g.tl
 | .val _ r, c, g => DS φ ow w vs r (c + 1) g.tl
 | .own _ _ r, c, g => DS φ ow w vs r (c + 1) g.tl
 | .By _ _ _ r, c, g => DS φ ow w vs r (c + 1) g.tl
 | .Cr _ r, c, g => DS φ ow w vs r (c + 1) g.tl
 | .Ch _ _ _ _ r, c, g => DS φ ow w vs r (c + 1) g.tl
 | .obj _ r, c, g => DS φ ow w vs r (c + 1) g.tl
 | .D5 _ _ r, c, g => DS φ ow w vs r (c + 1) g.tl
 | .DM _ r, c, g => DS φ ow w vs r (c + 1) g.tl
 | .agg q r, c, g => DS φ ow w vs r (c + q.size) g.tl
 | .clo _ q r, c, g => DS φ ow w vs r (c + q.size) g.tl
 | _, _, _ => True
theorem BW {φ φ' : Hnd} {ow ow' : Own} {w w' : World} {vs : Nat -> Value} (hp : Aw φ φ') (hk : A8 ow w ow' w') : ∀ (p : AW) (c : Nat) (g : AV), DS φ ow w vs p c g -> DS φ' ow' w' vs p c g
 | .nil, _, _, _ => trivial
 | .clo _ q r, c, g, h => BW hp hk r (c + q.size) g.tl h
 | .agg q r, c, g, h => BW hp hk r (c + q.size) g.tl h
 | .val _ r, c, g, h => BW hp hk r (c + 1) g.tl h
 | .own _ _ r, c, g, h => BW hp hk r (c + 1) g.tl h
 | .By _ _ _ r, c, g, h => BW hp hk r (c + 1) g.tl h
 | .Cr _ r, c, g, h => BW hp hk r (c + 1) g.tl h
 | .Ch _ _ _ _ r, c, g, h => BW hp hk r (c + 1) g.tl h
 | .obj _ r, c, g, h => BW hp hk r (c + 1) g.tl h
 | .D5 _ _ r, c, g, h => BW hp hk r (c + 1) g.tl h
 | .DM _ r, c, g, h => BW hp hk r (c + 1) g.tl h
 | .skip r, c, g, h => ⟨AV.Ab hp hk h.1, BW hp hk r (c + 1) g.tl h.2⟩
 | .E8 r, c, g, h => BW hp hk r (c + 1) g.tl h
 | .AI _ r, c, g, h => ⟨AV.Ab hp hk h.1, BW hp hk r (c + 1) g.tl h.2⟩
section
variable {φ : Hnd} {ow : Own} {w : World} {hp : Nat -> Chunk} {nx : Nat}
theorem Ty.XM {d : List Nat} {id : Nat} : ∀ {T : Ty} {cs : List Value} {x : T.den}, T.rep (Al d id ow) w cs x -> T.rep ow w cs x := fun h => Ty.AO ⟨Nat.le_refl _, fun b _ hb => ⟨CJ.1 hb, rfl⟩⟩ h
theorem K4 (H : Hyp hp nx φ ow w) {e e' : TypeId} {T : Ty} {a : AV} {v : Value} {k : List (List T.den) -> List Nat -> Req} {out : Out} (hr : (Ng e e' T a k).run hp = some out) (ha : a.holds φ ow w [v]) :
  ∃ l d, (k l d).run hp = some out /\ (∀ g, v.ownBlock = some g -> ∃ i ∈ d, ow g = some i) /\ (∃ A n c, v = .slice A n c) /\
   ∀ (ow' : Own) (φ' : Hnd) (t : Nat), (∀ cs x, Ty.rep ow w T cs x -> Ty.rep ow' w T cs x) -> (∀ g i, i ∈ d -> ow g = some i -> ow' g = some t) -> φ' t = some v -> cH φ' ow' w t (.BC e e' T l []) := by
 unfold Ng at hr
 split at hr <;> try (simp [Req.run] at hr; done)
 ·injection ha with ha
  subst ha
  refine ⟨[], [], hr, by simp [Value.ownBlock], ⟨_, _, _, rfl⟩, fun ow' φ' t _ _ h => ⟨_, [], fun _ => 0, h, World.ownsRow_nil w 0 e 1, by simp [Value.ownBlock], Nat.zero_le _, rfl, by simp, by simp, by simp⟩⟩
 ·rename_i id
  obtain ⟨A, n', c, hφ, e2⟩ := ha
  injection e2 with e2
  subst e2
  simp only [Req.run] at hr
  have hch := H.chunk id
  split at hr <;> try (simp [Req.run] at hr; done)
  rename_i e2 e2' T2 l hs hc
  rw [hc] at hch
  split at hr <;> try (simp [Req.run] at hr; done)
  rename_i hT
  subst hT
  split at hr <;> try (simp [Req.run] at hr; done)
  rename_i he
  obtain ⟨rfl, rfl⟩ := he
  obtain ⟨l', hr', hll, hcl⟩ := Ie (φ := φ) (w := w) (id := id) hs l _ hr
  split at hr' <;> try (simp [Req.run] at hr'; done)
  rename_i hcond
  simp only [Bool.or_eq_true, Bool.not_eq_true', not_or, Bool.not_eq_true, Bool.not_eq_false] at hcond
  have hid : id ∉ hs.map (·.2) := fun h => by have := Am.2 h; rw [hcond.1] at this; cases this
  obtain ⟨v, xs, pos, hv, hown, hvb, hlim, hsub⟩ := hch
  rw [hφ] at hv
  injection hv with hv
  subst hv
  obtain ⟨pos', hpos, hsub'⟩ := hcl ow pos xs (fun p _ => H.chunk p.2) (Dm.1 hcond.2) hid hsub
  have hr' : (k l' (id :: hs.map (·.2))).run hp = some out := hr'
  refine ⟨l', id :: hs.map (·.2), hr', fun g hg => ⟨id, by simp, (hvb g hg).1⟩, ⟨_, _, _, rfl⟩, fun ow' φ' t hk hm h => ⟨_, xs, pos', h, by rw [hll]; exact hown, fun g hg => ⟨hm g id (by simp) (hvb g hg).1, by rw [hpos g (hvb g hg).1]; exact (hvb g hg).2⟩, by rw [hll]; exact hlim, hsub'.1, by simp, by simp, fun j u hu => ?_⟩⟩
  have h5 := hsub'.2.2.2 j u hu
  simp only [BV] at h5 ⊢
  obtain ⟨zs, r1, r2, r3, r4⟩ := h5.1
  refine ⟨⟨zs, r1, fun g hg => ?_, r3, Rows.mono (fun cs x hx => hk cs x (Ty.XM hx)) r4⟩, h5.2⟩
  rcases Ce (r2 g hg) with ⟨h6, _⟩ | ⟨_, j', hj', h6⟩
  ·exact hm g id (by simp) h6
  ·exact hm g j' (List.mem_cons_of_mem _ hj') h6
theorem Qb (H : Hyp hp nx φ ow w) : ∀ {kd : Knd} {a : AV} {v : Value} {k : kd.ty.den -> List Nat -> Req} {out : Out}, (Iv kd a k).run hp = some out -> a.holds φ ow w [v] ->
  ∃ x d, (k x d).run hp = some out /\
   ∀ (ow' : Own) (φ' : Hnd) (t : Nat), (∀ T ∈ kd.tys, ∀ cs x, Ty.rep ow w T cs x -> Ty.rep ow' w T cs x) -> (∀ g i, i ∈ d -> ow g = some i -> ow' g = some t) -> φ' t = some v -> (kd.hnd t).holds φ' ow' w [v] /\ cH φ' ow' w t (kd.chunk x)
 | .mp K V, a, v, k, out, hr, ha => by
  simp only [Iv] at hr
  split at hr <;> try (simp [Req.run] at hr; done)
  rename_i id
  obtain ⟨g, hφ, e⟩ := ha
  injection e with e
  subst e
  simp only [Req.run] at hr
  have hch := H.chunk id
  split at hr <;> try (simp [Req.run] at hr; done)
  rename_i K2 V2 l hc
  rw [hc] at hch
  split at hr <;> try (simp [Req.run] at hr; done)
  rename_i hV
  subst hV
  split at hr <;> try (simp [Req.run] at hr; done)
  rename_i hK
  subst hK
  obtain ⟨g', es, clock, hφ', h1, h2, h3, h4⟩ := hch
  rw [hφ] at hφ'
  injection hφ' with hφ'; injection hφ' with hφ'; injection hφ' with hφ'
  subst hφ'
  exact ⟨l, [id], hr, fun ow' φ' t hk hm h => ⟨⟨g, h, rfl⟩, g, es, clock, h, hm g id (by simp) h1, h2, h3, Cb (fun cs x => hk _ (by simp [Knd.tys]) cs x) h4⟩⟩
 | .ch, a, v, k, out, hr, ha => by
  simp only [Iv] at hr
  split at hr <;> try (simp [Req.run] at hr; done)
  rename_i id
  obtain ⟨g, hφ, e⟩ := ha
  injection e with e
  subst e
  simp only [Req.run] at hr
  have hch := H.chunk id
  split at hr <;> try (simp [Req.run] at hr; done)
  rename_i cp n hc
  rw [hc] at hch
  obtain ⟨g', c, s, r, buf, hφ', h1, h2, h3, h4⟩ := hch
  rw [hφ] at hφ'
  injection hφ' with hφ'; injection hφ' with hφ'; injection hφ' with hφ'
  subst hφ'
  exact ⟨(cp, n), [id], hr, fun ow' φ' t hk hm h => ⟨⟨g, h, rfl⟩, g, c, s, r, buf, h, hm g id (by simp) h1, h2, h3, h4⟩⟩
 | .fm K l, a, v, k, out, hr, ha => by
  simp only [Iv] at hr
  split at hr <;> try (simp [Req.run] at hr; done)
  rename_i id
  obtain ⟨g, hφ, e⟩ := ha
  injection e with e
  subst e
  simp only [Req.run] at hr
  have hch := H.chunk id
  split at hr <;> try (simp [Req.run] at hr; done)
  rename_i K2 l2 hc
  rw [hc] at hch
  split at hr <;> try (simp [Req.run] at hr; done)
  rename_i hK
  subst hK
  cases hq : DQ K2 (AKf rfl l2) l with
  | false => rw [hq] at hr; simp [Req.run] at hr
  | true =>
  rw [hq, cond_true] at hr
  have hq' : DQ K2 l2 l = true := hq
  have hl := Nf hq'
  subst hl
  obtain ⟨g', es, clock, hφ', h1, h2, h4⟩ := hch
  rw [hφ] at hφ'
  injection hφ' with hφ'; injection hφ' with hφ'; injection hφ' with hφ'
  subst hφ'
  exact ⟨(), [id], hr, fun ow' φ' t hk hm h => ⟨⟨g, h, rfl⟩, g, es, clock, h, hm g id (by simp) h1, h2, Jj (fun T hT => hk T hT) hq' h4⟩⟩
 | .fl e n cells, a, v, k, out, hr, ha => by
  simp only [Iv] at hr
  split at hr <;> try (simp [Req.run] at hr; done)
  rename_i id
  obtain ⟨A, m, c, hφ, e1⟩ := ha
  injection e1 with e1
  subst e1
  simp only [Req.run] at hr
  have hch := H.chunk id
  split at hr <;> try (simp [Req.run] at hr; done)
  rename_i e2 n2 c2 hc
  rw [hc] at hch
  cases hq : Nat.beq e2 e && Nat.beq n2 n && Cs c2 cells with
  | false => rw [hq] at hr; simp [Req.run] at hr
  | true =>
  rw [hq, cond_true] at hr
  simp only [Bool.and_eq_true] at hq
  obtain ⟨⟨q1, q2⟩, q3⟩ := hq
  have q1 := Nat.eq_of_beq_eq_true q1
  have q2 := Nat.eq_of_beq_eq_true q2
  have q3' := EV q3
  subst q1; subst q2; subst q3'
  obtain ⟨g, cs, hφ', h1, h2, h3, h4⟩ := hch
  rw [hφ] at hφ'
  injection hφ' with hφ'
  rw [hφ'] at hφ ⊢
  exact ⟨(), [id], hr, fun ow' φ' t hk hm h => ⟨⟨_, _, _, h, rfl⟩, g, cs, h, hm g id (by simp) h1, h2, h3, DR (fun T hT => hk T hT) q3 h4⟩⟩
structure AKg (φ : Hnd) (ow : Own) (w : World) (box : Bool) (p : AW) (c : Nat) (a : AV) (vals : List Value) (x : p.ty.den) (it : It) (hv : Nat -> Option Value) : Prop where
 sld : A3 φ (AM (ids it.sls) ow) w it.sls
 own : ∀ t d, (t, d) ∈ it.own -> c <= t /\ t < c + p.size /\ ∃ v, hv t = some v
 AK7 : ∀ t v, hv t = some v -> c <= t /\ t < c + p.size
 sk : box = true -> ∀ t ∈ p.CK c, ∃ v, hv t = some v
 AK8 : ∀ vs : Nat -> Value, (∀ t v, hv t = some v -> vs t = v) -> DS φ ow w vs p c a
 lh : ∀ t id, (t, id) ∈ it.rows -> t ∈ p.Cy c /\ ∃ v, hv t = some v /\ φ id = some v
 tgt : ∀ (φ' : Hnd) (ow' : Own), (∀ t v, hv t = some v -> φ' t = some v) -> A8 (AM (it.EO ++ ids it.sls) ow) w ow' w -> (∀ t d, (t, d) ∈ it.own -> ∀ g i, i ∈ d -> ow g = some i -> ow' g = some t) ->
  (∀ n id, (n, id) ∈ it.Aa -> φ' (n + 1) = φ id) -> (p.av box c x).holds φ' ow' w vals /\ ∀ j ch, (j, ch) ∈ p.heap c x -> cH φ' ow' w j ch
theorem Ai {S S' : List Nat} {ow' : Own} (h : A8 (AM S' ow) w ow' w) (hs : ∀ i ∈ S, i ∈ S') : A8 (AM S ow) w ow' w := A8.trans (Ag hs) h
theorem A3.app {u v : Upd} (h1 : A3 φ (AM (ids u) ow) w u) (h2 : A3 φ (AM (ids v) ow) w v) : A3 φ (AM (ids (u ++ v)) ow) w (u ++ v) := by
 intro p hp
 rcases List.mem_append.1 hp with hp | hp
 ·exact A3.mono (Ag (NQ _ _)) h1 p hp
 ·exact A3.mono (Ag (NR _ _)) h2 p hp
theorem BH (u v : Upd) : ids (u ++ v) = ids u ++ ids v := by simp [ids]
theorem Zx (H : Hyp hp nx φ ow w) {box : Bool} {out : Out} : ∀ (p : AW) (c : Nat) (a : AV) (k : p.ty.den -> It -> Req) (vals : List Value), (BZ p c a k).run hp = some out -> a.holds φ ow w vals ->
  ∃ x it hv, (k x it).run hp = some out /\ AKg φ ow w box p c a vals x it hv := by
 intro p
 induction p with
 | nil =>
  intro c a k vals hr ha
  unfold BZ at hr
  cases a <;> try (simp [Req.run] at hr; done)
  exact ⟨(), It.nil, fun _ => none, hr, fun p hp => (by cases hp), fun t d h => (by cases h), fun t v h => (by cases h), fun _ t h => (by cases h), fun _ _ => trivial, fun t id h => (by cases h), fun φ' ow' _ _ _ _ => ⟨ha, fun j ch h => (by cases h)⟩⟩
 | val T r ih =>
  intro c a k vals hr ha
  cases a <;> try (simp [BZ, Req.run] at hr; done)
  rename_i a b
  simp only [BZ] at hr
  split at hr <;> try (simp [Req.run] at hr; done)
  rename_i hT
  obtain ⟨v, rest, rfl, h1, h2⟩ := ha
  obtain ⟨x, c', u, cs1, cs2, e1, h3, hr1, hy, hsl⟩ := Cc H T (.cons a.strip .nil) _ [v] out ⟨v, [], rfl, AV.E9 h1, rfl⟩ hr
  cases c' <;> try (simp [Req.run] at hr1; done)
  have h0 : cs2 = [] := h3
  subst h0
  rw [List.append_nil] at e1
  subst e1
  obtain ⟨y, it, hv, hr2, k1, k2, k3, ks, k4, kl, k5⟩ := ih (c + 1) b _ rest hr1 h2
  refine ⟨(x, y), It.app ⟨[], [], u, [], []⟩ it, hv, hr2, A3.app hsl k1, fun t d h => ?_, fun t v h => ?_, fun hb t ht => ks hb t ht, fun vs hvs => k4 vs hvs, fun t id h => kl t id (by simpa [It.app] using h), fun φ' ow' g1 g2 g3 g4 => ?_⟩
  ·have := k2 t d (by simpa [It.app] using h)
   simp only [AW.size]
   exact ⟨by omega, by omega, this.2.2⟩
  ·have := k3 t v h
   simp only [AW.size]
   exact ⟨by omega, by omega⟩
  ·obtain ⟨q1, q2⟩ := k5 φ' ow' g1 (Ai g2 (by simp [It.app, BH]; intro i hi; rcases hi with hi | hi <;> simp [hi])) (fun t d h => g3 t d (by simpa [It.app] using h)) (fun n id h => g4 n id (by simpa [It.app] using h))
   refine ⟨⟨v, rest, rfl, ⟨rfl, hT, Ty.AO (Ai g2 (by simp [It.app, BH]; intro i hi; simp [hi])) hy⟩, q1⟩, q2⟩
 | AI T r ih =>
  intro c a k vals hr ha
  cases a <;> try (simp [BZ, Req.run] at hr; done)
  rename_i a b
  simp only [BZ] at hr
  split at hr <;> try (simp [Req.run] at hr; done)
  rename_i hT
  obtain ⟨v, rest, rfl, h1, h2⟩ := ha
  obtain ⟨x, c', u, cs1, cs2, e1, h3, hr1, hy, hsl⟩ := Cc H T (.cons a.strip .nil) _ [v] out ⟨v, [], rfl, AV.E9 h1, rfl⟩ hr
  cases c' <;> try (simp [Req.run] at hr1; done)
  have h0 : cs2 = [] := h3
  subst h0
  rw [List.append_nil] at e1
  subst e1
  obtain ⟨y, it, hv, hr2, k1, k2, k3, ks, k4, kl, k5⟩ := ih (c + 1) b _ rest hr1 h2
  refine ⟨(x, y), It.app ⟨[], ids u, [], [], []⟩ it, fun t => if t = c then some v else hv t, hr2, by simpa [It.app] using k1, fun t d h => ?_, fun t v h => ?_, fun hb t ht => ?_, fun vs hvs => ⟨?_, k4 vs fun t v h => ?_⟩, fun t id h => (by obtain ⟨b0, v', b1, b2⟩ := kl t id (by simpa [It.app] using h); have := k3 t v' b1; exact ⟨b0, v', by rw [if_neg (by omega)]; exact b1, b2⟩), fun φ' ow' g1 g2 g3 g4 => ?_⟩
  ·have := k2 t d (by simpa [It.app] using h)
   simp only [AW.size]
   rw [if_neg (by omega)]
   exact ⟨by omega, by omega, this.2.2⟩
  ·simp only [AW.size]
   by_cases e : t = c
   ·omega
   ·rw [if_neg e] at h
    have := k3 t v h
    omega
  ·rcases List.mem_cons.1 ht with rfl | ht
   ·exact ⟨v, by simp⟩
   ·obtain ⟨v', hv'⟩ := ks hb t ht
    have := k3 t v' hv'
    exact ⟨v', by rw [if_neg (by omega)]; exact hv'⟩
  ·rw [hvs c v (by simp)]
   exact h1
  ·have := k3 t v h
   exact hvs t v (by rw [if_neg (by omega)]; exact h)
  ·have hvc : φ' c = some v := g1 c v (by simp)
   obtain ⟨q1, q2⟩ := k5 φ' ow' (fun t v h => by have := k3 t v h; exact g1 t v (by rw [if_neg (by omega)]; exact h)) (Ai g2 (by simp [It.app]; intro i hi; rcases hi with hi | hi <;> simp [hi])) (fun t d h => g3 t d (by simpa [It.app] using h)) (fun n id h => g4 n id (by simpa [It.app] using h))
   have hrep : T.rep ow' w [v] x := Ty.AO (Ai g2 (by simp [It.app]; intro i hi; simp [hi])) hy
   refine ⟨⟨v, rest, rfl, ?_, q1⟩, q2⟩
   cases box
   ·exact ⟨rfl, hT, hrep⟩
   ·exact ⟨v, hvc, rfl, hT, hrep⟩
 | own e T r ih =>
  intro c a k vals hr ha
  cases a <;> try (simp [BZ, Req.run] at hr; done)
  rename_i a b
  simp only [BZ] at hr
  obtain ⟨v, rest, rfl, h1, h2⟩ := ha
  obtain ⟨l, d, u, xs, hr1, hown, hd, hrow, hsl, hll⟩ := FY H hr h1
  obtain ⟨y, it, hv, hr2, k1, k2, k3, ks, k4, kl, k5⟩ := ih (c + 1) b _ rest hr1 h2
  have hsv : ∃ A n c, v = .slice A n c := by
   obtain ⟨A, c, h⟩ := Ej hown
   exact ⟨_, _, _, h⟩
  refine ⟨(l, y), It.app ⟨[(c, d)], [], u, [], []⟩ it, fun t => if t = c then some v else hv t, hr2, A3.app hsl k1, fun t d' h => ?_, fun t v h => ?_, fun hb t ht => ?_, fun vs hvs => k4 vs fun t v h => ?_, fun t id h => (by obtain ⟨b0, v', b1, b2⟩ := kl t id (by simpa [It.app] using h); have := k3 t v' b1; exact ⟨b0, v', by rw [if_neg (by omega)]; exact b1, b2⟩), fun φ' ow' g1 g2 g3 g4 => ?_⟩
  ·simp only [It.app, List.mem_append, List.mem_singleton] at h
   simp only [AW.size]
   rcases h with h | h
   ·injection h with e1 e2
    subst e1; subst e2
    exact ⟨by omega, by omega, v, by simp⟩
   ·have := k2 t d' h
    refine ⟨by omega, by omega, ?_⟩
    rw [if_neg (by omega)]
    exact this.2.2
  ·simp only [AW.size]
   by_cases e : t = c
   ·omega
   ·rw [if_neg e] at h
    have := k3 t v h
    omega
  ·obtain ⟨v', hv'⟩ := ks hb t ht
   have := k3 t v' hv'
   exact ⟨v', by rw [if_neg (by omega)]; exact hv'⟩
  ·have := k3 t v h
   exact hvs t v (by rw [if_neg (by omega)]; exact h)
  ·obtain ⟨q1, q2⟩ := k5 φ' ow' (fun t v h => by have := k3 t v h; exact g1 t v (by rw [if_neg (by omega)]; exact h)) (Ai g2 (by simp [It.app, BH]; intro i hi; rcases hi with hi | hi <;> simp [hi])) (fun t d h => g3 t d (by simp [It.app, h])) (fun n id h => g4 n id (by simpa [It.app] using h))
   have p2 := g3 c d (by simp [It.app])
   have p1 : φ' c = some v := g1 c v (by simp)
   have hrow' : EJ ow' w c v e T l := by
    refine ⟨xs, hown, fun g hg => ?_, hll, Rows.mono (fun cs x => Ty.AO (Ai g2 (by simp [It.app, BH]; intro i hi; simp [hi]))) hrow⟩
    obtain ⟨i, hi, hi2⟩ := hd g hg
    exact p2 g i hi hi2
   refine ⟨⟨v, rest, rfl, ?_, q1⟩, fun j ch h => ?_⟩
   ·obtain ⟨A, n, c', rfl⟩ := hsv
    exact ⟨A, n, c', p1, rfl⟩
   ·rcases List.mem_cons.1 h with h | h
    ·injection h with e1 e2
     subst e1; subst e2
     exact ⟨v, p1, hrow'⟩
    ·exact q2 j ch h
 | By e e' T r ih =>
  intro c a k vals hr ha
  cases a <;> try (simp [BZ, Req.run] at hr; done)
  rename_i a b
  simp only [BZ] at hr
  obtain ⟨v, rest, rfl, h1, h2⟩ := ha
  obtain ⟨l, d, hr1, hd, hsv, hch⟩ := K4 H hr h1
  obtain ⟨y, it, hv, hr2, k1, k2, k3, ks, k4, kl, k5⟩ := ih (c + 1) b _ rest hr1 h2
  refine ⟨(l, y), It.app ⟨[(c, d)], [], [], [], []⟩ it, fun t => if t = c then some v else hv t, hr2, by simpa [It.app] using k1, fun t d' h => ?_, fun t v h => ?_, fun hb t ht => ?_, fun vs hvs => k4 vs fun t v h => ?_, fun t id h => (by obtain ⟨b0, v', b1, b2⟩ := kl t id (by simpa [It.app] using h); have := k3 t v' b1; exact ⟨b0, v', by rw [if_neg (by omega)]; exact b1, b2⟩), fun φ' ow' g1 g2 g3 g4 => ?_⟩
  ·simp only [It.app, List.mem_append, List.mem_singleton] at h
   simp only [AW.size]
   rcases h with h | h
   ·injection h with e1 e2
    subst e1; subst e2
    exact ⟨by omega, by omega, v, by simp⟩
   ·have := k2 t d' h
    refine ⟨by omega, by omega, ?_⟩
    rw [if_neg (by omega)]
    exact this.2.2
  ·simp only [AW.size]
   by_cases e : t = c
   ·omega
   ·rw [if_neg e] at h
    have := k3 t v h
    omega
  ·obtain ⟨v', hv'⟩ := ks hb t ht
   have := k3 t v' hv'
   exact ⟨v', by rw [if_neg (by omega)]; exact hv'⟩
  ·have := k3 t v h
   exact hvs t v (by rw [if_neg (by omega)]; exact h)
  ·obtain ⟨q1, q2⟩ := k5 φ' ow' (fun t v h => by have := k3 t v h; exact g1 t v (by rw [if_neg (by omega)]; exact h)) (Ai g2 (by simp [It.app])) (fun t d h => g3 t d (by simp [It.app, h])) (fun n id h => g4 n id (by simpa [It.app] using h))
   have p2 := g3 c d (by simp [It.app])
   have p1 : φ' c = some v := g1 c v (by simp)
   have hc2 := hch ow' φ' c (fun cs x => Ty.AO (A8.trans (An _) g2)) p2 p1
   refine ⟨⟨v, rest, rfl, ?_, q1⟩, fun j ch h => ?_⟩
   ·obtain ⟨A, n, c', rfl⟩ := hsv
    exact ⟨A, n, c', p1, rfl⟩
   ·rcases List.mem_cons.1 h with h | h
    ·injection h with e1 e2
     subst e1; subst e2
     exact hc2
    ·exact q2 j ch h
 | Cr T r ih =>
  intro c a k vals hr ha
  cases a <;> try (simp [BZ, Req.run] at hr; done)
  rename_i a b
  simp only [BZ] at hr
  split at hr <;> try (simp [Req.run] at hr; done)
  rename_i a id
  obtain ⟨v, rest, rfl, h1, h2⟩ := ha
  obtain ⟨x, c', u, cs1, cs2, e1, h3, hr1, hy, hsl⟩ := Cc H (.sl T) (.cons (.arr id) .nil) _ [v] out ⟨v, [], rfl, h1, rfl⟩ hr
  obtain ⟨A, n, cp, hφ, hva⟩ := h1
  injection hva with hva
  cases c' <;> try (simp [Req.run] at hr1; done)
  have h0 : cs2 = [] := h3
  subst h0
  rw [List.append_nil] at e1
  subst e1
  obtain ⟨y, it, hv, hr2, k1, k2, k3, ks, k4, kl, k5⟩ := ih (c + 1) b _ rest hr1 h2
  refine ⟨(x, y), It.app ⟨[], ids u, [], [], [(c, id)]⟩ it, fun t => if t = c then some v else hv t, hr2, by simpa [It.app] using k1, fun t d h => ?_, fun t v h => ?_, fun hb t ht => ?_, fun vs hvs => k4 vs fun t v h => ?_, fun t id' h => ?_, fun φ' ow' g1 g2 g3 g4 => ?_⟩
  ·have := k2 t d (by simpa [It.app] using h)
   simp only [AW.size]
   rw [if_neg (by omega)]
   exact ⟨by omega, by omega, this.2.2⟩
  ·simp only [AW.size]
   by_cases e : t = c
   ·omega
   ·rw [if_neg e] at h
    have := k3 t v h
    omega
  ·obtain ⟨v', hv'⟩ := ks hb t ht
   have := k3 t v' hv'
   exact ⟨v', by rw [if_neg (by omega)]; exact hv'⟩
  ·have := k3 t v h
   exact hvs t v (by rw [if_neg (by omega)]; exact h)
  ·simp only [It.app, List.cons_append, List.nil_append, List.mem_cons] at h
   simp only [AW.Cy, List.mem_cons]
   rcases h with h | h
   ·injection h with e1 e2
    subst e1; subst e2
    exact ⟨.inl rfl, v, by simp, by rw [hva]; exact hφ⟩
   ·obtain ⟨b0, v', b1, b2⟩ := kl t id' h
    have := k3 t v' b1
    exact ⟨.inr b0, v', by rw [if_neg (by omega)]; exact b1, b2⟩
  ·have hvc : φ' c = some v := g1 c v (by simp)
   obtain ⟨q1, q2⟩ := k5 φ' ow' (fun t v h => by have := k3 t v h; exact g1 t v (by rw [if_neg (by omega)]; exact h)) (Ai g2 (by simp [It.app]; intro i hi; rcases hi with hi | hi <;> simp [hi])) (fun t d h => g3 t d (by simpa [It.app] using h)) (fun n id h => g4 n id (by simpa [It.app] using h))
   have hrep : (Ty.sl T).rep ow' w [v] x := Ty.AO (Ai g2 (by simp [It.app]; intro i hi; simp [hi])) hy
   refine ⟨⟨v, rest, rfl, ⟨A, n, cp, by rw [hvc, hva], by rw [hva]⟩, q1⟩, fun j ch h => ?_⟩
   rcases List.mem_cons.1 h with h | h
   ·injection h with e1 e2
    subst e1; subst e2
    exact ⟨v, hvc, hrep⟩
   ·exact q2 j ch h
 | Ch e e' T kk r ih =>
  intro c a k vals hr ha
  cases a <;> try (simp [BZ, Req.run] at hr; done)
  rename_i a b
  simp only [BZ] at hr
  obtain ⟨v, rest, rfl, h1, h2⟩ := ha
  obtain ⟨l, d, hr1, hd, hsv, hch⟩ := K4 H hr h1
  obtain ⟨y, it, hv, hr2, k1, k2, k3, ks, k4, kl, k5⟩ := ih (c + 1) b _ rest hr1 h2
  refine ⟨(l, (0 : Int), y), It.app ⟨[(c, d)], [], [], [], []⟩ it, fun t => if t = c then some v else hv t, hr2, by simpa [It.app] using k1, fun t d' h => ?_, fun t v h => ?_, fun hb t ht => ?_, fun vs hvs => k4 vs fun t v h => ?_, fun t id h => (by obtain ⟨b0, v', b1, b2⟩ := kl t id (by simpa [It.app] using h); have := k3 t v' b1; exact ⟨b0, v', by rw [if_neg (by omega)]; exact b1, b2⟩), fun φ' ow' g1 g2 g3 g4 => ?_⟩
  ·simp only [It.app, List.mem_append, List.mem_singleton] at h
   simp only [AW.size]
   rcases h with h | h
   ·injection h with e1 e2
    subst e1; subst e2
    exact ⟨by omega, by omega, v, by simp⟩
   ·have := k2 t d' h
    refine ⟨by omega, by omega, ?_⟩
    rw [if_neg (by omega)]
    exact this.2.2
  ·simp only [AW.size]
   by_cases e : t = c
   ·omega
   ·rw [if_neg e] at h
    have := k3 t v h
    omega
  ·obtain ⟨v', hv'⟩ := ks hb t ht
   have := k3 t v' hv'
   exact ⟨v', by rw [if_neg (by omega)]; exact hv'⟩
  ·have := k3 t v h
   exact hvs t v (by rw [if_neg (by omega)]; exact h)
  ·obtain ⟨q1, q2⟩ := k5 φ' ow' (fun t v h => by have := k3 t v h; exact g1 t v (by rw [if_neg (by omega)]; exact h)) (Ai g2 (by simp [It.app])) (fun t d h => g3 t d (by simp [It.app, h])) (fun n id h => g4 n id (by simpa [It.app] using h))
   have p2 := g3 c d (by simp [It.app])
   have p1 : φ' c = some v := g1 c v (by simp)
   have hc2 := hch ow' φ' c (fun cs x => Ty.AO (A8.trans (An _) g2)) p2 p1
   refine ⟨⟨v, rest, rfl, ?_, q1⟩, fun j ch h => ?_⟩
   ·obtain ⟨A, n, c', rfl⟩ := hsv
    exact ⟨A, n, c', p1, rfl⟩
   ·rcases List.mem_cons.1 h with h | h
    ·injection h with e1 e2
     subst e1; subst e2
     exact hc2
    ·exact q2 j ch h
 | skip r ih =>
  intro c a k vals hr ha
  cases a <;> try (simp [BZ, Req.run] at hr; done)
  rename_i a b
  simp only [BZ] at hr
  split at hr <;> try (simp [Req.run] at hr; done)
  rename_i hone
  obtain ⟨v, rest, rfl, h1, h2⟩ := ha
  obtain ⟨y, it, hv, hr2, k1, k2, k3, ks, k4, kl, k5⟩ := ih (c + 1) b _ rest hr h2
  refine ⟨y, it, fun t => if t = c then some v else hv t, hr2, k1, fun t d h => ?_, fun t v h => ?_, fun hb t ht => ?_, fun vs hvs => ⟨?_, k4 vs fun t v h => ?_⟩, fun t id h => (by obtain ⟨b0, v', b1, b2⟩ := kl t id (by simpa [It.app] using h); have := k3 t v' b1; exact ⟨b0, v', by rw [if_neg (by omega)]; exact b1, b2⟩), fun φ' ow' g1 g2 g3 g4 => ?_⟩
  ·have := k2 t d h
   simp only [AW.size]
   rw [if_neg (by omega)]
   exact ⟨by omega, by omega, this.2.2⟩
  ·simp only [AW.size]
   by_cases e : t = c
   ·omega
   ·rw [if_neg e] at h
    have := k3 t v h
    omega
  ·rcases List.mem_cons.1 ht with rfl | ht
   ·exact ⟨v, by simp⟩
   ·obtain ⟨v', hv'⟩ := ks hb t ht
    have := k3 t v' hv'
    exact ⟨v', by rw [if_neg (by omega)]; exact hv'⟩
  ·rw [hvs c v (by simp)]
   exact h1
  ·have := k3 t v h
   exact hvs t v (by rw [if_neg (by omega)]; exact h)
  ·have hvc : φ' c = some v := g1 c v (by simp)
   obtain ⟨q1, q2⟩ := k5 φ' ow' (fun t v h => by have := k3 t v h; exact g1 t v (by rw [if_neg (by omega)]; exact h)) g2 g3 g4
   exact ⟨⟨v, rest, rfl, ⟨v, hvc, rfl, NP hone h1⟩, q1⟩, q2⟩
 | E8 r ih =>
  intro c a k vals hr ha
  cases a <;> try (simp [BZ, Req.run] at hr; done)
  rename_i a b
  cases a <;> try (simp [BZ, Req.run] at hr; done)
  rename_i u
  cases u <;> try (simp [BZ, Req.run] at hr; done)
  rename_i A n c0
  cases A <;> try (simp [BZ, Req.run] at hr; done)
  cases n <;> try (simp [BZ, Req.run] at hr; done)
  cases c0 <;> try (simp [BZ, Req.run] at hr; done)
  simp only [BZ] at hr
  obtain ⟨v, rest, rfl, h1, h2⟩ := ha
  obtain ⟨y, it, hv, hr2, k1, k2, k3, ks, k4, kl, k5⟩ := ih (c + 1) b _ rest hr h2
  refine ⟨y, it, hv, hr2, k1, fun t d h => ?_, fun t v h => ?_, fun hb t ht => ks hb t ht, fun vs hvs => k4 vs hvs, fun t id h => kl t id h, fun φ' ow' g1 g2 g3 g4 => ?_⟩
  ·have := k2 t d h
   simp only [AW.size]
   exact ⟨by omega, by omega, this.2.2⟩
  ·have := k3 t v h
   simp only [AW.size]
   exact ⟨by omega, by omega⟩
  ·obtain ⟨q1, q2⟩ := k5 φ' ow' g1 g2 g3 g4
   exact ⟨⟨v, rest, rfl, h1, q1⟩, q2⟩
 | obj n r ih =>
  intro c a k vals hr ha
  cases a <;> try (simp [BZ, Req.run] at hr; done)
  rename_i a b
  cases a <;> try (simp [BZ, Req.run] at hr; done)
  rename_i id off
  cases off <;> try (simp [BZ, Req.run] at hr; done)
  simp only [BZ] at hr
  obtain ⟨v, rest, rfl, h1, h2⟩ := ha
  obtain ⟨y, it, hv, hr2, k1, k2, k3, ks, k4, kl, k5⟩ := ih (c + 1) b _ rest hr h2
  refine ⟨y, It.app ⟨[], [], [], [(n, id)], []⟩ it, hv, hr2, by simpa [It.app] using k1, fun t d h => ?_, fun t v h => ?_, fun hb t ht => ks hb t ht, fun vs hvs => k4 vs hvs, fun t id h => kl t id (by simpa [It.app] using h), fun φ' ow' g1 g2 g3 g4 => ?_⟩
  ·have := k2 t d (by simpa [It.app] using h)
   simp only [AW.size]
   exact ⟨by omega, by omega, this.2.2⟩
  ·have := k3 t v h
   simp only [AW.size]
   exact ⟨by omega, by omega⟩
  ·obtain ⟨q1, q2⟩ := k5 φ' ow' g1 (Ai g2 (by simp [It.app])) (fun t d h => g3 t d (by simpa [It.app] using h)) (fun n id h => g4 n id (by simp [It.app, h]))
   refine ⟨⟨v, rest, rfl, ?_, q1⟩, q2⟩
   obtain ⟨g, m1, m2⟩ := h1
   exact ⟨g, by rw [g4 n id (by simp [It.app])]; exact m1, m2⟩
 | D5 f n r ih =>
  intro c a k vals hr ha
  cases a <;> try (simp [BZ, Req.run] at hr; done)
  rename_i a b
  cases a <;> try (simp [BZ, Req.run] at hr; done)
  rename_i id f2
  simp only [BZ] at hr
  split at hr <;> try (simp [Req.run] at hr; done)
  rename_i hf2
  subst hf2
  obtain ⟨v, rest, rfl, h1, h2⟩ := ha
  obtain ⟨y, it, hv, hr2, k1, k2, k3, ks, k4, kl, k5⟩ := ih (c + 1) b _ rest hr h2
  refine ⟨y, It.app ⟨[], [], [], [(n, id)], []⟩ it, hv, hr2, by simpa [It.app] using k1, fun t d h => ?_, fun t v h => ?_, fun hb t ht => ks hb t ht, fun vs hvs => k4 vs hvs, fun t id h => kl t id (by simpa [It.app] using h), fun φ' ow' g1 g2 g3 g4 => ?_⟩
  ·have := k2 t d (by simpa [It.app] using h)
   simp only [AW.size]
   exact ⟨by omega, by omega, this.2.2⟩
  ·have := k3 t v h
   simp only [AW.size]
   exact ⟨by omega, by omega⟩
  ·obtain ⟨q1, q2⟩ := k5 φ' ow' g1 (Ai g2 (by simp [It.app])) (fun t d h => g3 t d (by simpa [It.app] using h)) (fun n id h => g4 n id (by simp [It.app, h]))
   refine ⟨⟨v, rest, rfl, ?_, q1⟩, q2⟩
   obtain ⟨g, m1, m2⟩ := h1
   exact ⟨g, by rw [g4 n id (by simp [It.app])]; exact m1, m2⟩
 | clo f q r ihq ihr =>
  intro c a k vals hr ha
  cases a <;> try (simp [BZ, Req.run] at hr; done)
  rename_i a b
  cases a <;> try (simp [BZ, Req.run] at hr; done)
  rename_i g caps
  simp only [BZ] at hr
  split at hr <;> try (simp [Req.run] at hr; done)
  rename_i hg
  subst hg
  obtain ⟨v, rest, rfl, h1, h2⟩ := ha
  obtain ⟨cs, ev, hcs⟩ := h1
  obtain ⟨x, it, hv, hr1, k1, k2, k3, ks, k4, kl, k5⟩ := ihq c caps _ cs.toList hr hcs
  obtain ⟨y, it', hv', hr2, m1, m2, m3, ms, m4, ml, m5⟩ := ihr (c + q.size) b _ rest hr1 h2
  refine ⟨(x, y), It.app it it', fun t => if t < c + q.size then hv t else hv' t, hr2, A3.app k1 m1, fun t d h => ?_, fun t v h => ?_, fun hb t ht => ?_, fun vs hvs => m4 vs fun t v h => ?_, fun t id h => ?_, fun φ' ow' g1 g2 g3 g4 => ?_⟩
  ·simp only [It.app, List.mem_append] at h
   simp only [AW.size]
   rcases h with h | h
   ·have := k2 t d h
    rw [if_pos (by omega)]
    exact ⟨by omega, by omega, this.2.2⟩
   ·have := m2 t d h
    rw [if_neg (by omega)]
    exact ⟨by omega, by omega, this.2.2⟩
  ·simp only [AW.size]
   by_cases e : t < c + q.size
   ·rw [if_pos e] at h
    have := k3 t v h
    omega
   ·rw [if_neg e] at h
    have := m3 t v h
    omega
  ·simp only [AW.CK, List.mem_append] at ht
   rcases ht with ht | ht
   ·obtain ⟨v', hv'⟩ := ks hb t ht
    have := k3 t v' hv'
    exact ⟨v', by rw [if_pos (by omega)]; exact hv'⟩
   ·obtain ⟨v', hv'⟩ := ms hb t ht
    have := m3 t v' hv'
    exact ⟨v', by rw [if_neg (by omega)]; exact hv'⟩
  ·have := m3 t v h
   exact hvs t v (by rw [if_neg (by omega)]; exact h)
  ·simp only [It.app, List.mem_append] at h
   simp only [AW.Cy, List.mem_append]
   rcases h with h | h
   ·obtain ⟨b0, v', b1, b2⟩ := kl t id h
    have := k3 t v' b1
    exact ⟨.inl b0, v', by rw [if_pos (by omega)]; exact b1, b2⟩
   ·obtain ⟨b0, v', b1, b2⟩ := ml t id h
    have := m3 t v' b1
    exact ⟨.inr b0, v', by rw [if_neg (by omega)]; exact b1, b2⟩
  ·obtain ⟨q1, q2⟩ := k5 φ' ow' (fun t v h => by have := k3 t v h; exact g1 t v (by rw [if_pos (by omega)]; exact h)) (Ai g2 (by simp [It.app, BH]; intro i hi; rcases hi with hi | hi <;> simp [hi]))
    (fun t d h => g3 t d (by simp [It.app, h])) (fun n id h => g4 n id (by simp [It.app, h]))
   obtain ⟨q3, q4⟩ := m5 φ' ow' (fun t v h => by have := m3 t v h; exact g1 t v (by rw [if_neg (by omega)]; exact h)) (Ai g2 (by simp [It.app, BH]; intro i hi; rcases hi with hi | hi <;> simp [hi]))
    (fun t d h => g3 t d (by simp [It.app, h])) (fun n id h => g4 n id (by simp [It.app, h]))
   refine ⟨⟨v, rest, rfl, ⟨cs, ev, q1⟩, q3⟩, fun j ch h => ?_⟩
   simp only [AW.heap, List.mem_append] at h
   exact h.elim (q2 j ch) (q4 j ch)
 | agg q r ihq ihr =>
  intro c a k vals hr ha
  cases a <;> try (simp [BZ, Req.run] at hr; done)
  rename_i a b
  cases a <;> try (simp [BZ, Req.run] at hr; done)
  rename_i caps
  simp only [BZ] at hr
  obtain ⟨v, rest, rfl, h1, h2⟩ := ha
  obtain ⟨cs, ev, hcs⟩ := h1
  obtain ⟨x, it, hv, hr1, k1, k2, k3, ks, k4, kl, k5⟩ := ihq c caps _ cs.toList hr hcs
  obtain ⟨y, it', hv', hr2, m1, m2, m3, ms, m4, ml, m5⟩ := ihr (c + q.size) b _ rest hr1 h2
  refine ⟨(x, y), It.app it it', fun t => if t < c + q.size then hv t else hv' t, hr2, A3.app k1 m1, fun t d h => ?_, fun t v h => ?_, fun hb t ht => ?_, fun vs hvs => m4 vs fun t v h => ?_, fun t id h => ?_, fun φ' ow' g1 g2 g3 g4 => ?_⟩
  ·simp only [It.app, List.mem_append] at h
   simp only [AW.size]
   rcases h with h | h
   ·have := k2 t d h
    rw [if_pos (by omega)]
    exact ⟨by omega, by omega, this.2.2⟩
   ·have := m2 t d h
    rw [if_neg (by omega)]
    exact ⟨by omega, by omega, this.2.2⟩
  ·simp only [AW.size]
   by_cases e : t < c + q.size
   ·rw [if_pos e] at h
    have := k3 t v h
    omega
   ·rw [if_neg e] at h
    have := m3 t v h
    omega
  ·simp only [AW.CK, List.mem_append] at ht
   rcases ht with ht | ht
   ·obtain ⟨v', hv'⟩ := ks hb t ht
    have := k3 t v' hv'
    exact ⟨v', by rw [if_pos (by omega)]; exact hv'⟩
   ·obtain ⟨v', hv'⟩ := ms hb t ht
    have := m3 t v' hv'
    exact ⟨v', by rw [if_neg (by omega)]; exact hv'⟩
  ·have := m3 t v h
   exact hvs t v (by rw [if_neg (by omega)]; exact h)
  ·simp only [It.app, List.mem_append] at h
   simp only [AW.Cy, List.mem_append]
   rcases h with h | h
   ·obtain ⟨b0, v', b1, b2⟩ := kl t id h
    have := k3 t v' b1
    exact ⟨.inl b0, v', by rw [if_pos (by omega)]; exact b1, b2⟩
   ·obtain ⟨b0, v', b1, b2⟩ := ml t id h
    have := m3 t v' b1
    exact ⟨.inr b0, v', by rw [if_neg (by omega)]; exact b1, b2⟩
  ·obtain ⟨q1, q2⟩ := k5 φ' ow' (fun t v h => by have := k3 t v h; exact g1 t v (by rw [if_pos (by omega)]; exact h)) (Ai g2 (by simp [It.app, BH]; intro i hi; rcases hi with hi | hi <;> simp [hi]))
    (fun t d h => g3 t d (by simp [It.app, h])) (fun n id h => g4 n id (by simp [It.app, h]))
   obtain ⟨q3, q4⟩ := m5 φ' ow' (fun t v h => by have := m3 t v h; exact g1 t v (by rw [if_neg (by omega)]; exact h)) (Ai g2 (by simp [It.app, BH]; intro i hi; rcases hi with hi | hi <;> simp [hi]))
    (fun t d h => g3 t d (by simp [It.app, h])) (fun n id h => g4 n id (by simp [It.app, h]))
   refine ⟨⟨v, rest, rfl, ⟨cs, ev, q1⟩, q3⟩, fun j ch h => ?_⟩
   simp only [AW.heap, List.mem_append] at h
   exact h.elim (q2 j ch) (q4 j ch)
 | DM kd r ih =>
  intro c a k vals hr ha
  cases a <;> try (simp [BZ, Req.run] at hr; done)
  rename_i a b
  simp only [BZ] at hr
  obtain ⟨v, rest, rfl, h1, h2⟩ := ha
  obtain ⟨l, d, hr1, hch⟩ := Qb H hr h1
  obtain ⟨y, it, hv, hr2, k1, k2, k3, ks, k4, kl, k5⟩ := ih (c + 1) b _ rest hr1 h2
  refine ⟨(l, y), It.app ⟨[(c, d)], [], [], [], []⟩ it, fun t => if t = c then some v else hv t, hr2, by simpa [It.app] using k1, fun t d' h => ?_, fun t v h => ?_, fun hb t ht => ?_, fun vs hvs => k4 vs fun t v h => ?_, fun t id h => (by obtain ⟨b0, v', b1, b2⟩ := kl t id (by simpa [It.app] using h); have := k3 t v' b1; exact ⟨b0, v', by rw [if_neg (by omega)]; exact b1, b2⟩), fun φ' ow' g1 g2 g3 g4 => ?_⟩
  ·simp only [It.app, List.mem_append, List.mem_singleton] at h
   simp only [AW.size]
   rcases h with h | h
   ·injection h with e1 e2
    subst e1; subst e2
    exact ⟨by omega, by omega, v, by simp⟩
   ·have := k2 t d' h
    refine ⟨by omega, by omega, ?_⟩
    rw [if_neg (by omega)]
    exact this.2.2
  ·simp only [AW.size]
   by_cases e : t = c
   ·omega
   ·rw [if_neg e] at h
    have := k3 t v h
    omega
  ·obtain ⟨v', hv'⟩ := ks hb t ht
   have := k3 t v' hv'
   exact ⟨v', by rw [if_neg (by omega)]; exact hv'⟩
  ·have := k3 t v h
   exact hvs t v (by rw [if_neg (by omega)]; exact h)
  ·obtain ⟨q1, q2⟩ := k5 φ' ow' (fun t v h => by have := k3 t v h; exact g1 t v (by rw [if_neg (by omega)]; exact h)) (Ai g2 (by simp [It.app])) (fun t d h => g3 t d (by simp [It.app, h])) (fun n id h => g4 n id (by simpa [It.app] using h))
   have p2 := g3 c d (by simp [It.app])
   have p1 : φ' c = some v := g1 c v (by simp)
   obtain ⟨hc1, hc2⟩ := hch ow' φ' c (fun T _ cs x => Ty.AO (A8.trans (An _) g2)) p2 p1
   refine ⟨⟨v, rest, rfl, hc1, q1⟩, fun j ch h => ?_⟩
   rcases List.mem_cons.1 h with h | h
   ·injection h with e1 e2
    subst e1; subst e2
    exact hc2
   ·exact q2 j ch h
theorem BR {vs : Nat -> Value} : ∀ (p : AW) (c : Nat), DS φ ow w vs p c .bot
 | .nil, _ => trivial
 | .clo _ q r, c => BR r (c + q.size)
 | .agg q r, c => BR r (c + q.size)
 | .val _ r, c => BR r (c + 1)
 | .own _ _ r, c => BR r (c + 1)
 | .By _ _ _ r, c => BR r (c + 1)
 | .Cr _ r, c => BR r (c + 1)
 | .Ch _ _ _ _ r, c => BR r (c + 1)
 | .obj _ r, c => BR r (c + 1)
 | .D5 _ _ r, c => BR r (c + 1)
 | .DM _ r, c => BR r (c + 1)
 | .skip r, c => ⟨rfl, BR r (c + 1)⟩
 | .E8 r, c => BR r (c + 1)
 | .AI _ r, c => ⟨rfl, BR r (c + 1)⟩
end
end AL
end
