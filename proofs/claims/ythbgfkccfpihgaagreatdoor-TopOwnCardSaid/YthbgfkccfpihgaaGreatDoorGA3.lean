/- The texts Sx21, Sy1, Sy2, Sy3, Sx22, Sx23, Sx24, Sx25, Sx26, Sy4, Sy7, Sy8, SzA, SzB, Sy9, SzR, SzS, one behind the other. -/
import Derived.Test.YthbgfkccfpihgaaGreatDoorGA2
import Derived.KernelRfl
import Derived.Shelf.Slices.CompactI
import Derived.Shelf.Slices.Delete
import Derived.Conc.LoneCalls
import Derived.RangeFuncRecord
import Derived.RangeFuncIn
import Derived.RangeFuncLeaves
import Derived.Sort.LoopGhostIn
set_option linter.unusedVariables false
set_option linter.unusedSimpArgs false
section
set_option linter.unusedVariables false
set_option linter.unusedSimpArgs false
namespace AL
open Go
def AW.back (o : Nat) (ob : Nat -> Nat) : (p : AW) -> Nat -> AV -> p.ty.den -> AV
 | .nil, _, _, _ => .nil
 | .val T r, c, g, x => .cons (.dat T x.1) (r.back o ob (c + 1) g.tl x.2)
 | .AI T r, c, g, x => .cons g.hd (r.back o ob (c + 1) g.tl x.2)
 | .own _ T r, c, g, x => .cons (.arr (o + c)) (r.back o ob (c + 1) g.tl x.2)
 | .By _ _ T r, c, g, x => .cons (.arr (o + c)) (r.back o ob (c + 1) g.tl x.2)
 | .Cr _ r, c, g, x => .bot
 | .Ch _ _ T _ r, c, g, x => .cons (.arr (o + c)) (r.back o ob (c + 1) g.tl x.2.2)
 | .skip r, c, g, x => .cons g.hd (r.back o ob (c + 1) g.tl x)
 | .E8 r, c, g, x => .cons (.raw (.slice Option.none 0 0)) (r.back o ob (c + 1) g.tl x)
 | .obj n r, c, g, x => .cons (.ref (ob n) 0) (r.back o ob (c + 1) g.tl x)
 | .D5 f n r, c, g, x => .cons (.bfn (ob n) f) (r.back o ob (c + 1) g.tl x)
 | .clo f q r, c, g, x => .cons (.fn f (q.back o ob c .bot x.1)) (r.back o ob (c + q.size) g.tl x.2)
 | .agg q r, c, g, x => .cons (.agg (q.back o ob c .bot x.1)) (r.back o ob (c + q.size) g.tl x.2)
 | .DM k r, c, g, x => .cons (k.hnd (o + c)) (r.back o ob (c + 1) g.tl x.2)
def Rx (e e' : TypeId) (T : Ty) (kk : Nat) (a : AV) (k : List (List T.den) -> Int -> List Nat -> Req) : Req :=
 match a with
 | .arr id => .look id fun
  | .BC e2 e2' T2 l [(i, k2)] => if h : T2 = T then (if e2 = e /\ e2' = e' /\ k2 = kk then k (Bm (congrArg (fun t => Ty.sl (Ty.sl t)) h) l) i [id] else .fail) else .fail
  | _ => .fail
 | _ => .fail
def BA : (p : AW) -> Nat -> AV -> (p.ty.den -> It -> Req) -> Req
 | .nil, _, .nil, k => k () It.nil
 | .val T r, c, .cons a b, k => if T.leaf then Bv T (.cons a .nil) fun x c' u => match c' with
   | .nil => BA r (c + 1) b fun y it => k (x, y) (It.app ⟨[], [], u, [], []⟩ it)
   | _ => .fail else .fail
 | .AI T r, c, .cons (.idn u T' x) b, k => if h : T' = T then (if u = c then BA r (c + 1) b fun y it => k (Bm h x, y) it else .fail) else .fail
 | .own e T r, c, .cons a b, k => IB e T a fun l d u => BA r (c + 1) b fun y it => k (l, y) (It.app ⟨[(c, d)], [], u, [], []⟩ it)
 | .By e e' T r, c, .cons a b, k => Ng e e' T a fun l d => BA r (c + 1) b fun y it => k (l, y) (It.app ⟨[(c, d)], [], [], [], []⟩ it)
 | .Ch e e' T kk r, c, .cons a b, k => Rx e e' T kk a fun l i d => BA r (c + 1) b fun y it => k (l, i, y) (It.app ⟨[(c, d)], [], [], [], []⟩ it)
 | .skip r, c, .cons (.opq u) b, k => if u = c then BA r (c + 1) b fun y it => k y it else .fail
 | .obj n r, c, .cons (.ref id 0) b, k => BA r (c + 1) b fun y it => k y (It.app ⟨[], [], [], [(n, id)], []⟩ it)
 | .D5 f n r, c, .cons (.bfn id g) b, k => if g = f then BA r (c + 1) b fun y it => k y (It.app ⟨[], [], [], [(n, id)], []⟩ it) else .fail
 | .clo f q r, c, .cons (.fn g caps) b, k => if g = f then BA q c caps fun x it => BA r (c + q.size) b fun y it' => k (x, y) (It.app it it') else .fail
 | .agg q r, c, .cons (.agg l) b, k => BA q c l fun x it => BA r (c + q.size) b fun y it' => k (x, y) (It.app it it')
 | .DM kd r, c, .cons a b, k => Iv kd a fun x d => BA r (c + 1) b fun y it => k (x, y) (It.app ⟨[(c, d)], [], [], [], []⟩ it)
 | _, _, _, _ => .fail
section
variable {φ : Hnd} {ow : Own} {w : World} {hp : Nat -> Chunk} {nx : Nat}
theorem XN (H : Hyp hp nx φ ow w) {e e' : TypeId} {T : Ty} {kk : Nat} {a : AV} {v : Value} {k : List (List T.den) -> Int -> List Nat -> Req} {out : Out} (hr : (Rx e e' T kk a k).run hp = some out) (ha : a.holds φ ow w [v]) :
  ∃ l i d, (k l i d).run hp = some out /\ (∀ g, v.ownBlock = some g -> ∃ i ∈ d, ow g = some i) /\ (∃ A n c, v = .slice A n c) /\
   ∀ (ow' : Own) (φ' : Hnd) (t k' : Nat), (∀ cs x, Ty.rep ow w T cs x -> Ty.rep ow' w T cs x) -> (∀ g i, i ∈ d -> ow g = some i -> ow' g = some t) -> (∀ h, φ kk = some h -> φ' k' = some h) -> φ' t = some v -> cH φ' ow' w t (.BC e e' T l [(i, k')]) := by
 unfold Rx at hr
 split at hr <;> try (simp [Req.run] at hr; done)
 rename_i id
 obtain ⟨A, n', c, hφ, e2⟩ := ha
 injection e2 with e2
 subst e2
 simp only [Req.run] at hr
 have hch := H.chunk id
 split at hr <;> try (simp [Req.run] at hr; done)
 rename_i e2 e2' T2 l i k2 hc
 rw [hc] at hch
 split at hr <;> try (simp [Req.run] at hr; done)
 rename_i hT
 subst hT
 split at hr <;> try (simp [Req.run] at hr; done)
 rename_i he
 obtain ⟨rfl, rfl, rfl⟩ := he
 obtain ⟨v, xs, pos, hv, hown, hvb, hlim, hsub⟩ := hch
 rw [hφ] at hv
 injection hv with hv
 subst hv
 have hr : (k l i [id]).run hp = some out := hr
 refine ⟨l, i, [id], hr, fun g hg => ⟨id, by simp, (hvb g hg).1⟩, ⟨_, _, _, rfl⟩, fun ow' φ' t k' hk hm hkk h => ⟨_, xs, pos, h, hown, fun g hg => ⟨hm g id (by simp) (hvb g hg).1, (hvb g hg).2⟩, hlim, hsub.1, fun p hp => ?_, by simp, fun j u hu => ?_⟩⟩
 ·simp only [List.mem_singleton] at hp
  subst hp
  exact hsub.2.1 (i, k2) (by simp)
 ·have h5 := hsub.2.2.2 j u hu
  simp only [BV] at h5 ⊢
  split at h5
  ·rename_i k3 hk3
   split at hk3
   ·rename_i hij
    injection hk3 with hk3
    subst hk3
    rw [if_pos hij]
    exact hkk u h5
   ·cases hk3
  ·rename_i hk3
   split at hk3
   ·cases hk3
   ·rename_i hij
    rw [if_neg hij]
    obtain ⟨⟨zs, r1, r2, r3, r4⟩, h6⟩ := h5
    exact ⟨⟨zs, r1, fun g hg => hm g id (by simp) (r2 g hg), r3, Rows.mono (fun cs x hx => hk cs x hx) r4⟩, h6⟩
structure AKh (φ : Hnd) (ow : Own) (w : World) (p : AW) (c : Nat) (vals : List Value) (x : p.ty.den) (it : It) (hv : Nat -> Option Value) : Prop where
 sld : A3 φ (AM (ids it.sls) ow) w it.sls
 own : ∀ t d, (t, d) ∈ it.own -> c <= t /\ t < c + p.size /\ ∃ v, hv t = some v
 tgt : ∀ (vs : Nat -> Value) (o : Nat) (ob : Nat -> Nat) (g : AV) (φ' : Hnd) (ow' : Own), (∀ t ∈ p.CK c, ∀ v, φ t = some v -> v = vs t) -> (∀ T ∈ p.tys, ∀ cs x, Ty.rep (AM (ids it.sls) ow) w T cs x -> Ty.rep ow' w T cs x) -> (∀ t d, (t, d) ∈ it.own -> φ' (o + t) = hv t /\ ∀ b i, i ∈ d -> ow b = some i -> ow' b = some (o + t)) ->
  (∀ n id, (n, id) ∈ it.Aa -> φ' (ob n) = φ id) -> (∀ k ∈ p.refs, ∀ h, φ k = some h -> φ' (ob (1000 + k)) = some h) -> DS φ' ow' w vs p c g -> (p.back o ob c g x).holds φ' ow' w vals /\ ∀ j ch, (j, ch) ∈ p.Ci o ob c x -> cH φ' ow' w j ch
theorem Ux (H : Hyp hp nx φ ow w) {out : Out} : ∀ (p : AW) (c : Nat) (a : AV) (k : p.ty.den -> It -> Req) (vals : List Value), (BA p c a k).run hp = some out -> a.holds φ ow w vals ->
  ∃ x it hv, (k x it).run hp = some out /\ AKh φ ow w p c vals x it hv := by
 intro p
 induction p with
 | nil =>
  intro c a k vals hr ha
  unfold BA at hr
  cases a <;> try (simp [Req.run] at hr; done)
  exact ⟨(), It.nil, fun _ => none, hr, fun p hp => (by cases hp), fun t d h => (by cases h), fun vs o ob g φ' ow' _ _ _ _ _ _ => ⟨ha, fun j ch h => (by cases h)⟩⟩
 | val T r ih =>
  intro c a k vals hr ha
  cases a <;> try (simp [BA, Req.run] at hr; done)
  rename_i a b
  simp only [BA] at hr
  split at hr <;> try (simp [Req.run] at hr; done)
  rename_i hT
  obtain ⟨v, rest, rfl, h1, h2⟩ := ha
  obtain ⟨x, c', u, cs1, cs2, e1, h3, hr1, hy, hsl⟩ := Cc H T (.cons a .nil) _ [v] out ⟨v, [], rfl, h1, rfl⟩ hr
  cases c' <;> try (simp [Req.run] at hr1; done)
  have h0 : cs2 = [] := h3
  subst h0
  rw [List.append_nil] at e1
  subst e1
  obtain ⟨y, it, hv, hr2, k1, k2, k5⟩ := ih (c + 1) b _ rest hr1 h2
  refine ⟨(x, y), It.app ⟨[], [], u, [], []⟩ it, hv, hr2, A3.app hsl k1, fun t d h => ?_, fun vs o ob g φ' ow' g1 g2 g3 g4 gr g5 => ?_⟩
  ·have := k2 t d (by simpa [It.app] using h)
   simp only [AW.size]
   exact ⟨by omega, by omega, this.2.2⟩
  ·obtain ⟨q1, q2⟩ := k5 vs o ob g.tl φ' ow' g1 (fun T hT cs x h => g2 T (List.mem_cons_of_mem _ hT) cs x (Bx (by simp [It.app, BH]; intro i hi; simp [hi]) h)) (fun t d h => g3 t d (by simpa [It.app] using h)) (fun n id h => g4 n id (by simpa [It.app] using h)) gr g5
   exact ⟨⟨v, rest, rfl, ⟨rfl, hT, g2 T (.head _) _ _ (Bx (by simp [It.app, BH]; intro i hi; simp [hi]) hy)⟩, q1⟩, q2⟩
 | AI T r ih =>
  intro c a k vals hr ha
  cases a <;> try (simp [BA, Req.run] at hr; done)
  rename_i a b
  cases a <;> try (simp [BA, Req.run] at hr; done)
  rename_i u T' x
  simp only [BA] at hr
  split at hr <;> try (simp [Req.run] at hr; done)
  rename_i hT
  subst hT
  split at hr <;> try (simp [Req.run] at hr; done)
  rename_i hu
  subst hu
  obtain ⟨v, rest, rfl, h1, h2⟩ := ha
  obtain ⟨v', h0, hu, _, _⟩ := h1
  injection hu with hu
  subst hu
  obtain ⟨y, it, hv, hr2, k1, k2, k5⟩ := ih (u + 1) b _ rest hr h2
  refine ⟨(x, y), it, hv, hr2, k1, fun t d h => ?_, fun vs o ob g φ' ow' g1 g2 g3 g4 gr g5 => ?_⟩
  ·have := k2 t d h
   simp only [AW.size]
   exact ⟨by omega, by omega, this.2.2⟩
  ·obtain ⟨q1, q2⟩ := k5 vs o ob g.tl φ' ow' (fun t ht => g1 t (List.mem_cons_of_mem _ ht)) g2 g3 g4 gr g5.2
   have hvc : v = vs u := g1 u (.head _) v h0
   exact ⟨⟨v, rest, rfl, by rw [hvc]; exact g5.1, q1⟩, q2⟩
 | own e T r ih =>
  intro c a k vals hr ha
  cases a <;> try (simp [BA, Req.run] at hr; done)
  rename_i a b
  simp only [BA] at hr
  obtain ⟨v, rest, rfl, h1, h2⟩ := ha
  obtain ⟨l, d, u, xs, hr1, hown, hd, hrow, hsl, hll⟩ := FY H hr h1
  obtain ⟨y, it, hv, hr2, k1, k2, k5⟩ := ih (c + 1) b _ rest hr1 h2
  have hsv : ∃ A n c, v = .slice A n c := by
   obtain ⟨A, c, h⟩ := Ej hown
   exact ⟨_, _, _, h⟩
  refine ⟨(l, y), It.app ⟨[(c, d)], [], u, [], []⟩ it, fun t => if t = c then some v else hv t, hr2, A3.app hsl k1, fun t d' h => ?_, fun vs o ob g φ' ow' g1 g2 g3 g4 gr g5 => ?_⟩
  ·simp only [It.app, List.mem_append, List.mem_singleton] at h
   simp only [AW.size]
   rcases h with h | h
   ·injection h with e1 e2
    subst e1; subst e2
    exact ⟨by omega, by omega, v, by simp⟩
   ·have := k2 t d' h
    refine ⟨by omega, by omega, ?_⟩
    rw [if_neg (by omega)]
    exact this.2.2
  ·obtain ⟨q1, q2⟩ := k5 vs o ob g.tl φ' ow' g1 (fun T hT cs x h => g2 T (List.mem_cons_of_mem _ hT) cs x (Bx (by simp [It.app, BH]; intro i hi; simp [hi]) h)) (fun t d h => by
     have h3 := g3 t d (by simp [It.app, h])
     have h4 := (k2 t d h).1
     rw [if_neg (by omega)] at h3
     exact h3) (fun n id h => g4 n id (by simpa [It.app] using h)) gr g5
   obtain ⟨p1, p2⟩ := g3 c d (by simp [It.app])
   rw [if_pos rfl] at p1
   have hrow' : EJ ow' w (o + c) v e T l := by
    refine ⟨xs, hown, fun b hb => ?_, hll, Rows.mono (fun cs x h => g2 T (.head _) cs x (Bx (by simp [It.app, BH]; intro i hi; simp [hi]) h)) hrow⟩
    obtain ⟨i, hi, hi2⟩ := hd b hb
    exact p2 b i hi hi2
   refine ⟨⟨v, rest, rfl, ?_, q1⟩, fun j ch h => ?_⟩
   ·obtain ⟨A, n, c', rfl⟩ := hsv
    exact ⟨A, n, c', p1, rfl⟩
   ·rcases List.mem_cons.1 h with h | h
    ·injection h with e1 e2
     subst e1; subst e2
     exact ⟨v, p1, hrow'⟩
    ·exact q2 j ch h
 | By e e' T r ih =>
  intro c a k vals hr ha
  cases a <;> try (simp [BA, Req.run] at hr; done)
  rename_i a b
  simp only [BA] at hr
  obtain ⟨v, rest, rfl, h1, h2⟩ := ha
  obtain ⟨l, d, hr1, hd, hsv, hch⟩ := K4 H hr h1
  obtain ⟨y, it, hv, hr2, k1, k2, k5⟩ := ih (c + 1) b _ rest hr1 h2
  refine ⟨(l, y), It.app ⟨[(c, d)], [], [], [], []⟩ it, fun t => if t = c then some v else hv t, hr2, by simpa [It.app] using k1, fun t d' h => ?_, fun vs o ob g φ' ow' g1 g2 g3 g4 gr g5 => ?_⟩
  ·simp only [It.app, List.mem_append, List.mem_singleton] at h
   simp only [AW.size]
   rcases h with h | h
   ·injection h with e1 e2
    subst e1; subst e2
    exact ⟨by omega, by omega, v, by simp⟩
   ·have := k2 t d' h
    refine ⟨by omega, by omega, ?_⟩
    rw [if_neg (by omega)]
    exact this.2.2
  ·obtain ⟨q1, q2⟩ := k5 vs o ob g.tl φ' ow' g1 (fun T hT cs x h => g2 T (List.mem_cons_of_mem _ hT) cs x (by simpa [It.app] using h)) (fun t d h => by
     have h3 := g3 t d (by simp [It.app, h])
     have h4 := (k2 t d h).1
     rw [if_neg (by omega)] at h3
     exact h3) (fun n id h => g4 n id (by simpa [It.app] using h)) gr g5
   obtain ⟨p1, p2⟩ := g3 c d (by simp [It.app])
   rw [if_pos rfl] at p1
   have hc2 := hch ow' φ' (o + c) (fun cs x h => g2 T (.head _) cs x (Ty.AO (An _) h)) p2 p1
   refine ⟨⟨v, rest, rfl, ?_, q1⟩, fun j ch h => ?_⟩
   ·obtain ⟨A, n, c', rfl⟩ := hsv
    exact ⟨A, n, c', p1, rfl⟩
   ·rcases List.mem_cons.1 h with h | h
    ·injection h with e1 e2
     subst e1; subst e2
     exact hc2
    ·exact q2 j ch h
 | Cr T r ih =>
  intro c a k vals hr ha
  unfold BA at hr
  cases a <;> simp [Req.run] at hr
 | Ch e e' T kk r ih =>
  intro c a k vals hr ha
  cases a <;> try (simp [BA, Req.run] at hr; done)
  rename_i a b
  simp only [BA] at hr
  obtain ⟨v, rest, rfl, h1, h2⟩ := ha
  obtain ⟨l, ix, d, hr1, hd, hsv, hch⟩ := XN H hr h1
  obtain ⟨y, it, hv, hr2, k1, k2, k5⟩ := ih (c + 1) b _ rest hr1 h2
  refine ⟨(l, ix, y), It.app ⟨[(c, d)], [], [], [], []⟩ it, fun t => if t = c then some v else hv t, hr2, by simpa [It.app] using k1, fun t d' h => ?_, fun vs o ob g φ' ow' g1 g2 g3 g4 gr g5 => ?_⟩
  ·simp only [It.app, List.mem_append, List.mem_singleton] at h
   simp only [AW.size]
   rcases h with h | h
   ·injection h with e1 e2
    subst e1; subst e2
    exact ⟨by omega, by omega, v, by simp⟩
   ·have := k2 t d' h
    refine ⟨by omega, by omega, ?_⟩
    rw [if_neg (by omega)]
    exact this.2.2
  ·obtain ⟨q1, q2⟩ := k5 vs o ob g.tl φ' ow' g1 (fun T hT cs x h => g2 T (List.mem_cons_of_mem _ hT) cs x (by simpa [It.app] using h)) (fun t d h => by
     have h3 := g3 t d (by simp [It.app, h])
     have h4 := (k2 t d h).1
     rw [if_neg (by omega)] at h3
     exact h3) (fun n id h => g4 n id (by simpa [It.app] using h)) (fun k hk => gr k (List.mem_cons_of_mem _ hk)) g5
   obtain ⟨p1, p2⟩ := g3 c d (by simp [It.app])
   rw [if_pos rfl] at p1
   have hc2 := hch ow' φ' (o + c) (ob (1000 + kk)) (fun cs x h => g2 T (.head _) cs x (Ty.AO (An _) h)) p2 (gr kk (.head _)) p1
   refine ⟨⟨v, rest, rfl, ?_, q1⟩, fun j ch h => ?_⟩
   ·obtain ⟨A, n, c', rfl⟩ := hsv
    exact ⟨A, n, c', p1, rfl⟩
   ·rcases List.mem_cons.1 h with h | h
    ·injection h with e1 e2
     subst e1; subst e2
     exact hc2
    ·exact q2 j ch h
 | skip r ih =>
  intro c a k vals hr ha
  cases a <;> try (simp [BA, Req.run] at hr; done)
  rename_i a b
  cases a <;> try (simp [BA, Req.run] at hr; done)
  rename_i u
  simp only [BA] at hr
  split at hr <;> try (simp [Req.run] at hr; done)
  rename_i hu
  subst hu
  obtain ⟨v, rest, rfl, h1, h2⟩ := ha
  obtain ⟨v', h0, hu, _⟩ := h1
  injection hu with hu
  subst hu
  obtain ⟨y, it, hv, hr2, k1, k2, k5⟩ := ih (u + 1) b _ rest hr h2
  refine ⟨y, it, hv, hr2, k1, fun t d h => ?_, fun vs o ob g φ' ow' g1 g2 g3 g4 gr g5 => ?_⟩
  ·have := k2 t d h
   simp only [AW.size]
   exact ⟨by omega, by omega, this.2.2⟩
  ·obtain ⟨q1, q2⟩ := k5 vs o ob g.tl φ' ow' (fun t ht => g1 t (List.mem_cons_of_mem _ ht)) g2 g3 g4 gr g5.2
   have hvc : v = vs u := g1 u (.head _) v h0
   exact ⟨⟨v, rest, rfl, by rw [hvc]; exact g5.1, q1⟩, q2⟩
 | E8 r ih =>
  intro c a k vals hr ha
  cases a <;> simp [BA, Req.run] at hr
 | obj n r ih =>
  intro c a k vals hr ha
  cases a <;> try (simp [BA, Req.run] at hr; done)
  rename_i a b
  cases a <;> try (simp [BA, Req.run] at hr; done)
  rename_i id off
  cases off <;> try (simp [BA, Req.run] at hr; done)
  simp only [BA] at hr
  obtain ⟨v, rest, rfl, h1, h2⟩ := ha
  obtain ⟨y, it, hv, hr2, k1, k2, k5⟩ := ih (c + 1) b _ rest hr h2
  refine ⟨y, It.app ⟨[], [], [], [(n, id)], []⟩ it, hv, hr2, by simpa [It.app] using k1, fun t d h => ?_, fun vs o ob g φ' ow' g1 g2 g3 g4 gr g5 => ?_⟩
  ·have := k2 t d (by simpa [It.app] using h)
   simp only [AW.size]
   exact ⟨by omega, by omega, this.2.2⟩
  ·obtain ⟨q1, q2⟩ := k5 vs o ob g.tl φ' ow' g1 (fun T hT cs x h => g2 T hT cs x (by simpa [It.app] using h)) (fun t d h => g3 t d (by simpa [It.app] using h)) (fun n id h => g4 n id (by simp [It.app, h])) gr g5
   refine ⟨⟨v, rest, rfl, ?_, q1⟩, q2⟩
   obtain ⟨b, m1, m2⟩ := h1
   exact ⟨b, by rw [g4 n id (by simp [It.app])]; exact m1, m2⟩
 | D5 f n r ih =>
  intro c a k vals hr ha
  cases a <;> try (simp [BA, Req.run] at hr; done)
  rename_i a b
  cases a <;> try (simp [BA, Req.run] at hr; done)
  rename_i id f2
  simp only [BA] at hr
  split at hr <;> try (simp [Req.run] at hr; done)
  rename_i hf2
  subst hf2
  obtain ⟨v, rest, rfl, h1, h2⟩ := ha
  obtain ⟨y, it, hv, hr2, k1, k2, k5⟩ := ih (c + 1) b _ rest hr h2
  refine ⟨y, It.app ⟨[], [], [], [(n, id)], []⟩ it, hv, hr2, by simpa [It.app] using k1, fun t d h => ?_, fun vs o ob g φ' ow' g1 g2 g3 g4 gr g5 => ?_⟩
  ·have := k2 t d (by simpa [It.app] using h)
   simp only [AW.size]
   exact ⟨by omega, by omega, this.2.2⟩
  ·obtain ⟨q1, q2⟩ := k5 vs o ob g.tl φ' ow' g1 (fun T hT cs x h => g2 T hT cs x (by simpa [It.app] using h)) (fun t d h => g3 t d (by simpa [It.app] using h)) (fun n id h => g4 n id (by simp [It.app, h])) gr g5
   refine ⟨⟨v, rest, rfl, ?_, q1⟩, q2⟩
   obtain ⟨b, m1, m2⟩ := h1
   exact ⟨b, by rw [g4 n id (by simp [It.app])]; exact m1, m2⟩
 | clo f q r ihq ihr =>
  intro c a k vals hr ha
  cases a <;> try (simp [BA, Req.run] at hr; done)
  rename_i a b
  cases a <;> try (simp [BA, Req.run] at hr; done)
  rename_i g caps
  simp only [BA] at hr
  split at hr <;> try (simp [Req.run] at hr; done)
  rename_i hg
  subst hg
  obtain ⟨v, rest, rfl, h1, h2⟩ := ha
  obtain ⟨cs, ev, hcs⟩ := h1
  obtain ⟨x, it, hv, hr1, k1, k2, k5⟩ := ihq c caps _ cs.toList hr hcs
  obtain ⟨y, it', hv', hr2, m1, m2, m5⟩ := ihr (c + q.size) b _ rest hr1 h2
  refine ⟨(x, y), It.app it it', fun t => if t < c + q.size then hv t else hv' t, hr2, A3.app k1 m1, fun t d h => ?_, fun vs o ob g φ' ow' g1 g2 g3 g4 gr g5 => ?_⟩
  ·simp only [It.app, List.mem_append] at h
   simp only [AW.size]
   rcases h with h | h
   ·have := k2 t d h
    rw [if_pos (by omega)]
    exact ⟨by omega, by omega, this.2.2⟩
   ·have := m2 t d h
    rw [if_neg (by omega)]
    exact ⟨by omega, by omega, this.2.2⟩
  ·obtain ⟨q1, q2⟩ := k5 vs o ob .bot φ' ow' (fun t ht => g1 t (by simp [AW.CK, ht])) (fun T hT cs x h => g2 T (by simp [AW.tys, hT]) cs x (Ty.AO (Ag (by intro i hi; simp [It.app, BH, hi])) h))
    (fun t d h => (by have := g3 t d (by simp [It.app, h]); have h3 := k2 t d h; rw [if_pos (by omega)] at this; exact this)) (fun n id h => g4 n id (by simp [It.app, h])) (fun k hk => gr k (by simp [AW.refs, hk])) (BR q c)
   obtain ⟨q3, q4⟩ := m5 vs o ob g.tl φ' ow' (fun t ht => g1 t (by simp [AW.CK, ht])) (fun T hT cs x h => g2 T (by simp [AW.tys, hT]) cs x (Ty.AO (Ag (by intro i hi; simp [It.app, BH, hi])) h))
    (fun t d h => (by have := g3 t d (by simp [It.app, h]); have h3 := m2 t d h; rw [if_neg (by omega)] at this; exact this)) (fun n id h => g4 n id (by simp [It.app, h])) (fun k hk => gr k (by simp [AW.refs, hk])) g5
   refine ⟨⟨v, rest, rfl, ⟨cs, ev, q1⟩, q3⟩, fun j ch h => ?_⟩
   simp only [AW.Ci, List.mem_append] at h
   exact h.elim (q2 j ch) (q4 j ch)
 | agg q r ihq ihr =>
  intro c a k vals hr ha
  cases a <;> try (simp [BA, Req.run] at hr; done)
  rename_i a b
  cases a <;> try (simp [BA, Req.run] at hr; done)
  rename_i l
  simp only [BA] at hr
  obtain ⟨v, rest, rfl, h1, h2⟩ := ha
  obtain ⟨cs, ev, hcs⟩ := h1
  obtain ⟨x, it, hv, hr1, k1, k2, k5⟩ := ihq c l _ cs.toList hr hcs
  obtain ⟨y, it', hv', hr2, m1, m2, m5⟩ := ihr (c + q.size) b _ rest hr1 h2
  refine ⟨(x, y), It.app it it', fun t => if t < c + q.size then hv t else hv' t, hr2, A3.app k1 m1, fun t d h => ?_, fun vs o ob g φ' ow' g1 g2 g3 g4 gr g5 => ?_⟩
  ·simp only [It.app, List.mem_append] at h
   simp only [AW.size]
   rcases h with h | h
   ·have := k2 t d h
    rw [if_pos (by omega)]
    exact ⟨by omega, by omega, this.2.2⟩
   ·have := m2 t d h
    rw [if_neg (by omega)]
    exact ⟨by omega, by omega, this.2.2⟩
  ·obtain ⟨q1, q2⟩ := k5 vs o ob .bot φ' ow' (fun t ht => g1 t (by simp [AW.CK, ht])) (fun T hT cs x h => g2 T (by simp [AW.tys, hT]) cs x (Ty.AO (Ag (by intro i hi; simp [It.app, BH, hi])) h))
    (fun t d h => (by have := g3 t d (by simp [It.app, h]); have h3 := k2 t d h; rw [if_pos (by omega)] at this; exact this)) (fun n id h => g4 n id (by simp [It.app, h])) (fun k hk => gr k (by simp [AW.refs, hk])) (BR q c)
   obtain ⟨q3, q4⟩ := m5 vs o ob g.tl φ' ow' (fun t ht => g1 t (by simp [AW.CK, ht])) (fun T hT cs x h => g2 T (by simp [AW.tys, hT]) cs x (Ty.AO (Ag (by intro i hi; simp [It.app, BH, hi])) h))
    (fun t d h => (by have := g3 t d (by simp [It.app, h]); have h3 := m2 t d h; rw [if_neg (by omega)] at this; exact this)) (fun n id h => g4 n id (by simp [It.app, h])) (fun k hk => gr k (by simp [AW.refs, hk])) g5
   refine ⟨⟨v, rest, rfl, ⟨cs, ev, q1⟩, q3⟩, fun j ch h => ?_⟩
   simp only [AW.Ci, List.mem_append] at h
   exact h.elim (q2 j ch) (q4 j ch)
 | DM kd r ih =>
  intro c a k vals hr ha
  cases a <;> try (simp [BA, Req.run] at hr; done)
  rename_i a b
  simp only [BA] at hr
  obtain ⟨v, rest, rfl, h1, h2⟩ := ha
  obtain ⟨l, d, hr1, hch⟩ := Qb H hr h1
  obtain ⟨y, it, hv, hr2, k1, k2, k5⟩ := ih (c + 1) b _ rest hr1 h2
  refine ⟨(l, y), It.app ⟨[(c, d)], [], [], [], []⟩ it, fun t => if t = c then some v else hv t, hr2, by simpa [It.app] using k1, fun t d' h => ?_, fun vs o ob g φ' ow' g1 g2 g3 g4 gr g5 => ?_⟩
  ·simp only [It.app, List.mem_append, List.mem_singleton] at h
   simp only [AW.size]
   rcases h with h | h
   ·injection h with e1 e2
    subst e1; subst e2
    exact ⟨by omega, by omega, v, by simp⟩
   ·have := k2 t d' h
    refine ⟨by omega, by omega, ?_⟩
    rw [if_neg (by omega)]
    exact this.2.2
  ·obtain ⟨q1, q2⟩ := k5 vs o ob g.tl φ' ow' g1 (fun T hT cs x h => g2 T (List.mem_append_right _ hT) cs x (by simpa [It.app] using h)) (fun t d h => by
     have h3 := g3 t d (by simp [It.app, h])
     have h4 := (k2 t d h).1
     rw [if_neg (by omega)] at h3
     exact h3) (fun n id h => g4 n id (by simpa [It.app] using h)) gr g5
   obtain ⟨p1, p2⟩ := g3 c d (by simp [It.app])
   rw [if_pos rfl] at p1
   obtain ⟨hc1, hc2⟩ := hch ow' φ' (o + c) (fun T hT cs x h => g2 T (List.mem_append_left _ hT) cs x (Ty.AO (An _) h)) p2 p1
   refine ⟨⟨v, rest, rfl, hc1, q1⟩, fun j ch h => ?_⟩
   rcases List.mem_cons.1 h with h | h
   ·injection h with e1 e2
    subst e1; subst e2
    exact hc2
   ·exact q2 j ch h
end
end AL
end
section
set_option linter.unusedVariables false
set_option linter.unusedSimpArgs false
namespace AL
open Go
structure Az where
 e : Nat -> Bool
 h : Nat -> Bool
inductive Prog : Type -> Type 1 where
 | ret {R : Type} (r : R) : Prog R
 | fail {R : Type} (n : Nat) : Prog R
 | at {R : Type} (n : Nat) (st : St) (D : Az) : Prog R   -- a cut that has no shape, or whose shape does not fit
 | guard {R : Type} (p : Prop) (d : Decidable p) (k : Prog R) : Prog R
 | ite {R : Type} (b : Bool) (t e : Prog R) : Prog R
 | bind {X R : Type} (m : Option X) (k : X -> Prog R) : Prog R
 | join {X R : Type} (a : Prog (X ⊕ R)) (k : X -> Prog R) : Prog R
 | loop {X R : Type} (n : Nat) (b : X -> Prog (X ⊕ R)) (x : X) : Prog R
abbrev nI (n : Nat) : Int := n
def gd (p : Prop) [d : Decidable p] {R : Type} (k : Option R) : Option R := @ite _ p d k Option.none
def AQ {X R : Type} (b : X -> Option (X ⊕ R)) : Nat -> X -> Option R
 | 0, _ => Option.none
 | n + 1, x => match b x with
  | some (.inl y) => AQ b n y
  | some (.inr r) => some r
  | Option.none => Option.none
def AD {X R : Type} (m : Option X) (k : X -> Option R) : Option R := match m with
 | some x => k x
 | Option.none => Option.none
def L0 {X R : Type} (m : Option (X ⊕ R)) (k : X -> Option R) : Option R := match m with
 | some (.inl x) => k x
 | some (.inr r) => some r
 | Option.none => Option.none
def Prog.run : {R : Type} -> Prog R -> Option R
 | _, .ret r => some r
 | _, .fail _ => Option.none
 | _, .at _ _ _ => Option.none
 | _, .guard p d k => @_root_.ite _ p d k.run Option.none
 | _, .ite b t e => bif b then t.run else e.run
 | _, .bind m k => AD m fun x => (k x).run
 | _, .join a k => L0 a.run fun x => (k x).run
 | _, .loop n b x => AQ (fun x => (b x).run) n x
@[reducible] def Nh (a : Ty) : Ty -> Ty
 | .unit => a
 | .int k => .pair a (.int k)
 | .bool => .pair a .bool
 | .str => .pair a .str
 | .fnT => .pair a .fnT
 | .sl t => .pair a (.sl t)
 | .ptr t => .pair a (.ptr t)
 | .CE K V => .pair a (.CE K V)
 | .pair b c => .pair a (.pair b c)
@[reducible] def two : Ty -> Ty -> Ty
 | .unit, d => d
 | .int k, d => Nh (.int k) d
 | .bool, d => Nh .bool d
 | .str, d => Nh .str d
 | .fnT, d => Nh .fnT d
 | .sl t, d => Nh (.sl t) d
 | .ptr t, d => Nh (.ptr t) d
 | .CE K V, d => Nh (.CE K V) d
 | .pair b c, d => Nh (.pair b c) d
def mkR (a : Ty) : (d : Ty) -> a.den -> d.den -> (Nh a d).den
 | .unit, x, _ => x
 | .int k, x, y => (x, y)
 | .bool, x, y => (x, y)
 | .str, x, y => (x, y)
 | .fnT, x, y => (x, y)
 | .sl t, x, y => (x, y)
 | .ptr t, x, y => (x, y)
 | .CE K V, x, y => (x, y)
 | .pair b c, x, y => (x, y)
def Ry (a : Ty) : (d : Ty) -> (Nh a d).den -> a.den
 | .unit, x => x
 | .int k, x => x.1
 | .bool, x => x.1
 | .str, x => x.1
 | .fnT, x => x.1
 | .sl t, x => x.1
 | .ptr t, x => x.1
 | .CE K V, x => x.1
 | .pair b c, x => x.1
def Rz (a : Ty) : (d : Ty) -> (Nh a d).den -> d.den
 | .unit, _ => ()
 | .int k, x => x.2
 | .bool, x => x.2
 | .str, x => x.2
 | .fnT, x => x.2
 | .sl t, x => x.2
 | .ptr t, x => x.2
 | .CE K V, x => x.2
 | .pair b c, x => x.2
def mk2 : (a d : Ty) -> a.den -> d.den -> (two a d).den
 | .unit, _, _, y => y
 | .int k, d, x, y => mkR (.int k) d x y
 | .bool, d, x, y => mkR .bool d x y
 | .str, d, x, y => mkR .str d x y
 | .fnT, d, x, y => mkR .fnT d x y
 | .sl t, d, x, y => mkR (.sl t) d x y
 | .ptr t, d, x, y => mkR (.ptr t) d x y
 | .CE K V, d, x, y => mkR (.CE K V) d x y
 | .pair b c, d, x, y => mkR (.pair b c) d x y
def Pf : (a d : Ty) -> (two a d).den -> a.den
 | .unit, _, _ => ()
 | .int k, d, x => Ry (.int k) d x
 | .bool, d, x => Ry .bool d x
 | .str, d, x => Ry .str d x
 | .fnT, d, x => Ry .fnT d x
 | .sl t, d, x => Ry (.sl t) d x
 | .ptr t, d, x => Ry (.ptr t) d x
 | .CE K V, d, x => Ry (.CE K V) d x
 | .pair b c, d, x => Ry (.pair b c) d x
def Ni : (a d : Ty) -> (two a d).den -> d.den
 | .unit, _, x => x
 | .int k, d, x => Rz (.int k) d x
 | .bool, d, x => Rz .bool d x
 | .str, d, x => Rz .str d x
 | .fnT, d, x => Rz .fnT d x
 | .sl t, d, x => Rz (.sl t) d x
 | .ptr t, d, x => Rz (.ptr t) d x
 | .CE K V, d, x => Rz (.CE K V) d x
 | .pair b c, d, x => Rz (.pair b c) d x
theorem AHH (a : Ty) : ∀ (d : Ty) (x : a.den) (y : d.den), Ry a d (mkR a d x y) = x := by intro d; cases d <;> intros <;> rfl
theorem AHI (a : Ty) : ∀ (d : Ty) (x : a.den) (y : d.den), Rz a d (mkR a d x y) = y := by intro d; cases d <;> intros <;> rfl
theorem Hr (a d : Ty) (x : a.den) (y : d.den) : Pf a d (mk2 a d x y) = x := by cases a <;> first | rfl | exact AHH _ d x y
theorem Hs (a d : Ty) (x : a.den) (y : d.den) : Ni a d (mk2 a d x y) = y := by cases a <;> first | rfl | exact AHI _ d x y
inductive ASh where
 | bot
 | dat (T : Ty)
 | K5                        -- nil, as a row
 | arr (id : Nat)
 | vw (id sz : Nat)
 | ref (id off : Nat)
 | elt (id sz off : Nat)
 | spt (T : Ty)
 | fn (f : FuncId) (caps : ASh)
 | BY (id : Nat)
 | chv (id : Nat)
 | bfn (id : Nat) (f : FuncId)
 | opq (k : Nat)
 | idn (k : Nat) (T : Ty)
 | nil
 | cons (a b : ASh)
 | agg (l : ASh)
 | tup (l : ASh)
@[reducible] def ASh.ty : ASh -> Ty
 | .dat T => T
 | .vw _ _ => .pair (.int .i64) (.int .i64)
 | .elt _ _ _ => .int .i64
 | .spt T => T
 | .fn _ c => c.ty
 | .idn _ T => T
 | .cons a b => two a.ty b.ty
 | .agg l => l.ty
 | .tup l => l.ty
 | _ => .unit
def ASh.enc : (s : ASh) -> s.ty.den -> AV
 | .bot, _ => .bot
 | .dat T, x => .dat T x
 | .K5, _ => .raw (.slice Option.none 0 0)
 | .arr id, _ => .arr id
 | .vw id sz, x => .vw id sz x.1 x.2
 | .ref id off, _ => .ref id off
 | .elt id sz off, x => .elt id sz x off
 | .spt T, x => .spt T x
 | .fn f c, x => .fn f (c.enc x)
 | .BY id, _ => .BY id
 | .chv id, _ => .chv id
 | .bfn id f, _ => .bfn id f
 | .opq k, _ => .opq k
 | .idn k T, x => .idn k T x
 | .nil, _ => .nil
 | .cons a b, x => .cons (a.enc (Pf a.ty b.ty x)) (b.enc (Ni a.ty b.ty x))
 | .agg l, x => .agg (l.enc x)
 | .tup l, x => .tup (l.enc x)
def Gk (T : Ty) (a : AV) : Option T.den := match a with
 | .dat T' y => if h : T' = T then some (Bm h y) else Option.none
 | _ => Option.none
def XO : AV -> Bool
 | .raw (.slice Option.none 0 0) => true
 | _ => false
def ASh.dec : (s : ASh) -> AV -> Option s.ty.den
 | .bot, a => bif a.single then some () else Option.none
 | .dat (.sl T), a => match a with
  | .raw (.slice Option.none 0 0) => some []
  | a => Gk (.sl T) a
 | .dat T, a => Gk T a
 | .K5, a => bif XO a then some () else Option.none
 | .arr _, .arr _ => some ()
 | .vw _ _, .vw _ _ lo hi => some (lo, hi)
 | .ref _ _, .ref _ _ => some ()
 | .elt _ _ _, .elt _ _ i _ => some i
 | .spt T, .spt T' y => if h : T' = T then some (Bm h y) else Option.none
 | .fn _ c, .fn _ c' => c.dec c'
 | .BY _, .BY _ => some ()
 | .chv _, .chv _ => some ()
 | .bfn _ _, .bfn _ _ => some ()
 | .opq _, .opq _ => some ()
 | .idn _ T, .idn _ T' y => if h : T' = T then some (Bm h y) else Option.none
 | .nil, .nil => some ()
 | .cons a b, .cons a' b' => match a.dec a' with
  | some x => match b.dec b' with
   | some y => some (mk2 a.ty b.ty x y)
   | Option.none => Option.none
  | Option.none => Option.none
 | .agg l, .agg l' => l.dec l'
 | .tup l, .tup l' => l.dec l'
 | _, _ => Option.none
inductive CSh where
 | box (e : TypeId) (cells : ASh)
 | arr (e : TypeId) (T : Ty)
 | lit (e : TypeId) (n : Nat) (cells : ASh)
 | sld (T : Ty)
 | BC (e e' : TypeId) (T : Ty) (hs : List Nat)
 | mp (K V : Ty)
 | mpo (K : Ty) (e : TypeId)
 | ch
@[reducible] def Nj : List Nat -> Ty
 | [] => .unit
 | _ :: r => two (.int .i64) (Nj r)
def Zy : (l : List Nat) -> (Nj l).den -> List (Int × Nat)
 | [], _ => []
 | k :: r, x => (Pf (.int .i64) (Nj r) x, k) :: Zy r (Ni (.int .i64) (Nj r) x)
def Qc : (l : List Nat) -> List (Int × Nat) -> Option (Nj l).den
 | [], [] => some ()
 | _ :: r, (i, _) :: r' => match Qc r r' with
  | some y => some (mk2 (.int .i64) (Nj r) i y)
  | Option.none => Option.none
 | _, _ => Option.none
@[reducible] def CSh.ty : CSh -> Ty
 | .box _ c => c.ty
 | .arr _ T => .sl T
 | .lit _ _ c => c.ty
 | .sld T => .sl T
 | .BC _ _ T hs => two (.sl (.sl T)) (Nj hs)
 | .mp K V => .sl (.pair K V)
 | .mpo _ _ => .int .i64
 | .ch => .pair (.int .i64) (.int .i64)
def CSh.enc : (s : CSh) -> s.ty.den -> Chunk
 | .box e c, x => .box e (c.enc x)
 | .arr e T, x => .arr e T x
 | .lit e n c, x => .lit e n (c.enc x)
 | .sld T, x => .sld T x
 | .BC e e' T hs, x => .BC e e' T (Pf (.sl (.sl T)) (Nj hs) x) (Zy hs (Ni (.sl (.sl T)) (Nj hs) x))
 | .mp K V, x => .mp K V x
 | .mpo K e, x => .mpo K e x []
 | .ch, x => .ch x.1 x.2
def CSh.dec : (s : CSh) -> Chunk -> Option s.ty.den
 | .box _ c, .box _ c' => c.dec c'
 | .arr _ T, .arr _ T' l => if h : T' = T then some (Bm (congrArg Ty.sl h) l) else Option.none
 | .lit _ _ c, .lit _ _ c' => c.dec c'
 | .sld T, .sld T' l => if h : T' = T then some (Bm (congrArg Ty.sl h) l) else Option.none
 | .BC _ _ T hs, .BC _ _ T' l hs' => if h : T' = T then (match Qc hs hs' with
  | some y => some (mk2 (.sl (.sl T)) (Nj hs) (Bm (congrArg (fun t => Ty.sl (Ty.sl t)) h) l) y)
  | Option.none => Option.none) else Option.none
 | .mp K V, .mp K' V' l => if h : V' = V then (if h2 : K' = K then some (coeM h2 h l) else Option.none) else Option.none
 | .mpo _ _, .mpo _ _ B _ => some B
 | .ch, .ch c n => some (c, n)
 | _, _ => Option.none
structure Shape where
 env : List (Nat × ASh)
 heap : List (Nat × CSh)
 keep : List Nat
 AN : List Nat
@[reducible] def Ep : List (Nat × ASh) -> Ty
 | [] => .unit
 | (_, s) :: r => two s.ty (Ep r)
@[reducible] def Ct : List (Nat × CSh) -> Ty
 | [] => .unit
 | (_, s) :: r => two s.ty (Ct r)
@[reducible] def Shape.ty (sh : Shape) : Ty := two (Ep sh.env) (Ct sh.heap)
def Er : (l : List (Nat × ASh)) -> (Ep l).den -> List (Nat × AV)
 | [], _ => []
 | (t, s) :: r, x => (t, s.enc (Pf s.ty (Ep r) x)) :: Er r (Ni s.ty (Ep r) x)
def C1 : (l : List (Nat × CSh)) -> (Ct l).den -> List (Nat × Chunk)
 | [], _ => []
 | (t, s) :: r, x => (t, s.enc (Pf s.ty (Ct r) x)) :: C1 r (Ni s.ty (Ct r) x)
def R0 (env : Nat -> AV) : (l : List (Nat × ASh)) -> Option (Ep l).den
 | [] => some ()
 | (t, s) :: r => match s.dec (env t) with
  | some x => match R0 env r with
   | some y => some (mk2 s.ty (Ep r) x y)
   | Option.none => Option.none
  | Option.none => Option.none
def Mv (heap : Nat -> Chunk) : (l : List (Nat × CSh)) -> Ren -> Option (Ct l).den
 | [], _ => some ()
 | (a, s) :: r, ρ =>
  let b := (ρ.find a).getD a
  match ρ.bind a b with
  | some ρ => match s.dec (heap b) with
   | some x => match Ae ρ (s.enc x) (heap b) with
    | some (ρ, _) => match Mv heap r ρ with
     | some y => some (mk2 s.ty (Ct r) x y)
     | Option.none => Option.none
    | Option.none => Option.none
   | Option.none => Option.none
  | Option.none => Option.none
def Shape.ann (sh : Shape) : Ann where
 ι := sh.ty.den
 inv := fun _ => True
 env := fun x => Er sh.env (Pf (Ep sh.env) (Ct sh.heap) x)
 heap := fun x => C1 sh.heap (Ni (Ep sh.env) (Ct sh.heap) x)
 keep := sh.keep
 AN := sh.AN
 AC8 := fun _ => 0
def Az.no : Az := ⟨fun _ => false, fun _ => false⟩
def Az.put (D : Az) (d : Option Tmp) : Az := match d with
 | some d => { D with e := fun t => Nat.beq t d || D.e t }
 | Option.none => D
def Az.upd (D : Az) (l : List Nat) : Az := { D with h := fun j => BX j l || D.h j }
def Az.behind (D : Az) (sh : Shape) : Az := ⟨fun t => !(BX t sh.keep) || BX t (sh.env.map (·.1)) || D.e t, fun i => !(BX i sh.AN) || BX i (sh.heap.map (·.1)) || D.h i⟩
def Nk (b : Nat) (heap : Nat -> Chunk) : List Nat := match heap b with
 | .BC _ _ _ _ hs => b :: hs.map (·.2)
 | _ => []
def K6 (ρ : Ren) : List (Nat × CSh) -> (Nat -> Chunk) -> List Nat
 | [], _ => []
 | (a, .BC _ _ _ []) :: r, heap => Nk ((ρ.find a).getD a) heap ++ K6 ρ r (FC ((ρ.find a).getD a) heap)
 | _ :: r, heap => K6 ρ r heap
def EW (ρ : Ren) : List (Nat × CSh) -> (Nat -> Chunk) -> (Nat -> Chunk)
 | [], heap => heap
 | (a, .BC _ _ _ []) :: r, heap => EW ρ r (FC ((ρ.find a).getD a) heap)
 | _ :: r, heap => EW ρ r heap
def XP (fix : List Nat) (sh : Shape) (s0 st : St) (D : Az) : Option sh.ty.den :=
 match R0 st.env sh.env with
 | some xe => match Rn s0.env sh.keep [] with
  | some ρ => match CW st.env (Er sh.env xe ++ sh.keep.map fun t => (t, s0.env t)) ρ [] with
   | some (ρ, ps) => match Mv (EW ρ sh.heap st.heap) sh.heap ρ with
    | some xh => match CX (EW ρ sh.heap st.heap) (C1 sh.heap xh ++ sh.AN.map fun i => (i, s0.heap i)) ρ ps with
     | some (ρ', _) => bif ρ'.ok fix s0.next && (Nat.beq st.n s0.n && (Nat.blt 0 s0.next && (fix.all fun i => Nat.blt i s0.next))) &&
       ((sh.keep.all fun t => !(BX t (sh.env.map (·.1))) && !(D.e t)) && (sh.AN.all fun i => !(BX i (sh.heap.map (·.1))) && !(D.h i) && (!(BX i (K6 ρ sh.heap st.heap)) && match ρ'.find i with
        | some j => Nat.beq i j
        | Option.none => false))) then some (mk2 (Ep sh.env) (Ct sh.heap) xe xh) else Option.none
     | Option.none => Option.none
    | Option.none => Option.none
   | Option.none => Option.none
  | Option.none => Option.none
 | Option.none => Option.none
def G7 (hs : List (Nat × CSh)) (t : Nat) (s : ASh) (st : St) : St := match s, st.env t with
 | .arr a, .raw (.slice Option.none 0 0) => match hs.find? fun p => Nat.beq p.1 a with
  | some (_, .arr e T) => { env := fun u => bif Nat.beq u t then .arr st.next else st.env u, heap := fun j => bif Nat.beq j st.next then .arr e T [] else st.heap j, next := st.next + 1, n := st.n }
  | some (_, .BC e e' T _) => { env := fun u => bif Nat.beq u t then .arr st.next else st.env u, heap := fun j => bif Nat.beq j st.next then .BC e e' T [] [] else st.heap j, next := st.next + 1, n := st.n }
  | _ => st
 | _, _ => st
def L4 (hs : List (Nat × CSh)) : List (Nat × ASh) -> St -> St
 | [], st => st
 | (t, s) :: r, st => L4 hs r (G7 hs t s st)
def G8 (n : Nat) (hs : List (Nat × CSh)) : ASh -> AV -> Option (AV × TypeId × Ty)
 | .cons s r, .cons v r' => match s, v with
  | .arr a, .raw (.slice Option.none 0 0) => match hs.find? fun p => Nat.beq p.1 a with
   | some (_, .arr e T) => some (.cons (.arr n) r', e, T)
   | _ => match G8 n hs r r' with
    | some (x, y) => some (.cons v x, y)
    | Option.none => Option.none
  | _, _ => match G8 n hs r r' with
   | some (x, y) => some (.cons v x, y)
   | Option.none => Option.none
 | _, _ => Option.none
def DU (hs : List (Nat × CSh)) (a : Nat) (c : ASh) (st : St) : St := match st.heap a with
 | .box e cells => match G8 st.next hs c cells with
  | some (cells', e1, T) => { env := st.env, heap := fun j => bif Nat.beq j st.next then .arr e1 T [] else bif Nat.beq j a then .box e cells' else st.heap j, next := st.next + 1, n := st.n }
  | Option.none => st
 | _ => st
def GF (hs : List (Nat × CSh)) : List (Nat × CSh) -> St -> St
 | [], st => st
 | (a, .box _ c) :: r, st => GF hs r (DU hs a c (DU hs a c st))
 | _ :: r, st => GF hs r st
def GG (a : Nat) (T : Ty) (st : St) : St := bif Nat.beq a 0 then st else match st.heap a with
 | .arr _ T' l => if h : T' = T then { st with heap := fun j => bif Nat.beq j a then .sld T (Bm (congrArg Ty.sl h) l) else st.heap j } else st
 | _ => st
def G9 : List (Nat × CSh) -> St -> St
 | [], st => st
 | (a, .sld T) :: r, st => G9 r (GG a T st)
 | _ :: r, st => G9 r st
def Zz (fix : List Nat) (sh : Shape) (s0 st : St) (D : Az) : Option sh.ty.den :=
 bif sh.AN.all fun i => Nat.blt i st.next then XP fix sh s0 (G9 sh.heap (GF sh.heap sh.heap (L4 sh.heap sh.env st))) D else Option.none
def AK : Nat := 2 ^ 200
structure Af where
 sh : Shape
 fuel : sh.ty.den -> Nat
structure DV where
 P : Program
 S : FuncId -> Bo
 wr : Md
 fix : List Nat
 loops : Nat -> Option Af
 Uc : Nat -> Option Shape
def DV.cfg (C : DV) : Cfg := { P := C.P, S := C.S, wr := C.wr, fix := C.fix, loops := fun _ _ => Option.none, Uc := fun _ _ => Option.none }
def II {R : Type} (hp : Nat -> Chunk) : Req -> (Out -> List Nat -> Prog R) -> Prog R
 | .look id k, K => II hp (k (hp id)) fun o t => K o (id :: t)
 | .out o, K => K o []
 | .fail, _ => .fail 1
 | .call m k, K => .bind m fun x => II hp (k x) K
def Nl {R : Type} : {ps : List Prop} -> Gj ps -> Prog R -> Prog R
 | _, .nil, x => x
 | _, @Gj.cons p _ d r, x => .guard p d (Nl r x)
section
variable (C : DV)
def Qd {R : Type} (o : Oper) (next i : Nat) (ord : Nat -> Bool) (st : St) (K : List Nat -> List Nat -> St -> Prog R) : Prog R :=
 II st.heap (Br C.P C.S C.wr o.op (Ah st.env) (next + 64 * i)) fun out tch =>
  bif Ed next i ord tch out.upd && Bw st.n o.dst then Nl out.dec.dl (K tch (ids out.upd) ((st.upd out.upd).put o.dst out.res)) else .fail 2
def IJ {R : Type} (ops : Array Oper) (bef : Option (Array Nat)) (next : Nat) : List Oper -> Nat -> List Trc -> St -> Az -> (St -> Az -> Prog R) -> Prog R
 | [], _, tr, st, D, K => match bef with
  | some b => bif IC b tr.reverse then K st D else match F7 b tr.reverse with
   | some q => Nl q.2 (K st D)
   | Option.none => .fail 3
  | Option.none => K st D
 | o :: r, i, tr, st, D, K =>
  let go (rd : List Nat) (st : St) : Prog R := Qd C o next i (IE bef i) st fun tch up st' => IJ ops bef next r (i + 1) (⟨i, rd ++ EL o, o.dst, tch, up, ED C.P o.op (Ah st.env), up.map fun id => (id, st.heap id, st'.heap id)⟩ :: tr) st' ((D.put o.dst).upd up) K
  match o.guard with
  | Option.none => go [] st
  | some (j, want) => match (ops[j]?).bind (·.dst) with
   | some d => match st.env d with
    | .dat .bool b =>
     let F (c : Bool) : Prog R :=
      let st1 := st.put (some d) (.dat .bool c)
      bif c == want then go [d] st1 else bif Bw st.n o.dst then IJ ops bef next r (i + 1) (⟨i, [d], o.dst, [], [], Option.none, []⟩ :: tr) (st1.put o.dst (.raw undef)) (D.put o.dst) K else .fail 6
     .ite b (F true) (F false)
    | .raw v => bif Hk v && Bw st.n o.dst then IJ ops bef next r (i + 1) (⟨i, [d], o.dst, [], [], Option.none, []⟩ :: tr) (st.put o.dst (.raw undef)) (D.put o.dst) K else .fail 6
    | _ => .fail 4
   | _ => .fail 5
def Fg {R : Type} (ops : Array Oper) (draw : Bool) (st : St) (D : Az) (K : St -> Az -> Prog R) : Prog R :=
 bif !draw || EN 0 ops.toList then
  IJ C ops (bif draw then some (Region.before ops) else Option.none) st.next ops.toList 0 [] st D fun st' D' => K { st' with next := st.next + 64 * ops.size } D'
 else .fail 16
abbrev Me (R : Type) : Type 1 := (Y : Type) -> (R -> Y) -> Exit -> St -> Az -> Prog Y
def AKi {X Y : Type} (inj : X -> Y) (m : Option X) (n : Nat) (st : St) (D : Az) : Prog Y := match m with
 | some x => .ret (inj x)
 | Option.none => .at n st D
def Az.plus (D D' : Az) : Az := ⟨fun t => D.e t || D'.e t, fun i => D.h i || D'.h i⟩
def smap {X R Y : Type} (f : R -> Y) : X ⊕ R -> X ⊕ Y
 | .inl x => .inl x
 | .inr r => .inr (f r)
def XQ {R : Type} (n : Nat) (fix : List Nat) (sh : Shape) (s0 : St) (D : Az) (K : Me R) : Me (sh.ty.den ⊕ R) := fun Y inj e st' D' => match e with
 | .normal => AKi (fun x => inj (.inl x)) (Zz fix sh s0 st' D') (1000000 + n) st' D'
 | e => K Y (fun r => inj (.inr r)) e st' (D.plus D')
def BP : Code -> {R : Type} -> St -> Az -> Me R -> (Y : Type) -> (R -> Y) -> Prog Y
 | .skip, _, st, D, K, Y, inj => K Y inj .normal st D
 | .label _, _, st, D, K, Y, inj => K Y inj .normal st D
 | .region _ ops draw, _, st, D, K, Y, inj => Fg C ops draw st D (K Y inj .normal)
 | .seq a b, R, st, D, K, Y, inj => match C.Uc (BQ b) with
  | Option.none => BP a st D (fun Y inj e st' D' => match e with
   | .normal => BP b st' D' K Y inj
   | e => K Y inj e st' D') Y inj
  | some sh => .join (X := sh.ty.den) (BP a st Az.no (XQ (BQ b) C.fix sh st D K) (sh.ty.den ⊕ Y) (smap inj))
   fun x => BP b (Dw sh.ann x st) (D.behind sh) K Y inj
 | .cond c a b, _, st, D, K, Y, inj => match Ah st.env c with
  | .dat .bool v =>
   let F (v : Bool) : St := match c with
    | .tmp t => st.put (some t) (.dat .bool v)
    | _ => st
   .ite v (BP a (F true) D K Y inj) (BP b (F false) D K Y inj)
  | _ => .fail 11
 | .block id a, _, st, D, K, Y, inj => BP a st D (fun Y inj e st' D' => match e with
  | .exit id' => bif Nat.beq id' id then K Y inj .normal st' D' else K Y inj (.exit id') st' D'
  | e => K Y inj e st' D') Y inj
 | .scope a, _, st, D, K, Y, inj => BP a st D (fun Y inj e st' D' => match e with
  | .goto _ => .fail 12
  | e => K Y inj e st' D') Y inj
 | .exit id, _, st, D, K, Y, inj => K Y inj (.exit id) st D
 | .ret, _, st, D, K, Y, inj => K Y inj .ret st D
 | .loop a, R, st, D, K, Y, inj => match C.loops (BQ a) with
  | some L => match Zz C.fix L.sh st st Az.no with
   | some x0 => .loop (X := L.sh.ty.den) (L.fuel x0) (fun x => BP a (Dw L.sh.ann x st) Az.no (XQ (BQ a) C.fix L.sh st (D.behind L.sh) K) (L.sh.ty.den ⊕ Y) (smap inj)) x0
   | Option.none => .at (BQ a) st Az.no
  | Option.none => .at (BQ a) st D
 | _, _, _, _, _, _, _ => .fail 15
end
end AL
end
section
set_option linter.unusedVariables false
set_option linter.unusedSimpArgs false
namespace AL
open Go
theorem Ht {p : Prop} {a b : List Prop} (h : p ∈ a ++ b) (ha : ∀ p ∈ a, p) (hb : ∀ p ∈ b, p) : p := (List.mem_append.1 h).elim (ha p) (hb p)
theorem Qe {T : Ty} {a : AV} {x : T.den} (h : Gk T a = some x) : a = .dat T x := by
 unfold Gk at h
 split at h <;> try (cases h; done)
 rename_i T' y
 split at h <;> try (cases h; done)
 rename_i hT
 subst hT
 injection h with h
 rw [<- h]
 rfl
theorem Qf {T : Ty} {x : T.den} {ρ ρ' : Ren} {ps : List Prop} (h : AJ ρ (.dat T x) (.dat T x) = some (ρ', ps)) : ∀ p ∈ ps, p := by
 unfold AJ at h
 first | rw [dif_pos rfl] at h | rw [dif_pos trivial] at h
 injection h with h
 injection h with h1 h2
 subst h2
 intro p hp
 simp only [List.mem_singleton] at hp
 subst hp
 rfl
theorem Ba {ρ' : Ren} {ps qs : List Prop} {m : Option Ren} (h : (m.map fun ρ => (ρ, qs)) = some (ρ', ps)) (hq : ∀ p ∈ qs, p) : ∀ p ∈ ps, p := by
 cases m with
 | none => cases h
 | some r => injection h with h; injection h with _ h; subst h; exact hq
theorem CP : ∀ (a : AV) (ρ ρ' : Ren) (ps : List Prop), AJ ρ a a = some (ρ', ps) -> ∀ p ∈ ps, p
 | .bot, ρ, ρ', ps, h => by
  simp only [AJ, AV.single, cond_true, Option.some.injEq, Prod.mk.injEq] at h
  rw [<- h.2]; simp
 | .raw v, ρ, ρ', ps, h => by
  simp only [AJ, Option.some.injEq, Prod.mk.injEq] at h
  rw [<- h.2]; simp
 | .dat T x, ρ, ρ', ps, h => Qf h
 | .isNil p, ρ, ρ', ps, h => by simp [AJ] at h
 | .arr k, ρ, ρ', ps, h => by simp only [AJ] at h; exact Ba h (by simp)
 | .vw k sz lo hi, ρ, ρ', ps, h => by
  simp only [AJ, Nat.beq_refl, cond_true] at h
  exact Ba h (by simp)
 | .ref k o, ρ, ρ', ps, h => by simp only [AJ, Nat.beq_refl, cond_true] at h; exact Ba h (by simp)
 | .elt k sz i o, ρ, ρ', ps, h => by simp only [AJ, Nat.beq_refl, Bool.and_self, cond_true] at h; exact Ba h (by simp)
 | .spt T x, ρ, ρ', ps, h => by
  unfold AJ at h
  first | rw [dif_pos rfl] at h | rw [dif_pos trivial] at h
  injection h with h
  injection h with h1 h2
  subst h2
  intro p hp
  simp only [List.mem_singleton] at hp
  subst hp
  rfl
 | .fn f c, ρ, ρ', ps, h => by simp only [AJ, Nat.beq_refl, cond_true] at h; exact CP c _ _ _ h
 | .BY k, ρ, ρ', ps, h => by simp only [AJ] at h; exact Ba h (by simp)
 | .chv k, ρ, ρ', ps, h => by simp only [AJ] at h; exact Ba h (by simp)
 | .bfn k f, ρ, ρ', ps, h => by simp only [AJ, Nat.beq_refl, cond_true] at h; exact Ba h (by simp)
 | .opq k, ρ, ρ', ps, h => by simp only [AJ] at h; exact Ba h (by simp)
 | .idn k T x, ρ, ρ', ps, h => by
  unfold AJ at h
  first | rw [dif_pos rfl] at h | rw [dif_pos trivial] at h
  exact Ba h (by intro p hp; simp only [List.mem_singleton] at hp; subst hp; first | rfl | trivial)
 | .nil, ρ, ρ', ps, h => by
  simp only [AJ, Option.some.injEq, Prod.mk.injEq] at h
  rw [<- h.2]; simp
 | .cons a b, ρ, ρ', ps, h => by
  simp only [AJ] at h
  split at h <;> try (cases h; done)
  rename_i ρ1 p1 h1
  split at h <;> try (cases h; done)
  rename_i ρ2 p2 h2
  injection h with h
  injection h with _ h
  subst h
  exact fun p hp => Ht hp (CP a _ _ _ h1) (CP b _ _ _ h2)
 | .agg l, ρ, ρ', ps, h => by simp only [AJ] at h; exact CP l _ _ _ h
 | .tup l, ρ, ρ', ps, h => by simp only [AJ] at h; exact CP l _ _ _ h
theorem HA {ρ ρ' : Ren} {ps : List Prop} (h : some (ρ, ([] : List Prop)) = some (ρ', ps)) : ∀ p ∈ ps, p := by
 injection h with h; injection h with _ h; subst h; simp
theorem Nn : ∀ (s : ASh) (a : AV) (x : s.ty.den) (ρ ρ' : Ren) (ps : List Prop), s.dec a = some x -> AJ ρ (s.enc x) a = some (ρ', ps) -> ∀ p ∈ ps, p := by
 intro s
 induction s with
 | bot =>
  intro a x ρ ρ' ps hd hm
  simp only [ASh.dec] at hd
  cases hs : a.single with
  | false => rw [hs] at hd; cases hd
  | true => simp only [ASh.enc, AJ, hs, cond_true] at hm; exact HA hm
 | dat T =>
  intro a x ρ ρ' ps hd hm
  have key : Gk T a = some x -> ∀ p ∈ ps, p := fun h => by
   rw [Qe h] at hm
   exact Qf hm
  cases T with
  | sl T =>
   simp only [ASh.dec] at hd
   split at hd
   ·injection hd with hd
    subst hd
    simp only [ASh.enc, AJ, Option.some.injEq, Prod.mk.injEq] at hm
    rw [<- hm.2]; simp
   ·exact key hd
  | _ => exact key hd
 | K5 =>
  intro a x ρ ρ' ps hd hm
  simp only [ASh.dec] at hd
  cases hs : XO a with
  | false => rw [hs] at hd; cases hd
  | true =>
   unfold XO at hs
   split at hs <;> try (cases hs; done)
   simp only [ASh.enc, AJ, Option.some.injEq, Prod.mk.injEq] at hm
   rw [<- hm.2]; simp
 | arr id =>
  intro a x ρ ρ' ps hd hm
  cases a <;> try (simp [ASh.dec] at hd; done)
  simp only [ASh.enc, AJ] at hm
  exact Ba hm (by simp)
 | vw id sz =>
  intro a x ρ ρ' ps hd hm
  cases a <;> try (simp [ASh.dec] at hd; done)
  rename_i id' sz' lo hi
  simp only [ASh.dec, Option.some.injEq] at hd
  subst hd
  simp only [ASh.enc, AJ] at hm
  cases hb : Nat.beq sz sz' with
  | false => rw [hb] at hm; cases hm
  | true => rw [hb, cond_true] at hm; exact Ba hm (by simp)
 | ref id o =>
  intro a x ρ ρ' ps hd hm
  cases a <;> try (simp [ASh.dec] at hd; done)
  rename_i id' o'
  simp only [ASh.enc, AJ] at hm
  cases hb : Nat.beq o o' with
  | false => rw [hb] at hm; cases hm
  | true => rw [hb, cond_true] at hm; exact Ba hm (by simp)
 | elt id sz o =>
  intro a x ρ ρ' ps hd hm
  cases a <;> try (simp [ASh.dec] at hd; done)
  rename_i id' sz' i o'
  simp only [ASh.dec, Option.some.injEq] at hd
  subst hd
  simp only [ASh.enc, AJ] at hm
  cases hb : (Nat.beq sz sz' && Nat.beq o o') with
  | false => rw [hb] at hm; cases hm
  | true => rw [hb, cond_true] at hm; exact Ba hm (by simp)
 | spt T =>
  intro a x ρ ρ' ps hd hm
  cases a <;> try (simp [ASh.dec] at hd; done)
  rename_i T' y
  simp only [ASh.dec] at hd
  split at hd <;> try (cases hd; done)
  rename_i hT
  subst hT
  injection hd with hd
  subst hd
  exact CP _ _ _ _ hm
 | fn f c ih =>
  intro a x ρ ρ' ps hd hm
  cases a <;> try (simp [ASh.dec] at hd; done)
  rename_i g c'
  simp only [ASh.enc, AJ] at hm
  cases hb : Nat.beq f g with
  | false => rw [hb] at hm; cases hm
  | true => rw [hb, cond_true] at hm; exact ih c' x _ _ _ hd hm
 | BY id =>
  intro a x ρ ρ' ps hd hm
  cases a <;> try (simp [ASh.dec] at hd; done)
  simp only [ASh.enc, AJ] at hm
  exact Ba hm (by simp)
 | chv id =>
  intro a x ρ ρ' ps hd hm
  cases a <;> try (simp [ASh.dec] at hd; done)
  simp only [ASh.enc, AJ] at hm
  exact Ba hm (by simp)
 | bfn id f =>
  intro a x ρ ρ' ps hd hm
  cases a <;> try (simp [ASh.dec] at hd; done)
  rename_i id' g
  simp only [ASh.enc, AJ] at hm
  cases hb : Nat.beq f g with
  | false => rw [hb] at hm; cases hm
  | true => rw [hb, cond_true] at hm; exact Ba hm (by simp)
 | opq id =>
  intro a x ρ ρ' ps hd hm
  cases a <;> try (simp [ASh.dec] at hd; done)
  simp only [ASh.enc, AJ] at hm
  exact Ba hm (by simp)
 | idn k T =>
  intro a x ρ ρ' ps hd hm
  cases a <;> try (simp [ASh.dec] at hd; done)
  rename_i k' T' y
  simp only [ASh.dec] at hd
  split at hd <;> try (cases hd; done)
  rename_i hT
  subst hT
  injection hd with hd
  subst hd
  simp only [ASh.enc, AJ] at hm
  first | rw [dif_pos rfl] at hm | rw [dif_pos trivial] at hm
  exact Ba hm (by intro p hp; simp only [List.mem_singleton] at hp; subst hp; first | rfl | trivial)
 | nil =>
  intro a x ρ ρ' ps hd hm
  cases a <;> try (simp [ASh.dec] at hd; done)
  simp only [ASh.enc, AJ] at hm
  exact HA hm
 | cons s1 s2 ih1 ih2 =>
  intro a x ρ ρ' ps hd hm
  cases a <;> try (simp [ASh.dec] at hd; done)
  rename_i a b
  simp only [ASh.dec] at hd
  split at hd <;> try (cases hd; done)
  rename_i x1 hx1
  split at hd <;> try (cases hd; done)
  rename_i x2 hx2
  injection hd with hd
  subst hd
  simp only [ASh.enc, Hr, Hs, AJ] at hm
  split at hm <;> try (cases hm; done)
  rename_i ρ1 p1 h1
  split at hm <;> try (cases hm; done)
  rename_i ρ2 p2 h2
  injection hm with hm
  injection hm with _ hm
  subst hm
  exact fun p hp => Ht hp (ih1 a x1 _ _ _ hx1 h1) (ih2 b x2 _ _ _ hx2 h2)
 | agg l ih =>
  intro a x ρ ρ' ps hd hm
  cases a <;> try (simp [ASh.dec] at hd; done)
  rename_i c'
  simp only [ASh.enc, AJ] at hm
  exact ih c' x _ _ _ hd hm
 | tup l ih =>
  intro a x ρ ρ' ps hd hm
  cases a <;> try (simp [ASh.dec] at hd; done)
  rename_i c'
  simp only [ASh.enc, AJ] at hm
  exact ih c' x _ _ _ hd hm
theorem Z0 : ∀ (l : List (Int × Nat)) (ρ ρ' : Ren) (ps : List Prop), DO ρ l l = some (ρ', ps) -> ∀ p ∈ ps, p
 | [], ρ, ρ', ps, h => HA h
 | (i, k) :: r, ρ, ρ', ps, h => by
  simp only [DO] at h
  split at h <;> try (cases h; done)
  split at h <;> try (cases h; done)
  rename_i ρ1 ps1 h1
  injection h with h
  injection h with _ h
  subst h
  intro p hp
  rcases List.mem_cons.1 hp with rfl | hp
  ·first | rfl | trivial
  ·exact Z0 r _ _ _ h1 p hp
theorem Z1 : ∀ (l : List Nat) (l' : List (Int × Nat)) (x : (Nj l).den) (ρ ρ' : Ren) (ps : List Prop), Qc l l' = some x -> DO ρ (Zy l x) l' = some (ρ', ps) -> ∀ p ∈ ps, p
 | [], l', x, ρ, ρ', ps, hd, hm => by
  cases l' with
  | nil => exact HA hm
  | cons => simp [Qc] at hd
 | k :: r, l', x, ρ, ρ', ps, hd, hm => by
  cases l' with
  | nil => simp [Qc] at hd
  | cons q r' =>
   obtain ⟨i, k'⟩ := q
   simp only [Qc] at hd
   split at hd <;> try (cases hd; done)
   rename_i y hy
   injection hd with hd
   subst hd
   simp only [Zy, Hr, Hs, DO] at hm
   split at hm <;> try (cases hm; done)
   split at hm <;> try (cases hm; done)
   rename_i ρ1 ps1 h1
   injection hm with hm
   injection hm with _ hm
   subst hm
   intro p hp
   rcases List.mem_cons.1 hp with rfl | hp
   ·first | rfl | trivial
   ·exact Z1 r r' y _ _ _ hy h1 p hp
theorem D6 {q : Prop} {ρ ρ' : Ren} {ps : List Prop} (h : some (ρ, [q]) = some (ρ', ps)) (hq : q) : ∀ p ∈ ps, p := by
 injection h with h; injection h with _ h; subst h
 intro p hp
 simp only [List.mem_singleton] at hp
 subst hp
 exact hq
theorem AHJ : ∀ (c : Chunk) (ρ ρ' : Ren) (ps : List Prop), Ae ρ c c = some (ρ', ps) -> ∀ p ∈ ps, p
 | .none, ρ, ρ', ps, h => HA h
 | .box e c, ρ, ρ', ps, h => by simp only [Ae, Nat.beq_refl, cond_true] at h; exact CP c _ _ _ h
 | .arr e T l, ρ, ρ', ps, h => by
  simp only [Ae, Nat.beq_refl, cond_true] at h
  first | rw [dif_pos rfl] at h | rw [dif_pos trivial] at h
  exact D6 h (by first | rfl | trivial)
 | .lit e n c, ρ, ρ', ps, h => by simp only [Ae, Nat.beq_refl, Bool.and_self, cond_true] at h; exact CP c _ _ _ h
 | .sld T l, ρ, ρ', ps, h => by
  simp only [Ae] at h
  first | rw [dif_pos rfl] at h | rw [dif_pos trivial] at h
  exact D6 h (by first | rfl | trivial)
 | .BC e e' T l hs, ρ, ρ', ps, h => by
  simp only [Ae, Nat.beq_refl, Bool.and_self, cond_true] at h
  first | rw [dif_pos rfl] at h | rw [dif_pos trivial] at h
  split at h <;> try (cases h; done)
  rename_i ρ1 ps1 h1
  injection h with h
  injection h with _ h
  subst h
  intro p hp
  rcases List.mem_cons.1 hp with rfl | hp
  ·first | rfl | trivial
  ·exact Z0 hs _ _ _ h1 p hp
 | .mp k V l, ρ, ρ', ps, h => by
  simp only [Ae] at h
  first | rw [dif_pos rfl] at h | rw [dif_pos trivial] at h
  first | rw [dif_pos rfl] at h | rw [dif_pos trivial] at h
  exact D6 h (by first | rfl | trivial)
 | .mpo K e B [], ρ, ρ', ps, h => by
  simp only [Ae, and_self, if_true] at h
  exact D6 h (by first | rfl | trivial)
 | .mpo K e B (k :: r), ρ, ρ', ps, h => by simp [Ae] at h
 | .orw k, ρ, ρ', ps, h => by simp [Ae] at h
 | .mpf K l, ρ, ρ', ps, h => by simp [Ae] at h
 | .glb g, ρ, ρ', ps, h => by
  simp only [Ae, Nat.beq_refl, cond_true, Option.some.injEq, Prod.mk.injEq] at h
  rw [<- h.2]
  simp
 | .ch c n, ρ, ρ', ps, h => by
  simp only [Ae, Option.some.injEq, Prod.mk.injEq] at h
  rw [<- h.2]
  simp
theorem AHK (s : CSh) (c : Chunk) (x : s.ty.den) (ρ ρ' : Ren) (ps : List Prop) (hd : s.dec c = some x) (hm : Ae ρ (s.enc x) c = some (ρ', ps)) : ∀ p ∈ ps, p := by
 cases s with
 | box e cs =>
  cases c <;> try (simp [CSh.dec] at hd; done)
  rename_i e' c'
  simp only [CSh.enc, Ae] at hm
  cases hb : Nat.beq e e' with
  | false => rw [hb] at hm; cases hm
  | true => rw [hb, cond_true] at hm; exact Nn cs c' x _ _ _ hd hm
 | arr e T =>
  cases c <;> try (simp [CSh.dec] at hd; done)
  rename_i e' T' l
  simp only [CSh.dec] at hd
  split at hd <;> try (cases hd; done)
  rename_i hT
  subst hT
  injection hd with hd
  subst hd
  simp only [CSh.enc, Ae] at hm
  cases hb : Nat.beq e e' with
  | false => rw [hb] at hm; cases hm
  | true =>
   rw [hb, cond_true] at hm
   first | rw [dif_pos rfl] at hm | rw [dif_pos trivial] at hm
   exact D6 hm (by first | rfl | trivial)
 | lit e n cs =>
  cases c <;> try (simp [CSh.dec] at hd; done)
  rename_i e' n' c'
  simp only [CSh.enc, Ae] at hm
  cases hb : (Nat.beq e e' && Nat.beq n n') with
  | false => rw [hb] at hm; cases hm
  | true => rw [hb, cond_true] at hm; exact Nn cs c' x _ _ _ hd hm
 | sld T =>
  cases c <;> try (simp [CSh.dec] at hd; done)
  rename_i T' l
  simp only [CSh.dec] at hd
  split at hd <;> try (cases hd; done)
  rename_i hT
  subst hT
  injection hd with hd
  subst hd
  simp only [CSh.enc, Ae] at hm
  first | rw [dif_pos rfl] at hm | rw [dif_pos trivial] at hm
  exact D6 hm (by first | rfl | trivial)
 | BC e e' T hs =>
  cases c <;> try (simp [CSh.dec] at hd; done)
  rename_i f f' T' l hs'
  simp only [CSh.dec] at hd
  split at hd <;> try (cases hd; done)
  rename_i hT
  subst hT
  split at hd <;> try (cases hd; done)
  rename_i y hy
  injection hd with hd
  subst hd
  simp only [CSh.enc, Hr, Hs, Ae] at hm
  cases hb : (Nat.beq e f && Nat.beq e' f') with
  | false => rw [hb] at hm; cases hm
  | true =>
   rw [hb, cond_true] at hm
   first | rw [dif_pos rfl] at hm | rw [dif_pos trivial] at hm
   split at hm <;> try (cases hm; done)
   rename_i ρ1 ps1 h1
   injection hm with hm
   injection hm with _ hm
   subst hm
   intro p hp
   rcases List.mem_cons.1 hp with rfl | hp
   ·first | rfl | trivial
   ·exact Z1 hs hs' y _ _ _ hy h1 p hp
 | mp k V =>
  cases c <;> try (simp [CSh.dec] at hd; done)
  rename_i k' V' l
  simp only [CSh.dec] at hd
  split at hd <;> try (cases hd; done)
  rename_i hV
  subst hV
  split at hd <;> try (cases hd; done)
  rename_i hk
  subst hk
  injection hd with hd
  subst hd
  simp only [CSh.enc, Ae] at hm
  first | rw [dif_pos rfl] at hm | rw [dif_pos trivial] at hm
  first | rw [dif_pos rfl] at hm | rw [dif_pos trivial] at hm
  exact D6 hm (by first | rfl | trivial)
 | mpo K e =>
  cases c <;> try (simp [CSh.dec] at hd; done)
  rename_i K' e' B outs
  simp only [CSh.dec, Option.some.injEq] at hd
  subst hd
  simp only [CSh.enc, Ae] at hm
  split at hm <;> try (cases hm; done)
  exact D6 hm (by first | rfl | trivial)
 | ch =>
  cases c <;> try (simp [CSh.dec] at hd; done)
  rename_i c' n'
  simp only [CSh.dec, Option.some.injEq] at hd
  subst hd
  simp only [CSh.enc, Ae, Option.some.injEq, Prod.mk.injEq] at hm
  rw [<- hm.2]
  simp
theorem No (env : Nat -> AV) : ∀ (l r : List (Nat × AV)) (ρ : Ren) (ps : List Prop), CW env (l ++ r) ρ ps = match CW env l ρ ps with
  | some (ρ, ps) => CW env r ρ ps
  | Option.none => Option.none
 | [], _, _, _ => rfl
 | (t, a) :: l, r, ρ, ps => by
  simp only [List.cons_append, CW]
  cases h : AJ ρ a (env t) with
  | none => rfl
  | some q => exact No env l r _ _
theorem L5 (env : Nat -> AV) : ∀ (l : List (Nat × ASh)) (x : (Ep l).den) (ρ ρ' : Ren) (ps ps' : List Prop), R0 env l = some x -> CW env (Er l x) ρ ps = some (ρ', ps') -> (∀ p ∈ ps, p) -> ∀ p ∈ ps', p
 | [], x, ρ, ρ', ps, ps', hd, hm, h => by
  simp only [Er, CW, Option.some.injEq, Prod.mk.injEq] at hm
  rw [<- hm.2]; exact h
 | (t, s) :: r, x, ρ, ρ', ps, ps', hd, hm, h => by
  simp only [R0] at hd
  split at hd <;> try (cases hd; done)
  rename_i x1 hx1
  split at hd <;> try (cases hd; done)
  rename_i y hy
  injection hd with hd
  subst hd
  simp only [Er, Hr, Hs, CW] at hm
  split at hm <;> try (cases hm; done)
  rename_i ρ1 q h1
  exact L5 env r y _ _ _ _ hy hm (fun p hp => Ht hp h (Nn s _ x1 _ _ _ hx1 h1))
theorem Jk (env : Nat -> AV) (e0 : Nat -> AV) : ∀ (l : List Nat) (ρ ρ' : Ren) (ps ps' : List Prop), (∀ t ∈ l, env t = e0 t) -> CW env (l.map fun t => (t, e0 t)) ρ ps = some (ρ', ps') -> (∀ p ∈ ps, p) -> ∀ p ∈ ps', p
 | [], ρ, ρ', ps, ps', hd, hm, h => by
  simp only [List.map_nil, CW, Option.some.injEq, Prod.mk.injEq] at hm
  rw [<- hm.2]; exact h
 | t :: r, ρ, ρ', ps, ps', hd, hm, h => by
  simp only [List.map_cons, CW] at hm
  rw [hd t (.head _)] at hm
  split at hm <;> try (cases hm; done)
  rename_i ρ1 q h1
  exact Jk env e0 r _ _ _ _ (fun t ht => hd t (List.mem_cons_of_mem _ ht)) hm (fun p hp => Ht hp h (CP _ _ _ _ h1))
theorem Jl (heap : Nat -> Chunk) (r : List (Nat × Chunk)) : ∀ (l : List (Nat × CSh)) (x : (Ct l).den) (ρ ρ' : Ren) (ps ps' : List Prop), Mv heap l ρ = some x -> CX heap (C1 l x ++ r) ρ ps = some (ρ', ps') -> (∀ p ∈ ps, p) ->
  ∃ ρ1 ps1, CX heap r ρ1 ps1 = some (ρ', ps') /\ ∀ p ∈ ps1, p
 | [], x, ρ, ρ', ps, ps', hd, hm, h => ⟨ρ, ps, hm, h⟩
 | (a, s) :: l, x, ρ, ρ', ps, ps', hd, hm, h => by
  simp only [Mv] at hd
  split at hd <;> try (cases hd; done)
  rename_i ρ1 hb
  split at hd <;> try (cases hd; done)
  rename_i x1 hx1
  split at hd <;> try (cases hd; done)
  rename_i ρ2 q hm1
  split at hd <;> try (cases hd; done)
  rename_i y hy
  injection hd with hd
  subst hd
  simp only [C1, Hr, Hs, List.cons_append, CX, hb, hm1] at hm
  exact Jl heap r l y _ _ _ _ hy hm (fun p hp => Ht hp h (AHK s _ x1 _ _ _ hx1 hm1))
theorem IK (heap h0 : Nat -> Chunk) : ∀ (l : List Nat) (ρ ρ' : Ren) (ps ps' : List Prop), (∀ i ∈ l, heap i = h0 i /\ ρ'.find i = some i) -> CX heap (l.map fun t => (t, h0 t)) ρ ps = some (ρ', ps') -> (∀ p ∈ ps, p) -> ∀ p ∈ ps', p
 | [], ρ, ρ', ps, ps', hd, hm, h => by
  simp only [List.map_nil, CX, Option.some.injEq, Prod.mk.injEq] at hm
  rw [<- hm.2]; exact h
 | i :: r, ρ, ρ', ps, ps', hd, hm, h => by
  simp only [List.map_cons, CX] at hm
  split at hm <;> try (cases hm; done)
  rename_i ρ1 hb
  split at hm <;> try (cases hm; done)
  rename_i ρ2 q hm1
  obtain ⟨h1, h2⟩ := hd i (.head _)
  have hle := (Iu (φ0 := fun _ => none) (φ := fun _ => none) (ow1 := fun _ => none) (w := default) (ρf := ρ') _ _ _ _ _ hm).1
  have hfi := hle _ _ (Nd _ _ _ _ _ hm1 _ _ (B6 hb).2)
  rw [h2] at hfi
  injection hfi with hfi
  rw [<- hfi, h1] at hm1
  exact IK heap h0 r _ _ _ _ (fun t ht => hd t (List.mem_cons_of_mem _ ht)) hm (fun p hp => Ht hp h (AHJ _ _ _ _ hm1))
theorem Bs (ρ : Ren) : ∀ (l : List (Nat × CSh)) (x : (Ct l).den) (heap : Nat -> Chunk), Cx ρ (C1 l x) heap = EW ρ l heap
 | [], _, _ => rfl
 | (a, .BC e e' T []) :: r, x, heap => Bs ρ r _ _
 | (a, .BC e e' T (k :: hs)) :: r, x, heap => Bs ρ r _ _
 | (a, .box _ _) :: r, x, heap => Bs ρ r _ _
 | (a, .arr _ _) :: r, x, heap => Bs ρ r _ _
 | (a, .lit _ _ _) :: r, x, heap => Bs ρ r _ _
 | (a, .sld _) :: r, x, heap => Bs ρ r _ _
 | (a, .mp _ _) :: r, x, heap => Bs ρ r _ _
 | (a, .mpo _ _) :: r, x, heap => Bs ρ r _ _
 | (a, .ch) :: r, x, heap => Bs ρ r _ _
theorem L6 {e' : TypeId} {T : Ty} {hp : Nat -> Chunk} {out : Out} : ∀ (hs : List (Int × Nat)) (l : List (List T.den)) (k : List (List T.den) -> List Nat -> Req), (EK e' T hs l k).run hp = some out -> ∃ l', (k l' (hs.map (·.2))).run hp = some out
 | [], l, k, h => ⟨l, h⟩
 | (i, j) :: r, l, k, h => by
  simp only [EK, Req.run] at h
  split at h <;> try (simp [Req.run] at h; done)
  rename_i e2 T2 x hc
  split at h <;> try (simp [Req.run] at h; done)
  rename_i hT
  subst hT
  split at h <;> try (simp [Req.run] at h; done)
  obtain ⟨l', h'⟩ := L6 r _ _ h
  exact ⟨l', h'⟩
theorem Pg {b i : Nat} {heap : Nat -> Chunk} (h : i ∉ Nk b heap) : FC b heap i = heap i := by
 rcases IH b heap with h1 | ⟨e, e', T, l, h1, hs, o, hb, hr, hc⟩
 ·rw [h1]
 ·rw [hc]
  unfold Nk at h
  rw [hb] at h
  obtain ⟨l', h'⟩ := L6 _ _ _ hr
  split at h' <;> try (simp [Req.run] at h'; done)
  simp only [Req.run, Option.some.injEq] at h'
  subst h'
  rcases K0 ((b, .BC e e' T l' []) :: (List.map (·.2) (h1 :: hs)).map fun j => (j, Chunk.none)) heap i with ⟨c, m1, _⟩ | ⟨_, m2⟩
  ·exfalso
   apply h
   rcases List.mem_cons.1 m1 with m1 | m1
   ·injection m1 with m1; rw [m1]; simp
   ·obtain ⟨j, hj, hj2⟩ := List.mem_map.1 m1
    injection hj2 with hj2
    subst hj2
    exact List.mem_cons_of_mem _ hj
  ·exact m2
theorem BK {ρ : Ren} {i : Nat} : ∀ (l : List (Nat × CSh)) (heap : Nat -> Chunk), i ∉ K6 ρ l heap -> EW ρ l heap i = heap i
 | [], _, _ => rfl
 | (a, .BC e e' T []) :: r, heap, h => by
  simp only [K6, List.mem_append, not_or] at h
  exact (BK r _ h.2).trans (Pg h.1)
 | (a, .BC e e' T (k :: hs)) :: r, heap, h => BK r heap h
 | (a, .box _ _) :: r, heap, h => BK r heap h
 | (a, .arr _ _) :: r, heap, h => BK r heap h
 | (a, .lit _ _ _) :: r, heap, h => BK r heap h
 | (a, .sld _) :: r, heap, h => BK r heap h
 | (a, .mp _ _) :: r, heap, h => BK r heap h
 | (a, .mpo _ _) :: r, heap, h => BK r heap h
 | (a, .ch) :: r, heap, h => BK r heap h
structure Frm (base st : St) (D : Az) : Prop where
 e : ∀ t, D.e t = false -> st.env t = base.env t
 h : ∀ i, D.h i = false -> st.heap i = base.heap i
theorem Frm.refl (st : St) (D : Az) : Frm st st D := ⟨fun _ _ => rfl, fun _ _ => rfl⟩
structure ADX (sh : Shape) (base st : St) (D : Az) : Prop where
 e : ∀ t, BX t sh.keep = true -> BX t (sh.env.map (·.1)) = false -> D.e t = false -> st.env t = base.env t
 h : ∀ i, BX i sh.AN = true -> BX i (sh.heap.map (·.1)) = false -> D.h i = false -> st.heap i = base.heap i
theorem Frm.toS {base st : St} {D : Az} {sh : Shape} (h : Frm base st D) : ADX sh base st D := ⟨fun t _ _ => h.e t, fun t _ _ => h.h t⟩
theorem Mw : ∀ {l : List Prop} {q : Prop}, (∀ p ∈ l, p) -> q -> W4 l q
 | [], _, _, h => h
 | p :: l, _, h, hq => ⟨h p (.head _), Mw (fun p hp => h p (List.mem_cons_of_mem _ hp)) hq⟩
theorem ABI {fix : List Nat} {sh : Shape} {s0 st : St} {D : Az} {x : sh.ty.den} (h : XP fix sh s0 st D = some x) (hf : ADX sh s0 st D) : entails fix sh.ann x s0 st := by
 unfold XP at h
 split at h <;> try (cases h; done)
 rename_i xe hxe
 split at h <;> try (cases h; done)
 rename_i ρ0 hρ0
 split at h <;> try (cases h; done)
 rename_i ρ1 ps1 hE
 split at h <;> try (cases h; done)
 rename_i xh hxh
 split at h <;> try (cases h; done)
 rename_i ρ2 ps2 hH
 generalize hc : (ρ2.ok fix s0.next && (Nat.beq st.n s0.n && (Nat.blt 0 s0.next && (fix.all fun i => Nat.blt i s0.next)))) = c1 at h
 cases c1 with
 | false => cases h
 | true =>
 generalize hk : ((sh.keep.all fun t => !(BX t (sh.env.map (·.1))) && !(D.e t)) && (sh.AN.all fun i => !(BX i (sh.heap.map (·.1))) && !(D.h i) && (!(BX i (K6 ρ1 sh.heap st.heap)) && match ρ2.find i with
        | some j => Nat.beq i j
        | Option.none => false))) = c2 at h
 cases c2 with
 | false => cases h
 | true =>
 simp only [Bool.and_self, cond_true, Option.some.injEq] at h
 subst h
 simp only [Bool.and_eq_true, List.all_eq_true, Bool.not_eq_true'] at hk
 unfold entails
 have e1 : Rn s0.env sh.ann.keep [] = some ρ0 := hρ0
 rw [e1]
 simp only
 have e2 : CW st.env (sh.ann.env (mk2 (Ep sh.env) (Ct sh.heap) xe xh) ++ sh.ann.keep.map fun t => (t, s0.env t)) ρ0 [] = some (ρ1, ps1) := by
  show CW st.env (Er sh.env (Pf _ _ (mk2 _ _ xe xh)) ++ _) _ _ = _
  rw [Hr]
  exact hE
 rw [e2]
 simp only
 have e3 : CX (Cx ρ1 (sh.ann.heap (mk2 (Ep sh.env) (Ct sh.heap) xe xh)) st.heap) (sh.ann.heap (mk2 (Ep sh.env) (Ct sh.heap) xe xh) ++ sh.ann.AN.map fun i => (i, s0.heap i)) ρ1 ps1 = some (ρ2, ps2) := by
  show CX (Cx ρ1 (C1 sh.heap (Ni _ _ (mk2 _ _ xe xh))) st.heap) (C1 sh.heap (Ni _ _ (mk2 _ _ xe xh)) ++ sh.AN.map fun i => (i, s0.heap i)) ρ1 ps1 = some (ρ2, ps2)
  rw [Hs, Bs]
  exact hH
 rw [e3]
 simp only
 rw [hc, cond_true]
 refine Mw ?_ trivial
 -- the equations hold
 rw [No] at hE
 split at hE <;> try (cases hE; done)
 rename_i ρa psa hEa
 have t1 : ∀ p ∈ ps1, p := Jk st.env s0.env sh.keep _ _ _ _ (fun t ht => hf.e t (Am.2 ht) (hk.1 t ht).1 (hk.1 t ht).2) hE (L5 st.env sh.env xe _ _ _ _ hxe hEa (by simp))
 obtain ⟨ρb, psb, hHb, t2⟩ := Jl _ _ sh.heap xh _ _ _ _ hxh hH t1
 refine IK _ s0.heap sh.AN _ _ _ _ (fun i hi => ?_) hHb t2
 obtain ⟨⟨k0, k1⟩, k2, k3⟩ := hk.2 i hi
 refine ⟨?_, ?_⟩
 ·rw [BK sh.heap st.heap (fun hm => by rw [Am.2 hm] at k2; cases k2)]
  exact hf.h i (Am.2 hi) k0 k1
 ·split at k3 <;> try (cases k3; done)
  rename_i j hj
  rw [hj, Nat.eq_of_beq_eq_true k3]
theorem Np (hs : List (Nat × CSh)) (t : Nat) (s : ASh) (st : St) : (∀ u, u ≠ t -> (G7 hs t s st).env u = st.env u) /\ (∀ i, i < st.next -> (G7 hs t s st).heap i = st.heap i) /\ st.next <= (G7 hs t s st).next := by
 have e1 : ∀ u, u ≠ t -> Nat.beq u t = false := fun u hu => Bool.eq_false_iff.2 fun e => hu (Nat.eq_of_beq_eq_true e)
 have e2 : ∀ i, i < st.next -> Nat.beq i st.next = false := fun i hi => Bool.eq_false_iff.2 fun e => by have := Nat.eq_of_beq_eq_true e; omega
 unfold G7
 split
 ·split
  ·exact ⟨fun u hu => by simp only [e1 u hu, cond_false], fun i hi => by simp only [e2 i hi, cond_false], Nat.le_succ _⟩
  ·exact ⟨fun u hu => by simp only [e1 u hu, cond_false], fun i hi => by simp only [e2 i hi, cond_false], Nat.le_succ _⟩
  ·exact ⟨fun _ _ => rfl, fun _ _ => rfl, Nat.le_refl _⟩
 ·exact ⟨fun _ _ => rfl, fun _ _ => rfl, Nat.le_refl _⟩
theorem Qg (hs : List (Nat × CSh)) : ∀ (l : List (Nat × ASh)) (st : St), (∀ u, u ∉ l.map (·.1) -> (L4 hs l st).env u = st.env u) /\ (∀ i, i < st.next -> (L4 hs l st).heap i = st.heap i)
 | [], st => ⟨fun _ _ => rfl, fun _ _ => rfl⟩
 | (t, s) :: r, st => by
  obtain ⟨h1, h2, h3⟩ := Np hs t s st
  obtain ⟨k1, k2⟩ := Qg hs r (G7 hs t s st)
  refine ⟨fun u hu => ?_, fun i hi => ?_⟩
  ·simp only [List.map_cons, List.mem_cons, not_or] at hu
   exact (k1 u hu.2).trans (h1 u hu.1)
  ·exact (k2 i (Nat.lt_of_lt_of_le hi h3)).trans (h2 i hi)
theorem Nq (hs : List (Nat × CSh)) : ∀ (l : List (Nat × ASh)) (st : St), st.next <= (L4 hs l st).next
 | [], st => Nat.le_refl _
 | (t, s) :: r, st => Nat.le_trans (Np hs t s st).2.2 (Nq hs r _)
theorem L7 (hs : List (Nat × CSh)) (a : Nat) (c : ASh) (st : St) : (DU hs a c st).env = st.env /\ (∀ i, i ≠ a -> i < st.next -> (DU hs a c st).heap i = st.heap i) /\ st.next <= (DU hs a c st).next := by
 have e2 : ∀ i, i < st.next -> Nat.beq i st.next = false := fun i hi => Bool.eq_false_iff.2 fun e => by have := Nat.eq_of_beq_eq_true e; omega
 unfold DU
 split
 ·split
  ·exact ⟨rfl, fun i ha hi => by simp only [e2 i hi, cond_false]; rw [show Nat.beq i a = false from Bool.eq_false_iff.2 fun e => ha (Nat.eq_of_beq_eq_true e)]; rfl, Nat.le_succ _⟩
  ·exact ⟨rfl, fun _ _ _ => rfl, Nat.le_refl _⟩
 ·exact ⟨rfl, fun _ _ _ => rfl, Nat.le_refl _⟩
theorem Iw (hs : List (Nat × CSh)) : ∀ (l : List (Nat × CSh)) (st : St), (GF hs l st).env = st.env /\ (∀ i, i ∉ l.map (·.1) -> i < st.next -> (GF hs l st).heap i = st.heap i)
 | [], st => ⟨rfl, fun _ _ _ => rfl⟩
 | (a, s) :: r, st => by
  have step : (GF hs r st).env = st.env /\ (∀ i, i ∉ ((a, s) :: r).map (·.1) -> i < st.next -> (GF hs r st).heap i = st.heap i) := by
   obtain ⟨k1, k2⟩ := Iw hs r st
   refine ⟨k1, fun i hi hn => k2 i (fun h => hi (List.mem_cons_of_mem _ h)) hn⟩
  cases s <;> try exact step
  rename_i e c
  obtain ⟨h1, h2, h3⟩ := L7 hs a c st
  obtain ⟨g1, g2, g3⟩ := L7 hs a c (DU hs a c st)
  obtain ⟨k1, k2⟩ := Iw hs r (DU hs a c (DU hs a c st))
  refine ⟨k1.trans (g1.trans h1), fun i hi hn => ?_⟩
  simp only [List.map_cons, List.mem_cons, not_or] at hi
  exact (k2 i hi.2 (by omega)).trans ((g2 i hi.1 (by omega)).trans (h2 i hi.1 hn))
theorem Qh {φ φ' : Hnd} {ow : Own} {w : World} {n : Nat} {hs : List (Nat × CSh)} (hle : Aw φ φ') (hn : φ' n = some (.slice Option.none 0 0)) : ∀ {s : ASh} {v v' : AV} {e : TypeId} {T : Ty} {cs : List Value}, G8 n hs s v = some (v', e, T) -> v.holds φ ow w cs -> v'.holds φ' ow w cs
 | .cons s r, .cons v r', v', e, T, cs, h, ⟨u, us, hcs, h1, h2⟩ => by
  have step : (match G8 n hs r r' with
   | some (x, y) => some (AV.cons v x, y)
   | Option.none => Option.none) = some (v', e, T) -> v'.holds φ' ow w cs := by
   intro h
   split at h
   ·rename_i x y hx
    injection h with h
    injection h with ha hb
    subst ha
    subst hb
    exact ⟨u, us, hcs, AV.Ab hle (A8.refl _ _) h1, Qh hle hn hx h2⟩
   ·cases h
  unfold G8 at h
  split at h
  ·split at h
   ·injection h with h
    injection h with ha hb
    subst ha
    exact ⟨u, us, hcs, ⟨Option.none, 0, 0, hn, h1⟩, AV.Ab hle (A8.refl _ _) h2⟩
   ·exact step h
  ·exact step h
 | .cons _ _, .bot, _, _, _, _, h, _ | .cons _ _, .raw _, _, _, _, _, h, _ | .cons _ _, .dat _ _, _, _, _, _, h, _ | .cons _ _, .isNil _, _, _, _, _, h, _ | .cons _ _, .arr _, _, _, _, _, h, _ | .cons _ _, .vw _ _ _ _, _, _, _, _, h, _ | .cons _ _, .ref _ _, _, _, _, _, h, _ | .cons _ _, .elt _ _ _ _, _, _, _, _, h, _ | .cons _ _, .spt _ _, _, _, _, _, h, _ | .cons _ _, .fn _ _, _, _, _, _, h, _ | .cons _ _, .BY _, _, _, _, _, h, _ | .cons _ _, .chv _, _, _, _, _, h, _ | .cons _ _, .bfn _ _, _, _, _, _, h, _ | .cons _ _, .opq _, _, _, _, _, h, _ | .cons _ _, .idn _ _ _, _, _, _, _, h, _ | .cons _ _, .nil, _, _, _, _, h, _ | .cons _ _, .agg _, _, _, _, _, h, _ | .cons _ _, .tup _, _, _, _, _, h, _ => by simp [G8] at h
 | .bot, _, _, _, _, _, h, _ | .dat _, _, _, _, _, _, h, _ | .K5, _, _, _, _, _, h, _ | .arr _, _, _, _, _, _, h, _ | .vw _ _, _, _, _, _, _, h, _ | .ref _ _, _, _, _, _, _, h, _ | .elt _ _ _, _, _, _, _, _, h, _ | .spt _, _, _, _, _, _, h, _ | .fn _ _, _, _, _, _, _, h, _ | .BY _, _, _, _, _, _, h, _ | .chv _, _, _, _, _, _, h, _ | .bfn _ _, _, _, _, _, _, h, _ | .opq _, _, _, _, _, _, h, _ | .idn _ _, _, _, _, _, _, h, _ | .nil, _, _, _, _, _, h, _ | .agg _, _, _, _, _, _, h, _ | .tup _, _, _, _, _, _, h, _ => by simp [G8] at h
theorem Uy (a : Nat) (T : Ty) (st : St) : (GG a T st).env = st.env /\ (∀ i, i ≠ a -> (GG a T st).heap i = st.heap i) := by
 unfold GG
 cases Nat.beq a 0
 ·rw [cond_false]
  split
  ·split
   ·exact ⟨rfl, fun i ha => by simp only; rw [show Nat.beq i a = false from Bool.eq_false_iff.2 fun e => ha (Nat.eq_of_beq_eq_true e)]; rfl⟩
   ·exact ⟨rfl, fun _ _ => rfl⟩
  ·exact ⟨rfl, fun _ _ => rfl⟩
 ·exact ⟨rfl, fun _ _ => rfl⟩
theorem Ix : ∀ (l : List (Nat × CSh)) (st : St), (G9 l st).env = st.env /\ (∀ i, i ∉ l.map (·.1) -> (G9 l st).heap i = st.heap i)
 | [], st => ⟨rfl, fun _ _ => rfl⟩
 | (a, s) :: r, st => by
  have step : (G9 r st).env = st.env /\ (∀ i, i ∉ ((a, s) :: r).map (·.1) -> (G9 r st).heap i = st.heap i) := by
   obtain ⟨k1, k2⟩ := Ix r st
   exact ⟨k1, fun i hi => k2 i (fun h => hi (List.mem_cons_of_mem _ h))⟩
  cases s <;> try exact step
  rename_i T
  obtain ⟨h1, h2⟩ := Uy a T st
  obtain ⟨k1, k2⟩ := Ix r (GG a T st)
  refine ⟨k1.trans h1, fun i hi => ?_⟩
  simp only [List.map_cons, List.mem_cons, not_or] at hi
  exact (k2 i hi.2).trans (h2 i hi.1)
section
variable {D0 : List Deferred} {φ0 : Hnd} {ow0 : Own} {w0 : World}
theorem ABJ {hs : List (Nat × CSh)} {t : Nat} {s : ASh} {st : St} {a : Act} {w : World} (h : BN D0 φ0 ow0 w0 st a w) : BN D0 φ0 ow0 w0 (G7 hs t s st) a w := by
 have main : ∀ c : Chunk, st.env t = .raw (.slice Option.none 0 0) -> (∀ (φ : Hnd) (ow : Own), φ st.next = some (.slice Option.none 0 0) -> cH φ ow w st.next c) ->
   BN D0 φ0 ow0 w0 { env := fun u => bif Nat.beq u t then .arr st.next else st.env u, heap := fun j => bif Nat.beq j st.next then c else st.heap j, next := st.next + 1, n := st.n } a w := by
  intro c he hc
  obtain ⟨φ, ow, h1, h2, h3, h4, h5, h6, h7, h8⟩ := h
  let φ' : Hnd := fun i => if i = st.next then some (.slice Option.none 0 0) else φ i
  have hle : Aw φ φ' := fun i v hv => by
   show (if i = st.next then _ else φ i) = some v
   rw [if_neg (fun e => by subst e; rw [h5 st.next (Nat.le_refl _)] at hv; cases hv)]
   exact hv
  have hk : A8 ow w ow w := A8.refl _ _
  refine ⟨φ', ow, h1, h2, fun u => ?_, fun id => ?_, fun id hid => ?_, fun c id hc => ⟨(h6 c id hc).1, Nat.lt_succ_of_lt (h6 c id hc).2⟩, Nat.succ_pos _, ⟨h8.size, h8.os, h8.tape, h8.output, h8.blk, h8.frn, h8.phi.trans hle⟩⟩
  ·show (bif Nat.beq u t then AV.arr st.next else st.env u).holds φ' ow w [a.tmps.getD u undef]
   cases hb : Nat.beq u t with
   | true =>
    have := Nat.eq_of_beq_eq_true hb
    subst this
    have := h3 u
    rw [he] at this
    have : [a.tmps.getD u undef] = [Value.slice Option.none 0 0] := this
    exact ⟨Option.none, 0, 0, if_pos rfl, this⟩
   | false => exact AV.Ab hle hk (h3 u)
  ·show cH φ' ow w id (bif Nat.beq id st.next then c else st.heap id)
   cases hb : Nat.beq id st.next with
   | true =>
    have := Nat.eq_of_beq_eq_true hb
    subst this
    exact hc φ' ow (if_pos rfl)
   | false => exact Cp hle hk (fun b _ h => ⟨h, rfl⟩) (h4 id)
  ·show (if id = st.next then _ else φ id) = none
   have : st.next + 1 <= id := hid
   rw [if_neg (by omega)]
   exact h5 id (by omega)
 unfold G7
 split
 ·rename_i x1 x2 a0 he
  split
  ·rename_i e T hf
   exact main _ he fun φ ow hφ => ⟨_, hφ, [], World.ownsRow_nil w 0 e T.size, by simp [Value.ownBlock], Nat.zero_le _, rfl⟩
  ·rename_i e e' T k hf
   exact main _ he fun φ ow hφ => ⟨_, [], fun _ => 0, hφ, World.ownsRow_nil w 0 e 1, by simp [Value.ownBlock], Nat.zero_le _, rfl, by simp, by simp, by simp⟩
  ·exact h
 ·exact h
theorem Nr {hs : List (Nat × CSh)} {b : Nat} {s : ASh} {st : St} {a : Act} {w : World} (h : BN D0 φ0 ow0 w0 st a w) : BN D0 φ0 ow0 w0 (DU hs b s st) a w := by
 unfold DU
 split
 ·rename_i e cells hbox
  split
  ·rename_i cells' e1 T hp
   obtain ⟨φ, ow, h1, h2, h3, h4, h5, h6, h7, h8⟩ := h
   let φ' : Hnd := fun i => if i = st.next then some (.slice Option.none 0 0) else φ i
   have hle : Aw φ φ' := fun i v hv => by
    show (if i = st.next then _ else φ i) = some v
    rw [if_neg (fun e => by subst e; rw [h5 st.next (Nat.le_refl _)] at hv; cases hv)]
    exact hv
   have hk : A8 ow w ow w := A8.refl _ _
   refine ⟨φ', ow, h1, h2, fun u => AV.Ab hle hk (h3 u), fun id => ?_, fun id hid => ?_, fun c id hc => ⟨(h6 c id hc).1, Nat.lt_succ_of_lt (h6 c id hc).2⟩, Nat.succ_pos _, ⟨h8.size, h8.os, h8.tape, h8.output, h8.blk, h8.frn, h8.phi.trans hle⟩⟩
   ·show cH φ' ow w id (bif Nat.beq id st.next then .arr e1 T [] else bif Nat.beq id b then .box e cells' else st.heap id)
    cases hb : Nat.beq id st.next with
    | true =>
     have := Nat.eq_of_beq_eq_true hb
     subst this
     exact ⟨_, if_pos rfl, [], World.ownsRow_nil w 0 e1 T.size, by simp [Value.ownBlock], Nat.zero_le _, rfl⟩
    | false =>
     cases hc : Nat.beq id b with
     | true =>
      have := Nat.eq_of_beq_eq_true hc
      subst this
      have hch := h4 id
      rw [hbox] at hch
      obtain ⟨g, cs, q1, q2, q3, q4⟩ := hch
      exact ⟨g, cs, hle _ _ q1, q2, q3, Qh hle (if_pos rfl) hp q4⟩
     | false => exact Cp hle hk (fun b _ h => ⟨h, rfl⟩) (h4 id)
   ·show (if id = st.next then _ else φ id) = none
    have : st.next + 1 <= id := hid
    rw [if_neg (by omega)]
    exact h5 id (by omega)
  ·exact h
 ·exact h
theorem K7 {hs : List (Nat × CSh)} : ∀ (l : List (Nat × CSh)) {st : St} {a : Act} {w : World}, BN D0 φ0 ow0 w0 st a w -> BN D0 φ0 ow0 w0 (GF hs l st) a w
 | [], _, _, _, h => h
 | (b, s) :: r, _, _, _, h => by
  cases s <;> try exact K7 r h
  exact K7 r (Nr (Nr h))
theorem XR {b : Nat} {T : Ty} {st : St} {a : Act} {w : World} (h : BN D0 φ0 ow0 w0 st a w) : BN D0 φ0 ow0 w0 (GG b T st) a w := by
 unfold GG
 cases hb0 : Nat.beq b 0 with
 | true => exact h
 | false =>
  rw [cond_false]
  split
  ·rename_i e T' l hbox
   split
   ·rename_i hT
    subst hT
    obtain ⟨φ, ow, h1, h2, h3, h4, h5, h6, h7, h8⟩ := h
    have hk : A8 ow w (AM [b] ow) w := An _
    refine ⟨φ, AM [b] ow, h1, h2, fun u => AV.Ab (Aw.refl _) hk (h3 u), fun id => ?_, h5, fun c id hc => h6 c id (Aj.1 hc).1, h7, ⟨h8.size, h8.os, h8.tape, h8.output, fun c hc1 hc2 => ?_, fun c hc => h8.frn c (Aj.1 hc).1, h8.phi⟩⟩
    ·show cH φ (AM [b] ow) w id (bif Nat.beq id b then .sld T' _ else st.heap id)
     cases hc : Nat.beq id b with
     | true =>
      have := Nat.eq_of_beq_eq_true hc
      subst this
      have hch := h4 id
      rw [hbox] at hch
      obtain ⟨v, q1, q2⟩ := hch
      exact ⟨v, q1, Eg q2⟩
     | false =>
      have hne : id ≠ b := fun e => by subst e; rw [Nat.beq_refl] at hc; cases hc
      exact Cp (Aw.refl _) hk (fun c _ h => ⟨Aj.2 ⟨h, by simpa using hne⟩, rfl⟩) (h4 id)
    ·obtain ⟨g1, g2⟩ := h8.blk c hc1 hc2
     refine ⟨?_, g2⟩
     rcases hc2 with hc2 | hc2
     ·rw [hc2] at g1 ⊢
      exact Ay.2 (.inl g1)
     ·rw [hc2] at g1 ⊢
      refine Aj.2 ⟨g1, fun hm => ?_⟩
      simp only [List.mem_singleton] at hm
      subst hm
      cases hb0
   ·exact h
  ·exact h
theorem K8 : ∀ (l : List (Nat × CSh)) {st : St} {a : Act} {w : World}, BN D0 φ0 ow0 w0 st a w -> BN D0 φ0 ow0 w0 (G9 l st) a w
 | [], _, _, _, h => h
 | (b, s) :: r, _, _, _, h => by
  cases s <;> try exact K8 r h
  exact K8 r (XR h)
theorem Uz {hs : List (Nat × CSh)} : ∀ (l : List (Nat × ASh)) {st : St} {a : Act} {w : World}, BN D0 φ0 ow0 w0 st a w -> BN D0 φ0 ow0 w0 (L4 hs l st) a w
 | [], _, _, _, h => h
 | (t, s) :: r, _, _, _, h => Uz r (ABJ h)
theorem ADY {fix : List Nat} (hbase : ∀ id, id ∉ fix -> φ0 id = none) {sh : Shape} {s0 st : St} {D : Az} {x : sh.ty.den} {a : Act} {w : World} (h : Zz fix sh s0 st D = some x) (hf : ADX sh s0 st D) (hs : BN D0 φ0 ow0 w0 st a w) : BN D0 φ0 ow0 w0 (Dw sh.ann x s0) a w := by
 unfold Zz at h
 cases hc : sh.AN.all fun i => Nat.blt i st.next with
 | false => rw [hc] at h; cases h
 | true =>
  rw [hc, cond_true] at h
  obtain ⟨k1, k2⟩ := Qg sh.heap sh.env st
  obtain ⟨b1, b2⟩ := Iw sh.heap sh.heap (L4 sh.heap sh.env st)
  have hn : ∀ i, BX i sh.AN = true -> i < st.next := fun i h1 => Nat.le_of_ble_eq_true (List.all_eq_true.1 hc i (Am.1 h1))
  obtain ⟨c1, c2⟩ := Ix sh.heap (GF sh.heap sh.heap (L4 sh.heap sh.env st))
  refine GD hbase (ABI h ⟨fun t h1 h2 h3 => ((congrFun (c1.trans b1) t).trans (k1 t fun hm => ?_)).trans (hf.e t h1 h2 h3), fun i h1 h2 h3 => (c2 i (fun hm => ?_)).trans ((b2 i (fun hm => ?_) (Nat.lt_of_lt_of_le (hn i h1) (Nq _ _ _))).trans ((k2 i (hn i h1)).trans (hf.h i h1 h2 h3)))⟩) (K8 sh.heap (K7 sh.heap (Uz sh.env hs)))
  ·rw [Am.2 hm] at h2; cases h2
  ·rw [Am.2 hm] at h2; cases h2
  ·rw [Am.2 hm] at h2; cases h2
end
end AL
end
section
set_option linter.unusedVariables false
set_option linter.unusedSimpArgs false
namespace AL
open Go
theorem C4 {R : Type} {hp : Nat -> Chunk} {z : R} : ∀ {r : Req} {K : Out -> List Nat -> Prog R}, (II hp r K).run = some z -> ∃ out, r.run hp = some out /\ (K out (r.Bc hp)).run = some z
 | .look id k, K, h => by
  obtain ⟨out, h1, h2⟩ := C4 (r := k (hp id)) h
  exact ⟨out, h1, h2⟩
 | .out o, K, h => ⟨o, rfl, h⟩
 | .fail, K, h => by cases h
 | .call m k, K, h => by
  simp only [II, Prog.run] at h
  cases m with
  | none => cases h
  | some x =>
   obtain ⟨out, h1, h2⟩ := C4 (r := k x) h
   exact ⟨out, h1, h2⟩
theorem HB {R : Type} {z : R} : ∀ {ps : List Prop} {d : Gj ps} {x : Prog R}, (Nl d x).run = some z -> (∀ p ∈ ps, p) /\ x.run = some z
 | _, .nil, x, h => ⟨by simp, h⟩
 | _, @Gj.cons p _ d r, x, h => by
  simp only [Nl, Prog.run] at h
  by_cases hp : p
  ·rw [if_pos hp] at h
   obtain ⟨h1, h2⟩ := HB h
   refine ⟨fun q hq => ?_, h2⟩
   rcases List.mem_cons.1 hq with rfl | hq
   ·exact hp
   ·exact h1 q hq
  ·rw [if_neg hp] at h
   cases h
theorem Frm.put {base st : St} {D : Az} (h : Frm base st D) (d : Option Tmp) (a : AV) : Frm base (st.put d a) (D.put d) := by
 cases d with
 | none => exact h
 | some d =>
  refine ⟨fun t ht => ?_, h.h⟩
  simp only [Az.put, Bool.or_eq_false_iff] at ht
  simp only [St.put, ht.1, cond_false]
  exact h.e t ht.2
theorem Frm.upd {base st : St} {D : Az} (h : Frm base st D) (u : Upd) : Frm base (st.upd u) (D.upd (ids u)) := by
 refine ⟨fun t ht => by rw [(Dv u st).1]; exact h.e t ht, fun i hi => ?_⟩
 simp only [Az.upd, Bool.or_eq_false_iff] at hi
 rcases G1 u st i with ⟨hm, _⟩ | ⟨_, he⟩
 ·rw [Am.2 hm] at hi; cases hi.1
 ·rw [he]; exact h.h i hi.2
theorem Az.AHL (D : Az) (d : Option Tmp) (l : List Nat) : (D.upd l).put d = (D.put d).upd l := by cases d <;> rfl
variable {C : DV}
theorem Ns {R : Type} {z : R} {o : Oper} {next i : Nat} {ord : Nat -> Bool} {st base : St} {D : Az} {K : List Nat -> List Nat -> St -> Prog R} (h : (Qd C o next i ord st K).run = some z) (hf : Frm base st D) :
  ∃ tch up st', (K tch up st').run = some z /\ Frm base st' ((D.put o.dst).upd up) /\ ∀ K' : List Nat -> List Nat -> St -> Prop, K' tch up st' -> ID C.cfg o next i ord st K' := by
 unfold Qd at h
 obtain ⟨out, h1, h2⟩ := C4 h
 generalize hc : (Ed next i ord ((Br C.P C.S C.wr o.op (Ah st.env) (next + 64 * i)).Bc st.heap) out.upd && Bw st.n o.dst) = c at h2
 cases c with
 | false => cases h2
 | true =>
  rw [cond_true] at h2
  obtain ⟨h3, h4⟩ := HB h2
  refine ⟨_, _, _, h4, ?_, fun K' hK => ?_⟩
  ·rw [<- Az.AHL]
   exact (hf.upd out.upd).put o.dst out.res
  ·have h1' : (Br C.cfg.P C.cfg.S C.cfg.wr o.op (Ah st.env) (next + 64 * i)).run st.heap = some out := h1
   unfold ID
   simp only
   rw [h1']
   simp only
   have hc' : (Ed next i ord ((Br C.cfg.P C.cfg.S C.cfg.wr o.op (Ah st.env) (next + 64 * i)).Bc st.heap) out.upd && Bw st.n o.dst) = true := hc
   rw [hc', cond_true]
   exact Mw h3 hK
theorem GH {R : Type} {z : R} {ops : Array Oper} {bef : Option (Array Nat)} {next : Nat} {base : St} : ∀ (l : List Oper) (i : Nat) (tr : List Trc) (st : St) (D : Az) (K : St -> Az -> Prog R), (IJ C ops bef next l i tr st D K).run = some z -> Frm base st D ->
  ∃ st' D', (K st' D').run = some z /\ Frm base st' D' /\ ∀ K' : St -> Prop, K' st' -> Cv C.cfg ops bef next l i tr st K'
 | [], i, tr, st, D, K, h, hf => by
  simp only [IJ] at h
  cases bef with
  | none => exact ⟨st, D, h, hf, fun K' hK => hK⟩
  | some b =>
   simp only at h
   cases hc : IC b tr.reverse with
   | false =>
    rw [hc, cond_false] at h
    cases hq : F7 b tr.reverse with
    | none => rw [hq] at h; cases h
    | some q =>
     rw [hq] at h
     obtain ⟨h1, h2⟩ := HB h
     exact ⟨st, D, h2, hf, fun K' hK => by simp only [Cv, hc, cond_false, hq]; exact Mw h1 hK⟩
   | true =>
    rw [hc, cond_true] at h
    exact ⟨st, D, h, hf, fun K' hK => by simp only [Cv, hc, cond_true]; exact hK⟩
 | o :: r, i, tr, st, D, K, h, hf => by
  have go : ∀ (rd : List Nat) (st : St), (Qd C o next i (IE bef i) st fun tch up st' => IJ C ops bef next r (i + 1) (⟨i, rd ++ EL o, o.dst, tch, up, ED C.P o.op (Ah st.env), up.map fun id => (id, st.heap id, st'.heap id)⟩ :: tr) st' ((D.put o.dst).upd up) K).run = some z -> Frm base st D ->
    ∃ st' D', (K st' D').run = some z /\ Frm base st' D' /\ ∀ K' : St -> Prop, K' st' -> ID C.cfg o next i (IE bef i) st fun tch up st' => Cv C.cfg ops bef next r (i + 1) (⟨i, rd ++ EL o, o.dst, tch, up, ED C.cfg.P o.op (Ah st.env), up.map fun id => (id, st.heap id, st'.heap id)⟩ :: tr) st' K' := by
   intro rd st h hf
   obtain ⟨tch, up, st1, h1, h2, h3⟩ := Ns h hf
   obtain ⟨st', D', h4, h5, h6⟩ := GH r _ _ _ _ _ h1 h2
   exact ⟨st', D', h4, h5, fun K' hK => h3 _ (h6 K' hK)⟩
  simp only [IJ] at h
  split at h
  ·rename_i hg
   obtain ⟨st', D', h1, h2, h3⟩ := go _ _ h hf
   refine ⟨st', D', h1, h2, fun K' hK => ?_⟩
   unfold Cv
   simp only [hg]
   exact h3 K' hK
  ·rename_i j want hg
   split at h <;> try (cases h; done)
   rename_i d hd
   split at h <;> try (cases h; done)
   rotate_left
   ·rename_i v hv
    cases hb : Hk v && Bw st.n o.dst with
    | false => rw [hb] at h; cases h
    | true =>
     rw [hb, cond_true] at h
     obtain ⟨st', D', h1, h2, h3⟩ := GH r _ _ _ _ _ h (hf.put o.dst (.raw undef))
     refine ⟨st', D', h1, h2, fun K' hK => ?_⟩
     unfold Cv
     simp only [hg, hd, hv, hb, cond_true]
     exact h3 K' hK
   rename_i b hb
   simp only [Prog.run] at h
   have key : ∀ c : Bool, c = b -> (bif c == want then
       Qd C o next i (IE bef i) (st.put (some d) (.dat .bool c)) fun tch up st' => IJ C ops bef next r (i + 1) (⟨i, [d] ++ EL o, o.dst, tch, up, ED C.P o.op (Ah (st.put (some d) (.dat .bool c)).env), up.map fun id => (id, (st.put (some d) (.dat .bool c)).heap id, st'.heap id)⟩ :: tr) st' ((D.put o.dst).upd up) K
      else bif Bw (st.put (some d) (.dat .bool c)).n o.dst then IJ C ops bef next r (i + 1) (⟨i, [d], o.dst, [], [], Option.none, []⟩ :: tr) ((st.put (some d) (.dat .bool c)).put o.dst (.raw undef)) (D.put o.dst) K else .fail 6).run = some z ->
     ∃ st' D', (K st' D').run = some z /\ Frm base st' D' /\ ∀ K' : St -> Prop, K' st' -> Cv C.cfg ops bef next (o :: r) i tr st K' := by
    intro c hcb h
    rw [<- hcb] at hb
    rw [Cg hb] at h
    cases hw : (c == want) with
    | true =>
     rw [hw, cond_true] at h
     obtain ⟨st', D', h1, h2, h3⟩ := go _ _ h hf
     refine ⟨st', D', h1, h2, fun K' hK => ?_⟩
     unfold Cv
     simp only [hg, hd, hb]
     have := h3 K' hK
     have e : ∀ F : Bool -> Prop, brB c F = F c := fun F => by cases c <;> rfl
     rw [e]
     simp only [hw, cond_true]
     rw [Cg hb]
     exact this
    | false =>
     rw [hw, cond_false] at h
     cases hdo : Bw st.n o.dst with
     | false => rw [hdo] at h; cases h
     | true =>
      rw [hdo, cond_true] at h
      obtain ⟨st', D', h1, h2, h3⟩ := GH r _ _ _ _ _ h (hf.put o.dst (.raw undef))
      refine ⟨st', D', h1, h2, fun K' hK => ?_⟩
      unfold Cv
      simp only [hg, hd, hb]
      have := h3 K' hK
      have e : ∀ F : Bool -> Prop, brB c F = F c := fun F => by cases c <;> rfl
      rw [e]
      simp only [hw, cond_false]
      rw [Cg hb]
      simp only [hdo, cond_true]
      exact this
   cases b with
   | true => exact key true rfl h
   | false => exact key false rfl h
theorem CV {R : Type} {z : R} {ops : Array Oper} {draw : Bool} {st base : St} {D : Az} {K : St -> Az -> Prog R} (h : (Fg C ops draw st D K).run = some z) (hf : Frm base st D) :
  ∃ st' D', (K st' D').run = some z /\ Frm base st' D' /\ ∀ K' : St -> Prop, K' st' -> Cw C.cfg ops draw st K' := by
 unfold Fg at h
 cases hc : !draw || EN 0 ops.toList with
 | false => rw [hc] at h; cases h
 | true =>
  rw [hc, cond_true] at h
  obtain ⟨st', D', h1, h2, h3⟩ := GH _ _ _ _ _ _ h hf
  refine ⟨_, D', h1, ⟨h2.e, h2.h⟩, fun K' hK => ?_⟩
  unfold Cw
  rw [hc, cond_true]
  exact h3 _ hK
section
variable {D0 : List Deferred} {φ0 : Hnd} {ow0 : Own} {w0 : World}
theorem Iy : ∀ (l : List (Nat × AV)) (t : Nat) (d : AV), t ∉ l.map (·.1) -> Ef l t d = d
 | [], _, _, _ => rfl
 | (x, a) :: r, t, d, h => by
  simp only [List.map_cons, List.mem_cons, not_or] at h
  have : Nat.beq x t = false := Bool.eq_false_iff.2 fun e => h.1 (Nat.eq_of_beq_eq_true e).symm
  simp only [Ef, this, cond_false]
  exact Iy r t d h.2
theorem Iz : ∀ (l : List (Nat × Chunk)) (t : Nat) (d : Chunk), t ∉ l.map (·.1) -> Dk l t d = d
 | [], _, _, _ => rfl
 | (x, a) :: r, t, d, h => by
  simp only [List.map_cons, List.mem_cons, not_or] at h
  have : Nat.beq x t = false := Bool.eq_false_iff.2 fun e => h.1 (Nat.eq_of_beq_eq_true e).symm
  simp only [Dk, this, cond_false]
  exact Iz r t d h.2
theorem I0 : ∀ (l : List (Nat × ASh)) (x : (Ep l).den), (Er l x).map (·.1) = l.map (·.1)
 | [], _ => rfl
 | (t, s) :: r, x => by simp only [Er, List.map_cons, I0 r _]
theorem HC : ∀ (l : List (Nat × CSh)) (x : (Ct l).den), (C1 l x).map (·.1) = l.map (·.1)
 | [], _ => rfl
 | (t, s) :: r, x => by simp only [C1, List.map_cons, HC r _]
theorem GI {x : Nat} {l : List Nat} (h : BX x l = false) : x ∉ l := fun hm => by rw [Am.2 hm] at h; cases h
theorem Frm.behind {base st : St} {D : Az} {sh : Shape} (h : Frm base st D) (x : sh.ty.den) : Frm base (Dw sh.ann x st) (D.behind sh) := by
 refine ⟨fun t ht => ?_, fun i hi => ?_⟩
 ·simp only [Az.behind, Bool.or_eq_false_iff, Bool.not_eq_false'] at ht
  obtain ⟨⟨h1, h2⟩, h3⟩ := ht
  show Ef (Er sh.env (Pf _ _ x)) t (bif BX t sh.keep then st.env t else .bot) = _
  rw [Iy _ _ _ (by rw [I0]; exact GI h2), h1, cond_true]
  exact h.e t h3
 ·simp only [Az.behind, Bool.or_eq_false_iff, Bool.not_eq_false'] at hi
  obtain ⟨⟨h1, h2⟩, h3⟩ := hi
  show Dk (C1 sh.heap (Ni _ _ x)) i (bif BX i sh.AN then st.heap i else .none) = _
  rw [Iz _ _ _ (by rw [HC]; exact GI h2), h1, cond_true]
  exact h.h i h3
theorem Qi {X Y : Type} {inj : X -> Y} {m : Option X} {n : Nat} {st : St} {D : Az} {z : Y} (h : (AKi inj m n st D).run = some z) : ∃ x, m = some x /\ z = inj x := by
 cases m with
 | none => cases h
 | some x => injection h with h; exact ⟨x, rfl, h.symm⟩
def InR {R : Type} (K : Me R) : Prop := ∀ (Y : Type) (inj : R -> Y) (z : Y) e st' D', (K Y inj e st' D').run = some z -> ∃ r, z = inj r
theorem GK {R : Type} {n : Nat} {fix : List Nat} {sh : Shape} {s0 : St} {D : Az} {K : Me R} (hK : InR K) : InR (XQ n fix sh s0 D K) := by
 intro Y inj z e st' D' h
 cases e with
 | normal => obtain ⟨x, _, hz⟩ := Qi h; exact ⟨_, hz⟩
 | exit => obtain ⟨r, hr⟩ := hK _ _ _ _ _ _ h; exact ⟨_, hr⟩
 | goto => obtain ⟨r, hr⟩ := hK _ _ _ _ _ _ h; exact ⟨_, hr⟩
 | ret => obtain ⟨r, hr⟩ := hK _ _ _ _ _ _ h; exact ⟨_, hr⟩
 | panic => obtain ⟨r, hr⟩ := hK _ _ _ _ _ _ h; exact ⟨_, hr⟩
 | outgrown => obtain ⟨r, hr⟩ := hK _ _ _ _ _ _ h; exact ⟨_, hr⟩
theorem L8 {X R : Type} {m : Option (X ⊕ R)} {k : X -> Option R} {z : R} (h : L0 m k = some z) : (∃ x, m = some (.inl x) /\ k x = some z) \/ m = some (.inr z) := by
 unfold L0 at h
 split at h
 ·exact .inl ⟨_, rfl, h⟩
 ·injection h with h; subst h; exact .inr rfl
 ·cases h
theorem U0 {X R : Type} {b : X -> Option (X ⊕ R)} {n : Nat} {x : X} {z : R} (h : AQ b (n + 1) x = some z) : (∃ y, b x = some (.inl y) /\ AQ b n y = some z) \/ b x = some (.inr z) := by
 unfold AQ at h
 split at h
 ·exact .inl ⟨_, by assumption, h⟩
 ·injection h with h; subst h; exact .inr (by assumption)
 ·cases h
theorem L9 {X R Y : Type} {inj : R -> Y} {b : X -> Option (X ⊕ Y)} (hb : ∀ x z, b x = some z -> ∃ r : X ⊕ R, z = smap inj r) : ∀ (n : Nat) (x : X) (z : Y), AQ b n x = some z -> ∃ r, z = inj r
 | 0, _, _, h => by cases h
 | n + 1, x, z, h => by
  unfold AQ at h
  split at h
  ·exact L9 hb n _ z h
  ·rename_i r hr
   injection h with h
   subst h
   obtain ⟨q, hq⟩ := hb _ _ hr
   cases q with
   | inl y => cases hq
   | inr y => injection hq with hq; exact ⟨y, hq⟩
  ·cases h
theorem R1 : ∀ (c : Code) {R : Type} {st : St} {D : Az} {K : Me R} {Y : Type} {inj : R -> Y} {z : Y}, (BP C c st D K Y inj).run = some z -> InR K -> ∃ r, z = inj r := by
 intro c
 induction c with
 | skip => intro R st D K Y inj z h hK; exact hK _ _ _ _ _ _ h
 | label l => intro R st D K Y inj z h hK; exact hK _ _ _ _ _ _ h
 | exit id => intro R st D K Y inj z h hK; exact hK _ _ _ _ _ _ h
 | ret => intro R st D K Y inj z h hK; exact hK _ _ _ _ _ _ h
 | region id ops draw =>
  intro R st D K Y inj z h hK
  obtain ⟨st', D', h1, _, _⟩ := CV h (Frm.refl st D)
  exact hK _ _ _ _ _ _ h1
 | seq x y ihx ihy =>
  intro R st D K Y inj z h hK
  simp only [BP] at h
  split at h
  ·refine ihx h fun Y inj z e st' D' h => ?_
   cases e with
   | normal => exact ihy h hK
   | exit => exact hK _ _ _ _ _ _ h
   | goto => exact hK _ _ _ _ _ _ h
   | ret => exact hK _ _ _ _ _ _ h
   | panic => exact hK _ _ _ _ _ _ h
   | outgrown => exact hK _ _ _ _ _ _ h
  ·rcases L8 h with ⟨q, _, h2⟩ | h2
   ·exact ihy h2 hK
   ·obtain ⟨r, hr⟩ := ihx h2 (GK hK)
    cases r with
    | inl y => cases hr
    | inr y => injection hr with hr; exact ⟨y, hr⟩
 | cond c x y ihx ihy =>
  intro R st D K Y inj z h hK
  simp only [BP] at h
  split at h
  ·simp only [Prog.run] at h
   rename_i v hv
   cases v with
   | true => exact ihx h hK
   | false => exact ihy h hK
  ·cases h
 | block id x ih =>
  intro R st D K Y inj z h hK
  simp only [BP] at h
  refine ih h fun Y inj z e st' D' h => ?_
  cases e with
  | exit id' =>
   simp only at h
   cases hz : Nat.beq id' id <;> rw [hz] at h <;> exact hK _ _ _ _ _ _ h
  | normal => exact hK _ _ _ _ _ _ h
  | goto => exact hK _ _ _ _ _ _ h
  | ret => exact hK _ _ _ _ _ _ h
  | panic => exact hK _ _ _ _ _ _ h
  | outgrown => exact hK _ _ _ _ _ _ h
 | scope x ih =>
  intro R st D K Y inj z h hK
  simp only [BP] at h
  refine ih h fun Y inj z e st' D' h => ?_
  cases e with
  | goto => cases h
  | normal => exact hK _ _ _ _ _ _ h
  | exit => exact hK _ _ _ _ _ _ h
  | ret => exact hK _ _ _ _ _ _ h
  | panic => exact hK _ _ _ _ _ _ h
  | outgrown => exact hK _ _ _ _ _ _ h
 | loop x ih =>
  intro R st D K Y inj z h hK
  simp only [BP] at h
  split at h
  ·split at h
   ·exact L9 (fun x z hz => ih hz (GK hK)) _ _ _ h
   ·cases h
  ·cases h
 | _ => intro R st D K Y inj z h; cases h
theorem U1 {X R Y : Type} {f : R -> Y} (hf : Function.Injective f) : Function.Injective (smap (X := X) f) := by
 intro a b h
 cases a <;> cases b <;> simp only [smap] at h
 ·injection h with h; rw [h]
 ·cases h
 ·cases h
 ·injection h with h; rw [hf h]
def AHM {X R : Type} (D0 : List Deferred) (φ0 : Hnd) (ow0 : Own) (w0 : World) (S : X -> St) (Q : R -> Exit -> Act -> World -> Prop) : X ⊕ R -> Exit -> Act -> World -> Prop
 | .inl x, .normal, a, w => BN D0 φ0 ow0 w0 (S x) a w
 | .inl _, _, _, _ => False
 | .inr _, .normal, _, _ => False
 | .inr r, e, a, w => Q r e a w
def KOk {R : Type} (D0 : List Deferred) (φ0 : Hnd) (ow0 : Own) (w0 : World) (base : St) (K : Me R) (Q : R -> Exit -> Act -> World -> Prop) : Prop :=
 ∀ (Y : Type) (inj : R -> Y), Function.Injective inj -> ∀ (r : R) e st' D', (K Y inj e st' D').run = some (inj r) -> Frm base st' D' -> ∀ a' w', BN D0 φ0 ow0 w0 st' a' w' -> Q r e a' w'
theorem Z2 {R : Type} {n : Nat} {fix : List Nat} (hbase : ∀ id, id ∉ fix -> φ0 id = none) {sh : Shape} {s0 b0 base : St} {D : Az} {K : Me R} {Q : R -> Exit -> Act -> World -> Prop} (hR : InR K) (hK : KOk D0 φ0 ow0 w0 base K Q)
  (hb : ∀ st' D', Frm b0 st' D' -> ADX sh s0 st' D') (hB : ∀ st' D', Frm b0 st' D' -> Frm base st' (D.plus D')) : KOk D0 φ0 ow0 w0 b0 (XQ n fix sh s0 D K) (AHM D0 φ0 ow0 w0 (fun x => Dw sh.ann x s0) Q) := by
 intro Y inj hi rb e st' D' h hf a' w' hs
 have other : ∀ e, e ≠ .normal -> (K Y (fun r => inj (.inr r)) e st' (D.plus D')).run = some (inj rb) -> AHM D0 φ0 ow0 w0 (fun x => Dw sh.ann x s0) Q rb e a' w' := by
  intro e he h
  obtain ⟨r, hr⟩ := hR _ _ _ _ _ _ h
  have := hi hr
  subst this
  have hq := hK _ _ (fun a b hab => by have := hi hab; injection this) r e st' _ h (hB _ _ hf) a' w' hs
  cases e <;> first | exact absurd rfl he | exact hq
 cases e with
 | normal =>
  obtain ⟨x, hx, hz⟩ := Qi h
  have := hi hz
  subst this
  exact ADY hbase hx (hb _ _ hf) hs
 | exit => exact other _ (by simp) h
 | goto => exact other _ (by simp) h
 | ret => exact other _ (by simp) h
 | panic => exact other _ (by simp) h
 | outgrown => exact other _ (by simp) h
theorem Frm.ADZ {sh : Shape} {x : sh.ty.den} {st st' : St} {D' : Az} (h : Frm (Dw sh.ann x st) st' D') : ADX sh st st' D' := by
 refine ⟨fun t h1 h2 h3 => (h.e t h3).trans ?_, fun i h1 h2 h3 => (h.h i h3).trans ?_⟩
 ·show Ef (Er sh.env (Pf _ _ x)) t (bif BX t sh.keep then st.env t else .bot) = _
  rw [Iy _ _ _ (by rw [I0]; exact GI h2), h1, cond_true]
 ·show Dk (C1 sh.heap (Ni _ _ x)) i (bif BX i sh.AN then st.heap i else .none) = _
  rw [Iz _ _ _ (by rw [HC]; exact GI h2), h1, cond_true]
theorem ADa {base st st' : St} {D D' : Az} (h : Frm st st' D') (hf : Frm base st D) : Frm base st' (D.plus D') := by
 refine ⟨fun t ht => ?_, fun i hi => ?_⟩
 ·simp only [Az.plus, Bool.or_eq_false_iff] at ht
  exact (h.e t ht.2).trans (hf.e t ht.1)
 ·simp only [Az.plus, Bool.or_eq_false_iff] at hi
  exact (h.h i hi.2).trans (hf.h i hi.1)
theorem Qj (hS : ∀ f, AT C.P f (C.S f)) (hm : C.P.follows .mixedOrders = true) (hbase : ∀ id, id ∉ C.fix -> φ0 id = none) : ∀ (c : Code) {R : Type} {st base : St} {D : Az} {K : Me R} {Y : Type} {inj : R -> Y} {r : R}, Function.Injective inj -> (BP C c st D K Y inj).run = some (inj r) -> Frm base st D ->
  ∀ {Q : R -> Exit -> Act -> World -> Prop}, InR K -> KOk D0 φ0 ow0 w0 base K Q -> ∀ {a : Act} {w : World}, BN D0 φ0 ow0 w0 st a w -> c.wp C.P (Q r) a w := by
 intro c
 induction c with
 | skip => intro R st base D K Y inj r hi h hf Q hR hK a w hs; exact wp_skip (hK _ _ hi _ _ _ _ h hf _ _ hs)
 | label l => intro R st base D K Y inj r hi h hf Q hR hK a w hs; exact wp_label (hK _ _ hi _ _ _ _ h hf _ _ hs)
 | exit id => intro R st base D K Y inj r hi h hf Q hR hK a w hs; exact wp_exit (hK _ _ hi _ _ _ _ h hf _ _ hs)
 | ret => intro R st base D K Y inj r hi h hf Q hR hK a w hs; exact wp_ret (hK _ _ hi _ _ _ _ h hf _ _ hs)
 | region id ops draw =>
  intro R st base D K Y inj r hi h hf Q hR hK a w hs
  obtain ⟨st', D', h1, h2, h3⟩ := CV h hf
  exact Kz (C := C.cfg) hS hm (h3 (· = st') rfl) hs fun st2 h2' a' w' hs' => by
   subst h2'
   exact hK _ _ hi _ _ _ _ h1 h2 _ _ hs'
 | seq x y ihx ihy =>
  intro R st base D K Y inj r hi h hf Q hR hK a w hs
  simp only [BP] at h
  refine wp_seq ?_
  split at h
  ·refine wp_mono (ihx hi h hf (Q := fun r e a w => match e with
    | .normal => y.wp C.P (Q r) a w
    | e => Q r e a w) ?_ ?_ hs) fun e a' w' hq => ?_
   ·intro Y inj z e st' D' h
    cases e with
    | normal => exact R1 y h hR
    | exit => exact hR _ _ _ _ _ _ h
    | goto => exact hR _ _ _ _ _ _ h
    | ret => exact hR _ _ _ _ _ _ h
    | panic => exact hR _ _ _ _ _ _ h
    | outgrown => exact hR _ _ _ _ _ _ h
   ·intro Y inj hi r e st' D' hk hf' a' w' hs'
    cases e with
    | normal => exact ihy hi hk hf' hR hK hs'
    | exit => exact hK _ _ hi _ _ _ _ hk hf' _ _ hs'
    | goto => exact hK _ _ hi _ _ _ _ hk hf' _ _ hs'
    | ret => exact hK _ _ hi _ _ _ _ hk hf' _ _ hs'
    | panic => exact hK _ _ hi _ _ _ _ hk hf' _ _ hs'
    | outgrown => exact hK _ _ hi _ _ _ _ hk hf' _ _ hs'
   ·cases e <;> exact hq
  ·rename_i sh hsh
   have hQ := Z2 (Q := Q) (n := BQ y) (fix := C.fix) (s0 := st) (sh := sh) (b0 := st) hbase hR hK (fun st' D' h => h.toS) (fun st' D' h => ADa h hf)
   have body : ∀ rb : sh.ty.den ⊕ R, (BP C x st Az.no (XQ (BQ y) C.fix sh st D K) (sh.ty.den ⊕ Y) (smap inj)).run = some (smap inj rb) -> x.wp C.P (AHM D0 φ0 ow0 w0 (fun x => Dw sh.ann x st) Q rb) a w :=
    fun rb hz => ihx (U1 hi) hz (Frm.refl st _) (GK hR) hQ hs
   rcases L8 h with ⟨q, h1, h2⟩ | h2
   ·refine wp_mono (body (.inl q) h1) fun e a' w' hq => ?_
    cases e with
    | normal => exact ihy hi h2 (hf.behind q) hR hK hq
    | exit => exact hq.elim
    | goto => exact hq.elim
    | ret => exact hq.elim
    | panic => exact hq.elim
    | outgrown => exact hq.elim
   ·refine wp_mono (body (.inr r) h2) fun e a' w' hq => ?_
    cases e with
    | normal => exact hq.elim
    | exit => exact hq
    | goto => exact hq
    | ret => exact hq
    | panic => exact hq
    | outgrown => exact hq
 | cond c x y ihx ihy =>
  intro R st base D K Y inj r hi h hf Q hR hK a w hs
  simp only [BP] at h
  have hev : (Ah st.env c).holds hs.choose hs.choose_spec.choose w [a.eval c] := Bd hs.choose_spec.choose_spec.2.2.1 c
  split at h
  ·rename_i v hv
   rw [hv] at hev
   have hb := BL hev
   simp only [Prog.run] at h
   cases v with
   | true =>
    have h' : (BP C x st D K Y inj).run = some (inj r) := by
     simp only [cond_true] at h
     cases c with
     | tmp t => simp only at h; rw [Cg hv] at h; exact h
     | _ => exact h
    exact wp_cond hb (ihx hi h' hf hR hK hs)
   | false =>
    have h' : (BP C y st D K Y inj).run = some (inj r) := by
     simp only [cond_false] at h
     cases c with
     | tmp t => simp only at h; rw [Cg hv] at h; exact h
     | _ => exact h
    exact wp_cond hb (ihy hi h' hf hR hK hs)
  ·cases h
 | block id x ih =>
  intro R st base D K Y inj r hi h hf Q hR hK a w hs
  simp only [BP] at h
  refine wp_block (wp_mono (ih hi h hf (Q := fun r e a w => match e with
   | .exit id' => bif Nat.beq id' id then Q r .normal a w else Q r (.exit id') a w
   | e => Q r e a w) ?_ ?_ hs) fun e a' w' hq => ?_)
  ·intro Y inj z e st' D' h
   cases e with
   | exit id' =>
    simp only at h
    cases hz : Nat.beq id' id <;> rw [hz] at h <;> exact hR _ _ _ _ _ _ h
   | normal => exact hR _ _ _ _ _ _ h
   | goto => exact hR _ _ _ _ _ _ h
   | ret => exact hR _ _ _ _ _ _ h
   | panic => exact hR _ _ _ _ _ _ h
   | outgrown => exact hR _ _ _ _ _ _ h
  ·intro Y inj hi r e st' D' hk hf' a' w' hs'
   cases e with
   | exit id' =>
    simp only at hk ⊢
    cases hz : Nat.beq id' id with
    | true => rw [hz] at hk; exact hK _ _ hi _ _ _ _ hk hf' _ _ hs'
    | false => rw [hz] at hk; exact hK _ _ hi _ _ _ _ hk hf' _ _ hs'
   | normal => exact hK _ _ hi _ _ _ _ hk hf' _ _ hs'
   | goto => exact hK _ _ hi _ _ _ _ hk hf' _ _ hs'
   | ret => exact hK _ _ hi _ _ _ _ hk hf' _ _ hs'
   | panic => exact hK _ _ hi _ _ _ _ hk hf' _ _ hs'
   | outgrown => exact hK _ _ hi _ _ _ _ hk hf' _ _ hs'
  ·cases e with
   | exit id' =>
    simp only at hq
    simp only [Exit.inBlock]
    cases hz : Nat.beq id' id with
    | true =>
     rw [hz] at hq
     rw [if_pos (Nat.eq_of_beq_eq_true hz)]
     exact hq
    | false =>
     rw [hz] at hq
     rw [if_neg (fun e => by rw [e, Nat.beq_refl] at hz; cases hz)]
     exact hq
   | normal => exact hq
   | goto => exact hq
   | ret => exact hq
   | panic => exact hq
   | outgrown => exact hq
 | scope x ih =>
  intro R st base D K Y inj r hi h hf Q hR hK a w hs
  simp only [BP] at h
  refine wp_scope_straight (wp_mono (ih hi h hf (Q := fun r e a w => match e with
   | .goto _ => False
   | e => Q r e a w) ?_ ?_ hs) fun e a' w' hq => ?_)
  ·intro Y inj z e st' D' h
   cases e with
   | goto => cases h
   | normal => exact hR _ _ _ _ _ _ h
   | exit => exact hR _ _ _ _ _ _ h
   | ret => exact hR _ _ _ _ _ _ h
   | panic => exact hR _ _ _ _ _ _ h
   | outgrown => exact hR _ _ _ _ _ _ h
  ·intro Y inj hi r e st' D' hk hf' a' w' hs'
   cases e with
   | goto => cases hk
   | normal => exact hK _ _ hi _ _ _ _ hk hf' _ _ hs'
   | exit => exact hK _ _ hi _ _ _ _ hk hf' _ _ hs'
   | ret => exact hK _ _ hi _ _ _ _ hk hf' _ _ hs'
   | panic => exact hK _ _ hi _ _ _ _ hk hf' _ _ hs'
   | outgrown => exact hK _ _ hi _ _ _ _ hk hf' _ _ hs'
  ·cases e with
   | goto => exact hq.elim
   | normal => exact hq
   | exit => exact hq
   | ret => exact hq
   | panic => exact hq
   | outgrown => exact hq
 | loop x ih =>
  intro R st base D K Y inj r hi h hf Q hR hK a w hs
  simp only [BP] at h
  split at h <;> try (cases h; done)
  rename_i L hL
  split at h <;> try (cases h; done)
  rename_i x0 hx0
  simp only [Prog.run] at h
  have hstart := ADY hbase hx0 (Frm.refl st _).toS hs
  refine wp_loop_ghost (fun n a w => ∃ x1 : L.sh.ty.den, AQ (fun x1 => (BP C x (Dw L.sh.ann x1 st) Az.no (XQ (BQ x) C.fix L.sh st (D.behind L.sh) K) (L.sh.ty.den ⊕ Y) (smap inj)).run) n x1 = some (inj r) /\ BN D0 φ0 ow0 w0 (Dw L.sh.ann x1 st) a w) (L.fuel x0) ⟨x0, h, hstart⟩ ?_
  rintro n a' w' ⟨x1, hx1, hs1⟩
  cases n with
  | zero => cases hx1
  | succ n =>
   have hQ := Z2 (Q := Q) (n := BQ x) (fix := C.fix) (s0 := st) (sh := L.sh) (b0 := Dw L.sh.ann x1 st) hbase hR hK (fun st' D' h => h.ADZ) (fun st' D' h => ADa h (hf.behind x1))
   have body : ∀ rb : L.sh.ty.den ⊕ R, (BP C x (Dw L.sh.ann x1 st) Az.no (XQ (BQ x) C.fix L.sh st (D.behind L.sh) K) (L.sh.ty.den ⊕ Y) (smap inj)).run = some (smap inj rb) -> x.wp C.P (AHM D0 φ0 ow0 w0 (fun x => Dw L.sh.ann x st) Q rb) a' w' :=
    fun rb hz => ih (U1 hi) hz (Frm.refl _ _) (GK hR) hQ hs1
   rcases U0 hx1 with ⟨y, hy, hx1⟩ | hz
   ·refine wp_mono (body (.inl y) hy) fun e a'' w'' hq => ?_
    cases e with
    | normal => exact ⟨n, Nat.lt_succ_self n, y, hx1, hq⟩
    | exit => exact hq.elim
    | goto => exact hq.elim
    | ret => exact hq.elim
    | panic => exact hq.elim
    | outgrown => exact hq.elim
   ·refine wp_mono (body (.inr r) hz) fun e a'' w'' hq => ?_
    cases e with
    | normal => exact hq.elim
    | exit => exact hq
    | goto => exact hq
    | ret => exact hq
    | panic => exact hq
    | outgrown => exact hq
 | _ => intro R st base D K Y inj r hi h; cases h
end
end AL
end
section
set_option linter.unusedVariables false
set_option linter.unusedSimpArgs false
namespace AL
open Go
@[reducible] def AY : List (TypeId × AW) -> Ty
 | [] => .unit
 | (_, p) :: r => .pair p.ty (AY r)
def Cj : List (TypeId × AW) -> Nat
 | [] => 0
 | (_, p) :: r => p.size + Cj r
structure AG where
 args : AW
 Aa : List (TypeId × AW)
 res : AW
 news : List (TypeId × AW)
@[reducible] def AG.oty (S : AG) : Ty := .pair S.res.ty (.pair (AY S.Aa) (AY S.news))
def IL : List (Nat × Nat) -> Nat -> Option Nat
 | [], _ => Option.none
 | (x, y) :: r, n => bif Nat.beq x n then some y else IL r n
def R2 : (l : List (TypeId × AW)) -> (n c : Nat) -> List (Nat × Nat) -> ((AY l).den -> It -> List (Nat × AV) -> Req) -> Req
 | [], _, _, _, k => k () It.nil []
 | (e, p) :: r, n, c, on, k => match IL on n with
  | some id => .look id fun
   | .box e' cells => if e' = e then BZ p c cells fun x it => R2 r (n + 1) (c + p.size) (on ++ it.Aa) fun y it' og => k (x, y) (It.app it it') ((id, cells) :: og) else .fail
   | _ => .fail
  | Option.none => .fail
def Cu (it : It) : List Nat := (it.own.map (·.2)).flatten
def Nt (k : Nat) (on : List (Nat × Nat)) : Bool := on.all fun p => Nat.blt p.1 k && match IL on p.1 with
 | some id => Nat.beq id p.2
 | Option.none => false
def Ty.flat : Ty -> Bool
 | .int _ => true
 | .bool => true
 | .str => true
 | .fnT => true
 | .unit => true
 | .pair a b => a.flat && b.flat
 | _ => false
def Knd.flat : Knd -> Bool
 | .mp _ V => V.flat
 | .ch => true
 | .fm _ l => (Ji l).all Ty.flat
 | .fl _ _ c => (FE c).all Ty.flat
def AW.flat : AW -> Bool
 | .nil => true
 | .val T r => T.flat && r.flat
 | .AI _ r => r.flat
 | .own _ T r => T.flat && r.flat
 | .By _ _ T r => T.flat && r.flat
 | .Cr _ r => r.flat
 | .Ch _ _ T _ r => T.flat && r.flat
 | .skip r => r.flat
 | .E8 r => r.flat
 | .obj _ r => r.flat
 | .D5 _ _ r => r.flat
 | .clo _ c r => c.flat && r.flat
 | .agg q r => q.flat && r.flat
 | .DM k r => k.flat && r.flat
def Jm : List (TypeId × AW) -> Bool
 | [] => true
 | (_, p) :: r => p.flat && Jm r
def AG.flat (S : AG) : Bool := S.res.flat && Jm S.Aa && Jm S.news
def D7 (o : Nat) (ob : Nat -> Nat) : (l : List (TypeId × AW)) -> Nat -> List (Nat × AV) -> (AY l).den -> Upd
 | (e, p) :: r, c, (id, g) :: og, x => (id, .box e (p.back o ob c g x.1)) :: (p.Ci o ob c x.1 ++ D7 o ob r (c + p.size) og x.2)
 | _, _, _, _ => []
def Fh (o : Nat) (ob : Nat -> Nat) : (l : List (TypeId × AW)) -> Nat -> Nat -> (AY l).den -> Upd
 | [], _, _, _ => []
 | (e, p) :: r, c, id, x => (id, .box e (p.back o ob c .bot x.1)) :: (p.Ci o ob c x.1 ++ Fh o ob r (c + p.size) (id + 1) x.2)
def U2 : AV -> AV
 | .cons a .nil => a
 | .cons a b => .tup (.cons a b)
 | .nil => .tup .nil
 | _ => .bot
def H7 (og : List (Nat × AV)) (rows : List (Nat × Nat)) (k nx : Nat) : Nat -> Nat := fun n => bif Nat.blt n 1000 then (bif Nat.blt n k then (og.map (·.1)).getD n 0 else nx + 48 + (n - k)) else (IL rows (n - 1000)).getD 0
def Hu : List (TypeId × AW) -> Nat -> List Nat
 | [], _ => []
 | (_, p) :: r, c => p.Cy c ++ Hu r (c + p.size)
def Fi : List (TypeId × AW) -> List Nat
 | [] => []
 | (_, p) :: r => p.refs ++ Fi r
def AG.c1 (S : AG) : Nat := 16 + S.args.size
def AG.c2 (S : AG) : Nat := S.c1 + Cj S.Aa
def DH : List (TypeId × AW) -> Nat -> List Nat
 | [], _ => []
 | (_, p) :: r, c => p.CK c ++ DH r (c + p.size)
def AG.fits (S : AG) : Bool := Nat.ble S.res.size 16 && Nat.ble (S.c2 + Cj S.news) 48 && Nat.ble (S.Aa.length + 1) 16 && Nat.ble S.news.length 16 && (S.res.CK 0).isEmpty && (DH S.news S.c2).isEmpty && S.res.refs.isEmpty && (Fi S.news).isEmpty
def AG.AF (S : AG) (m : S.args.ty.den -> (AY S.Aa).den -> Option S.oty.den) : Bo := fun av nx =>
 BZ S.args 16 av fun xa ita => R2 S.Aa 0 S.c1 ita.Aa fun xo ito og =>
  let it := It.app ita ito
  let X := og.map (·.1) ++ Cu it
  let ob := H7 og it.rows S.Aa.length nx
  if FM X && (!(Bn X (it.EO ++ ids it.sls)) && (Nt S.Aa.length it.Aa && (S.fits && ((it.EO.isEmpty || S.flat) && (Fi S.Aa).all fun k => (IL it.rows k).isSome)))) then
   .call (m xa xo) fun y => .out ⟨[], U2 (S.res.back nx ob 0 .bot y.1),
    S.res.Ci nx ob 0 y.1 ++ D7 nx ob S.Aa S.c1 og y.2.1 ++ Fh nx ob S.news S.c2 (nx + 48) y.2.2 ++ (Cu it).map (fun j => (j, .none)) ++ it.sls⟩
  else .fail
def Nu : (l : List (TypeId × AW)) -> (n c : Nat) -> (AY l).den -> List (Nat × Chunk)
 | [], _, _, _ => []
 | (e, p) :: r, n, c, x => (n + 1, .box e (p.av true c x.1)) :: (p.heap c x.1 ++ Nu r (n + 1) (c + p.size) x.2)
def AG.init (S : AG) (xa : S.args.ty.den) (xo : (AY S.Aa).den) (n : Nat) : St where
 env := Gd (S.args.av false 16 xa)
 heap := fun id => Dk (S.args.heap 16 xa ++ Nu S.Aa 0 S.c1 xo) id .none
 next := 64
 n := n
def B0 (P : Program) (env : Nat -> AV) (heap : Nat -> Chunk) : List ResultVar -> Option AV
 | [] => some .nil
 | .tmp t :: r => (B0 P env heap r).map fun l => .cons (env t) l
 | .cell a t :: r => match env a with
  | .ref id 0 => match (FA P t (.ref id 0)).run heap with
   | some o => (B0 P env heap r).map fun l => .cons o.res l
   | Option.none => Option.none
  | _ => Option.none
def Hv : (l : List (TypeId × AW)) -> (ids : List Nat) -> (c : Nat) -> ((AY l).den -> It -> Req) -> Req
 | [], _, _, k => k () It.nil
 | (e, p) :: r, id :: is, c, k => .look id fun
  | .box e' cells => if e' = e then BA p c cells fun x it => Hv r is (c + p.size) fun y it' => k (x, y) (It.app it it') else .fail
  | _ => .fail
 | _, _, _, _ => .fail
def Mf : Nat -> Nat -> List Nat
 | 0, _ => []
 | n + 1, k => k :: Mf n (k + 1)
def ADb (k : Nat) (new : List Nat) (on : List (Nat × Nat)) : Bool := on.all fun p => bif Nat.blt p.1 k then Nat.beq p.2 (p.1 + 1) else match new[p.1 - k]? with
 | some id => Nat.beq id p.2
 | Option.none => false
def CD : AW -> AV -> List (Nat × Nat)
 | .obj n r, .cons (.ref id 0) b => (n, id) :: CD r b
 | .D5 _ n r, .cons (.bfn id _) b => (n, id) :: CD r b
 | .obj _ r, .cons _ b => CD r b
 | .D5 _ _ r, .cons _ b => CD r b
 | .val _ r, .cons _ b => CD r b
 | .AI _ r, .cons _ b => CD r b
 | .own _ _ r, .cons _ b => CD r b
 | .By _ _ _ r, .cons _ b => CD r b
 | .Cr _ r, .cons _ b => CD r b
 | .Ch _ _ _ _ r, .cons _ b => CD r b
 | .skip r, .cons _ b => CD r b
 | .E8 r, .cons _ b => CD r b
 | .clo _ _ r, .cons _ b => CD r b
 | .agg _ r, .cons _ b => CD r b
 | .DM _ r, .cons _ b => CD r b
 | _, _ => []
def Mx : (l : List (TypeId × AW)) -> Nat -> List (Nat × Nat) -> (List Nat -> Req) -> Req
 | [], _, _, k => k []
 | (_, p) :: r, n, on, k => match IL on n with
  | some id => .look id fun
   | .box _ cells => Mx r (n + 1) (on ++ CD p cells) fun l => k (id :: l)
   | _ => .fail
  | Option.none => .fail
theorem Jn {hp : Nat -> Chunk} {out : Out} : ∀ {l : List (TypeId × AW)} {n : Nat} {on : List (Nat × Nat)} {k : List Nat -> Req}, (Mx l n on k).run hp = some out -> ∃ new, new.length = l.length /\ (k new).run hp = some out
 | [], _, _, _, h => ⟨[], rfl, h⟩
 | (_, p) :: r, n, on, k, h => by
  simp only [Mx] at h
  split at h <;> try (simp [Req.run] at h; done)
  simp only [Req.run] at h
  split at h <;> try (simp [Req.run] at h; done)
  obtain ⟨new, h1, h2⟩ := Jn h
  exact ⟨_, by simp [h1], h2⟩
def AG.CZ (S : AG) (l : AV) : Req :=
 BA S.res 0 l fun yr itr => Mx S.news S.Aa.length itr.Aa fun new => Hv S.Aa (Mf S.Aa.length 1) S.c1 fun yo ito => Hv S.news new S.c2 fun yn itn =>
   let it := It.app itr (It.app ito itn)
   let X := Mf S.Aa.length 1 ++ new ++ Cu it
   if FM X && (!(BX 0 X || BX 0 (ids it.sls)) && (!(Bn X (ids it.sls)) && ADb S.Aa.length new it.Aa)) then
    .out ⟨[], .dat S.oty (yr, yo, yn), []⟩
   else .fail
def AG.Fj (S : AG) (P : Program) (fn : Func) : Me S.oty.den := fun Y inj e st _ =>
 match e with
 | .normal | .ret => match B0 P st.env st.heap fn.results.toList with
  | some l => II st.heap (S.CZ l) fun o _ => match Gk S.oty o.res with
   | some y => .ret (inj y)
   | Option.none => .fail 20
  | Option.none => .fail 21
 | _ => .fail 22
def AG.fix (S : AG) : List Nat := Mf S.Aa.length 1 ++ (DH S.Aa S.c1 ++ (S.args.Cy 16 ++ Hu S.Aa S.c1))
def AG.prog (S : AG) (C : DV) (fn : Func) (xa : S.args.ty.den) (xo : (AY S.Aa).den) : Prog S.oty.den :=
 match fn.body with
 | some c => BP { C with fix := S.fix } c (S.init xa xo fn.ntmps) Az.no (S.Fj C.P fn) S.oty.den fun y => y
 | Option.none => .fail 23
end AL
end
section
set_option linter.unusedVariables false
set_option linter.unusedSimpArgs false
namespace AL
open Go
section
variable {φ : Hnd} {ow : Own} {w : World} {hp : Nat -> Chunk} {nx : Nat}
theorem K9 : ∀ {l : List (Nat × Nat)} {n id : Nat}, IL l n = some id -> (n, id) ∈ l
 | (x, y) :: r, n, id, h => by
  unfold IL at h
  cases hx : Nat.beq x n with
  | false => rw [hx] at h; exact List.mem_cons_of_mem _ (K9 h)
  | true =>
   rw [hx] at h
   injection h with h
   rw [Nat.eq_of_beq_eq_true hx, h]
   simp
def XS (hp : Nat -> Chunk) : List (TypeId × AW) -> List (Nat × AV) -> Prop
 | [], og => og = []
 | (e, _) :: r, og => ∃ id cells og', og = (id, cells) :: og' /\ hp id = .box e cells /\ XS hp r og'
def HD (φ : Hnd) (ow : Own) (w : World) (vs : Nat -> Value) : List (TypeId × AW) -> Nat -> List (Nat × AV) -> Prop
 | [], _, _ => True
 | (_, p) :: r, c, og => DS φ ow w vs p c (og.headD (0, .bot)).2 /\ HD φ ow w vs r (c + p.size) og.tail
theorem MA {φ' : Hnd} {ow' : Own} {w' : World} {vs : Nat -> Value} (hp : Aw φ φ') (hk : A8 ow w ow' w') : ∀ (l : List (TypeId × AW)) (c : Nat) (og : List (Nat × AV)), HD φ ow w vs l c og -> HD φ' ow' w' vs l c og
 | [], _, _, _ => trivial
 | (_, p) :: r, c, og, h => ⟨BW hp hk p c _ h.1, MA hp hk r _ _ h.2⟩
structure ADc (hp : Nat -> Chunk) (φ : Hnd) (ow : Own) (w : World) (l : List (TypeId × AW)) (n c : Nat) (on : List (Nat × Nat)) (x : (AY l).den) (it : It) (og : List (Nat × AV)) (hv : Nat -> Option Value) : Prop where
 sld : A3 φ (AM (ids it.sls) ow) w it.sls
 own : ∀ t d, (t, d) ∈ it.own -> c <= t /\ t < c + Cj l /\ ∃ v, hv t = some v
 AK7 : ∀ t v, hv t = some v -> c <= t /\ t < c + Cj l
 sk : ∀ t ∈ DH l c, ∃ v, hv t = some v
 len : og.length = l.length
 find : ∀ k id cells, og[k]? = some (id, cells) -> (n + k, id) ∈ on ++ it.Aa
 box : XS hp l og
 AK8 : ∀ vs : Nat -> Value, (∀ t v, hv t = some v -> vs t = v) -> HD φ ow w vs l c og
 lh : ∀ t id, (t, id) ∈ it.rows -> t ∈ Hu l c /\ ∃ v, hv t = some v /\ φ id = some v
 tgt : ∀ (φ' : Hnd) (ow' : Own), (∀ t v, hv t = some v -> φ' t = some v) -> A8 (AM (it.EO ++ ids it.sls) ow) w ow' w -> (∀ t d, (t, d) ∈ it.own -> ∀ g i, i ∈ d -> ow g = some i -> ow' g = some t) ->
  (∀ m id, (m, id) ∈ it.Aa -> φ' (m + 1) = φ id) -> (∀ k id cells, og[k]? = some (id, cells) -> φ' (n + k + 1) = φ id /\ ∀ g, ow g = some id -> ow' g = some (n + k + 1)) -> ∀ j ch, (j, ch) ∈ Nu l n c x -> cH φ' ow' w j ch
theorem Qk (H : Hyp hp nx φ ow w) {out : Out} : ∀ (l : List (TypeId × AW)) (n c : Nat) (on : List (Nat × Nat)) (k : (AY l).den -> It -> List (Nat × AV) -> Req), (R2 l n c on k).run hp = some out ->
  ∃ x it og hv, (k x it og).run hp = some out /\ ADc hp φ ow w l n c on x it og hv
 | [], n, c, on, k, hr =>
  ⟨(), It.nil, [], fun _ => none, hr, fun p hp => (by cases hp), fun t d h => (by cases h), fun t v h => (by cases h), fun t h => (by cases h), rfl, fun k id cells h => (by simp at h), rfl, fun _ _ => trivial, fun t id h => (by cases h), fun φ' ow' _ _ _ _ _ j ch h => (by cases h)⟩
 | (e, p) :: r, n, c, on, k, hr => by
  simp only [R2] at hr
  split at hr <;> try (simp [Req.run] at hr; done)
  rename_i id hid
  simp only [Req.run] at hr
  have hch := H.chunk id
  split at hr <;> try (simp [Req.run] at hr; done)
  rename_i e' cells hc
  rw [hc] at hch
  split at hr <;> try (simp [Req.run] at hr; done)
  rename_i he
  subst he
  obtain ⟨g, cs, hφ, hog, hg, hcells⟩ := hch
  obtain ⟨x, it, hv, hr1, k1, k2, k3, ks, k4, kl, k5⟩ := Zx H (box := true) p c cells _ cs.toList hr hcells
  obtain ⟨y, it', og, hv', hr2, m1, m2, m3, ms, ml, mf, mb, m4, mh, m5⟩ := Qk H r (n + 1) (c + p.size) (on ++ it.Aa) _ hr1
  refine ⟨(x, y), It.app it it', (id, cells) :: og, fun t => if t < c + p.size then hv t else hv' t, hr2, A3.app k1 m1, fun t d h => ?_, fun t v h => ?_, fun t ht => ?_, by simp [ml], fun q id' cells' h => ?_, ⟨id, cells, og, rfl, hc, mb⟩, fun vs hvs => ⟨k4 vs fun t v h => ?_, m4 vs fun t v h => ?_⟩, fun t id h => ?_, fun φ' ow' g1 g2 g3 g4 g5 => ?_⟩
  ·simp only [It.app, List.mem_append] at h
   simp only [Cj]
   rcases h with h | h
   ·have := k2 t d h
    rw [if_pos (by omega)]
    exact ⟨by omega, by omega, this.2.2⟩
   ·have := m2 t d h
    rw [if_neg (by omega)]
    exact ⟨by omega, by omega, this.2.2⟩
  ·simp only [Cj]
   by_cases e : t < c + p.size
   ·rw [if_pos e] at h
    have := k3 t v h
    omega
   ·rw [if_neg e] at h
    have := m3 t v h
    omega
  ·simp only [DH, List.mem_append] at ht
   rcases ht with ht | ht
   ·obtain ⟨v, hv1⟩ := ks rfl t ht
    have := k3 t v hv1
    exact ⟨v, by rw [if_pos (by omega)]; exact hv1⟩
   ·obtain ⟨v, hv1⟩ := ms t ht
    have := m3 t v hv1
    exact ⟨v, by rw [if_neg (by omega)]; exact hv1⟩
  ·cases q with
   | zero =>
    simp only [List.getElem?_cons_zero, Option.some.injEq, Prod.mk.injEq] at h
    obtain ⟨rfl, rfl⟩ := h
    exact List.mem_append_left _ (K9 hid)
   | succ q =>
    have := mf q id' cells' (by simpa using h)
    rw [show n + (q + 1) = n + 1 + q from by omega]
    simp only [It.app, List.mem_append] at this ⊢
    rcases this with (h | h) | h
    ·exact .inl h
    ·exact .inr (.inl h)
    ·exact .inr (.inr h)
  ·have := k3 t v h
   exact hvs t v (by rw [if_pos (by omega)]; exact h)
  ·have := m3 t v h
   exact hvs t v (by rw [if_neg (by omega)]; exact h)
  ·simp only [It.app, List.mem_append] at h
   simp only [Hu, List.mem_append]
   rcases h with h | h
   ·obtain ⟨b0, v', b1, b2⟩ := kl t id h
    have := k3 t v' b1
    exact ⟨.inl b0, v', by rw [if_pos (by omega)]; exact b1, b2⟩
   ·obtain ⟨b0, v', b1, b2⟩ := mh t id h
    have := m3 t v' b1
    exact ⟨.inr b0, v', by rw [if_neg (by omega)]; exact b1, b2⟩
  ·obtain ⟨q1, q2⟩ := k5 φ' ow' (fun t v h => by have := k3 t v h; exact g1 t v (by rw [if_pos (by omega)]; exact h)) (Ai g2 (by simp [It.app, BH]; intro i hi; rcases hi with hi | hi <;> simp [hi]))
    (fun t d h => g3 t d (by simp [It.app, h])) (fun n id h => g4 n id (by simp [It.app, h]))
   have q4 := m5 φ' ow' (fun t v h => by have := m3 t v h; exact g1 t v (by rw [if_neg (by omega)]; exact h)) (Ai g2 (by simp [It.app, BH]; intro i hi; rcases hi with hi | hi <;> simp [hi]))
    (fun t d h => g3 t d (by simp [It.app, h])) (fun n id h => g4 n id (by simp [It.app, h])) (fun q id' cells' h => by
     have := g5 (q + 1) id' cells' (by simpa using h)
     rw [show n + 1 + q + 1 = n + (q + 1) + 1 from by omega]
     exact this)
   intro j ch h
   simp only [Nu, List.mem_cons, List.mem_append] at h
   rcases h with h | h | h
   ·injection h with e1 e2
    subst e1; subst e2
    obtain ⟨p1, p2⟩ := g5 0 id cells rfl
    exact ⟨g, cs, by rw [Nat.add_zero] at p1; rw [p1]; exact hφ, p2 g hog, hg, q1⟩
   ·exact q2 j ch h
   ·exact q4 j ch h
def Jo : List (TypeId × AW) -> List Ty
 | [] => []
 | (_, p) :: r => p.tys ++ Jo r
structure AKj (hp : Nat -> Chunk) (φ : Hnd) (ow : Own) (w : World) (l : List (TypeId × AW)) (is : List Nat) (c : Nat) (x : (AY l).den) (it : It) (hv : Nat -> Option Value) : Prop where
 sld : A3 φ (AM (ids it.sls) ow) w it.sls
 own : ∀ t d, (t, d) ∈ it.own -> c <= t /\ t < c + Cj l /\ ∃ v, hv t = some v
 len : l.length <= is.length
 tgt : ∀ (vs : Nat -> Value) (o : Nat) (ob : Nat -> Nat) (φ' : Hnd) (ow' : Own), (∀ t ∈ DH l c, ∀ v, φ t = some v -> v = vs t) -> (∀ T ∈ Jo l, ∀ cs x, Ty.rep (AM (ids it.sls) ow) w T cs x -> Ty.rep ow' w T cs x) -> (∀ t d, (t, d) ∈ it.own -> φ' (o + t) = hv t /\ ∀ b i, i ∈ d -> ow b = some i -> ow' b = some (o + t)) ->
  (∀ n id, (n, id) ∈ it.Aa -> φ' (ob n) = φ id) -> (∀ k ∈ Fi l, ∀ h, φ k = some h -> φ' (ob (1000 + k)) = some h) ->
  (∀ (og : List (Nat × AV)), og.length = l.length -> HD φ' ow' w vs l c og -> (∀ (k : Nat) (id' : Nat) (cells : AV) (id : Nat), og[k]? = some (id', cells) -> is[k]? = some id -> φ' id' = φ id /\ ∀ b, ow b = some id -> ow' b = some id') -> ∀ q ∈ D7 o ob l c og x, cH φ' ow' w q.1 q.2) /\
  (∀ (m : Nat), HD φ' ow' w vs l c (l.map fun _ => (0, .bot)) -> (∀ (k : Nat) (id : Nat), k < l.length -> is[k]? = some id -> φ' (m + k) = φ id /\ ∀ b, ow b = some id -> ow' b = some (m + k)) -> ∀ q ∈ Fh o ob l c m x, cH φ' ow' w q.1 q.2)
theorem I1 (H : Hyp hp nx φ ow w) {out : Out} : ∀ (l : List (TypeId × AW)) (is : List Nat) (c : Nat) (k : (AY l).den -> It -> Req), (Hv l is c k).run hp = some out ->
  ∃ x it hv, (k x it).run hp = some out /\ AKj hp φ ow w l is c x it hv
 | [], is, c, k, hr =>
  ⟨(), It.nil, fun _ => none, (by cases is <;> exact hr), fun p hp => (by cases hp), fun t d h => (by cases h), Nat.zero_le _, fun vs o ob φ' ow' _ _ _ _ _ => ⟨fun og _ _ _ q hq => (by cases og <;> cases hq), fun m _ _ q hq => (by cases hq)⟩⟩
 | (e, p) :: r, [], c, k, hr => by simp [Hv, Req.run] at hr
 | (e, p) :: r, i :: is, c, k, hr => by
  simp only [Hv, Req.run] at hr
  have hch := H.chunk i
  split at hr <;> try (simp [Req.run] at hr; done)
  rename_i e' cells hc
  rw [hc] at hch
  split at hr <;> try (simp [Req.run] at hr; done)
  rename_i he
  subst he
  obtain ⟨g, cs, hφ, hog, hg, hcells⟩ := hch
  obtain ⟨x, it, hv, hr1, k1, k2, k5⟩ := Ux H p c cells _ cs.toList hr hcells
  obtain ⟨y, it', hv', hr2, m1, m2, ml, m5⟩ := I1 H r is (c + p.size) _ hr1
  refine ⟨(x, y), It.app it it', fun t => if t < c + p.size then hv t else hv' t, hr2, A3.app k1 m1, fun t d h => ?_, by simp only [List.length_cons]; omega, fun vs o ob φ' ow' g1 g2 g3 g4 gr => ?_⟩
  ·simp only [It.app, List.mem_append] at h
   simp only [Cj]
   rcases h with h | h
   ·have := k2 t d h
    rw [if_pos (by omega)]
    exact ⟨by omega, by omega, this.2.2⟩
   ·have := m2 t d h
    rw [if_neg (by omega)]
    exact ⟨by omega, by omega, this.2.2⟩
  ·have A := m5 vs o ob φ' ow' (fun t ht => g1 t (List.mem_append_right _ ht)) (fun T hT cs x h => g2 T (List.mem_append_right _ hT) cs x (Bx (by simp [It.app, BH]; intro i hi; simp [hi]) h)) (fun t d h => by
     have h3 := g3 t d (by simp [It.app, h])
     have h4 := (m2 t d h).1
     rw [if_neg (by omega)] at h3
     exact h3) (fun n id h => g4 n id (by simp [It.app, h])) (fun k hk => gr k (List.mem_append_right _ hk))
   have B := fun gg => k5 vs o ob gg φ' ow' (fun t ht => g1 t (List.mem_append_left _ ht)) (fun T hT cs x h => g2 T (List.mem_append_left _ hT) cs x (Bx (by simp [It.app, BH]; intro i hi; simp [hi]) h)) (fun t d h => by
     have h3 := g3 t d (by simp [It.app, h])
     have h4 := (k2 t d h).2.1
     rw [if_pos (by omega)] at h3
     exact h3) (fun n id h => g4 n id (by simp [It.app, h])) (fun k hk => gr k (List.mem_append_left _ hk))
   refine ⟨fun og hol hb hbox q hq => ?_, fun m hb hbox q hq => ?_⟩
   ·cases og with
    | nil => simp at hol
    | cons og0 og =>
     obtain ⟨id', gg⟩ := og0
     obtain ⟨q1, q2⟩ := B gg hb.1
     simp only [D7, List.mem_cons, List.mem_append] at hq
     rcases hq with rfl | hq | hq
     ·obtain ⟨p1, p2⟩ := hbox 0 id' gg i rfl rfl
      exact ⟨g, cs, by rw [p1]; exact hφ, p2 g hog, hg, q1⟩
     ·exact q2 q.1 q.2 hq
     ·exact A.1 og (by simpa using hol) hb.2 (fun k id2 cells2 id3 h1 h2 => hbox (k + 1) id2 cells2 id3 (by simpa using h1) (by simpa using h2)) q hq
   ·obtain ⟨q1, q2⟩ := B .bot hb.1
    simp only [Fh, List.mem_cons, List.mem_append] at hq
    rcases hq with rfl | hq | hq
    ·obtain ⟨p1, p2⟩ := hbox 0 i (by simp) rfl
     exact ⟨g, cs, by rw [Nat.add_zero] at p1; rw [p1]; exact hφ, p2 g hog, hg, q1⟩
    ·exact q2 q.1 q.2 hq
    ·exact A.2 (m + 1) hb.2 (fun k id hk h => by
      have := hbox (k + 1) id (by simp; omega) (by simpa using h)
      rw [show m + 1 + k = m + (k + 1) from by omega]
      exact this) q hq
end
end AL
end
section
set_option linter.unusedVariables false
set_option linter.unusedSimpArgs false
namespace AL
open Go
def posOf : List Nat -> Nat -> Nat -> Option Nat
 | [], _, _ => Option.none
 | x :: r, i, k => if x = i then some k else posOf r i (k + 1)
theorem C5 : ∀ {l : List Nat} {i k : Nat}, i ∉ l -> posOf l i k = Option.none
 | [], _, _, _ => rfl
 | x :: r, i, k, h => by
  simp only [List.mem_cons, not_or] at h
  unfold posOf
  rw [if_neg (Ne.symm h.1)]
  exact C5 h.2
theorem Nv : ∀ {l : List Nat} {i k m : Nat}, l.Nodup -> l[m]? = some i -> posOf l i k = some (k + m)
 | [], _, _, _, _, h => by simp at h
 | x :: r, i, k, 0, _, h => by
  simp only [List.getElem?_cons_zero, Option.some.injEq] at h
  unfold posOf
  rw [if_pos h, Nat.add_zero]
 | x :: r, i, k, m + 1, hn, h => by
  rw [List.nodup_cons] at hn
  have h' : r[m]? = some i := by simpa using h
  unfold posOf
  rw [if_neg (by intro e; subst e; exact hn.1 (List.mem_of_getElem? h')), Nv hn.2 h']
  congr 1
  omega
theorem I2 : ∀ {l : List Nat} {i k q : Nat}, posOf l i k = some q -> k <= q /\ l[q - k]? = some i
 | [], _, _, _, h => by cases h
 | x :: r, i, k, q, h => by
  unfold posOf at h
  split at h
  ·rename_i e
   injection h with h
   subst h; subst e
   exact ⟨Nat.le_refl _, by simp⟩
  ·obtain ⟨h1, h2⟩ := I2 h
   refine ⟨by omega, ?_⟩
   rw [show q - k = (q - (k + 1)) + 1 from by omega]
   simpa using h2
def IM : List (Nat × List Nat) -> Nat -> Option Nat
 | [], _ => Option.none
 | (t, d) :: r, i => if i ∈ d then some t else IM r i
theorem Es : ∀ {l : List (Nat × List Nat)} {i : Nat}, i ∉ (l.map (·.2)).flatten -> IM l i = Option.none
 | [], _, _ => rfl
 | (t, d) :: r, i, h => by
  simp only [List.map_cons, List.flatten_cons, List.mem_append, not_or] at h
  unfold IM
  rw [if_neg h.1]
  exact Es h.2
theorem Nw : ∀ {l : List (Nat × List Nat)} {t i : Nat} {d : List Nat}, (l.map (·.2)).flatten.Nodup -> (t, d) ∈ l -> i ∈ d -> IM l i = some t
 | (t', d') :: r, t, i, d, hn, h, hi => by
  simp only [List.map_cons, List.flatten_cons, List.nodup_append] at hn
  obtain ⟨_, hn2, hn3⟩ := hn
  unfold IM
  rcases List.mem_cons.1 h with h | h
  ·injection h with e1 e2
   subst e1; subst e2
   rw [if_pos hi]
  ·rw [if_neg]
   ·exact Nw hn2 h hi
   ·intro h2
    exact hn3 i h2 i (List.mem_flatten.2 ⟨d, List.mem_map.2 ⟨(t, d), h, rfl⟩, hi⟩) rfl
theorem I3 : ∀ {l : List (Nat × List Nat)} {i t : Nat}, IM l i = some t -> ∃ d, (t, d) ∈ l /\ i ∈ d
 | (t', d') :: r, i, t, h => by
  unfold IM at h
  split at h
  ·rename_i hi
   injection h with h
   subst h
   exact ⟨d', by simp, hi⟩
  ·obtain ⟨d, h1, h2⟩ := I3 h
   exact ⟨d, List.mem_cons_of_mem _ h1, h2⟩
def AW.count : AW -> Nat
 | .nil => 0
 | .val _ r => r.count + 1
 | .AI _ r => r.count + 1
 | .own _ _ r => r.count + 1
 | .By _ _ _ r => r.count + 1
 | .Cr _ r => r.count + 1
 | .Ch _ _ _ _ r => r.count + 1
 | .skip r => r.count + 1
 | .E8 r => r.count + 1
 | .obj _ r => r.count + 1
 | .D5 _ _ r => r.count + 1
 | .clo _ _ r => r.count + 1
 | .agg _ r => r.count + 1
 | .DM _ r => r.count + 1
theorem DW {φ : Hnd} {ow : Own} {w : World} {box : Bool} : ∀ {p : AW} {c : Nat} {x : p.ty.den} {vals : List Value}, (p.av box c x).holds φ ow w vals -> vals.length = p.count
 | .nil, _, _, _, h => by rw [show _ = _ from h]; rfl
 | .val _ r, _, _, _, ⟨v, rs, e, _, h⟩ => by rw [e, List.length_cons, DW h]; rfl
 | .AI _ r, _, _, _, ⟨v, rs, e, _, h⟩ => by rw [e, List.length_cons, DW h]; rfl
 | .own _ _ r, _, _, _, ⟨v, rs, e, _, h⟩ => by rw [e, List.length_cons, DW h]; rfl
 | .By _ _ _ r, _, _, _, ⟨v, rs, e, _, h⟩ => by rw [e, List.length_cons, DW h]; rfl
 | .Cr _ r, _, _, _, ⟨v, rs, e, _, h⟩ => by rw [e, List.length_cons, DW h]; rfl
 | .Ch _ _ _ _ r, _, _, _, ⟨v, rs, e, _, h⟩ => by rw [e, List.length_cons, DW h]; rfl
 | .skip r, _, _, _, ⟨v, rs, e, _, h⟩ => by rw [e, List.length_cons, DW h]; rfl
 | .E8 r, _, _, _, ⟨v, rs, e, _, h⟩ => by rw [e, List.length_cons, DW h]; rfl
 | .obj _ r, _, _, _, ⟨v, rs, e, _, h⟩ => by rw [e, List.length_cons, DW h]; rfl
 | .D5 _ _ r, _, _, _, ⟨v, rs, e, _, h⟩ => by rw [e, List.length_cons, DW h]; rfl
 | .clo _ _ r, _, _, _, ⟨v, rs, e, _, h⟩ => by rw [e, List.length_cons, DW h]; rfl
 | .agg _ r, _, _, _, ⟨v, rs, e, _, h⟩ => by rw [e, List.length_cons, DW h]; rfl
 | .DM _ r, _, _, _, ⟨v, rs, e, _, h⟩ => by rw [e, List.length_cons, DW h]; rfl
theorem HE {φ : Hnd} {ow : Own} {w : World} : ∀ {l : AV} {vals : List Value} (t : Nat), l.holds φ ow w vals -> (Gd l t).holds φ ow w [vals.getD t undef]
 | .cons a b, _, 0, ⟨v, r, e, h, _⟩ => by subst e; exact h
 | .cons a b, _, t + 1, ⟨v, r, e, _, h⟩ => by subst e; simpa [Gd] using HE t h
 | .bot, _, _, _ | .raw _, _, _, _ | .dat _ _, _, _, _ | .isNil _, _, _, _ | .arr _, _, _, _ | .vw _ _ _ _, _, _, _ | .ref _ _, _, _, _ | .elt _ _ _ _, _, _, _ | .spt _ _, _, _, _ | .fn _ _, _, _, _ | .BY _, _, _, _ | .chv _, _, _, _ | .bfn _ _, _, _, _ | .opq _, _, _, _ | .idn _ _ _, _, _, _ | .nil, _, _, _ | .agg _, _, _, _ | .tup _, _, _, _ => by simp [Gd, AV.holds]
section
variable {φ : Hnd} {ow : Own} {w : World} {hp : Nat -> Chunk} {nx : Nat}
def HF (ow : Own) (og : List Nat) (own : List (Nat × List Nat)) (S : List Nat) : Own := fun c => match ow c with
 | Option.none => Option.none
 | some i => match posOf og i 1 with
  | some q => some q
  | Option.none => match IM own i with
   | some t => some t
   | Option.none => if i ∈ S then Option.none else some 0
theorem AHN (H : Hyp hp nx φ ow w) {S : AG} {xa : S.args.ty.den} {xo : (AY S.Aa).den} {ita ito : It} {og : List (Nat × AV)} {hva hvo : Nat -> Option Value} {av : AV} {vals : Array Value} {n : Nat}
  (hA : AKg φ ow w false S.args 16 av vals.toList xa ita hva) (hO : ADc hp φ ow w S.Aa 0 S.c1 ita.Aa xo ito og hvo)
  (hX : (og.map (·.1) ++ Cu (It.app ita ito)).Nodup) (hmeet : ∀ i ∈ og.map (·.1) ++ Cu (It.app ita ito), i ∉ (It.app ita ito).EO ++ ids (It.app ita ito).sls)
  (hsame : Nt S.Aa.length (It.app ita ito).Aa = true) (hfits : S.fits = true) (hn : S.args.count <= n) :
  ∃ φi : Hnd, (∀ t, hva t ≠ none -> φi t = hva t) /\ (∀ t, hvo t ≠ none -> φi t = hvo t) /\ (∀ k id cells, og[k]? = some (id, cells) -> φi (k + 1) = φ id) /\
   BN [] (fun id => if id ∈ S.fix then φi id else none) (HF ow (og.map (·.1)) (It.app ita ito).own ((It.app ita ito).EO ++ ids (It.app ita ito).sls)) w (S.init xa xo n) { tmps := vals ++ Array.replicate (n - vals.size) undef, defers := [] } w := by
 obtain ⟨a1, a2, a3, a4, a5, al, a6⟩ := hA
 obtain ⟨o1, o2, o3, o4, o5, o6, o7, o8, ol, o9⟩ := hO
 simp only [AG.fits, Bool.and_eq_true] at hfits
 obtain ⟨⟨⟨⟨⟨⟨⟨f1, f2⟩, f3⟩, f4⟩, _⟩, _⟩, _⟩, _⟩ := hfits
 have f1 := Nat.le_of_ble_eq_true f1
 have f2 := Nat.le_of_ble_eq_true f2
 have f3 := Nat.le_of_ble_eq_true f3
 have hc1 : S.c1 = 16 + S.args.size := rfl
 have hc2 : S.c2 = S.c1 + Cj S.Aa := rfl
 rw [List.nodup_append] at hX
 obtain ⟨x1, x2, x3⟩ := hX
 let φi : Hnd := fun t => if 1 <= t /\ t <= S.Aa.length then ((og[t - 1]?).bind fun p => φ p.1) else if t < S.c1 then hva t else hvo t
 have ha : ∀ t, hva t ≠ none -> φi t = hva t := by
  intro t ht
  obtain ⟨v, hv⟩ := Option.ne_none_iff_exists'.1 ht
  have := a3 t v hv
  show (if 1 <= t /\ t <= S.Aa.length then ((og[t - 1]?).bind fun p => φ p.1) else if t < S.c1 then hva t else hvo t) = hva t
  rw [if_neg (by omega), if_pos (by omega)]
 have ho : ∀ t, hvo t ≠ none -> φi t = hvo t := by
  intro t ht
  obtain ⟨v, hv⟩ := Option.ne_none_iff_exists'.1 ht
  have := o3 t v hv
  show (if 1 <= t /\ t <= S.Aa.length then ((og[t - 1]?).bind fun p => φ p.1) else if t < S.c1 then hva t else hvo t) = hvo t
  rw [if_neg (by omega), if_neg (by omega)]
 have hb : ∀ k id cells, og[k]? = some (id, cells) -> φi (k + 1) = φ id := by
  intro k id cells h
  have hk : k < og.length := (List.getElem?_eq_some_iff.1 h).1
  show (if 1 <= k + 1 /\ k + 1 <= S.Aa.length then ((og[k + 1 - 1]?).bind fun p => φ p.1) else if k + 1 < S.c1 then hva (k + 1) else hvo (k + 1)) = φ id
  rw [if_pos (by omega), Nat.add_sub_cancel, h]
  rfl
 -- the owner
 have F1 : A8 (AM ((It.app ita ito).EO ++ ids (It.app ita ito).sls) ow) w (HF ow (og.map (·.1)) (It.app ita ito).own ((It.app ita ito).EO ++ ids (It.app ita ito).sls)) w := by
  refine ⟨Nat.le_refl _, fun c _ hc => ⟨?_, rfl⟩⟩
  unfold HF
  rcases Ay.1 hc with h | ⟨i, hi, h⟩
  ·rw [h]
  ·rw [h]
   simp only
   have n1 : i ∉ og.map (·.1) := fun hm => hmeet i (List.mem_append_left _ hm) hi
   have n2 : i ∉ Cu (It.app ita ito) := fun hm => hmeet i (List.mem_append_right _ hm) hi
   rw [C5 n1, Es n2]
   simp only
   rw [if_pos hi]
 have F2 : ∀ t d, (t, d) ∈ (It.app ita ito).own -> ∀ g i, i ∈ d -> ow g = some i -> HF ow (og.map (·.1)) (It.app ita ito).own ((It.app ita ito).EO ++ ids (It.app ita ito).sls) g = some t := by
  intro t d hm g i hi hg
  have hin : i ∈ Cu (It.app ita ito) := List.mem_flatten.2 ⟨d, List.mem_map.2 ⟨(t, d), hm, rfl⟩, hi⟩
  unfold HF
  rw [hg]
  simp only
  rw [C5 (fun h => x3 i h i hin rfl), Nw x2 hm hi]
 have F3 : ∀ k id cells, og[k]? = some (id, cells) -> ∀ g, ow g = some id -> HF ow (og.map (·.1)) (It.app ita ito).own ((It.app ita ito).EO ++ ids (It.app ita ito).sls) g = some (k + 1) := by
  intro k id cells h g hg
  unfold HF
  rw [hg]
  simp only
  rw [Nv x1 (m := k) (by rw [List.getElem?_map, h]; rfl), Nat.add_comm]
 have F4 : ∀ m id, (m, id) ∈ (It.app ita ito).Aa -> φi (m + 1) = φ id := by
  intro m id hm
  simp only [Nt, List.all_eq_true, Bool.and_eq_true] at hsame
  obtain ⟨s1, s2⟩ := hsame _ hm
  have s1 : m < S.Aa.length := Nat.le_of_ble_eq_true s1
  have hk : m < og.length := by omega
  have hf := o6 m og[m].1 og[m].2 (List.getElem?_eq_getElem hk)
  rw [Nat.zero_add] at hf
  obtain ⟨_, s4⟩ := hsame _ hf
  simp only at s2 s4
  cases hfn : IL (It.app ita ito).Aa m with
  | none => rw [hfn] at s2; cases s2
  | some id' =>
   rw [hfn] at s2 s4
   have e1 := Nat.eq_of_beq_eq_true s2
   have e2 := Nat.eq_of_beq_eq_true s4
   rw [hb m og[m].1 og[m].2 (List.getElem?_eq_getElem hk), <- e2, e1]
 obtain ⟨A1, A2⟩ := a6 φi _ (fun t v h => by rw [ha t (by rw [h]; simp), h]) (Ai F1 (by simp [It.app, BH]; intro i hi; rcases hi with hi | hi <;> simp [hi])) (fun t d h => F2 t d (by simp [It.app, h])) (fun m id h => F4 m id (by simp [It.app, h]))
 have B := o9 φi _ (fun t v h => by rw [ho t (by rw [h]; simp), h]) (Ai F1 (by simp [It.app, BH]; intro i hi; rcases hi with hi | hi <;> simp [hi])) (fun t d h => F2 t d (by simp [It.app, h])) (fun m id h => F4 m id (by simp [It.app, h]))
  (fun k id cells h => by rw [Nat.zero_add]; exact ⟨hb k id cells h, F3 k id cells h⟩)
 have hlen : vals.size = S.args.count := by rw [<- Array.length_toList]; exact DW A1
 refine ⟨φi, ha, ho, hb, φi, HF ow (og.map (·.1)) (It.app ita ito).own ((It.app ita ito).EO ++ ids (It.app ita ito).sls), ?_, rfl, ?_, ?_, ?_, ?_, ?_, ?_⟩
 ·show (vals ++ Array.replicate (n - vals.size) undef).size = n
  simp
  omega
 ·intro t
  have := HE t A1
  have e : (vals ++ Array.replicate (n - vals.size) undef).getD t undef = vals.toList.getD t undef := by
   simp only [Array.getD_eq_getD_getElem?, List.getD_eq_getElem?_getD, Array.getElem?_toList]
   rcases Nat.lt_or_ge t vals.size with h | h
   ·rw [Array.getElem?_append_left h]
   ·rw [Array.getElem?_append_right h, Array.getElem?_eq_none h, Array.getElem?_replicate]
    split <;> rfl
  show (Gd (S.args.av false 16 xa) t).holds φi _ w [(vals ++ Array.replicate (n - vals.size) undef).getD t undef]
  rw [e]
  exact this
 ·intro id
  show cH φi _ w id (Dk _ id .none)
  rcases G6 (S.args.heap 16 xa ++ Nu S.Aa 0 S.c1 xo) id .none with ⟨ch, h1, h2⟩ | h1
  ·rw [h2]
   rcases List.mem_append.1 h1 with h1 | h1
   ·exact A2 id ch h1
   ·exact B id ch h1
  ·rw [h1]; trivial
 ·intro id hid
  change 64 <= id at hid
  show (if 1 <= id /\ id <= S.Aa.length then ((og[id - 1]?).bind fun p => φ p.1) else if id < S.c1 then hva id else hvo id) = none
  rw [if_neg (by omega), if_neg (by omega)]
  cases h : hvo id with
  | none => rfl
  | some v => have := o3 id v h; omega
 ·intro c id hc
  show c < w.heap.size /\ id < 64
  unfold HF at hc
  cases hoc : ow c with
  | none => rw [hoc] at hc; cases hc
  | some i =>
   refine ⟨(H.own c i hoc).1, ?_⟩
   rw [hoc] at hc
   simp only at hc
   cases hp1 : posOf (og.map (·.1)) i 1 with
   | some q =>
    rw [hp1] at hc
    injection hc with hc
    subst hc
    obtain ⟨_, h2⟩ := I2 hp1
    have := (List.getElem?_eq_some_iff.1 h2).1
    simp only [List.length_map] at this
    omega
   | none =>
    rw [hp1] at hc
    simp only at hc
    cases hp2 : IM (It.app ita ito).own i with
    | some t =>
     rw [hp2] at hc
     injection hc with hc
     subst hc
     obtain ⟨d, h1, _⟩ := I3 hp2
     simp only [It.app, List.mem_append] at h1
     rcases h1 with h1 | h1
     ·have := a2 t d h1; omega
     ·have := o2 t d h1; omega
    | none =>
     rw [hp2] at hc
     simp only at hc
     split at hc
     ·cases hc
     ·injection hc with hc; omega
 ·show 0 < 64
  omega
 ·refine ⟨Nat.le_refl _, rfl, rfl, rfl, fun b _ _ => ⟨rfl, rfl⟩, fun b hb => ⟨?_, hb⟩, fun id v h => ?_⟩
  ·unfold HF at hb
   cases hoc : ow b with
   | none => rw [hoc] at hb; cases hb
   | some i => exact (H.own b i hoc).1
  ·split at h
   ·exact h
   ·cases h
end
end AL
end
section
set_option linter.unusedVariables false
set_option linter.unusedSimpArgs false
namespace AL
open Go
section
variable {φ : Hnd} {ow : Own} {w : World} {P : Program}
theorem R3 {b : AV} (h : b.holds φ ow w []) : b = .nil := by
 cases b
 case nil => rfl
 case cons => obtain ⟨v, r, e, _⟩ := h; cases e
 all_goals
  have := AV.JZ h rfl
  cases this
theorem U3 {l : AV} {vals : List Value} (h : l.holds φ ow w vals) : (U2 l).holds φ ow w [if h : vals.toArray.size = 1 then vals.toArray[0] else .tuple vals.toArray] := by
 cases l
 case nil =>
  have : vals = [] := h
  subst this
  exact ⟨#[], rfl, rfl⟩
 case cons a b =>
  obtain ⟨v, r, rfl, h1, h2⟩ := h
  cases r with
  | nil =>
   have := R3 h2
   subst this
   simpa [U2] using h1
  | cons v2 r =>
   have hb : b ≠ .nil := by
    intro e
    subst e
    cases h2
   have : U2 (.cons a b) = .tup (.cons a b) := by
    cases b <;> first | rfl | exact absurd rfl hb
   rw [this, dif_neg (by simp)]
   exact ⟨_, rfl, by simp; exact ⟨v, _, rfl, h1, h2⟩⟩
 all_goals exact rfl
theorem HG {env : Nat -> AV} {hp : Nat -> Chunk} {nx : Nat} (H : Hyp hp nx φ ow w) {tmps : Array Value} (henv : ∀ t, (env t).holds φ ow w [tmps.getD t undef]) : ∀ (rs : List ResultVar) (l : AV), B0 P env hp rs = some l ->
  ∃ vals : List Value, l.holds φ ow w vals /\ (rs.mapM fun
   | .tmp t => pure (tmps.getD t undef)
   | .cell a t => do loadVar t (<- asAddr (tmps.getD a undef)) : Sem (List Value)).run P w = .ok vals w
 | [], l, h => by
  simp only [B0, Option.some.injEq] at h
  subst h
  exact ⟨[], rfl, by simp⟩
 | .tmp t :: r, l, h => by
  simp only [B0, Option.map_eq_some_iff] at h
  obtain ⟨l', h1, rfl⟩ := h
  obtain ⟨vals, h2, h3⟩ := HG H henv r l' h1
  exact ⟨_ :: vals, ⟨_, _, rfl, henv t, h2⟩, by simp only [List.mapM_cons, Sem.run_bind, Sem.run_pure, Result.andThen_ok, h3]⟩
 | .cell a t :: r, l, h => by
  simp only [B0] at h
  split at h <;> try (cases h; done)
  rename_i id e
  split at h <;> try (cases h; done)
  rename_i o ho
  simp only [Option.map_eq_some_iff] at h
  obtain ⟨l', h1, rfl⟩ := h
  obtain ⟨vals, h2, h3⟩ := HG H henv r l' h1
  have ha := henv a
  rw [e] at ha
  obtain ⟨_, _, u, q1, q2⟩ := Ro (P := P) H ho ha
  obtain ⟨g, _, m2⟩ := ha
  injection m2 with m2
  rw [m2] at q1
  have has : (asAddr (Value.pointer (some ⟨g, 0, none⟩))).run P w = .ok ⟨g, 0, none⟩ w := rfl
  have q1' : (loadVar t ⟨g, 0, none⟩).run P w = .ok u w := by simpa [Instr.loadAt, Instr.sureAddr] using q1
  exact ⟨u :: vals, ⟨_, _, rfl, q2, h2⟩, by simp only [List.mapM_cons, Sem.run_bind, Sem.run_pure, Result.andThen_ok, h3, m2, has, q1']⟩
theorem Jp : ∀ (n k m : Nat), (Mf n k)[m]? = if m < n then some (k + m) else none
 | 0, k, m => by simp [Mf]
 | n + 1, k, 0 => by simp [Mf]
 | n + 1, k, m + 1 => by
  simp only [Mf, List.getElem?_cons_succ, Jp n (k + 1) m]
  split <;> rename_i h
  ·rw [if_pos (by omega)]; congr 1; omega
  ·rw [if_neg (by omega)]
theorem Jq {n k i : Nat} : i ∈ Mf n k ↔ k <= i /\ i < k + n := by
 rw [List.mem_iff_getElem?]
 constructor
 ·rintro ⟨m, h⟩
  rw [Jp] at h
  split at h
  ·injection h with h; omega
  ·cases h
 ·rintro ⟨h1, h2⟩
  refine ⟨i - k, ?_⟩
  rw [Jp, if_pos (by omega)]
  congr 1
  omega
theorem Jr {o : Nat} {ob : Nat -> Nat} : ∀ (l : List (TypeId × AW)) (c : Nat) (og : List (Nat × AV)) (x : (AY l).den), og.length = l.length -> ∀ i ∈ og.map (·.1), i ∈ ids (D7 o ob l c og x)
 | [], _, og, _, h, i, hi => by
  cases og with
  | nil => cases hi
  | cons => simp at h
 | (e, p) :: r, c, [], x, h, i, hi => by cases hi
 | (e, p) :: r, c, (id, g) :: og, x, h, i, hi => by
  simp only [D7, ids, List.map_cons, List.mem_cons, List.map_append, List.mem_append]
  rcases List.mem_cons.1 hi with rfl | hi
  ·exact .inl rfl
  ·have := Jr (o := o) (ob := ob) r (c + p.size) og x.2 (by simpa using h) i hi
   exact .inr (.inr this)
theorem Nx {ow' : Own} {w' : World} : ∀ {T : Ty} {cs : List Value} {x : T.den}, T.flat = true -> T.rep ow w cs x -> T.rep ow' w' cs x
 | .int _, _, _, _, h => h
 | .bool, _, _, _, h => h
 | .str, _, _, _, h => h
 | .fnT, _, _, _, h => h
 | .unit, _, _, _, h => h
 | .pair a b, _, _, hf, ⟨c1, c2, e, h1, h2⟩ => by
  simp only [Ty.flat, Bool.and_eq_true] at hf
  exact ⟨c1, c2, e, Nx hf.1 h1, Nx hf.2 h2⟩
 | .sl _, _, _, hf, _ => by cases hf
 | .ptr _, _, _, hf, _ => by cases hf
 | .CE _ _, _, _, hf, _ => by cases hf
theorem Bi : ∀ {p : AW}, p.flat = true -> ∀ T ∈ p.tys, T.flat = true
 | .nil, _, T, hT => by cases hT
 | .val T0 r, h, T, hT => by
  simp only [AW.flat, Bool.and_eq_true] at h
  rcases List.mem_cons.1 hT with rfl | hT
  ·exact h.1
  ·exact Bi h.2 T hT
 | .AI T0 r, h, T, hT => Bi (p := r) h T hT
 | .own e T0 r, h, T, hT => by
  simp only [AW.flat, Bool.and_eq_true] at h
  rcases List.mem_cons.1 hT with rfl | hT
  ·exact h.1
  ·exact Bi h.2 T hT
 | .By e e' T0 r, h, T, hT => by
  simp only [AW.flat, Bool.and_eq_true] at h
  rcases List.mem_cons.1 hT with rfl | hT
  ·exact h.1
  ·exact Bi h.2 T hT
 | .Cr T0 r, h, T, hT => Bi (p := r) h T hT
 | .Ch e e' T0 k r, h, T, hT => by
  simp only [AW.flat, Bool.and_eq_true] at h
  rcases List.mem_cons.1 hT with rfl | hT
  ·exact h.1
  ·exact Bi h.2 T hT
 | .skip r, h, T, hT => Bi (p := r) h T hT
 | .E8 r, h, T, hT => Bi (p := r) h T hT
 | .obj n r, h, T, hT => Bi (p := r) h T hT
 | .D5 f n r, h, T, hT => Bi (p := r) h T hT
 | .clo _ q r, h, T, hT => by
  simp only [AW.flat, Bool.and_eq_true] at h
  rcases List.mem_append.1 hT with hT | hT
  ·exact Bi h.1 T hT
  ·exact Bi h.2 T hT
 | .agg q r, h, T, hT => by
  simp only [AW.flat, Bool.and_eq_true] at h
  rcases List.mem_append.1 hT with hT | hT
  ·exact Bi h.1 T hT
  ·exact Bi h.2 T hT
 | .DM k r, h, T, hT => by
  simp only [AW.flat, Bool.and_eq_true] at h
  rcases List.mem_append.1 hT with hT | hT
  ·cases k with
   | mp K V =>
    simp only [Knd.tys, List.mem_singleton] at hT
    subst hT
    exact h.1
   | ch => simp [Knd.tys] at hT
   | fm K l => exact List.all_eq_true.1 h.1 T hT
   | fl e n c => exact List.all_eq_true.1 h.1 T hT
  ·exact Bi h.2 T hT
theorem GL : ∀ {l : List (TypeId × AW)}, Jm l = true -> ∀ T ∈ Jo l, T.flat = true
 | [], _, T, hT => by cases hT
 | (e, p) :: r, h, T, hT => by
  simp only [Jm, Bool.and_eq_true] at h
  rcases List.mem_append.1 hT with hT | hT
  ·exact Bi h.1 T hT
  ·exact GL h.2 T hT
end
end AL
end
section
set_option linter.unusedVariables false
set_option linter.unusedSimpArgs false
namespace AL
open Go
section
variable {φ : Hnd} {ow : Own} {w : World} {hp : Nat -> Chunk} {nx : Nat}
theorem Ny {vs : Nat -> Value} : ∀ (l : List (TypeId × AW)) (c : Nat), HD φ ow w vs l c (l.map fun _ => (0, .bot))
 | [], _ => trivial
 | (e, p) :: r, c => ⟨BR p c, Ny r (c + p.size)⟩
def kept (ow : Own) (X : List Nat) (c : Nat) : Bool := match ow c with
 | Option.none => true
 | some i => !(BX i X)
def FF (og new : List Nat) (own : List (Nat × List Nat)) (nx : Nat) (i : Nat) : Option Nat :=
 if 1 <= i /\ i <= og.length then og[i - 1]? else match posOf new i 0 with
  | some q => some (nx + 48 + q)
  | Option.none => (IM own i).map fun t => nx + t
def AKk (ow owE : Own) (n : Nat) (X og new : List Nat) (own : List (Nat × List Nat)) (nx : Nat) : Own := fun c =>
 if c < n /\ kept ow X c = true then ow c else (owE c).bind (FF og new own nx)
def AJf (φ φE : Hnd) (hv : Nat -> Option Value) (new : List Nat) (nx : Nat) : Hnd := fun t =>
 if nx <= t /\ t < nx + 48 then hv (t - nx) else if nx + 48 <= t /\ t < nx + 64 then (new[t - (nx + 48)]?).bind φE else φ t
end
def Z3 (X : Own -> World -> Prop) (P : Program) (S : AG) (f : FuncId) (fn : Func) (m : S.args.ty.den -> (AY S.Aa).den -> Option S.oty.den) : Prop :=
 ∀ xa xo y, m xa xo = some y -> ∀ (φb : Hnd) (owb : Own) (vs : Array Value) (w : World), (∀ id, id ∉ S.fix -> φb id = none) -> X owb w -> BN [] φb owb w (S.init xa xo fn.ntmps) { tmps := vs ++ Array.replicate (fn.ntmps - vs.size) undef, defers := [] } w ->
  ∀ (G : Act -> World -> Prop), (∀ st' l o a' w', BN [] φb owb w st' a' w' -> B0 P st'.env st'.heap fn.results.toList = some l -> (S.CZ l).run st'.heap = some o -> Gk S.oty o.res = some y -> G a' w') ->
  ∀ R : Ending -> World -> Prop, (∀ a' w', G a' w' -> a'.defers = [] /\ ∃ v, (results fn a'.tmps).run P w' = .ok v w' /\ R (.returned v) w') -> Calls P f vs w R
def ADd (P : Program) (S : AG) (f : FuncId) (fn : Func) (m : S.args.ty.den -> (AY S.Aa).den -> Option S.oty.den) : Prop :=
 ∀ xa xo y, m xa xo = some y -> ∀ (φb : Hnd) (owb : Own) (vs : Array Value) (w : World), (∀ id, id ∉ S.fix -> φb id = none) -> BN [] φb owb w (S.init xa xo fn.ntmps) { tmps := vs ++ Array.replicate (fn.ntmps - vs.size) undef, defers := [] } w ->
  ∀ (G : Act -> World -> Prop), (∀ st' l o a' w', BN [] φb owb w st' a' w' -> B0 P st'.env st'.heap fn.results.toList = some l -> (S.CZ l).run st'.heap = some o -> Gk S.oty o.res = some y -> G a' w') ->
  ∀ R : Ending -> World -> Prop, (∀ a' w', G a' w' -> a'.defers = [] /\ ∃ v, (results fn a'.tmps).run P w' = .ok v w' /\ R (.returned v) w') -> Calls P f vs w R
theorem ABK {ow : Own} {w : World} {og : List Nat} {own : List (Nat × List Nat)} {l : List Nat} : A8 ow w (HF ow og own l) w :=
 ⟨Nat.le_refl _, fun b _ h => ⟨by unfold HF; rw [h], rfl⟩⟩
theorem Ql {X : Own -> World -> Prop} (hXk : ∀ ow ow' w, A8 ow w ow' w -> X ow w -> X ow' w) {P : Program} {S : AG} {f : FuncId} {fn : Func} {m : S.args.ty.den -> (AY S.Aa).den -> Option S.oty.den} (hcall : ∀ vs w, (callFunc f vs).run P w = .ok (.enter f vs) w) (hn : S.args.count <= fn.ntmps) (hrun : Z3 X P S f fn m) :
  ∀ (av : AV) (nx : Nat) (hp : Nat -> Chunk) (out : Out) (φ : Hnd) (ow : Own) (w : World) (vs : Array Value), Hyp hp nx φ ow w -> X ow w -> av.holds φ ow w vs.toList -> ((S.AF m) av nx).run hp = some out -> (∀ p ∈ out.Bu, p) ->
  (callFunc f vs).run P w = .ok (.enter f vs) w /\ Calls P f vs w (fun e w' => ∃ v, e = .returned v /\ Au out nx φ ow w v w') := by
 intro av nx hp out φ ow w vs H hXw hav hr hobl
 refine ⟨hcall vs w, ?_⟩
 unfold AG.AF at hr
 obtain ⟨xa, ita, hva, hr1, hA⟩ := Zx H (box := false) S.args 16 av _ vs.toList hr hav
 obtain ⟨xo, ito, og, hvo, hr2, hO⟩ := Qk H S.Aa 0 S.c1 ita.Aa _ hr1
 simp only at hr2
 split at hr2 <;> try (simp [Req.run] at hr2; done)
 rename_i hcond
 simp only [Bool.and_eq_true, Bool.not_eq_true', Bool.or_eq_true] at hcond
 obtain ⟨c1, c2, c3, c4, c5, c6⟩ := hcond
 cases hmy : m xa xo with
 | none => rw [hmy] at hr2; simp [Req.run] at hr2
 | some y =>
 rw [hmy] at hr2
 simp only [Req.run, Option.some.injEq] at hr2
 subst hr2
 have hX := Dm.1 c1
 have hmeet : ∀ i ∈ og.map (·.1) ++ Cu (It.app ita ito), i ∉ (It.app ita ito).EO ++ ids (It.app ita ito).sls := fun i hi => Dy c2 hi
 obtain ⟨φi, ha, ho, hb, hsat⟩ := AHN H hA hO hX hmeet c3 c4 hn
 let G : Act -> World -> Prop := fun a w' => a.defers = [] /\ ∃ v, (results fn a.tmps).run P w' = .ok v w' /\ ∃ v', Ending.returned v = .returned v' /\
   Au ⟨[], U2 (S.res.back nx (H7 og (It.app ita ito).rows S.Aa.length nx) 0 .bot y.1),
    S.res.Ci nx (H7 og (It.app ita ito).rows S.Aa.length nx) 0 y.1 ++ D7 nx (H7 og (It.app ita ito).rows S.Aa.length nx) S.Aa S.c1 og y.2.1 ++ Fh nx (H7 og (It.app ita ito).rows S.Aa.length nx) S.news S.c2 (nx + 48) y.2.2 ++ (Cu (It.app ita ito)).map (fun j => (j, .none)) ++ (It.app ita ito).sls⟩ nx φ ow w v' w'
 refine hrun xa xo y hmy _ _ vs w (fun id h => if_neg h) (hXk _ _ _ ABK hXw) hsat G ?_ _ (fun a' w' hg => hg)
 intro st' l o a' w' hs' hret hpr hdat
 obtain ⟨φE, owE, hsz, hdf, henv, hheap, hfresh, hown, hnx, hfr⟩ := hs'
 have H' : Hyp st'.heap st'.next φE owE w' := ⟨hheap, fun id h _ => hfresh id h, fun b id h => ⟨(hown b id h).1, .inl (hown b id h).2⟩⟩
 obtain ⟨vals, hl, hres⟩ := HG (P := P) (w := w') H' henv fn.results.toList l hret
 unfold AG.CZ at hpr
 obtain ⟨yr, itr, hvr, hp1, hR⟩ := Ux H' S.res 0 l _ vals hpr hl
 obtain ⟨new, hnl, hp1⟩ := Jn hp1
 obtain ⟨yo, itO, hvO, hp2, hEO⟩ := I1 H' S.Aa _ S.c1 _ hp1
 obtain ⟨yn, itN, hvN, hp3, hEN⟩ := I1 H' S.news new S.c2 _ hp2
 simp only at hp3
 split at hp3 <;> try (simp [Req.run] at hp3; done)
 rename_i dcond
 simp only [Bool.and_eq_true, Bool.not_eq_true', Bool.or_eq_false_iff] at dcond
 obtain ⟨d1, ⟨d2, d2'⟩, d3, d4⟩ := dcond
 simp only [Req.run, Option.some.injEq] at hp3
 subst hp3
 have hy := Qe hdat
 injection hy with _ hy
 subst hy
 obtain ⟨a1, a2, a3, _, a5, al, a6⟩ := hA
 obtain ⟨o1, o2, o3, o4, o5, o6, o7, o8, ol, o9⟩ := hO
 simp only [AG.fits, Bool.and_eq_true] at c4
 obtain ⟨⟨⟨⟨⟨⟨⟨f1, f2⟩, f3⟩, f4⟩, f5⟩, f6⟩, f7⟩, f8⟩ := c4
 have f1 := Nat.le_of_ble_eq_true f1
 have f2 := Nat.le_of_ble_eq_true f2
 have f3 := Nat.le_of_ble_eq_true f3
 have f4 := Nat.le_of_ble_eq_true f4
 have f5 : S.res.CK 0 = [] := List.isEmpty_iff.1 f5
 have f6 : DH S.news S.c2 = [] := List.isEmpty_iff.1 f6
 have f7 : S.res.refs = [] := List.isEmpty_iff.1 f7
 have f8 : Fi S.news = [] := List.isEmpty_iff.1 f8
 have hc1 : S.c1 = 16 + S.args.size := rfl
 have hc2 : S.c2 = S.c1 + Cj S.Aa := rfl
 have hXE := Dm.1 d1
 rw [List.nodup_append, List.nodup_append] at hXE
 obtain ⟨⟨x1, x2, x3⟩, x4, x5⟩ := hXE
 have h0X : 0 ∉ Mf S.Aa.length 1 ++ new ++ Cu (It.app itr (It.app itO itN)) := fun h => by rw [Am.2 h] at d2; cases d2
 have h0S : 0 ∉ ids (It.app itr (It.app itO itN)).sls := fun h => by rw [Am.2 h] at d2'; cases d2'
 have hmE : ∀ i ∈ Mf S.Aa.length 1 ++ new ++ Cu (It.app itr (It.app itO itN)), i ∉ ids (It.app itr (It.app itO itN)).sls := fun i hi => Dy d3 hi
 -- handles, owners
 let hvE : Nat -> Option Value := fun s => if s < 16 then hvr s else if s < S.c2 then hvO s else hvN s
 let X := og.map (·.1) ++ Cu (It.app ita ito) ++ ids (It.app ita ito).sls
 let ow2 := AKk ow owE w.heap.size X (og.map (·.1)) new (It.app itr (It.app itO itN)).own nx
 let φ2 := AJf φ φE hvE new nx
 have kept_iff : ∀ b, kept ow X b = true ↔ ∀ i, ow b = some i -> i ∉ X := by
  intro b
  unfold kept
  cases hb : ow b with
  | none => simp
  | some i =>
   simp only [Bool.not_eq_true', Option.some.injEq, forall_eq']
   constructor
   ·intro h hm'
    rw [Am.2 hm'] at h
    cases h
   ·intro h
    cases hm' : BX i X with
    | false => rfl
    | true => exact absurd (Am.1 hm') h
 have keptE : ∀ b, b < w.heap.size -> kept ow X b = true -> (owE b = none \/ owE b = some 0) /\ w'.heap[b]? = w.heap[b]? /\ (owE b = none -> ow b = none \/ ∃ i ∈ (It.app ita ito).EO, ow b = some i) := by
  intro b hb' hk
  have hk := (kept_iff b).1 hk
  have h0 : HF ow (og.map (·.1)) (It.app ita ito).own ((It.app ita ito).EO ++ ids (It.app ita ito).sls) b = none /\ (ow b = none \/ ∃ i ∈ (It.app ita ito).EO, ow b = some i) \/ HF ow (og.map (·.1)) (It.app ita ito).own ((It.app ita ito).EO ++ ids (It.app ita ito).sls) b = some 0 := by
   unfold HF
   cases hob : ow b with
   | none => exact .inl ⟨rfl, .inl rfl⟩
   | some i =>
    have hi := hk i hob
    simp only [X, List.mem_append, not_or] at hi
    simp only
    rw [C5 hi.1.1, Es hi.1.2]
    simp only
    by_cases hl : i ∈ (It.app ita ito).EO
    ·rw [if_pos (List.mem_append_left _ hl)]
     exact .inl ⟨rfl, .inr ⟨i, hl, rfl⟩⟩
    ·rw [if_neg (by simp only [List.mem_append, not_or]; exact ⟨hl, hi.2⟩)]
     exact .inr rfl
  rcases h0 with ⟨h0, h1⟩ | h0
  ·obtain ⟨g1, g2⟩ := hfr.blk b hb' (.inl h0)
   exact ⟨.inl (by rw [g1]; exact h0), g2, fun _ => h1⟩
  ·obtain ⟨g1, g2⟩ := hfr.blk b hb' (.inr h0)
   exact ⟨.inr (by rw [g1]; exact h0), g2, fun h => (by rw [g1, h0] at h; cases h)⟩
 have N : ∀ b i, owE b = some i -> i ≠ 0 -> ow2 b = FF (og.map (·.1)) new (It.app itr (It.app itO itN)).own nx i := by
  intro b i hbi hi
  show (if b < w.heap.size /\ kept ow X b = true then ow b else (owE b).bind (FF _ _ _ nx)) = _
  rw [if_neg, hbi]
  ·rfl
  ·rintro ⟨h1, h2⟩
   rcases (keptE b h1 h2).1 with h | h
   ·rw [hbi] at h; cases h
   ·rw [hbi] at h; injection h with h; exact hi h
 have K2 : Aw φ φ2 := by
  intro id v hv
  have hw : ¬ (nx <= id /\ id < nx + 64) := fun h => by rw [H.fresh id h.1 h.2] at hv; cases hv
  show (if nx <= id /\ id < nx + 48 then hvE (id - nx) else if nx + 48 <= id /\ id < nx + 64 then (new[id - (nx + 48)]?).bind φE else φ id) = some v
  rw [if_neg (by omega), if_neg (by omega)]
  exact hv
 have K1 : A8 ow w ow2 w' := by
  refine ⟨hfr.size, fun b hb' hn' => ?_⟩
  have hk : kept ow X b = true := by unfold kept; rw [hn']
  refine ⟨?_, (keptE b hb' hk).2.1⟩
  show (if b < w.heap.size /\ kept ow X b = true then ow b else (owE b).bind (FF _ _ _ nx)) = none
  rw [if_pos ⟨hb', hk⟩]
  exact hn'
 have hogφ : ∀ k id cells, og[k]? = some (id, cells) -> (∃ v, φ id = some v) /\ φE (k + 1) = φ id := by
  intro k id cells h
  have hbx : ∃ v, φ id = some v := by
   have : ∀ (l : List (TypeId × AW)) (og : List (Nat × AV)) (k : Nat), XS hp l og -> og[k]? = some (id, cells) -> ∃ e, hp id = .box e cells := by
    intro l
    induction l with
    | nil => intro og k h1 h2; rw [show _ = _ from h1] at h2; simp at h2
    | cons a l ih =>
     intro og k h1 h2
     obtain ⟨id', cells', og', rfl, h3, h4⟩ := h1
     cases k with
     | zero =>
      simp only [List.getElem?_cons_zero, Option.some.injEq, Prod.mk.injEq] at h2
      obtain ⟨rfl, rfl⟩ := h2
      exact ⟨_, h3⟩
     | succ k => exact ih og' k h4 (by simpa using h2)
   obtain ⟨e, he⟩ := this S.Aa og k o7 h
   have := H.chunk id
   rw [he] at this
   obtain ⟨g, cs, h1, _⟩ := this
   exact ⟨_, h1⟩
  refine ⟨hbx, ?_⟩
  obtain ⟨v, hv'⟩ := hbx
  have hi := hb k id cells h
  have hk : k < og.length := (List.getElem?_eq_some_iff.1 h).1
  have hfix : k + 1 ∈ S.fix := List.mem_append_left _ (Jq.2 ⟨by omega, by omega⟩)
  rw [hv', hfr.phi (k + 1) v (by rw [if_pos hfix, hi, hv'])]
 have φ2og : ∀ k id cells, og[k]? = some (id, cells) -> φ2 id = φE (k + 1) := by
  intro k id cells h
  obtain ⟨⟨v, hv'⟩, h2⟩ := hogφ k id cells h
  rw [K2 id v hv', h2, hv']
 have φ2new : ∀ k, k < 16 -> φ2 (nx + 48 + k) = (new[k]?).bind φE := by
  intro k hk
  show (if nx <= nx + 48 + k /\ nx + 48 + k < nx + 48 then hvE (nx + 48 + k - nx) else if nx + 48 <= nx + 48 + k /\ nx + 48 + k < nx + 64 then (new[nx + 48 + k - (nx + 48)]?).bind φE else φ (nx + 48 + k)) = _
  rw [if_neg (by omega), if_pos (by omega), Nat.add_sub_cancel_left]
 have φ2own : ∀ t, t < 48 -> φ2 (nx + t) = hvE t := by
  intro t ht
  show (if nx <= nx + t /\ nx + t < nx + 48 then hvE (nx + t - nx) else if nx + 48 <= nx + t /\ nx + t < nx + 64 then (new[nx + t - (nx + 48)]?).bind φE else φ (nx + t)) = _
  rw [if_pos (by omega), Nat.add_sub_cancel_left]
 have T1 : ∀ T, ((It.app ita ito).EO = [] \/ T.flat = true) -> ∀ cs x, Ty.rep (AM (ids (It.app itr (It.app itO itN)).sls) owE) w' T cs x -> Ty.rep ow2 w' T cs x := by
  rintro T (hT | hT) cs x h
  ·refine Ty.AO ⟨Nat.le_refl _, fun b hb' hn' => ⟨?_, rfl⟩⟩ h
   show (if b < w.heap.size /\ kept ow X b = true then ow b else (owE b).bind (FF _ _ _ nx)) = none
   split
   ·rename_i hk
    obtain ⟨k1, _, k3⟩ := keptE b hk.1 hk.2
    rcases k1 with k1 | k1
    ·rcases k3 k1 with h | ⟨i, hi, _⟩
     ·exact h
     ·rw [hT] at hi; cases hi
    ·rcases Ay.1 hn' with h | ⟨i, hi, h⟩
     ·rw [k1] at h; cases h
     ·rw [k1] at h; injection h with h; subst h; exact absurd hi h0S
   ·rcases Ay.1 hn' with h | ⟨i, hi, h⟩
    ·rw [h]; rfl
    ·rw [h]
     have n1 : i ∉ Mf S.Aa.length 1 := fun hm' => hmE i (List.mem_append_left _ (List.mem_append_left _ hm')) hi
     have n2 : i ∉ new := fun hm' => hmE i (List.mem_append_left _ (List.mem_append_right _ hm')) hi
     have n3 : i ∉ Cu (It.app itr (It.app itO itN)) := fun hm' => hmE i (List.mem_append_right _ hm') hi
     show FF _ _ _ nx i = none
     unfold FF
     rw [if_neg (fun hh => n1 (Jq.2 ⟨hh.1, by have := hh.2; simp only [List.length_map] at this; omega⟩)), C5 n2, Es n3]
     rfl
  ·exact Nx hT h
 have T2 : ∀ t d, (t, d) ∈ (It.app itr (It.app itO itN)).own -> ∀ b i, i ∈ d -> owE b = some i -> ow2 b = some (nx + t) := by
  intro t d hm' b i hi hbi
  have hin : i ∈ Cu (It.app itr (It.app itO itN)) := List.mem_flatten.2 ⟨d, List.mem_map.2 ⟨(t, d), hm', rfl⟩, hi⟩
  have hi0 : i ≠ 0 := fun e => by subst e; exact h0X (List.mem_append_right _ hin)
  rw [N b i hbi hi0]
  unfold FF
  rw [if_neg, C5 (fun h => x5 i (List.mem_append_right _ h) i hin rfl), Nw x4 hm' hi]
  ·rfl
  ·intro hh
   have := hh.2
   simp only [List.length_map] at this
   exact x5 i (List.mem_append_left _ (Jq.2 ⟨hh.1, by omega⟩)) i hin rfl
 have T3 : ∀ n id, (n, id) ∈ (It.app itr (It.app itO itN)).Aa -> φ2 (H7 og (It.app ita ito).rows S.Aa.length nx n) = φE id := by
  intro n id hm'
  simp only [ADb, List.all_eq_true] at d4
  have h := d4 _ hm'
  simp only at h
  unfold H7
  cases hn' : Nat.blt n S.Aa.length with
  | true =>
   rw [hn', cond_true] at h
   have hid := Nat.eq_of_beq_eq_true h
   have hlt : n < S.Aa.length := Nat.le_of_ble_eq_true hn'
   have hlt' : n < og.length := by omega
   subst hid
   rw [show Nat.blt n 1000 = true from Nat.ble_eq_true_of_le (by omega), cond_true, cond_true]
   have : (og.map (·.1)).getD n 0 = og[n].1 := by simp [hlt']
   rw [this]
   exact φ2og n og[n].1 og[n].2 (List.getElem?_eq_getElem hlt')
  | false =>
   rw [hn', cond_false] at h
   rw [cond_false]
   cases hg : new[n - S.Aa.length]? with
   | none => rw [hg] at h; cases h
   | some i =>
    rw [hg] at h
    have hid := Nat.eq_of_beq_eq_true h
    subst hid
    have := (List.getElem?_eq_some_iff.1 hg).1
    rw [show Nat.blt n 1000 = true from Nat.ble_eq_true_of_le (by omega), cond_true]
    rw [φ2new _ (by omega), hg]
    rfl
 have T7 : ∀ k ∈ Fi S.Aa, ∀ h, φE k = some h -> φ2 (H7 og (It.app ita ito).rows S.Aa.length nx (1000 + k)) = some h := by
  intro k hk h hh
  have h1 := List.all_eq_true.1 c6 k hk
  cases hfn : IL (It.app ita ito).rows k with
  | none => rw [hfn] at h1; cases h1
  | some id =>
   have e : H7 og (It.app ita ito).rows S.Aa.length nx (1000 + k) = id := by
    unfold H7
    rw [show Nat.blt (1000 + k) 1000 = false from by
     cases hb : Nat.blt (1000 + k) 1000 with
     | false => rfl
     | true => have := Nat.le_of_ble_eq_true hb; omega]
    rw [cond_false, Nat.add_sub_cancel_left, hfn]
    rfl
   rw [e]
   have hm := K9 hfn
   simp only [It.app, List.mem_append] at hm
   have key : k ∈ S.fix /\ ∃ v, φi k = some v /\ φ id = some v := by
    rcases hm with hm | hm
    ·obtain ⟨b0, v, b1, b2⟩ := al k id hm
     exact ⟨by unfold AG.fix; simp [b0], v, by rw [ha k (by rw [b1]; simp), b1], b2⟩
    ·obtain ⟨b0, v, b1, b2⟩ := ol k id hm
     exact ⟨by unfold AG.fix; simp [b0], v, by rw [ho k (by rw [b1]; simp), b1], b2⟩
   obtain ⟨hfix, v, b1, b2⟩ := key
   have h2 := hfr.phi k v (by rw [if_pos hfix, b1])
   rw [hh] at h2
   injection h2 with h2
   subst h2
   exact K2 id h b2
 let vsq : Nat -> Value := fun t => (hvo t).getD undef
 have T6 : ∀ t ∈ DH S.Aa S.c1, ∀ v, φE t = some v -> v = vsq t := by
  intro t ht v hv'
  obtain ⟨u, hu⟩ := o4 t ht
  have h1 := ho t (by rw [hu]; simp)
  rw [hu] at h1
  have hfix : t ∈ S.fix := List.mem_append_right _ (List.mem_append_left _ ht)
  have h2 := hfr.phi t u (by rw [if_pos hfix, h1])
  rw [hv'] at h2
  injection h2 with h2
  subst h2
  show v = (hvo t).getD undef
  rw [hu]
  rfl
 have hflat : ∀ T, T ∈ S.res.tys \/ T ∈ Jo S.Aa \/ T ∈ Jo S.news -> ((It.app ita ito).EO = [] \/ T.flat = true) := by
  intro T hT
  rcases c5 with h | h
  ·exact .inl (List.isEmpty_iff.1 h)
  ·right
   simp only [AG.flat, Bool.and_eq_true] at h
   rcases hT with hT | hT | hT
   ·exact Bi h.1.1 T hT
   ·exact GL h.1.2 T hT
   ·exact GL h.2 T hT
 have hbacks : HD φ2 ow2 w' vsq S.Aa S.c1 og := MA K2 K1 _ _ _ (o8 vsq fun t v h => by show (hvo t).getD undef = v; rw [h]; rfl)
 have rm : ∀ {u : Upd} {T : Ty} {cs : List Value} {x : T.den}, (∀ i ∈ ids u, i ∈ ids (It.app itr (It.app itO itN)).sls) -> Ty.rep (AM (ids u) owE) w' T cs x -> Ty.rep (AM (ids (It.app itr (It.app itO itN)).sls) owE) w' T cs x := fun h hr => Bx h hr
 -- the results
 have R := hR.tgt vsq nx (H7 og (It.app ita ito).rows S.Aa.length nx) .bot φ2 ow2 (fun t ht => by rw [f5] at ht; cases ht) (fun T hT cs x h => T1 T (hflat T (.inl hT)) cs x (rm (by simp [It.app, BH]; intro i hi; simp [hi]) h))
  (fun t d h => by
   have ht := hR.own t d h
   refine ⟨?_, fun b i hi hbi => T2 t d (by simp [It.app, h]) b i hi hbi⟩
   rw [φ2own t (by omega)]
   show (if t < 16 then hvr t else _) = hvr t
   rw [if_pos (by omega)]) (fun n id h => T3 n id (by simp [It.app, h])) (fun k hk => by rw [f7] at hk; cases hk) (BR _ _)
 have RO := hEO.tgt vsq nx (H7 og (It.app ita ito).rows S.Aa.length nx) φ2 ow2 T6 (fun T hT cs x h => T1 T (hflat T (.inr (.inl hT))) cs x (rm (by simp [It.app, BH]; intro i hi; simp [hi]) h))
  (fun t d h => by
   have ht := hEO.own t d h
   refine ⟨?_, fun b i hi hbi => T2 t d (by simp [It.app, h]) b i hi hbi⟩
   rw [φ2own t (by omega)]
   show (if t < 16 then hvr t else if t < S.c2 then hvO t else hvN t) = hvO t
   rw [if_neg (by omega), if_pos (by omega)]) (fun n id h => T3 n id (by simp [It.app, h])) T7
 have RN := hEN.tgt vsq nx (H7 og (It.app ita ito).rows S.Aa.length nx) φ2 ow2 (fun t ht => by rw [f6] at ht; cases ht) (fun T hT cs x h => T1 T (hflat T (.inr (.inr hT))) cs x (rm (by simp [It.app, BH]; intro i hi; simp [hi]) h))
  (fun t d h => by
   have ht := hEN.own t d h
   refine ⟨?_, fun b i hi hbi => T2 t d (by simp [It.app, h]) b i hi hbi⟩
   rw [φ2own t (by omega)]
   show (if t < 16 then hvr t else if t < S.c2 then hvO t else hvN t) = hvN t
   rw [if_neg (by omega), if_neg (by omega)]) (fun n id h => T3 n id (by simp [It.app, h])) (fun k hk => by rw [f8] at hk; cases hk)
 have RO1 := RO.1 og o5 hbacks (fun k id' cells id h1 h2 => by
  rw [Jp] at h2
  split at h2 <;> try (cases h2; done)
  injection h2 with h2
  have e1 : id = k + 1 := by omega
  subst e1
  have hk : k < og.length := (List.getElem?_eq_some_iff.1 h1).1
  refine ⟨φ2og k id' cells h1, fun b hbi => ?_⟩
  rw [N b _ hbi (by omega)]
  unfold FF
  rw [if_pos ⟨by omega, by simp only [List.length_map]; omega⟩, Nat.add_sub_cancel, List.getElem?_map, h1]
  rfl)
 have RN1 := RN.2 (nx + 48) (Ny _ _) (fun k id hk h => by
  refine ⟨by rw [φ2new k (by omega), h]; rfl, fun b hbi => ?_⟩
  have hin : id ∈ new := List.mem_of_getElem? h
  have hid0 : id ≠ 0 := fun e => by subst e; exact h0X (List.mem_append_left _ (List.mem_append_right _ hin))
  rw [N b _ hbi hid0]
  unfold FF
  rw [if_neg, Nv x2 h]
  ·simp
  ·intro hh
   have := hh.2
   simp only [List.length_map] at this
   exact x3 id (Jq.2 ⟨hh.1, by omega⟩) id hin rfl)
 refine ⟨hdf, _, ?_, _, rfl, φ2, ow2, ?_, U3 R.1, ?_⟩
 ·simp only [results, Array.mapM_eq_mapM_toList, Sem.run_bind, Sem.run_map]
  erw [hres]
  rfl
 ·have hin : ∀ i, i ∈ X -> i ∈ ids (S.res.Ci nx (H7 og (It.app ita ito).rows S.Aa.length nx) 0 yr ++ D7 nx (H7 og (It.app ita ito).rows S.Aa.length nx) S.Aa S.c1 og yo ++ Fh nx (H7 og (It.app ita ito).rows S.Aa.length nx) S.news S.c2 (nx + 48) yn ++ (Cu (It.app ita ito)).map (fun j => (j, .none)) ++ (It.app ita ito).sls) := by
   intro i hi
   simp only [BH, List.mem_append]
   simp only [X, List.mem_append] at hi
   rcases hi with (hi | hi) | hi
   ·exact .inl (.inl (.inl (.inr (Jr S.Aa S.c1 og _ o5 i hi))))
   ·refine .inl (.inr ?_)
    simp only [ids, List.map_map]
    exact List.mem_map.2 ⟨i, hi, rfl⟩
   ·exact .inr hi
  refine ⟨hfr.size, hfr.os, hfr.tape, hfr.output, fun b hb' hno => ?_, fun b i hbi => ?_, K2, fun id hid => ?_⟩
  ·have hk : kept ow X b = true := (kept_iff b).2 fun i hi hx => hno i hi (hin i hx)
   refine ⟨?_, (keptE b hb' hk).2.1⟩
   show (if b < w.heap.size /\ kept ow X b = true then ow b else (owE b).bind (FF _ _ _ nx)) = ow b
   rw [if_pos ⟨hb', hk⟩]
  ·change (if b < w.heap.size /\ kept ow X b = true then ow b else (owE b).bind (FF (og.map (·.1)) new (It.app itr (It.app itO itN)).own nx)) = some i at hbi
   have hsz' := hfr.size
   split at hbi
   ·rename_i hk
    exact ⟨by omega, .inr ⟨hk.1, hbi⟩⟩
   ·obtain ⟨j, hj, ht⟩ := Option.bind_eq_some_iff.1 hbi
    refine ⟨(hown b j hj).1, .inl ?_⟩
    unfold FF at ht
    split at ht
    ·left
     refine hin i ?_
     simp only [X, List.mem_append]
     exact .inl (.inl (List.mem_of_getElem? ht))
    ·right
     split at ht
     ·rename_i q hq
      injection ht with ht
      obtain ⟨_, hq2⟩ := I2 hq
      have := (List.getElem?_eq_some_iff.1 hq2).1
      omega
     ·simp only [Option.map_eq_some_iff] at ht
      obtain ⟨t, ht1, ht2⟩ := ht
      obtain ⟨d, hd1, _⟩ := I3 ht1
      simp only [It.app, List.mem_append] at hd1
      rcases hd1 with hd1 | hd1 | hd1
      ·have := hR.own t d hd1; omega
      ·have := hEO.own t d hd1; omega
      ·have := hEN.own t d hd1; omega
  ·show (if nx <= id /\ id < nx + 48 then hvE (id - nx) else if nx + 48 <= id /\ id < nx + 64 then (new[id - (nx + 48)]?).bind φE else φ id) = φ id
   rw [if_neg (by omega), if_neg (by omega)]
 ·intro q hq
  simp only [List.mem_append] at hq
  rcases hq with (((hq | hq) | hq) | hq) | hq
  ·exact R.2 q.1 q.2 hq
  ·exact RO1 q hq
  ·exact RN1 q hq
  ·obtain ⟨j, _, rfl⟩ := List.mem_map.1 hq
   trivial
  ·have hs : A3 φ (AM (ids (It.app ita ito).sls) ow) w (It.app ita ito).sls := A3.app a1 o1
   refine A3.post (S := ids (It.app ita ito).sls) (fun i hi => hi) K2 ⟨hfr.size, fun b hb' hn' => ?_⟩ hs q hq
   rcases Ay.1 hn' with h | ⟨i, hi, h⟩
   ·exact K1.blk b hb' h
   ·have hni : i ∉ og.map (·.1) ++ Cu (It.app ita ito) := fun hx => hmeet i hx (List.mem_append_right _ hi)
    simp only [List.mem_append, not_or] at hni
    have h0 : HF ow (og.map (·.1)) (It.app ita ito).own ((It.app ita ito).EO ++ ids (It.app ita ito).sls) b = none := by
     unfold HF
     rw [h]
     simp only
     rw [C5 hni.1, Es hni.2]
     simp only
     rw [if_pos (List.mem_append_right _ hi)]
    obtain ⟨g1, g2⟩ := hfr.blk b hb' (.inl h0)
    refine ⟨?_, g2⟩
    show (if b < w.heap.size /\ kept ow X b = true then ow b else (owE b).bind (FF _ _ _ nx)) = none
    rw [if_neg, g1, h0]
    ·rfl
    ·rintro ⟨_, hk⟩
     exact (kept_iff b).1 hk i h (by simp only [X, List.mem_append]; exact .inr hi)
theorem Js {P : Program} {S : AG} {f : FuncId} {fn : Func} {m : S.args.ty.den -> (AY S.Aa).den -> Option S.oty.den} (hcall : ∀ vs w, (callFunc f vs).run P w = .ok (.enter f vs) w) (hn : S.args.count <= fn.ntmps) (hrun : ADd P S f fn m) : AT P f (S.AF m) :=
 fun av nx hp out φ ow w vs H => Ql (X := fun _ _ => True) (fun _ _ _ _ h => h) hcall hn (fun xa xo y hm φb owb vs w hb _ => hrun xa xo y hm φb owb vs w hb) av nx hp out φ ow w vs H trivial
def R4 (g : Nat) (ow : Own) (w : World) : Prop := cH (fun _ => none) ow w 15 (.glb g)
theorem R4.of {g : Nat} {φ : Hnd} {ow : Own} {w : World} {id : Nat} (h : cH φ ow w id (.glb g)) : R4 g ow w := h
theorem R4.keep {g : Nat} {ow ow' : Own} {w w' : World} (hk : A8 ow w ow' w') (h : R4 g ow w) : R4 g ow' w' := by
 obtain ⟨h1, h2, m, h3⟩ := h
 obtain ⟨k1, k2⟩ := hk.blk g h2 h1
 exact ⟨k1, Nat.lt_of_lt_of_le h2 hk.size, m, (World.cell?_of_block (a := ⟨g, 0, none⟩) k2).trans h3⟩
def DX (g : Nat) (T : Bo) : Bo := fun av nx => .look 15 fun
 | .glb g' => bif Nat.beq g' g then T av nx else .fail
 | _ => .fail
theorem U4 {g : Nat} {T : Bo} {av : AV} {nx : Nat} {hp : Nat -> Chunk} {out : Out} {φ : Hnd} {ow : Own} {w : World} (H : Hyp hp nx φ ow w) (h : (DX g T av nx).run hp = some out) : R4 g ow w /\ (T av nx).run hp = some out := by
 simp only [DX, Req.run] at h
 have hch := H.chunk 15
 split at h <;> try (simp [Req.run] at h; done)
 rename_i g' hg
 rw [hg] at hch
 cases hb : Nat.beq g' g with
 | false => rw [hb] at h; simp [Req.run] at h
 | true =>
  rw [hb, cond_true] at h
  rw [Nat.eq_of_beq_eq_true hb] at hch
  exact ⟨hch, h⟩
theorem ABL {g : Nat} {P : Program} {S : AG} {f : FuncId} {fn : Func} {m : S.args.ty.den -> (AY S.Aa).den -> Option S.oty.den} (hcall : ∀ vs w, (callFunc f vs).run P w = .ok (.enter f vs) w) (hn : S.args.count <= fn.ntmps) (hrun : Z3 (R4 g) P S f fn m) : AT P f (DX g (S.AF m)) := by
 intro av nx hp out φ ow w vs H hav hr hobl
 obtain ⟨hg, hr'⟩ := U4 H hr
 exact Ql (fun _ _ _ hk h => h.keep hk) hcall hn hrun av nx hp out φ ow w vs H hg hav hr' hobl
def AG.XT (S : AG) (C : DV) (fn : Func) (st0 : St) : Prog S.oty.den :=
 match fn.body with
 | some c => BP { C with fix := S.fix } c st0 Az.no (S.Fj C.P fn) S.oty.den fun y => y
 | Option.none => .fail 23
theorem U5 {C : DV} {S : AG} {f : FuncId} {fn : Func} (hS : ∀ g, AT C.P g (C.S g)) (hm : C.P.follows .mixedOrders = true) (hf : C.P.funcs[f]? = some fn) {st0 : St} {y : S.oty.den}
  (hv : (S.XT C fn st0).run = some y \/ ∃ c, fn.body = some c /\ B2 (DV.cfg { C with fix := S.fix }) c st0 fun e st => (S.Fj C.P fn S.oty.den (fun y => y) e st Az.no).run = some y)
  {φb : Hnd} {owb : Own} {vs : Array Value} {w : World} (hbase : ∀ id, id ∉ S.fix -> φb id = none) (hsat : BN [] φb owb w st0 { tmps := vs ++ Array.replicate (fn.ntmps - vs.size) undef, defers := [] } w)
  {G : Act -> World -> Prop} (hG : ∀ st' l o a' w', BN [] φb owb w st' a' w' -> B0 C.P st'.env st'.heap fn.results.toList = some l -> (S.CZ l).run st'.heap = some o -> Gk S.oty o.res = some y -> G a' w')
  {R : Ending -> World -> Prop} (hGR : ∀ a' w', G a' w' -> a'.defers = [] /\ ∃ v, (results fn a'.tmps).run C.P w' = .ok v w' /\ R (.returned v) w') : Calls C.P f vs w R := by
 unfold AG.XT at hv
 cases hbody : fn.body with
 | none =>
  rw [hbody] at hv
  rcases hv with hv | ⟨c, hc, _⟩
  ·cases hv
  ·cases hc
 | some c =>
 rw [hbody] at hv
 simp only at hv
 refine calls_of_wp hf hbody ?_
 have hR : InR (S.Fj C.P fn) := by
  intro Y inj z e st' D' h
  have key : ∀ l, (II st'.heap (S.CZ l) fun o _ => match Gk S.oty o.res with
   | some y => Prog.ret (inj y)
   | Option.none => .fail 20).run = some z -> ∃ r, z = inj r := by
   intro l h
   obtain ⟨o, _, h2⟩ := C4 h
   split at h2
   ·injection h2 with h2; exact ⟨_, h2.symm⟩
   ·cases h2
  cases e with
  | normal =>
   simp only [AG.Fj] at h
   split at h
   ·exact key _ h
   ·cases h
  | ret =>
   simp only [AG.Fj] at h
   split at h
   ·exact key _ h
   ·cases h
  | _ => cases h
 have final : KOk [] φb owb w st0 (S.Fj C.P fn) (fun y' e a w' => match e with
  | .normal | .ret => y' = y -> G a w'
  | _ => False) := by
  intro Y inj hinj y' e st' D' hpost hfrm a' w' hs'
  have fin : ∀ l, (II st'.heap (S.CZ l) fun o _ => match Gk S.oty o.res with
    | some y => Prog.ret (inj y)
    | Option.none => .fail 20).run = some (inj y') -> B0 C.P st'.env st'.heap fn.results.toList = some l -> y' = y -> G a' w' := by
   intro l h hret hyy
   subst hyy
   obtain ⟨o, h1, h2⟩ := C4 h
   split at h2
   ·rename_i z hz
    injection h2 with h2
    have := hinj h2
    subst this
    exact hG st' l o a' w' hs' hret h1 hz
   ·cases h2
  cases e with
  | normal =>
   simp only [AG.Fj] at hpost
   split at hpost
   ·rename_i l hret; exact fin l hpost hret
   ·cases hpost
  | ret =>
   simp only [AG.Fj] at hpost
   split at hpost
   ·rename_i l hret; exact fin l hpost hret
   ·cases hpost
  | _ => cases hpost
 have fin2 : c.wp C.P (fun e a w' => match e with
  | .normal | .ret => y = y -> G a w'
  | _ => False) { tmps := vs ++ Array.replicate (fn.ntmps - vs.size) undef, defers := [] } w := by
  rcases hv with hv | ⟨c', hc', hv⟩
  ·exact Qj (C := { C with fix := S.fix }) hS hm (hbase) c (fun a b h => h) hv (Frm.refl _ _) hR final hsat
  ·injection hc' with hc'
   subst hc'
   exact Rw (C := DV.cfg { C with fix := S.fix }) hS hm (hbase) c hv hsat fun e st' hk a' w' hs' => final S.oty.den (fun y => y) (fun a b h => h) y e st' ⟨fun _ => true, fun _ => true⟩ (by cases e <;> exact hk) ⟨fun t ht => (by cases ht), fun i hi => (by cases hi)⟩ a' w' hs'
 exact wp_mono fin2 (fun e a' w' hq => by cases e <;> first | exact hGR _ _ (hq rfl) | exact hq.elim)
theorem Z4 {C : DV} {S : AG} {f : FuncId} {fn : Func} {m : S.args.ty.den -> (AY S.Aa).den -> Option S.oty.den} (hS : ∀ g, AT C.P g (C.S g)) (hm : C.P.follows .mixedOrders = true) (hf : C.P.funcs[f]? = some fn)
  (hcall : ∀ vs w, (callFunc f vs).run C.P w = .ok (.enter f vs) w) (hn : S.args.count <= fn.ntmps) (hvc : ∀ xa xo y, m xa xo = some y -> (S.prog C fn xa xo).run = some y \/ ∃ c, fn.body = some c /\ B2 (DV.cfg { C with fix := S.fix }) c (S.init xa xo fn.ntmps) fun e st => (S.Fj C.P fn S.oty.den (fun y => y) e st Az.no).run = some y) : AT C.P f (S.AF m) := by
 refine Js hcall hn ?_
 intro xa xo y hmy φb owb vs w hbase hsat G hG R hGR
 exact U5 hS hm hf (hvc xa xo y hmy) hbase hsat hG hGR
theorem XU {C : DV} {S : AG} {f : FuncId} {fn : Func} {m : S.args.ty.den -> (AY S.Aa).den -> Option S.oty.den} (hS : ∀ g, AT C.P g (C.S g)) (hm : C.P.follows .mixedOrders = true) (hf : C.P.funcs[f]? = some fn)
  (hcall : ∀ vs w, (callFunc f vs).run C.P w = .ok (.enter f vs) w) (hn : S.args.count <= fn.ntmps) (hvc : ∀ xa xo y, m xa xo = some y -> (S.prog C fn xa xo).run = some y) : AT C.P f (S.AF m) :=
 Z4 hS hm hf hcall hn fun xa xo y h => .inl (hvc xa xo y h)
end AL
end
section
set_option linter.unusedVariables false
namespace AL
open Go
abbrev int : Ty := .int .i64
abbrev AR : Ty := .pair int (.pair int .unit)
abbrev CL : Ty := .pair int (.pair int (.pair int .unit))
abbrev AU : Ty := .pair int (.pair int (.pair .bool (.pair int (.pair int .unit))))
abbrev Et : Ty := .pair int (.pair int (.pair int .unit))
abbrev AX : Ty := .pair .str (.pair int (.pair int (.pair int .unit)))
def mkC (P : Program) (S : FuncId -> Bo) (md : Md) (L : Nat -> Option Af) (J : Nat -> Option Shape) : DV := { P := P, S := S, wr := md, fix := [], loops := L, Uc := J }
def noS : FuncId -> Bo := fun _ _ _ => .fail
def AH (S : FuncId -> Bo) (f : FuncId) (T : Bo) : FuncId -> Bo := fun g => bif Nat.beq g f then T else S g
theorem Nz {P : Program} : ∀ g, AT P g (noS g) := fun g av nx hp out φ ow w vs H h hr => by cases hr
theorem Ac {P : Program} {S : FuncId -> Bo} {f : FuncId} {T : Bo} (h : ∀ g, AT P g (S g)) (hT : AT P f T) : ∀ g, AT P g (AH S f T g) := by
 intro g
 unfold AH
 cases hb : Nat.beq g f with
 | true => rw [Nat.eq_of_beq_eq_true hb]; exact hT
 | false => exact h g
theorem B1 {P : Program} {f : FuncId} {fn : Func} (hf : P.funcs[f]? = some fn) (hb : fn.body.isNone = false) (hn : (fn.name == "runtime.NumGoroutine") = false) : ∀ vs w, (callFunc f vs).run P w = .ok (.enter f vs) w := by
 intro vs w
 have h1 : fn.name ≠ "runtime.NumGoroutine" := fun e => by rw [e] at hn; simp at hn
 have h2 : fn.body ≠ none := fun e => by rw [e] at hb; simp at hb
 simp [callFunc, hf, h1, h2]
theorem AKl {P : Program} {S0 : FuncId -> Bo} (h : ∀ g, AT P g (S0 g)) (hm : P.follows .mixedOrders = true) {f : FuncId} {fn : Func} (hf : P.funcs[f]? = some fn) (hb : fn.body.isNone = false) (hn : (fn.name == "runtime.NumGoroutine") = false)
  {S : AG} (hc : Nat.ble S.args.count fn.ntmps = true) {md : Md} {L : Nat -> Option Af} {J : Nat -> Option Shape} {m : S.args.ty.den -> (AY S.Aa).den -> Option S.oty.den} (he : ∀ xa xo, (S.prog (mkC P S0 md L J) fn xa xo).run = m xa xo) : ∀ g, AT P g (AH S0 f (S.AF m) g) :=
 Ac h (XU (C := mkC P S0 md L J) h hm hf (B1 hf hb hn) (Nat.le_of_ble_eq_true hc) fun xa xo y hy => (he xa xo).trans hy)
abbrev AE (l : List Int) (i : Int) : Int := get (.int .i64) l i
abbrev Ao (l : List (List Int)) (i : Int) : List Int := get (.sl (.int .i64)) l i
abbrev CB (l : List Bool) (i : Int) : Bool := get .bool l i
theorem Ap {P : Program} {T : FuncId -> Bo} (h : ∀ g, AT P g (T g)) (f : FuncId) {S : Bo} (e : T f = S) : AT P f S := e ▸ h f
theorem AJg {P : Program} {S0 S1 : FuncId -> Bo} (h : ∀ g, AT P g (S0 g)) (h1 : ∀ g, AT P g (S1 g)) (hm : P.follows .mixedOrders = true) {f : FuncId} {fn : Func} (hf : P.funcs[f]? = some fn) (hb : fn.body.isNone = false) (hn : (fn.name == "runtime.NumGoroutine") = false)
  {S : AG} (hc : Nat.ble S.args.count fn.ntmps = true) {md : Md} {L : Nat -> Option Af} {J : Nat -> Option Shape} {m : S.args.ty.den -> (AY S.Aa).den -> Option S.oty.den} (he : ∀ xa xo, (S.prog (mkC P S1 md L J) fn xa xo).run = m xa xo) : ∀ g, AT P g (AH S0 f (S.AF m) g) :=
 Ac h (XU (C := mkC P S1 md L J) h1 hm hf (B1 hf hb hn) (Nat.le_of_ble_eq_true hc) fun xa xo y hy => (he xa xo).trans hy)
def AG.Qm (S : AG) (C : DV) (fn : Func) (xa : S.args.ty.den) (xo : (AY S.Aa).den) (y : S.oty.den) : Prop := match fn.body with
 | some c => B2 (DV.cfg { C with fix := S.fix }) c (S.init xa xo fn.ntmps) fun e st => (S.Fj C.P fn S.oty.den (fun y => y) e st Az.no).run = some y
 | Option.none => False
theorem U6 {P : Program} {S0 : FuncId -> Bo} (h : ∀ g, AT P g (S0 g)) (hm : P.follows .mixedOrders = true) {f : FuncId} {fn : Func} (hf : P.funcs[f]? = some fn) (hb : fn.body.isNone = false) (hn : (fn.name == "runtime.NumGoroutine") = false)
  {S : AG} (hc : Nat.ble S.args.count fn.ntmps = true) {md : Md} {L : Nat -> Option Af} {J : Nat -> Option Shape} {m : S.args.ty.den -> (AY S.Aa).den -> Option S.oty.den} (he : ∀ xa xo y, m xa xo = some y -> S.Qm (mkC P S0 md L J) fn xa xo y) : ∀ g, AT P g (AH S0 f (S.AF m) g) :=
 Ac h (Z4 (C := mkC P S0 md L J) h hm hf (B1 hf hb hn) (Nat.le_of_ble_eq_true hc) fun xa xo y hy => .inr (by
  have := he xa xo y hy
  unfold AG.Qm at this
  cases hc : fn.body with
  | none => rw [hc] at this; exact this.elim
  | some c => rw [hc] at this; exact ⟨c, rfl, this⟩))
theorem Hw {p : Prop} [d : Decidable p] {R : Type} {k : Option R} {r : R} : gd p k = some r ↔ p /\ k = some r := by
 unfold gd
 by_cases h : p
 ·rw [if_pos h]; simp [h]
 ·rw [if_neg h]; simp [h]
end AL
end
section
set_option linter.unusedVariables false
set_option linter.unusedSimpArgs false
namespace AL
open Go
structure Mg where
 e : TypeId
 T : Ty
 rest : AW
@[reducible] def Mg.aty (R : Mg) : Ty := .pair (.sl R.T) R.rest.ty
@[reducible] def Mg.oty (R : Mg) : Ty := .sl R.T
def AK9 (it : It) : Bool := it.own.isEmpty && (it.EO.isEmpty && (it.sls.isEmpty && (it.Aa.isEmpty && it.rows.isEmpty)))
def Mg.AF (R : Mg) (m : R.aty.den -> Option R.oty.den) : Bo := fun av nx => match av with
 | .cons (.arr id) b => .look id fun
  | .arr e T l => if h : T = R.T then (if e = R.e /\ R.T.flat = true /\ R.rest.size <= 32 then BZ R.rest 16 b fun x it => bif AK9 it then .call (m (Bm (congrArg Ty.sl h) l, x)) fun y => .out ⟨[], .tup .nil, [(id, .arr e R.T y)]⟩ else .fail else .fail) else .fail
  | _ => .fail
 | _ => .fail
def Mg.init (R : Mg) (x : R.aty.den) (n : Nat) : St where
 env := Gd (.cons (.arr 1) (R.rest.av false 16 x.2))
 heap := fun id => Dk ((1, .arr R.e R.T x.1) :: R.rest.heap 16 x.2) id .none
 next := 64
 n := n
def ALA (e : TypeId) (T : Ty) (c : Chunk) : Option (List T.den) := match c with
 | .arr e' T' l => if h : T' = T then (bif Nat.beq e' e then some (Bm (congrArg Ty.sl h) l) else Option.none) else Option.none
 | _ => Option.none
def Mg.Fj (R : Mg) (fn : Func) : Me R.oty.den := fun Y inj e st _ =>
 match e with
 | .normal | .ret => match fn.results.toList, ALA R.e R.T (st.heap 1) with
  | [], some y => .ret (inj y)
  | _, _ => .fail 20
 | _ => .fail 22
def Mg.prog (R : Mg) (C : DV) (fn : Func) (x : R.aty.den) : Prog R.oty.den :=
 match fn.body with
 | some c => BP { C with fix := [1] } c (R.init x fn.ntmps) Az.no (R.Fj fn) R.oty.den fun y => y
 | Option.none => .fail 23
end AL
end
section
set_option linter.unusedVariables false
set_option linter.unusedSimpArgs false
namespace AL
open Go
abbrev AB : Ty := .pair int (.pair int (.pair int (.pair int (.pair int (.pair int (.pair int .unit))))))
abbrev Ar : Ty := .pair .str (.pair int .unit)
abbrev Ax : Ty := .pair int (.pair .str (.pair int .unit))
def Qn (L : List (Int × Bool)) (cap n x : Int) : Option (Bool × List (Int × Bool) × Int) :=
 gd (inK .i64 (-x)) <| bif @Ad _ _ (Ty.int .i64).eqD false L (-x) then some (false, L, n) else bif @Ad _ _ (Ty.int .i64).eqD false L x then some (true, L, n) else
  gd (n < cap) <| gd (L.length < lim) <| some (true, @A4 _ _ (Ty.int .i64).eqD true L x, n + 1)
def Qo : Bo := fun av _ => match av with
 | .cons (.ref o 0) (.cons (.dat T x) .nil) => if hT : T = .int .i64 then .look o fun
  | .box _ (.cons _ (.cons _ (.cons (.BY m) (.cons (.chv c) .nil)))) => bif Nat.beq m c then .fail else .look m fun
   | .mp K V L => if hK : K = .int .i64 then (if hV : V = .bool then .look c fun
    | .ch cap n => .call (Qn (coeM hK hV L) cap n (Bm hT x)) fun y => .out ⟨[], .dat .bool y.1, [(m, .mp (.int .i64) .bool y.2.1), (c, .ch cap y.2.2)]⟩
    | _ => .fail else .fail) else .fail
   | _ => .fail
  | _ => .fail else .fail
 | _ => .fail
theorem U7 {n : Int} (h : inK .i64 n) : IntKind.i64.wrap n = n := by
 obtain ⟨h1, h2⟩ := (show _ from h)
 revert h1 h2
 unfold IntKind.wrap IntKind.min IntKind.max
 simp only [IntKind.signed, IntKind.bits]
 simp
 intro h1 h2
 (try split) <;> omega
structure AIo (P : Program) (f : FuncId) (t : TypeId) : Prop where
 no : ∀ (g gm : Nat) (x : Int) (w : World), w.cell? ⟨g, 2, none⟩ = some (.map (some gm)) -> (Instr.lookup t (.map (some gm)) (.int .i64 (IntKind.i64.wrap (-x))) false).run P w = .ok (.bool true) w ->
  Calls P f #[.pointer (some ⟨g, 0, none⟩), .int .i64 x] w (fun e w' => ∃ v, e = .returned v /\ v = .bool false /\ w' = w)
 yes : ∀ (g gm : Nat) (x : Int) (w : World), w.cell? ⟨g, 2, none⟩ = some (.map (some gm)) -> (Instr.lookup t (.map (some gm)) (.int .i64 (IntKind.i64.wrap (-x))) false).run P w = .ok (.bool false) w ->
  (Instr.lookup t (.map (some gm)) (.int .i64 x) false).run P w = .ok (.bool true) w ->
  Calls P f #[.pointer (some ⟨g, 0, none⟩), .int .i64 x] w (fun e w' => ∃ v, e = .returned v /\ v = .bool true /\ w' = w)
 new : ∀ (g gm gc : Nat) (x : Int) (w w1 : World), w.cell? ⟨g, 2, none⟩ = some (.map (some gm)) -> (Instr.lookup t (.map (some gm)) (.int .i64 (IntKind.i64.wrap (-x))) false).run P w = .ok (.bool false) w ->
  (Instr.lookup t (.map (some gm)) (.int .i64 x) false).run P w = .ok (.bool false) w -> (Instr.mapUpdate t (.map (some gm)) (.int .i64 x) (.bool true)).run P w = .ok () w1 -> w1.cell? ⟨g, 3, none⟩ = some (.chan (some gc)) ->
  ∀ (cap s r : Nat) (buf : Array Value) (tm : Bool), w1.heap[gc]? = some (.chan cap buf false s r tm) -> buf.size < cap ->
  Calls P f #[.pointer (some ⟨g, 0, none⟩), .int .i64 x] w (fun e w' => ∃ v, e = .returned v /\ v = .bool true /\ w' = w1.setChan gc cap (buf.push (.int .i64 x)) false (s + 1) r tm)
theorem ADe {P : Program} {f : FuncId} {t : TypeId} (W : AIo P f t) (hk : Ea P t = some (.int .i64, .bool)) (hcall : ∀ vs w, (callFunc f vs).run P w = .ok (.enter f vs) w) : AT P f Qo := by
 intro av nx hp out φ ow w vs H hav hr hobl
 refine ⟨hcall vs w, ?_⟩
 unfold Qo at hr
 split at hr <;> try (simp [Req.run] at hr; done)
 rename_i o T x
 split at hr <;> try (simp [Req.run] at hr; done)
 rename_i hT
 subst hT
 simp only [Req.run] at hr
 have hco := H.chunk o
 split at hr <;> try (simp [Req.run] at hr; done)
 rename_i e a1 a2 m c ho
 rw [ho] at hco
 cases hmc : Nat.beq m c with
 | true => rw [hmc] at hr; simp [Req.run] at hr
 | false =>
 rw [hmc, cond_false] at hr
 have hne : m ≠ c := fun h => by subst h; rw [Nat.beq_refl] at hmc; cases hmc
 simp only [Req.run] at hr
 have hcm := H.chunk m
 split at hr <;> try (simp [Req.run] at hr; done)
 rename_i K V L hm
 rw [hm] at hcm
 split at hr <;> try (simp [Req.run] at hr; done)
 rename_i hK
 subst hK
 split at hr <;> try (simp [Req.run] at hr; done)
 rename_i hV
 subst hV
 simp only [Req.run] at hr
 have hcc := H.chunk c
 split at hr <;> try (simp [Req.run] at hr; done)
 rename_i cap n hc
 rw [hc] at hcc
 try simp only [Req.run] at hr
 have hcoeM : (coeM rfl rfl L : List ((Ty.int .i64).den × Ty.bool.den)) = L := rfl
 have hr2 : (Req.call (Qn L cap n x) fun y => Req.out ⟨[], .dat .bool y.1, [(m, .mp (.int .i64) .bool y.2.1), (c, .ch cap y.2.2)]⟩).run hp = some out := hr
 cases hy : Qn L cap n x with
 | none => rw [hy] at hr2; simp [Req.run] at hr2
 | some y =>
 rw [hy] at hr2
 simp only [Req.run, Option.some.injEq] at hr2
 subst hr2
 -- the values
 obtain ⟨v0, rest, hvs, ⟨g, hφo, hv0⟩, v1, rest1, hr1, ⟨_, _, hx⟩, hrest⟩ := hav
 injection hv0 with hv0 _
 have hr1' : rest1 = [] := hrest
 subst hr1'
 obtain ⟨hv1, hxin⟩ : v1 = .int .i64 x /\ IntKind.i64.has x := by
  obtain ⟨h1, h2⟩ := hx
  injection h1 with h1
  exact ⟨h1, h2⟩
 subst hv0; subst hv1; subst hr1
 have hvs' : vs = #[.pointer (some ⟨g, 0, none⟩), .int .i64 x] := by rw [<- Array.toArray_toList (xs := vs), hvs]
 subst hvs'
 obtain ⟨g', cs, hφ', hog, hg, hcells⟩ := hco
 rw [hφo] at hφ'
 injection hφ' with hφ'; injection hφ' with hφ'; injection hφ' with hφ'; injection hφ' with hφ' _ _
 subst hφ'
 obtain ⟨u0, r0, e0, _, u1, r1, e1, _, u2, r2, e2, ⟨gm, hφm, hu2⟩, u3, r3, e3, ⟨gc, hφc, hu3⟩, e4⟩ := hcells
 injection hu2 with hu2 _
 injection hu3 with hu3 _
 have e4' : r3 = [] := e4
 subst e4'; subst e3; subst e2; subst e1; subst hu2; subst hu3
 have hcs : cs = #[u0, u1, .map (some gm), .chan (some gc)] := by rw [<- Array.toArray_toList (xs := cs), e0]
 subst hcs
 obtain ⟨gm', es, clock, hφm', hom, hgm, hleaf, hents⟩ := hcm
 rw [hφm] at hφm'
 injection hφm' with hφm'; injection hφm' with hφm'; injection hφm' with hφm'
 subst hφm'
 obtain ⟨gc', cp, sq, rq, buf, hφc', hoc, hgc, hcap, hbuf⟩ := hcc
 rw [hφc] at hφc'
 injection hφc' with hφc'; injection hφc' with hφc'; injection hφc' with hφc'
 subst hφc'
 have hom' : o ≠ m := fun h => by subst h; rw [ho] at hm; cases hm
 have hoc' : o ≠ c := fun h => by subst h; rw [ho] at hc; cases hc
 have cell2 : w.cell? ⟨g, 2, none⟩ = some (.map (some gm)) := by unfold World.cell?; rw [hg]; simp
 have look : ∀ z : Int, (Instr.lookup t (.map (some gm)) (.int .i64 z) false).run P w = .ok (.bool (@Ad _ _ (Ty.int .i64).eqD false L z)) w := by
  intro z
  obtain ⟨_, u, h1, h2⟩ := XG (φ := φ) (hp := hp) (ok := false) (n := z) (out := ⟨[], .dat .bool (@Ad _ _ (Ty.int .i64).eqD Ty.bool.Bl L z), []⟩) hk hgm hents rfl
  rw [BL h2] at h1
  exact h1
 unfold Qn gd at hy
 split at hy <;> try (cases hy; done)
 rename_i hin
 have hwrap : IntKind.i64.wrap (-x) = -x := U7 hin
 have keepAll : ∀ (b : Bool), Au ⟨[], .dat .bool b, [(m, .mp (.int .i64) .bool L), (c, .ch cap n)]⟩ nx φ ow w (.bool b) w := by
  intro b
  refine ⟨φ, ow, ⟨Nat.le_refl _, rfl, rfl, rfl, fun b hb h => ⟨rfl, rfl⟩, fun b i h => ⟨(H.own b i h).1, .inr ⟨(H.own b i h).1, h⟩⟩, Aw.refl _, fun _ _ => rfl⟩, ⟨rfl, rfl, rfl⟩, ?_⟩
  intro p hp
  simp only [List.mem_cons, List.not_mem_nil, or_false] at hp
  rcases hp with rfl | rfl
  ·exact ⟨gm, es, clock, hφm, hom, hgm, hleaf, hents⟩
  ·exact ⟨gc, cp, sq, rq, buf, hφc, hoc, hgc, hcap, hbuf⟩
 cases h1 : @Ad _ _ (Ty.int .i64).eqD false L (-x) with
 | true =>
  rw [h1] at hy
  injection hy with hy
  subst hy
  refine Calls.mono (W.no g gm x w cell2 (by rw [hwrap, look, h1])) ?_
  rintro e' w' ⟨v, he, rfl, rfl⟩
  exact ⟨_, he, keepAll false⟩
 | false =>
 rw [h1, cond_false] at hy
 cases h2 : @Ad _ _ (Ty.int .i64).eqD false L x with
 | true =>
  rw [h2] at hy
  injection hy with hy
  subst hy
  refine Calls.mono (W.yes g gm x w cell2 (by rw [hwrap, look, h1]) (by rw [look, h2])) ?_
  rintro e' w' ⟨v, he, rfl, rfl⟩
  exact ⟨_, he, keepAll true⟩
 | false =>
 rw [h2, cond_false] at hy
 split at hy <;> try (cases hy; done)
 rename_i hroom
 split at hy <;> try (cases hy; done)
 rename_i hlen
 injection hy with hy
 subst hy
 obtain ⟨w1, hup, φ', ow', E1, _, hupd⟩ := QO (P := P) (vm := .map (some gm)) (vi := .int .i64 x) (vx := .bool true) (t := t) (m := .BY m) (ix := .dat (.int .i64) x) (x := .dat .bool true) H (out := ⟨[L.length < lim], .raw undef, [(m, .mp (.int .i64) .bool (@A4 _ _ (Ty.int .i64).eqD true L x))]⟩)
  (by unfold Hi; rw [hk]; simp only [Gs, if_true, Req.run, hm]; rfl) ⟨gm, hφm, rfl⟩ ⟨rfl, rfl, rfl, hxin⟩ ⟨rfl, rfl, rfl⟩
 have hgcs : gc < w.heap.size := (H.own gc c hoc).1
 have hgs : g < w.heap.size := (H.own g o hog).1
 have notX : ∀ {b i : Nat}, ow b = some i -> i ≠ m -> ∀ id, ow b = some id -> id ∉ [m] := by
  intro b i h1 h2 id h3 h4
  rw [h1] at h3
  injection h3 with h3
  subst h3
  exact h2 (List.mem_singleton.1 h4)
 have bgc := E1.blk gc hgcs (notX hoc (Ne.symm hne))
 have bg := E1.blk g hgs (notX hog hom')
 have cell3 : w1.cell? ⟨g, 3, none⟩ = some (.chan (some gc)) := by unfold World.cell?; rw [bg.2, hg]; simp
 have hroom' : buf.size < cp := by omega
 refine Calls.mono (W.new g gm gc x w w1 cell2 (by rw [hwrap, look, h1]) (by rw [look, h2]) hup cell3 cp sq rq buf false (bgc.2.trans hgc) hroom') ?_
 rintro e' w' ⟨v, he, rfl, rfl⟩
 refine ⟨_, he, φ', ow', ⟨?_, ?_, ?_, ?_, fun b hb hno => ?_, fun b i hbi => ?_, E1.phi, E1.AJX⟩, ⟨rfl, rfl, rfl⟩, ?_⟩
 ·simpa [World.setChan] using E1.size
 ·exact E1.os
 ·exact E1.tape
 ·exact E1.output
 ·obtain ⟨q1, q2⟩ := E1.blk b hb (fun id hid hmem => hno id hid (by simp only [ids, List.map_cons, List.map_nil, List.mem_cons, List.mem_singleton, List.not_mem_nil, or_false] at hmem ⊢; exact .inl hmem))
  refine ⟨q1, ?_⟩
  have hbc : b ≠ gc := fun h => by subst h; exact hno c hoc (by simp [ids])
  simp only [World.setChan]
  rw [Array.getElem?_setIfInBounds_ne (Ne.symm hbc)]
  exact q2
 ·obtain ⟨q1, q2⟩ := E1.AC5 b i hbi
  refine ⟨by simpa [World.setChan] using q1, ?_⟩
  rcases q2 with (q2 | q2) | q2
  ·exact .inl (.inl (by simp [ids] at q2 ⊢; exact .inl q2))
  ·exact .inl (.inr q2)
  ·exact .inr q2
 ·have hgc1 : gc < w1.heap.size := Nat.lt_of_lt_of_le hgcs E1.size
  have hoc1 : ow' gc = some c := bgc.1.trans hoc
  intro p hp
  simp only [List.mem_cons, List.not_mem_nil, or_false] at hp
  rcases hp with rfl | rfl
  ·have hm1 := hupd (m, .mp (.int .i64) .bool (@A4 _ _ (Ty.int .i64).eqD true L x)) (by simp)
   refine Cp (Aw.refl φ') ⟨by simp [World.setChan], fun b hb hn => ⟨hn, ?_⟩⟩ (fun b hb hob => ⟨hob, ?_⟩) hm1
   ·have : b ≠ gc := fun h => by subst h; rw [hoc1] at hn; cases hn
    simp only [World.setChan]
    rw [Array.getElem?_setIfInBounds_ne (Ne.symm this)]
   ·have : b ≠ gc := fun h => by subst h; rw [hoc1] at hob; injection hob with hob; exact hne hob.symm
    simp only [World.setChan]
    rw [Array.getElem?_setIfInBounds_ne (Ne.symm this)]
  ·refine ⟨gc, cp, sq + 1, rq, buf.push (.int .i64 x), E1.phi _ _ hφc, hoc1, ?_, hcap, ?_⟩
   ·simp [World.setChan, hgc1]
   ·simp only [Array.size_push]; omega
end AL
end
section
set_option linter.unusedVariables false
set_option linter.unusedSimpArgs false
namespace AL
open Go
section
variable {P : Program}
@[reducible] def Bq (D : Nat) : Deferred := { target := .collected D, args := #[] }
theorem Ph {g : Operand} {ps : Array Tmp} {assign body : Code} {Q : Exit -> Act -> World -> Prop} {a : Act} {w : World} {gf : FuncId} {lb : Array Value} (hg : a.eval g = .func (.func gf) #[] lb)
  (h : ∀ fn, (callFunc gf (#[.func (.yield (w.heap.size + 1)) #[] #[]] ++ lb)).run P ((w.alloc (.deferred (some []))).alloc (.loop { state := .ready, pending := none, fn, tmps := a.tmps, params := ps, assign, body, defers := w.heap.size })) = .ok (.enter gf (#[.func (.yield (w.heap.size + 1)) #[] #[]] ++ lb)) ((w.alloc (.deferred (some []))).alloc (.loop { state := .ready, pending := none, fn, tmps := a.tmps, params := ps, assign, body, defers := w.heap.size })) /\ Calls P gf (#[.func (.yield (w.heap.size + 1)) #[] #[]] ++ lb) ((w.alloc (.deferred (some []))).alloc (.loop { state := .ready, pending := none, fn, tmps := a.tmps, params := ps, assign, body, defers := w.heap.size }))
   fun e w3 => ∃ v, e = .returned v /\ w3.heap[w.heap.size + 1]? = some (.loop { state := .ready, pending := none, fn, tmps := a.tmps, params := ps, assign, body, defers := w.heap.size }) /\
    Q .normal { a with defers := Bq w.heap.size :: a.defers } (w3.putObj (w.heap.size + 1) (.loop { state := .exhausted, pending := none, fn, tmps := a.tmps, params := ps, assign, body, defers := w.heap.size }))) :
  (Code.rangeFunc g ps assign body).wp P Q a w := by
 intro b0 k cs
 let b : Frame := { b0 with roundOf := none }
 have hb : ∀ a todo, b0.at a todo = b.atR a todo := fun a todo => rfl
 obtain ⟨eg, hcalls⟩ := h b.fn
 obtain ⟨e, w3, fr, ⟨v, rfl, hl, hq⟩, hsteps, hfn, hleave⟩ := hcalls (b.atR { a with defers := Bq w.heap.size :: a.defers } (.inRangeFunc (w.heap.size + 1) :: k) :: cs)
 have hres : (resolve a.eval (rangeCall g (w.heap.size + 1)) 0).run P ((w.alloc (.deferred (some []))).alloc (.loop { state := .ready, pending := none, fn := b.fn, tmps := a.tmps, params := ps, assign, body, defers := w.heap.size })) = .ok { target := .fn (.func gf) lb, args := #[.func (.yield (w.heap.size + 1)) #[] #[]] } ((w.alloc (.deferred (some []))).alloc (.loop { state := .ready, pending := none, fn := b.fn, tmps := a.tmps, params := ps, assign, body, defers := w.heap.size })) := by
  simp only [resolve, hg]
  simp [go_sem]
 have henter := stepR_rangeFunc (P := P) (b := b) (a := a) (k := k) (cs := cs) (w := w) (g := g) (ps := ps) (assign := assign) (body := body) (mark := [Bq w.heap.size]) (f := gf) (args := #[.func (.yield (w.heap.size + 1)) #[] #[]] ++ lb) (run_enterLoop_outer b.fn a.tmps ps assign body) hres (by simp only [invoke]; exact eg)
 have hend := stepR_endRangeFunc (P := P) (b := b) (a := { a with defers := Bq w.heap.size :: a.defers }) (k := k) (cs := cs) (run_endLoop hl (by simp))
 have hback := step_leave_returned (c := b.atR { a with defers := Bq w.heap.size :: a.defers } (.inRangeFunc (w.heap.size + 1) :: k)) (cs := cs) hleave
 rw [finish_atR_inRangeFunc] at hback
 refine ⟨.normal, _, _, hq, ?_⟩
 rw [hb]
 refine Steps.head henter (Steps.trans hsteps (Steps.head hback (Steps.one ?_)))
 rw [hend]
 rfl
theorem IN {f : FuncId} {fn : Func} {c : Code} {args : Array Value} {w : World} {R : Ending -> World -> Prop}
  (hf : P.funcs[f]? = some fn) (hb : fn.body = some c)
  (h : c.wp P (fun e a w => (e = .ret \/ e = .normal) /\ ∃ D, a.defers = [Bq D] /\ w.heap[D]? = some (.deferred (some [])) /\ ∃ v, (results fn a.tmps).run P (w.putObj D (.deferred none)) = .ok v (w.putObj D (.deferred none)) /\ R (.returned v) (w.putObj D (.deferred none)))
   { tmps := args ++ Array.replicate (fn.ntmps - args.size) undef, defers := [] } w) :
  Calls P f args w R := by
 intro cs
 let b : Frame := { (default : Frame) with fn := f, kind := .normal }
 have henter : Frame.enter P f args .normal =
   b.at { tmps := args ++ Array.replicate (fn.ntmps - args.size) undef, defers := [] } [.code c] := by
  simp [Frame.enter, Frame.at, hf, hb, b]
 obtain ⟨e, a', w', ⟨he, D, hd, hD, v, hres, hR⟩, hs⟩ := h b [] cs
 have fin : ∀ todo, Steps P (lone (b.at { tmps := args ++ Array.replicate (fn.ntmps - args.size) undef, defers := [] } [.code c]) cs w) (lone { b.at a' todo with mode := .returning } cs w') -> ∃ e w' fr, R e w' /\ Comes P (lone (Frame.enter P f args .normal) cs w) (lone fr cs w') e /\ fr.fn = f /\ fr.leaving P w' e := by
  intro todo hs
  rw [<- henter] at hs
  refine ⟨.returned v, _, { b.at a' todo with mode := .returning, defers := [] ++ [] }, hR, Steps.trans hs (.one ?_), rfl, rfl, rfl, rfl, fn, hf, hres⟩
  exact step_collected (fr := { b.at a' todo with mode := .returning }) (by simp) (d := Bq D) (ds := []) hd rfl (run_takeDeferred hD)
 rcases he with rfl | rfl
 ·obtain ⟨todo, hs⟩ := hs
  exact fin todo hs
 ·exact fin [] (Steps.trans hs (.one step_end))
end
section
variable {φ0 : Hnd} {ow0 : Own} {w0 : World}
structure Mid (φ0 : Hnd) (ow0 : Own) (w0 : World) (ow1 : Own) (w1 : World) (D : Nat) : Prop where
 size : w0.heap.size <= w1.heap.size
 os : w1.os = w0.os
 tape : w1.tape = w0.tape
 output : w1.output = w0.output
 blk : ∀ b, b < w0.heap.size -> (ow0 b = Option.none \/ ow0 b = some 0) -> ow1 b = ow0 b /\ w1.heap[b]? = w0.heap[b]?
 frn : ∀ b, ow1 b = some 0 -> b = D \/ b = D + 1 \/ (b < w0.heap.size /\ ow0 b = some 0)
 new : w0.heap.size <= D
 own : ow1 D = some 0
 By : ow1 (D + 1) = some 0
 lt2 : D + 1 < w1.heap.size
 obj : w1.heap[D]? = some (.deferred (some []))
theorem ABM {C : Cfg} (hS : ∀ f, AT C.P f (C.S f)) {D0 : List Deferred} {st : St} {a : Act} {w : World} (hsat : BN D0 φ0 ow0 w0 st a w) {t : Tmp} {gf : FuncId} {caps : AV} (ht : st.env t = .fn gf caps) {res : AV} {upd : Upd}
  (hr : (C.S gf (.cons (.opq st.next) caps) (st.next + 64)).run st.heap = some ⟨[], res, upd⟩) (h0 : ∀ i ∈ ids upd, 0 < i /\ (i < st.next \/ st.next + 64 <= i /\ i < st.next + 128)) (h00 : st.heap 0 = .none) {ps : Array Tmp} {assign body : Code} {Q : Exit -> Act -> World -> Prop}
  (hQ : ∀ ow1 w1, Mid φ0 ow0 w0 ow1 w1 w.heap.size -> BN (Bq w.heap.size :: D0) φ0 ow1 w1 { st.upd upd with next := st.next + 128 } { a with defers := Bq w.heap.size :: a.defers } w1 -> Q .normal { a with defers := Bq w.heap.size :: a.defers } w1) :
  (Code.rangeFunc (.tmp t) ps assign body).wp C.P Q a w := by
 obtain ⟨φ, ow, hn, hdf, henv, hheap, hfresh, hown, hnx, hfr⟩ := hsat
 have hfn := henv t
 rw [ht] at hfn
 obtain ⟨lb, hv, hcaps⟩ := hfn
 have hev : a.eval (.tmp t) = .func (.func gf) #[] lb := by
  injection hv
 refine Ph hev (fun fn => ?_)
 generalize hrec : (⟨.ready, none, fn, a.tmps, ps, assign, body, w.heap.size⟩ : Loop) = rec
 have hst : rec.state = .ready := by rw [<- hrec]
 generalize hex : Obj.loop { state := .exhausted, pending := none, fn, tmps := a.tmps, params := ps, assign, body, defers := w.heap.size } = oex
 generalize hW : (w.alloc (.deferred (some []))).alloc (.loop rec) = W1
 have hsz : W1.heap.size = w.heap.size + 2 := by rw [<- hW]; simp
 have hold : ∀ b, b < w.heap.size -> W1.heap[b]? = w.heap[b]? := by
  intro b hb
  rw [<- hW]
  simp only [World.alloc]
  rw [Array.getElem?_push, Array.getElem?_push, if_neg (by simp; omega), if_neg (by omega)]
 have hD1 : W1.heap[w.heap.size]? = some (.deferred (some [])) := by
  rw [<- hW]
  simp only [World.alloc]
  rw [Array.getElem?_push, if_neg (by simp), Array.getElem?_push, if_pos rfl]
 have hL1 : W1.heap[w.heap.size + 1]? = some (.loop rec) := by
  rw [<- hW]
  simp only [World.alloc]
  rw [Array.getElem?_push, if_pos (by simp)]
 have hwos : W1.os = w.os /\ W1.tape = w.tape /\ W1.output = w.output := by rw [<- hW]; exact ⟨rfl, rfl, rfl⟩
 let yv : Value := .func (.yield (w.heap.size + 1)) #[] #[]
 let ow1 : Own := fun b => if b = w.heap.size \/ b = w.heap.size + 1 then some 0 else ow b
 have how : ∀ b, b < w.heap.size -> ow1 b = ow b := fun b hb => if_neg (by omega)
 have H0 : Hyp st.heap st.next φ ow w := ⟨hheap, fun id h _ => hfresh id h, fun b id h => ⟨(hown b id h).1, .inl (hown b id h).2⟩⟩
 have hk : A8 ow w ow1 W1 := ⟨by omega, fun b hb h => ⟨(how b hb).trans h, hold b hb⟩⟩
 have hle := BI H0 yv
 have H1 : Hyp st.heap (st.next + 64) (BG φ st.next yv) ow1 W1 := by
  refine ⟨fun id => Cp hle hk (fun b hb ho => ⟨(how b hb).trans ho, hold b hb⟩) (hheap id), fun id h1 h2 => ?_, fun b id h => ?_⟩
  ·unfold BG
   rw [if_neg (by omega)]
   exact hfresh id (by omega)
  ·simp only [ow1] at h
   split at h
   ·rename_i hb
    injection h with h
    exact ⟨by omega, .inl (by omega)⟩
   ·exact ⟨by have := (hown b id h).1; omega, .inl (by have := (hown b id h).2; omega)⟩
 have hav : (AV.cons (.opq st.next) caps).holds (BG φ st.next yv) ow1 W1 (#[yv] ++ lb).toList := by
  refine ⟨yv, lb.toList, by simp, ⟨yv, AP _, rfl, rfl⟩, AV.Ab hle hk hcaps⟩
 obtain ⟨hc, hcalls⟩ := hS gf _ (st.next + 64) st.heap _ (BG φ st.next yv) ow1 W1 (#[yv] ++ lb) H1 hav hr (by intro p hp; cases hp)
 refine ⟨hc, Calls.mono hcalls ?_⟩
 rintro e w3 ⟨v, rfl, φ2, ow2, E, hres, hupd⟩
 change Ext (ids upd) (st.next + 64) _ ow1 W1 φ2 ow2 w3 at E
 have not0 : 0 ∉ ids upd := fun h => by have := (h0 0 h).1; omega
 have mine : ∀ b, (b = w.heap.size \/ b = w.heap.size + 1) -> ow2 b = some 0 /\ w3.heap[b]? = W1.heap[b]? := by
  intro b hb
  have h1 : ow1 b = some 0 := if_pos hb
  obtain ⟨q1, q2⟩ := E.blk b (by omega) (fun id hid hm => by rw [h1] at hid; injection hid with hid; subst hid; exact not0 hm)
  exact ⟨q1.trans h1, q2⟩
 refine ⟨v, rfl, (mine _ (.inr rfl)).2.trans hL1, ?_⟩
 generalize hw4 : w3.putObj (w.heap.size + 1) oex = w4
 have hsz4 : w4.heap.size = w3.heap.size := by rw [<- hw4]; simp [World.putObj]
 have hold4 : ∀ b, b ≠ w.heap.size + 1 -> w4.heap[b]? = w3.heap[b]? := fun b hb => by rw [<- hw4]; exact World.putObj_heap_other hb
 have hos4 : w4.os = w3.os /\ w4.tape = w3.tape /\ w4.output = w3.output := by rw [<- hw4]; exact ⟨rfl, rfl, rfl⟩
 have k34 : A8 ow2 w3 ow2 w4 := by
  refine ⟨by omega, fun b hb h => ⟨h, hold4 b fun e => ?_⟩⟩
  rw [e, (mine _ (.inr rfl)).1] at h
  cases h
 have kAll : A8 ow w ow2 w4 := (hk.trans E.keep).trans k34
 have to4 : ∀ {id : Nat} {c : Chunk}, id ≠ 0 -> cH φ2 ow2 w3 id c -> cH φ2 ow2 w4 id c := by
  intro id c hid h
  refine Cp (Aw.refl _) k34 (fun b hb ho => ⟨ho, hold4 b fun e => ?_⟩) h
  rw [e, (mine _ (.inr rfl)).1] at ho
  injection ho with ho
  exact hid ho.symm
 have hown2 : ∀ c id, ow2 c = some id -> c < w4.heap.size /\ id < st.next + 128 := by
  intro c id h
  obtain ⟨q1, q2⟩ := E.AC5 c id h
  refine ⟨by omega, ?_⟩
  rcases q2 with (q2 | q2) | q2
  ·have := h0 id q2; omega
  ·omega
  ·have q3 := q2.2
   simp only [ow1] at q3
   split at q3
   ·injection q3 with q3; omega
   ·have := (hown c id q3).2; omega
 refine hQ ow2 w4 ⟨?_, ?_, ?_, ?_, ?_, ?_, hfr.size, (mine _ (.inl rfl)).1, (mine _ (.inr rfl)).1, (hown2 _ 0 (mine _ (.inr rfl)).1).1, ?_⟩ ⟨φ2, ow2, ?_, ?_, ?_, ?_, ?_, hown2, ?_, ?_⟩
 ·have := E.size; have := hfr.size; omega
 ·exact hos4.1.trans (E.os.trans (hwos.1.trans hfr.os))
 ·exact hos4.2.1.trans (E.tape.trans (hwos.2.1.trans hfr.tape))
 ·exact hos4.2.2.trans (E.output.trans (hwos.2.2.trans hfr.output))
 ·intro b hb hbo
  have hbw := Nat.lt_of_lt_of_le hb hfr.size
  obtain ⟨q1, q2⟩ := hfr.blk b hb hbo
  obtain ⟨q3, q4⟩ := E.blk b (by omega) (fun id hid hm => by
   rw [how b hbw, q1] at hid
   rcases hbo with hbo | hbo
   ·rw [hbo] at hid; cases hid
   ·rw [hbo] at hid; injection hid with hid; subst hid; exact not0 hm)
  exact ⟨(q3.trans (how b hbw)).trans q1, (hold4 b (by omega)).trans (q4.trans ((hold b hbw).trans q2))⟩
 ·intro b hb
  obtain ⟨_, q⟩ := E.AC5 b 0 hb
  rcases q with (q | q) | q
  ·exact absurd q not0
  ·omega
  ·have q3 := q.2
   simp only [ow1] at q3
   split at q3
   ·rename_i hx; exact hx.elim .inl (fun h => .inr (.inl h))
   ·exact .inr (.inr (hfr.frn b q3))
 ·exact (hold4 _ (by omega)).trans ((mine _ (.inl rfl)).2.trans hD1)
 ·rw [(Dv upd st).2.2]; exact hn
 ·rw [hdf]
 ·intro t
  show ((st.upd upd).env t).holds φ2 ow2 w4 _
  rw [(Dv upd st).1]
  exact AV.Ab (hle.trans E.phi) kAll (henv t)
 ·intro id
  show cH φ2 ow2 w4 id ((st.upd upd).heap id)
  rcases G1 upd st id with ⟨h1, c, h2, h3⟩ | ⟨h1, h2⟩
  ·rw [h3]; exact to4 (by have := (h0 id h1).1; omega) (hupd _ h2)
  ·rw [h2]
   by_cases hid : id = 0
   ·subst hid; rw [h00]; trivial
   ·exact to4 hid (E.chunk h1 (H1.chunk id))
 ·intro id hid
  have hid : st.next + 128 <= id := hid
  rw [E.AJX id (by omega)]
  unfold BG
  rw [if_neg (by omega)]
  exact hfresh id (by omega)
 ·show 0 < st.next + 128
  omega
 ·exact ⟨Nat.le_refl _, rfl, rfl, rfl, fun b _ _ => ⟨rfl, rfl⟩, fun b hb => ⟨(hown2 b 0 hb).1, hb⟩, (hfr.phi.trans hle).trans E.phi⟩
theorem U8 {ow1 : Own} {w1 : World} {D : Nat} (hm : Mid φ0 ow0 w0 ow1 w1 D) {st : St} {a : Act} {w : World} {D1 : List Deferred} (hsat : BN D1 φ0 ow1 w1 st a w) (h00 : st.heap 0 = .none) :
  w.heap[D]? = some (.deferred (some [])) /\ BN [] φ0 ow0 w0 st { a with defers := [] } (w.putObj D (.deferred none)) := by
 obtain ⟨φ, ow, hn, hdf, henv, hheap, hfresh, hown, hnx, hfr⟩ := hsat
 have hDs : D < w1.heap.size := (Array.getElem?_eq_some_iff.1 hm.obj).1
 obtain ⟨q1, q2⟩ := hfr.blk D hDs (.inr hm.own)
 have hobj := q2.trans hm.obj
 refine ⟨hobj, ?_⟩
 let ow' : Own := fun b => if b = D \/ b = D + 1 then none else ow b
 generalize hw' : w.putObj D (.deferred none) = w'
 have hsz : w'.heap.size = w.heap.size := by rw [<- hw']; simp [World.putObj]
 have hold : ∀ b, b ≠ D -> w'.heap[b]? = w.heap[b]? := fun b hb => by rw [<- hw']; exact World.putObj_heap_other hb
 have hD0 : ow D = some 0 := q1.trans hm.own
 have hk : A8 ow w ow' w' := by
  refine ⟨by omega, fun b hb h => ?_⟩
  have hbD : b ≠ D := fun e => by rw [e, hD0] at h; cases h
  refine ⟨?_, hold b hbD⟩
  simp only [ow']
  split
  ·rfl
  ·exact h
 have hown' : ∀ c id, ow' c = some id -> ow c = some id /\ c ≠ D /\ c ≠ D + 1 := by
  intro c id h
  simp only [ow'] at h
  split at h
  ·cases h
  ·rename_i hx; exact ⟨h, fun e => hx (.inl e), fun e => hx (.inr e)⟩
 refine ⟨φ, ow', hn, rfl, fun t => AV.Ab (Aw.refl _) hk (henv t), fun id => ?_, hfresh, fun c id h => ⟨by have := (hown c id (hown' c id h).1).1; omega, (hown c id (hown' c id h).1).2⟩, hnx, ?_⟩
 ·by_cases hid : id = 0
  ·subst hid; rw [h00]; trivial
  ·refine Cp (Aw.refl _) hk (fun b hb ho => ?_) (hheap id)
   have hbD : b ≠ D := fun e => by rw [e, hD0] at ho; injection ho with ho; exact hid ho.symm
   refine ⟨?_, hold b hbD⟩
   by_cases hb1 : b = D + 1
   ·exfalso
    obtain ⟨t1, _⟩ := hfr.blk (D + 1) hm.lt2 (.inr hm.By)
    rw [hb1, t1, hm.By] at ho
    injection ho with ho
    exact hid ho.symm
   ·show (if b = D \/ b = D + 1 then none else ow b) = some id
    rw [if_neg (by omega)]
    exact ho
 ·refine ⟨?_, ?_, ?_, ?_, fun b hb hbo => ?_, fun b hb => ?_, hfr.phi⟩
  ·have := hm.size; have := hfr.size; omega
  ·rw [<- hw']; exact hfr.os.trans hm.os
  ·rw [<- hw']; exact hfr.tape.trans hm.tape
  ·rw [<- hw']; exact hfr.output.trans hm.output
  ·obtain ⟨r1, r2⟩ := hm.blk b hb hbo
   have hbD : b < D := Nat.lt_of_lt_of_le hb hm.new
   obtain ⟨r3, r4⟩ := hfr.blk b (by have := hm.size; omega) (by rw [r1]; exact hbo)
   refine ⟨?_, (hold b (by omega)).trans (r4.trans r2)⟩
   show (if b = D \/ b = D + 1 then none else ow b) = ow0 b
   rw [if_neg (by omega)]
   exact r3.trans r1
  ·obtain ⟨r1, r2, r3⟩ := hown' b 0 hb
   obtain ⟨r4, r5⟩ := hfr.frn b r1
   rcases hm.frn b r5 with h | h | h
   ·exact absurd h r2
   ·exact absurd h r3
   ·exact h
end
def R5 (g : FuncId) : AV -> Bool
 | .cons (.fn f _) r => Nat.beq f g || R5 g r
 | .cons _ r => R5 g r
 | _ => false
def AJh (g : FuncId) (A B : Bo) : Bo := fun av nx => bif R5 g av then A av nx else B av nx
theorem AHO {P : Program} {f g : FuncId} {A B : Bo} (hA : AT P f A) (hB : AT P f B) : AT P f (AJh g A B) := by
 intro av nx hp out φ ow w vs H hav hr hobl
 unfold AJh at hr
 cases h : R5 g av with
 | true => rw [h] at hr; exact hA av nx hp out φ ow w vs H hav hr hobl
 | false => rw [h] at hr; exact hB av nx hp out φ ow w vs H hav hr hobl
def N0 (C : Cfg) (next : Nat) : List Oper -> Nat -> St -> Option St
 | [], _, st => some st
 | o :: r, i, st => match o.guard with
  | some _ => none
  | none => match (Br C.P C.S C.wr o.op (Ah st.env) (next + 64 * i)).run st.heap with
   | some out => match out.Bu with
    | [] => bif Ed next i (fun k => Nat.blt k i) ((Br C.P C.S C.wr o.op (Ah st.env) (next + 64 * i)).Bc st.heap) out.upd && Bw st.n o.dst then N0 C next r (i + 1) ((st.upd out.upd).put o.dst out.res) else none
    | _ => none
   | none => none
def Qp (C : Cfg) (ops : Array Oper) (st : St) : Option St := (N0 C st.next ops.toList 0 st).map fun st' => { st' with next := st.next + 64 * ops.size }
theorem Qq {C : Cfg} {ops : Array Oper} {next : Nat} {K : St -> Prop} : ∀ (l : List Oper) (i : Nat) (tr : List Trc) (st st' : St), N0 C next l i st = some st' -> K st' -> Cv C ops none next l i tr st K
 | [], i, tr, st, st', h, hK => by
  injection h with h
  subst h
  exact hK
 | o :: r, i, tr, st, st', h, hK => by
  unfold N0 at h
  cases hg : o.guard with
  | some g => rw [hg] at h; cases h
  | none =>
  rw [hg] at h
  simp only at h
  unfold Cv
  rw [hg]
  simp only
  unfold ID
  simp only
  cases ho : (Br C.P C.S C.wr o.op (Ah st.env) (next + 64 * i)).run st.heap with
  | none => rw [ho] at h; cases h
  | some out =>
  rw [ho] at h
  simp only at h ⊢
  cases hob : out.Bu with
  | cons p ps => rw [hob] at h; cases h
  | nil =>
  rw [hob] at h
  simp only at h
  cases hb : (Ed next i (fun k => Nat.blt k i) ((Br C.P C.S C.wr o.op (Ah st.env) (next + 64 * i)).Bc st.heap) out.upd && Bw st.n o.dst) with
  | false => rw [hb] at h; cases h
  | true =>
  rw [hb, cond_true] at h
  have hb' : (Ed next i (IE none i) ((Br C.P C.S C.wr o.op (Ah st.env) (next + 64 * i)).Bc st.heap) out.upd && Bw st.n o.dst) = true := hb
  rw [hb', cond_true]
  exact Qq r (i + 1) _ _ st' h hK
theorem U9 {C : Cfg} {id : Nat} {ops : Array Oper} {st st' : St} {K : Exit -> St -> Prop} (h : Qp C ops st = some st') (hK : K .normal st') : B2 C (.region id ops false) st K := by
 unfold Qp at h
 cases h1 : N0 C st.next ops.toList 0 st with
 | none => rw [h1] at h; cases h
 | some s =>
  rw [h1] at h
  injection h with h
  subst h
  exact Qq _ _ _ _ _ h1 hK
def AG.MB (S : AG) (P : Program) (fn : Func) : Me S.oty.den := fun Y inj e st D => match st.heap 0 with
 | .none => S.Fj P fn Y inj e st D
 | _ => .fail 24
theorem LA {S : AG} {P : Program} {fn : Func} {Y : Type} {inj : S.oty.den -> Y} {z : Y} {e : Exit} {st : St} {D : Az} (h : (S.MB P fn Y inj e st D).run = some z) :
  st.heap 0 = .none /\ (e = .ret \/ e = .normal) /\ ∃ l o y, z = inj y /\ B0 P st.env st.heap fn.results.toList = some l /\ (S.CZ l).run st.heap = some o /\ Gk S.oty o.res = some y := by
 unfold AG.MB at h
 split at h <;> try (cases h; done)
 rename_i h0
 have key : ∀ l, (II st.heap (S.CZ l) fun o _ => match Gk S.oty o.res with
   | some y => Prog.ret (inj y)
   | Option.none => .fail 20).run = some z -> B0 P st.env st.heap fn.results.toList = some l -> ∃ l o y, z = inj y /\ B0 P st.env st.heap fn.results.toList = some l /\ (S.CZ l).run st.heap = some o /\ Gk S.oty o.res = some y := by
  intro l h hret
  obtain ⟨o, h1, h2⟩ := C4 h
  split at h2
  ·rename_i y hy
   injection h2 with h2
   exact ⟨l, o, y, h2.symm, hret, h1, hy⟩
  ·cases h2
 refine ⟨h0, ?_⟩
 cases e with
 | normal =>
  simp only [AG.Fj] at h
  split at h
  ·rename_i l hret; exact ⟨.inr rfl, key l h hret⟩
  ·cases h
 | ret =>
  simp only [AG.Fj] at h
  split at h
  ·rename_i l hret; exact ⟨.inl rfl, key l h hret⟩
  ·cases h
 | _ => cases h
theorem AHP {C : DV} {S : AG} {fn : Func} (hS : ∀ g, AT C.P g (C.S g)) (hm : C.P.follows .mixedOrders = true) {φ0 : Hnd} {ow0 ow1 : Own} {w0 w1 : World} {D : Nat} (hbase : ∀ id, id ∉ C.fix -> φ0 id = none) {c : Code} {st : St} {y : S.oty.den}
  (hv : (BP C c st Az.no (S.MB C.P fn) S.oty.den fun y => y).run = some y) (hmid : Mid φ0 ow0 w0 ow1 w1 D) {a : Act} (hsat : BN [Bq D] φ0 ow1 w1 st a w1)
  {G : Act -> World -> Prop} (hG : ∀ st' l o a' w', BN [] φ0 ow0 w0 st' a' w' -> B0 C.P st'.env st'.heap fn.results.toList = some l -> (S.CZ l).run st'.heap = some o -> Gk S.oty o.res = some y -> G a' w')
  {R : Ending -> World -> Prop} (hGR : ∀ a' w', G a' w' -> a'.defers = [] /\ ∃ v, (results fn a'.tmps).run C.P w' = .ok v w' /\ R (.returned v) w') :
  c.wp C.P (fun e a w => (e = .ret \/ e = .normal) /\ ∃ D, a.defers = [Bq D] /\ w.heap[D]? = some (.deferred (some [])) /\ ∃ v, (results fn a.tmps).run C.P (w.putObj D (.deferred none)) = .ok v (w.putObj D (.deferred none)) /\ R (.returned v) (w.putObj D (.deferred none))) a w1 := by
 have hR : InR (S.MB C.P fn) := by
  intro Y inj z e st' D' h
  obtain ⟨_, _, l, o, y, hz, _⟩ := LA h
  exact ⟨y, hz⟩
 have hK : KOk [Bq D] φ0 ow1 w1 st (S.MB C.P fn) (fun y' e a w => y' = y -> (e = .ret \/ e = .normal) /\ ∃ D, a.defers = [Bq D] /\ w.heap[D]? = some (.deferred (some [])) /\ ∃ v, (results fn a.tmps).run C.P (w.putObj D (.deferred none)) = .ok v (w.putObj D (.deferred none)) /\ R (.returned v) (w.putObj D (.deferred none))) := by
  intro Y inj hinj y' e st' D' hpost hfrm a' w' hs' hyy
  subst hyy
  obtain ⟨h00, he, l, o, y2, hz, hret, hp, hd⟩ := LA hpost
  have := hinj hz
  subst this
  obtain ⟨hobj, hs2⟩ := U8 hmid hs' h00
  have hg := hG st' l o _ _ hs2 hret hp hd
  obtain ⟨_, v, hv, hr⟩ := hGR _ _ hg
  obtain ⟨_, _, _, hdf, _⟩ := hs'
  exact ⟨he, D, hdf, hobj, v, hv, hr⟩
 exact wp_mono (Qj hS hm hbase c (fun a b h => h) hv (Frm.refl _ _) hR hK hsat) (fun e a w h => h rfl)
end AL
end
section
set_option linter.unusedVariables false
set_option linter.unusedSimpArgs false
namespace AL
open Go
def AG.AIp (S : AG) (g : Nat) (xa : S.args.ty.den) (xo : (AY S.Aa).den) (n : Nat) : St :=
 { env := (S.init xa xo n).env, heap := fun id => bif Nat.beq id 15 then .glb g else (S.init xa xo n).heap id, next := (S.init xa xo n).next, n := n }
def AG.IP (S : AG) (g : Nat) (C : DV) (fn : Func) (xa : S.args.ty.den) (xo : (AY S.Aa).den) : Prog S.oty.den := S.XT C fn (S.AIp g xa xo fn.ntmps)
theorem XV {S : AG} {g : Nat} {xa : S.args.ty.den} {xo : (AY S.Aa).den} {n : Nat} {φb : Hnd} {owb : Own} {w : World} {a : Act} (hg : R4 g owb w) (h : BN [] φb owb w (S.init xa xo n) a w) : BN [] φb owb w (S.AIp g xa xo n) a w := by
 obtain ⟨φ, ow, h1, h2, h3, h4, h5, h6, h7, h8⟩ := h
 refine ⟨φ, ow, h1, h2, h3, fun id => ?_, h5, h6, h7, h8⟩
 show cH φ ow w id (bif Nat.beq id 15 then .glb g else (S.init xa xo n).heap id)
 cases Nat.beq id 15 with
 | true => exact (hg.keep ⟨Nat.le_refl _, fun b hb hn => by obtain ⟨k1, k2⟩ := h8.blk b hb (.inl hn); exact ⟨k1.trans hn, k2⟩⟩ : R4 g ow w)
 | false => exact h4 id
theorem AHQ {C : DV} {S : AG} {g : Nat} {f : FuncId} {fn : Func} {m : S.args.ty.den -> (AY S.Aa).den -> Option S.oty.den} (hS : ∀ g, AT C.P g (C.S g)) (hm : C.P.follows .mixedOrders = true) (hf : C.P.funcs[f]? = some fn)
  (hcall : ∀ vs w, (callFunc f vs).run C.P w = .ok (.enter f vs) w) (hn : S.args.count <= fn.ntmps) (hvc : ∀ xa xo y, m xa xo = some y -> (S.IP g C fn xa xo).run = some y) : AT C.P f (DX g (S.AF m)) := by
 refine ABL hcall hn ?_
 intro xa xo y hmy φb owb vs w hbase hX hsat G hG R hGR
 exact U5 hS hm hf (.inl (hvc xa xo y hmy)) hbase (XV hX hsat) hG hGR
theorem HH {P : Program} {S0 S1 : FuncId -> Bo} (h : ∀ g, AT P g (S0 g)) (h1 : ∀ g, AT P g (S1 g)) (hm : P.follows .mixedOrders = true) {f : FuncId} {fn : Func} (hf : P.funcs[f]? = some fn) (hb : fn.body.isNone = false) (hn : (fn.name == "runtime.NumGoroutine") = false) (g : Nat)
  {S : AG} (hc : Nat.ble S.args.count fn.ntmps = true) {md : Md} {L : Nat -> Option Af} {J : Nat -> Option Shape} {m : S.args.ty.den -> (AY S.Aa).den -> Option S.oty.den} (he : ∀ xa xo, (S.IP g (mkC P S1 md L J) fn xa xo).run = m xa xo) : ∀ k, AT P k (AH S0 f (DX g (S.AF m)) k) :=
 Ac h (AHQ (C := mkC P S1 md L J) h1 hm hf (B1 hf hb hn) (Nat.le_of_ble_eq_true hc) fun xa xo y hy => (he xa xo).trans hy)
theorem R6 {P : Program} {S0 S1 : FuncId -> Bo} (h : ∀ g, AT P g (S0 g)) (h1 : ∀ g, AT P g (S1 g)) (hm : P.follows .mixedOrders = true) {f : FuncId} {fn : Func} (hf : P.funcs[f]? = some fn) (hb : fn.body.isNone = false) (hn : (fn.name == "runtime.NumGoroutine") = false)
  {S : AG} (hc : Nat.ble S.args.count fn.ntmps = true) {md : Md} {L : Nat -> Option Af} {J : Nat -> Option Shape} {m : S.args.ty.den -> (AY S.Aa).den -> Option S.oty.den} (he : ∀ xa xo y, m xa xo = some y -> (S.prog (mkC P S1 md L J) fn xa xo).run = some y) : ∀ g, AT P g (AH S0 f (S.AF m) g) :=
 Ac h (XU (C := mkC P S1 md L J) h1 hm hf (B1 hf hb hn) (Nat.le_of_ble_eq_true hc) he)
def exU (C : DV) {Y : Type} : Nat -> Code -> St -> (Exit -> St -> Prog Y) -> Prog Y
 | 0, _, _, _ => .fail 90
 | f + 1, c, st, K => match c with
  | .skip => K .normal st
  | .label _ => K .normal st
  | .region _ ops draw => Fg C ops draw st Az.no fun st' _ => K .normal st'
  | .seq a b => exU C f a st fun e st' => match e with
   | .normal => exU C f b st' K
   | e => K e st'
  | .cond c a b => match Ah st.env c with
   | .dat .bool v =>
    let F (v : Bool) : St := match c with
     | .tmp t => st.put (some t) (.dat .bool v)
     | _ => st
    .ite v (exU C f a (F true) K) (exU C f b (F false) K)
   | _ => .fail 91
  | .block id a => exU C f a st fun e st' => match e with
   | .exit id' => bif Nat.beq id' id then K .normal st' else K (.exit id') st'
   | e => K e st'
  | .scope a => exU C f a st fun e st' => match e with
   | .goto _ => .fail 12
   | e => K e st'
  | .exit id => K (.exit id) st
  | .ret => K .ret st
  | .loop a => exU C f a st fun e st' => match e with
   | .normal => exU C f (.loop a) st' K
   | e => K e st'
  | _ => .fail 92
theorem AJi {C : DV} (hS : ∀ f, AT C.P f (C.S f)) (hm : C.P.follows .mixedOrders = true) {Y : Type} {y : Y} : ∀ (f : Nat) (c : Code) {st : St} {K : Exit -> St -> Prog Y}, (exU C f c st K).run = some y ->
  ∀ {D0 : List Deferred} {φ0 : Hnd} {ow0 : Own} {w0 : World} {Q : Exit -> Act -> World -> Prop} {a : Act} {w : World}, BN D0 φ0 ow0 w0 st a w -> (∀ e st', (K e st').run = some y -> ∀ a' w', BN D0 φ0 ow0 w0 st' a' w' -> Q e a' w') -> c.wp C.P Q a w := by
 intro f
 induction f using Nat.strongRecOn with
 | _ f0 ih =>
 intro c st K h D0 φ0 ow0 w0 Q a w hs hK
 cases f0 with
 | zero => cases h
 | succ f =>
 have ihf := ih f (Nat.lt_succ_self f)
 cases c with
 | skip => exact wp_skip (hK _ _ h _ _ hs)
 | label l => exact wp_label (hK _ _ h _ _ hs)
 | region id ops draw =>
  simp only [exU] at h
  obtain ⟨st', D', h1, h2, h3⟩ := CV (base := st) h (Frm.refl st _)
  exact Kz (C := C.cfg) hS hm (h3 (· = st') rfl) hs fun st2 h2' a' w' hs' => by
   subst h2'
   exact hK _ _ h1 _ _ hs'
 | seq x y =>
  refine wp_seq (ihf x h hs fun e st' h' a' w' hs' => ?_)
  cases e with
  | normal => exact ihf y h' hs' hK
  | exit => exact hK _ _ h' _ _ hs'
  | goto => exact hK _ _ h' _ _ hs'
  | ret => exact hK _ _ h' _ _ hs'
  | panic => exact hK _ _ h' _ _ hs'
  | outgrown => exact hK _ _ h' _ _ hs'
 | cond c x y =>
  simp only [exU] at h
  have hev : (Ah st.env c).holds hs.choose hs.choose_spec.choose w [a.eval c] := Bd hs.choose_spec.choose_spec.2.2.1 c
  split at h
  ·rename_i v hv
   rw [hv] at hev
   have hb := BL hev
   simp only [Prog.run] at h
   cases v with
   | true =>
    rw [cond_true] at h
    refine wp_cond hb (ihf x ?_ hs hK)
    cases c with
    | tmp t => simp only at h; rw [Cg hv] at h; exact h
    | _ => exact h
   | false =>
    rw [cond_false] at h
    refine wp_cond hb (ihf y ?_ hs hK)
    cases c with
    | tmp t => simp only at h; rw [Cg hv] at h; exact h
    | _ => exact h
  ·cases h
 | block id x =>
  refine wp_block (ihf x h hs fun e st' h' a' w' hs' => ?_)
  cases e with
  | exit id' =>
   simp only at h'
   cases hz : Nat.beq id' id with
   | true =>
    simp only [hz, cond_true] at h'
    simp only [Exit.inBlock, Nat.eq_of_beq_eq_true hz, if_true]
    exact hK _ _ h' _ _ hs'
   | false =>
    simp only [hz, cond_false] at h'
    simp only [Exit.inBlock]
    rw [if_neg (fun e => by rw [e, Nat.beq_refl] at hz; cases hz)]
    exact hK _ _ h' _ _ hs'
  | normal => exact hK _ _ h' _ _ hs'
  | goto => exact hK _ _ h' _ _ hs'
  | ret => exact hK _ _ h' _ _ hs'
  | panic => exact hK _ _ h' _ _ hs'
  | outgrown => exact hK _ _ h' _ _ hs'
 | scope x =>
  refine wp_scope_straight (ihf x h hs fun e st' h' a' w' hs' => ?_)
  cases e with
  | goto => cases h'
  | normal => exact hK _ _ h' _ _ hs'
  | exit => exact hK _ _ h' _ _ hs'
  | ret => exact hK _ _ h' _ _ hs'
  | panic => exact hK _ _ h' _ _ hs'
  | outgrown => exact hK _ _ h' _ _ hs'
 | exit id => exact wp_exit (hK _ _ h _ _ hs)
 | ret => exact wp_ret (hK _ _ h _ _ hs)
 | loop x =>
  refine wp_loop_ghost (fun n a w => n <= f + 1 /\ ∃ st, (exU C n (.loop x) st K).run = some y /\ BN D0 φ0 ow0 w0 st a w) (f + 1) ⟨Nat.le_refl _, st, h, hs⟩ ?_
  rintro n a' w' ⟨hn, st1, h1, hs1⟩
  cases n with
  | zero => cases h1
  | succ n =>
  refine ih n (by omega) x h1 hs1 fun e st' h' a2 w2 hs2 => ?_
  cases e with
  | normal => exact ⟨n, Nat.lt_succ_self n, by omega, st', h', hs2⟩
  | exit => exact hK _ _ h' _ _ hs2
  | goto => exact hK _ _ h' _ _ hs2
  | ret => exact hK _ _ h' _ _ hs2
  | panic => exact hK _ _ h' _ _ hs2
  | outgrown => exact hK _ _ h' _ _ hs2
 | _ => cases h
def AG.ADf (S : AG) (N : Nat) (C : DV) (fn : Func) (xa : S.args.ty.den) (xo : (AY S.Aa).den) : Prog S.oty.den :=
 match fn.body with
 | some c => exU C N c (S.init xa xo fn.ntmps) fun e st => S.Fj C.P fn S.oty.den (fun y => y) e st Az.no
 | Option.none => .fail 23
theorem XW {S : AG} {P : Program} {fn : Func} {y : S.oty.den} {e : Exit} {st : St} {D : Az} (h : (S.Fj P fn S.oty.den (fun y => y) e st D).run = some y) :
  (e = .normal \/ e = .ret) /\ ∃ l o, B0 P st.env st.heap fn.results.toList = some l /\ (S.CZ l).run st.heap = some o /\ Gk S.oty o.res = some y := by
 have key : ∀ l, (II st.heap (S.CZ l) fun o _ => match Gk S.oty o.res with
   | some y => Prog.ret y
   | Option.none => .fail 20).run = some y -> B0 P st.env st.heap fn.results.toList = some l -> ∃ l o, B0 P st.env st.heap fn.results.toList = some l /\ (S.CZ l).run st.heap = some o /\ Gk S.oty o.res = some y := by
  intro l h hret
  obtain ⟨o, h1, h2⟩ := C4 h
  split at h2
  ·rename_i y' hy
   injection h2 with h2
   subst h2
   exact ⟨l, o, hret, h1, hy⟩
  ·cases h2
 cases e with
 | normal =>
  simp only [AG.Fj] at h
  split at h
  ·rename_i l hret; exact ⟨.inl rfl, key l h hret⟩
  ·cases h
 | ret =>
  simp only [AG.Fj] at h
  split at h
  ·rename_i l hret; exact ⟨.inr rfl, key l h hret⟩
  ·cases h
 | _ => cases h
theorem AJj {P : Program} {S0 S1 : FuncId -> Bo} (h : ∀ g, AT P g (S0 g)) (h1 : ∀ g, AT P g (S1 g)) (hm : P.follows .mixedOrders = true) {f : FuncId} {fn : Func} (hf : P.funcs[f]? = some fn) (hb : fn.body.isNone = false) (hn : (fn.name == "runtime.NumGoroutine") = false) {N : Nat}
  {S : AG} (hc : Nat.ble S.args.count fn.ntmps = true) {md : Md} {m : S.args.ty.den -> (AY S.Aa).den -> Option S.oty.den} (he : ∀ xa xo y, m xa xo = some y -> (S.ADf N (mkC P S1 md (fun _ => none) (fun _ => none)) fn xa xo).run = some y) : ∀ g, AT P g (AH S0 f (S.AF m) g) := by
 refine Ac h (Js (B1 hf hb hn) (Nat.le_of_ble_eq_true hc) ?_)
 intro xa xo y hmy φb owb vs w hbase hsat G hG R hGR
 have hv := he xa xo y hmy
 unfold AG.ADf at hv
 cases hbody : fn.body with
 | none => rw [hbody] at hv; cases hv
 | some c =>
 rw [hbody] at hv
 simp only at hv
 refine calls_of_wp hf hbody ?_
 refine AJi (C := mkC P S1 md (fun _ => none) (fun _ => none)) h1 hm N c hv hsat ?_
 intro e st' hk a' w' hs'
 obtain ⟨he', l, o, hret, hp, hd⟩ := XW hk
 have := hGR _ _ (hG st' l o a' w' hs' hret hp hd)
 rcases he' with rfl | rfl <;> exact this
end AL
end
section
set_option linter.unusedVariables false
set_option linter.unusedSimpArgs false
namespace AL
open Go
section
variable {F : Fence} {n : Nat} {P : Program} {b : Frame} {a : Act} {k : List Item} {cs : List Frame} {w : World} {Q : Exit -> Act -> World -> Prop}
theorem DI {c : Code} : step P (lone (b.atR a (.code (.scope c) :: k)) cs w) = .next (lone (b.atR a (.code c :: .inScope c :: k)) cs w) :=
 step_lone_go (by simp [stepG, stepG.exec, Frame.atR])
theorem Pj {c : Code} : step P (lone (b.atR a (.inScope c :: k)) cs w) = .next (lone (b.atR a k) cs w) :=
 step_lone_go (by simp [stepG, stepG.exec, Frame.atR])
theorem EI {c : Code} (h : c.wpIn F n P (Exit.noGoto Q) a w) : (Code.scope c).wpIn F n P Q a w := by
 intro b k cs hro hb hr
 have h0 : (lone (b.atR a (.code (.scope c) :: k)) cs w).fenced P F := fenced_calm hb hr rfl
 obtain ⟨e, a₁, w₁, hq, harr⟩ := h b (.inScope c :: k) cs hro hb hr
 cases e with
 | normal => exact ⟨.normal, a₁, w₁, hq, .head h0 DI (StepsIn.trans harr (.one (fenced_calm hb hr rfl) Pj))⟩
 | exit id =>
  have hx : exitTo id (.inScope c :: k) = exitTo id k := by simp [exitTo]
  exact ⟨_, a₁, w₁, hq, fun k' hk => .head h0 DI (harr.1 k' (by rw [hx]; exact hk)),
   fun hr' hk => let ⟨k₁, h1, h2⟩ := harr.2 hr' (by rw [hx]; exact hk); ⟨k₁, h1, .head h0 DI h2⟩⟩
 | goto l => exact hq.elim
 | ret => exact ⟨_, a₁, w₁, hq, .of_steps (.one h0 DI) harr⟩
 | panic ch => exact ⟨_, a₁, w₁, hq, .of_steps (.one h0 DI) harr⟩
 | outgrown => exact ⟨_, a₁, w₁, hq, .of_steps (.one h0 DI) harr⟩
end
inductive Jmp where
 | ret
 | exit (id : Nat)
def Jmp.code : Jmp -> Code
 | .ret => .ret
 | .exit id => .exit id
def Jmp.ex : Jmp -> Exit
 | .ret => .ret
 | .exit id => .exit id
structure Lp where
 ps : Array Tmp
 assign : Code
 body : Code
 env : Nat -> AV
 n : Nat
 k : Nat
section
variable (C : Cfg)
def vcU : Nat -> Code -> St -> (Exit -> St -> Prop) -> Prop
 | 0, _, _, _ => Av 40
 | f + 1, c, st, K => match c with
  | .skip => K .normal st
  | .label _ => K .normal st
  | .region _ ops draw => Cw C ops draw st (K .normal)
  | .seq a b => vcU f a st fun e st' => match e with
   | .normal => vcU f b st' K
   | e => K e st'
  | .cond c a b => match Ah st.env c with
   | .dat .bool v => brB v fun v => bif v then vcU f a st K else vcU f b st K
   | _ => Av 41
  | .block id a => vcU f a st fun e st' => match e with
   | .exit id' => bif Nat.beq id' id then K .normal st' else K (.exit id') st'
   | e => K e st'
  | .scope a => vcU f a st fun e st' => match e with
   | .goto _ => Av 12
   | e => K e st'
  | .exit id => K (.exit id) st
  | .ret => K .ret st
  | .loop a => vcU f a st fun e st' => match e with
   | .normal => vcU f (.loop a) st' K
   | e => K e st'
  | _ => Av 42
def HI (env : Nat -> AV) : List (Tmp × AV) -> Nat -> AV
 | [] => env
 | (t, a) :: r => HI (fun x => bif Nat.beq x t then a else env x) r
def yieldOf (k : Nat) (env : Nat -> AV) : Op -> Option (List AV)
 | .call c => match c.callee with
  | .value (.tmp t) => match env t with
   | .opq k' => bif Nat.beq k' k then some (c.args.toList.map (Ah env)) else Option.none
   | _ => Option.none
  | _ => Option.none
 | _ => Option.none
def h0 (st : St) : Bool := match st.heap 0 with
 | .none => true
 | _ => false
def C6 (st s2 : St) (d : Option Tmp) (b : Bool) : St := ({ env := st.env, heap := s2.heap, next := s2.next, n := st.n } : St).put d (.dat .bool b)
def Eu (L : Lp) (f : Nat) : List Oper -> St -> Option Jmp -> (St -> Option Jmp -> Prop) -> Prop
 | [], st, j, K => K st j
 | o :: r, st, j, K => match o.guard with
  | some _ => Av 50
  | Option.none => match yieldOf L.k st.env o.op with
   | some args => match j with
    | some _ => Av 51
    | Option.none => bif (Nat.beq args.length L.ps.size && Bw st.n o.dst) && (h0 st && L.ps.toList.all fun t => Nat.blt t L.n) then
      vcU C f L.assign { env := HI L.env (L.ps.toList.zip args), heap := st.heap, next := st.next, n := L.n } fun e s1 => match e with
       | .normal => bif h0 s1 then vcU C f L.body s1 fun e2 s2 => match e2 with
        | .normal => bif h0 s2 then Eu L f r (C6 st s2 o.dst true) Option.none K else Av 55
        | .ret => bif h0 s2 then Eu L f r (C6 st s2 o.dst false) (some .ret) K else Av 55
        | .exit id => bif h0 s2 then Eu L f r (C6 st s2 o.dst false) (some (.exit id)) K else Av 55
        | _ => Av 52
        else Av 56
       | _ => Av 53
     else Av 54
   | Option.none => ID C o st.next 0 (fun _ => false) st fun _ _ st' => Eu L f r { st' with next := st.next + 64 } j K
def vcY (L : Lp) : Nat -> Code -> St -> Option Jmp -> (Exit -> St -> Option Jmp -> Prop) -> Prop
 | 0, _, _, _, _ => Av 60
 | f + 1, c, st, j, K => match c with
  | .skip => K .normal st j
  | .label _ => K .normal st j
  | .region _ ops draw => bif draw || ops.toList.any (fun o => o.guard.isSome) then Cw C ops draw st fun st' => K .normal st' j else Eu C L f ops.toList st j (K .normal)
  | .seq a b => vcY L f a st j fun e st' j' => match e with
   | .normal => vcY L f b st' j' K
   | e => K e st' j'
  | .cond c a b => match Ah st.env c with
   | .dat .bool v => brB v fun v => bif v then vcY L f a st j K else vcY L f b st j K
   | _ => Av 41
  | .block id a => vcY L f a st j fun e st' j' => match e with
   | .exit id' => bif Nat.beq id' id then K .normal st' j' else K (.exit id') st' j'
   | e => K e st' j'
  | .exit id => K (.exit id) st j
  | .ret => K .ret st j
  | .loop a => vcY L f a st j fun e st' j' => match e with
   | .normal => vcY L f (.loop a) st' j' K
   | e => K e st' j'
  | _ => Av 42
def vcT : Nat -> Code -> St -> Bool -> (Exit -> St -> Bool -> Prop) -> Prop
 | 0, _, _, _, _ => Av 70
 | f + 1, c, st, m, K => match c with
  | .skip => K .normal st m
  | .label _ => K .normal st m
  | .region _ ops draw => Cw C ops draw st fun st' => K .normal st' m
  | .seq a b => vcT f a st m fun e st' m' => match e with
   | .normal => vcT f b st' m' K
   | e => K e st' m'
  | .cond c a b => match Ah st.env c with
   | .dat .bool v => brB v fun v => bif v then vcT f a st m K else vcT f b st m K
   | _ => Av 41
  | .block id a => vcT f a st m fun e st' m' => match e with
   | .exit id' => bif Nat.beq id' id then K .normal st' m' else K (.exit id') st' m'
   | e => K e st' m'
  | .scope a => vcT f a st m fun e st' m' => match e with
   | .goto _ => Av 12
   | e => K e st' m'
  | .exit id => K (.exit id) st m
  | .ret => K .ret st m
  | .loop a => vcT f a st m fun e st' m' => match e with
   | .normal => vcT f (.loop a) st' m' K
   | e => K e st' m'
  | .rangeFunc g ps assign body => match m, Ah st.env g with
   | false, .fn gf caps => match C.P.funcs[gf]? with
    | some fn => match fn.body, fn.results.toList with
     | some cg, [] => bif Nat.ble (caps.len + 1) fn.ntmps && caps.Bb && !(fn.name == "runtime.NumGoroutine") then
       vcY C ⟨ps, assign, body, st.env, st.n, st.next⟩ f cg { env := Gd (.cons (.opq st.next) caps), heap := st.heap, next := st.next + 64, n := fn.ntmps } Option.none fun e st' j => match e with
        | .normal => bif h0 st' then K (j.elim .normal Jmp.ex) { st with heap := st'.heap, next := st'.next } true else Av 76
        | .ret => bif h0 st' then K (j.elim .normal Jmp.ex) { st with heap := st'.heap, next := st'.next } true else Av 76
        | _ => Av 71
      else Av 72
     | _, _ => Av 73
    | Option.none => Av 74
   | _, _ => Av 75
  | _ => Av 42
end
section
variable {C : Cfg} {ro : Option Nat} {rm : Nat}
theorem Fr.refl {φ : Hnd} {ow : Own} {w : World} (h : ∀ b id, ow b = some id -> b < w.heap.size) : Fr φ ow w φ ow w :=
 ⟨Nat.le_refl _, rfl, rfl, rfl, fun _ _ _ => ⟨rfl, rfl⟩, fun b hb => ⟨h b 0 hb, hb⟩, Aw.refl _⟩
theorem Fr.trans {φ0 φ1 φ2 : Hnd} {ow0 ow1 ow2 : Own} {w0 w1 w2 : World} (h : Fr φ0 ow0 w0 φ1 ow1 w1) (k : Fr φ1 ow1 w1 φ2 ow2 w2) : Fr φ0 ow0 w0 φ2 ow2 w2 :=
 ⟨Nat.le_trans h.size k.size, k.os.trans h.os, k.tape.trans h.tape, k.output.trans h.output, fun b hb ho => by
  obtain ⟨h1, h2⟩ := h.blk b hb ho
  obtain ⟨k1, k2⟩ := k.blk b (Nat.lt_of_lt_of_le hb h.size) (by rw [h1]; exact ho)
  exact ⟨k1.trans h1, k2.trans h2⟩, fun b hb => h.frn b (k.frn b hb).2, h.phi.trans k.phi⟩
theorem Fr.keep {φ φ' : Hnd} {ow ow' : Own} {w w' : World} (h : Fr φ ow w φ' ow' w') : A8 ow w ow' w' :=
 ⟨h.size, fun b hb hn => by obtain ⟨h1, h2⟩ := h.blk b hb (.inl hn); exact ⟨h1.trans hn, h2⟩⟩
structure StH (D0 : List Deferred) (st : St) (a : Act) (φ : Hnd) (ow : Own) (w : World) : Prop where
 n : a.tmps.size = st.n
 dfr : a.defers = D0
 env : ∀ t, (st.env t).holds φ ow w [a.tmps.getD t undef]
 heap : ∀ id, cH φ ow w id (st.heap id)
 fresh : ∀ id, st.next <= id -> φ id = Option.none
 own : ∀ c id, ow c = some id -> c < w.heap.size /\ id < st.next
 pos : 0 < st.next
theorem Cz {D0 : List Deferred} {φ0 : Hnd} {ow0 : Own} {w0 : World} {st : St} {a : Act} {w : World} : BN D0 φ0 ow0 w0 st a w ↔ ∃ φ ow, StH D0 st a φ ow w /\ Fr φ0 ow0 w0 φ ow w :=
 ⟨fun ⟨φ, ow, h1, h2, h3, h4, h5, h6, h7, h8⟩ => ⟨φ, ow, ⟨h1, h2, h3, h4, h5, h6, h7⟩, h8⟩, fun ⟨φ, ow, ⟨h1, h2, h3, h4, h5, h6, h7⟩, h8⟩ => ⟨φ, ow, h1, h2, h3, h4, h5, h6, h7, h8⟩⟩
theorem StH.here {D0 : List Deferred} {st : St} {a : Act} {φ : Hnd} {ow : Own} {w : World} (h : StH D0 st a φ ow w) : BN D0 φ ow w st a w := Cz.2 ⟨φ, ow, h, Fr.refl fun b id hb => (h.own b id hb).1⟩
theorem ADg (hS : ∀ f, AT C.P f (C.S f)) (hm : C.P.follows .mixedOrders = true) : ∀ (f : Nat) (c : Code) {st : St} {K : Exit -> St -> Prop}, vcU C f c st K ->
  ∀ {D0 : List Deferred} {φ0 : Hnd} {ow0 : Own} {w0 : World} {Q : Exit -> Act -> World -> Prop} {a : Act} {w : World}, BN D0 φ0 ow0 w0 st a w -> (∀ e st', K e st' -> ∀ a' w', BN D0 φ0 ow0 w0 st' a' w' -> Q e a' w') -> c.wpIn (rnd ro) rm C.P Q a w := by
 intro f
 induction f using Nat.strongRecOn with
 | _ f0 ih =>
 intro c st K h D0 φ0 ow0 w0 Q a w hs hK
 cases f0 with
 | zero => cases h
 | succ f =>
 have ihf := ih f (Nat.lt_succ_self f)
 cases c with
 | skip => exact wpIn_skip (hK _ _ h _ _ hs)
 | label l => exact wpIn_label (hK _ _ h _ _ hs)
 | region id ops draw => exact Eo hS hm h hs fun st' h' a' w' hs' => hK _ _ h' _ _ hs'
 | seq x y =>
  refine wpIn_seq (ihf x h hs fun e st' h' a' w' hs' => ?_)
  cases e with
  | normal => exact ihf y h' hs' hK
  | exit => exact hK _ _ h' _ _ hs'
  | goto => exact hK _ _ h' _ _ hs'
  | ret => exact hK _ _ h' _ _ hs'
  | panic => exact hK _ _ h' _ _ hs'
  | outgrown => exact hK _ _ h' _ _ hs'
 | cond c x y =>
  simp only [vcU] at h
  have hev : (Ah st.env c).holds hs.choose hs.choose_spec.choose w [a.eval c] := Bd hs.choose_spec.choose_spec.2.2.1 c
  split at h
  ·rename_i v hv
   rw [hv] at hev
   have hb := BL hev
   cases v with
   | true =>
    simp only [brB, cond_true] at h
    exact wpIn_cond hb (ihf x h hs hK)
   | false =>
    simp only [brB, cond_false] at h
    exact wpIn_cond hb (ihf y h hs hK)
  ·cases h
 | block id x =>
  refine wpIn_block (ihf x h hs fun e st' h' a' w' hs' => ?_)
  cases e with
  | exit id' =>
   cases hz : Nat.beq id' id with
   | true =>
    simp only [hz, cond_true] at h'
    simp only [Exit.inBlock, Nat.eq_of_beq_eq_true hz, if_true]
    exact hK _ _ h' _ _ hs'
   | false =>
    simp only [hz, cond_false] at h'
    simp only [Exit.inBlock]
    rw [if_neg (fun e => by rw [e, Nat.beq_refl] at hz; cases hz)]
    exact hK _ _ h' _ _ hs'
  | normal => exact hK _ _ h' _ _ hs'
  | goto => exact hK _ _ h' _ _ hs'
  | ret => exact hK _ _ h' _ _ hs'
  | panic => exact hK _ _ h' _ _ hs'
  | outgrown => exact hK _ _ h' _ _ hs'
 | scope x =>
  refine EI (ihf x h hs fun e st' h' a' w' hs' => ?_)
  cases e with
  | goto => cases h'
  | normal => exact hK _ _ h' _ _ hs'
  | exit => exact hK _ _ h' _ _ hs'
  | ret => exact hK _ _ h' _ _ hs'
  | panic => exact hK _ _ h' _ _ hs'
  | outgrown => exact hK _ _ h' _ _ hs'
 | exit id => exact wpIn_exit (hK _ _ h _ _ hs)
 | ret => exact wpIn_ret (hK _ _ h _ _ hs)
 | loop x =>
  refine wpIn_loop_ghost (fun n a w => n <= f + 1 /\ ∃ st, vcU C n (.loop x) st K /\ BN D0 φ0 ow0 w0 st a w) (f + 1) ⟨Nat.le_refl _, st, h, hs⟩ ?_
  rintro n a' w' ⟨hn, st1, h1, hs1⟩
  cases n with
  | zero => cases h1
  | succ n =>
  refine ih n (by omega) x h1 hs1 fun e st' h' a2 w2 hs2 => ?_
  cases e with
  | normal => exact ⟨n, Nat.lt_succ_self n, by omega, st', h', hs2⟩
  | exit => exact hK _ _ h' _ _ hs2
  | goto => exact hK _ _ h' _ _ hs2
  | ret => exact hK _ _ h' _ _ hs2
  | panic => exact hK _ _ h' _ _ hs2
  | outgrown => exact hK _ _ h' _ _ hs2
 | _ => cases h
theorem HJ {ow : Own} {w : World} {l : Nat} {o : Obj} (hl : ow l = some 0) : A8 ow w ow (w.putObj l o) :=
 ⟨by simp, fun b hb hn => ⟨hn, World.putObj_heap_other fun e => by rw [e, hl] at hn; cases hn⟩⟩
theorem StH.put {D0 : List Deferred} {st : St} {a : Act} {φ : Hnd} {ow : Own} {w : World} (h : StH D0 st a φ ow w) {l : Nat} {o : Obj} (hl : ow l = some 0) (hz : h0 st = true) : StH D0 st a φ ow (w.putObj l o) := by
 refine ⟨h.n, h.dfr, fun t => AV.Ab (Aw.refl _) (HJ hl) (h.env t), fun id => ?_, h.fresh, fun c id hc => ⟨by simp; exact (h.own c id hc).1, (h.own c id hc).2⟩, h.pos⟩
 by_cases hid : id = 0
 ·subst hid
  unfold h0 at hz
  split at hz
  ·rename_i he; rw [he]; trivial
  ·cases hz
 ·exact Cp (Aw.refl _) (HJ hl) (fun b hb ho => ⟨ho, World.putObj_heap_other fun e => by rw [e, hl] at ho; injection ho with ho; exact hid ho.symm⟩) (h.heap id)
theorem ADh (hS : ∀ f, AT C.P f (C.S f)) {D0 : List Deferred} {φ0 : Hnd} {ow0 : Own} {w0 : World} {st : St} {a : Act} {w : World} (hs : BN D0 φ0 ow0 w0 st a w) {o : Oper} {out : Out} {tch : List Nat}
  (hr : (Br C.P C.S C.wr o.op (Ah st.env) (st.next + 64 * 0)).run st.heap = some out) (hobl : ∀ p ∈ out.Bu, p) (hu : Ed st.next 0 (fun _ => false) tch out.upd = true) (hd : Bw st.n o.dst = true) {K : Act -> World -> Prop} {Q : Exit -> Act -> World -> Prop}
  (hK : ∀ a' w', BN D0 φ0 ow0 w0 { (st.upd out.upd).put o.dst out.res with next := st.next + 64 } a' w' -> K a' w') : o.wpIn (rnd ro) rm C.P a w K Q := by
 obtain ⟨φ, ow, ⟨h1, h2, h3, h4, h5, h6, h7⟩, hfr⟩ := Cz.1 hs
 refine Ru hS (next := st.next) (N := 1) (i := 0) (b := fun _ => false) h7 ⟨φ, ow, h1, h2, h3, h4, fun id hid _ => h5 id hid, fun c id hc => ⟨(h6 c id hc).1, .inl (h6 c id hc).2⟩, hfr⟩ rfl (by decide) (ord := fun _ => false) (fun k hk => by cases hk) hr hobl hu hd ?_
 rintro a' w' ⟨φ', ow', k1, k2, k3, k4, k5, k6, k7⟩
 refine hK a' w' ⟨φ', ow', ?_, k2, k3, k4, fun id hid => ?_, fun c id hc => ?_, ?_, k7⟩
 ·exact k1
 ·have hid' : st.next + 64 <= id := hid
  refine k5 id (by omega) fun k hk hw => ?_
  unfold up at hk
  split at hk
  ·rename_i e; subst e; unfold Dh at hw; omega
  ·cases hk
 ·obtain ⟨q1, q2⟩ := k6 c id hc
  refine ⟨q1, ?_⟩
  show id < st.next + 64
  rcases q2 with q2 | ⟨k, q2, _, q3⟩
  ·omega
  ·have : k = 0 := by omega
   subst this
   unfold Dh at q3
   omega
 ·show 0 < st.next + 64
  omega
def Gf (L : Lp) (fn : FuncId) (ct : Array Value) (D : Nat) : Option Jmp -> Loop
 | Option.none => { state := .ready, pending := Option.none, fn, tmps := ct, params := L.ps, assign := L.assign, body := L.body, defers := D }
 | some j => { state := .done, pending := some j.code, fn, tmps := ct, params := L.ps, assign := L.assign, body := L.body, defers := D }
structure AHR (L : Lp) (fn : FuncId) (ct : Array Value) (D : Nat) (j : Option Jmp) (φ : Hnd) (ow : Own) (w : World) : Prop where
 phi : φ L.k = some (.func (.yield (D + 1)) #[] #[])
 oL : ow (D + 1) = some 0
 oD : ow D = some 0
 rc : w.heap[D + 1]? = some (.loop (Gf L fn ct D j))
 dfr : w.heap[D]? = some (.deferred (some []))
 env : ∀ t, (L.env t).holds φ ow w [ct.getD t undef]
 n : ct.size = L.n
theorem AHR.fr {L : Lp} {fn : FuncId} {ct : Array Value} {D : Nat} {j : Option Jmp} {φ φ' : Hnd} {ow ow' : Own} {w w' : World} (h : AHR L fn ct D j φ ow w) (k : Fr φ ow w φ' ow' w') : AHR L fn ct D j φ' ow' w' := by
 obtain ⟨a1, a2⟩ := k.blk (D + 1) (Array.getElem?_eq_some_iff.1 h.rc).1 (.inr h.oL)
 obtain ⟨b1, b2⟩ := k.blk D (Array.getElem?_eq_some_iff.1 h.dfr).1 (.inr h.oD)
 exact ⟨k.phi _ _ h.phi, a1.trans h.oL, b1.trans h.oD, a2.trans h.rc, b2.trans h.dfr, fun t => AV.Ab k.phi k.keep (h.env t), h.n⟩
structure FrY (l : Nat) (φ0 : Hnd) (ow0 : Own) (w0 : World) (φ : Hnd) (ow : Own) (w : World) : Prop where
 size : w0.heap.size <= w.heap.size
 os : w.os = w0.os
 tape : w.tape = w0.tape
 output : w.output = w0.output
 blk : ∀ b, b < w0.heap.size -> b ≠ l -> (ow0 b = Option.none \/ ow0 b = some 0) -> ow b = ow0 b /\ w.heap[b]? = w0.heap[b]?
 frn : ∀ b, ow b = some 0 -> b < w0.heap.size /\ ow0 b = some 0
 phi : Aw φ0 φ
theorem FrY.step {l : Nat} {φ0 φ φ' : Hnd} {ow0 ow ow' : Own} {w0 w w' : World} (h : FrY l φ0 ow0 w0 φ ow w) (k : Fr φ ow w φ' ow' w') : FrY l φ0 ow0 w0 φ' ow' w' :=
 ⟨Nat.le_trans h.size k.size, k.os.trans h.os, k.tape.trans h.tape, k.output.trans h.output, fun b hb hl ho => by
  obtain ⟨h1, h2⟩ := h.blk b hb hl ho
  obtain ⟨k1, k2⟩ := k.blk b (Nat.lt_of_lt_of_le hb h.size) (by rw [h1]; exact ho)
  exact ⟨k1.trans h1, k2.trans h2⟩, fun b hb => h.frn b (k.frn b hb).2, h.phi.trans k.phi⟩
theorem FrY.put {l : Nat} {φ0 φ : Hnd} {ow0 ow : Own} {w0 w : World} {o : Obj} (h : FrY l φ0 ow0 w0 φ ow w) : FrY l φ0 ow0 w0 φ ow (w.putObj l o) :=
 ⟨by simpa using h.size, h.os, h.tape, h.output, fun b hb hl ho => ⟨(h.blk b hb hl ho).1, (World.putObj_heap_other hl).trans (h.blk b hb hl ho).2⟩, h.frn, h.phi⟩
theorem FrY.keep {l : Nat} {φ φ' : Hnd} {ow ow' : Own} {w w' : World} (h : FrY l φ ow w φ' ow' w') (hl : ow l = some 0) : A8 ow w ow' w' :=
 ⟨h.size, fun b hb hn => by obtain ⟨h1, h2⟩ := h.blk b hb (fun e => by rw [e, hl] at hn; cases hn) (.inl hn); exact ⟨h1.trans hn, h2⟩⟩
def VA (L : Lp) (fn : FuncId) (ct : Array Value) (D : Nat) (φ0 : Hnd) (ow0 : Own) (w0 : World) (st : St) (j : Option Jmp) (a : Act) (w : World) : Prop :=
 ∃ φ ow, StH [] st a φ ow w /\ AHR L fn ct D j φ ow w /\ FrY (D + 1) φ0 ow0 w0 φ ow w
theorem Qr {φ : Hnd} {ow : Own} {w : World} : ∀ (ts : List Tmp) (avs : List AV) (vs : List Value) (env : Nat -> AV) (tm : Array Value), avs.length = ts.length -> W8 φ ow w avs vs -> (∀ t ∈ ts, t < tm.size) -> (∀ t, (env t).holds φ ow w [tm.getD t undef]) ->
  (∀ t, (HI env (ts.zip avs) t).holds φ ow w [((ts.zip vs).foldl (fun m (p : Tmp × Value) => m.setIfInBounds p.1 p.2) tm).getD t undef]) /\ ((ts.zip vs).foldl (fun m (p : Tmp × Value) => m.setIfInBounds p.1 p.2) tm).size = tm.size
 | [], avs, vs, env, tm, _, _, _, h => ⟨by simpa [HI] using h, rfl⟩
 | t :: ts, [], vs, env, tm, hl, _, _, h => by simp at hl
 | t :: ts, a :: avs, [], env, tm, _, ha, _, h => ha.elim
 | t :: ts, a :: avs, v :: vs, env, tm, hl, ⟨ha, hr⟩, ht, h => by
  simp only [List.zip_cons_cons, HI, List.foldl_cons]
  have hts : t < tm.size := ht t (by simp)
  obtain ⟨k1, k2⟩ := Qr ts avs vs (fun x => bif Nat.beq x t then a else env x) (tm.setIfInBounds t v) (by simpa using hl) hr (fun t' h' => by simpa using ht t' (by simp [h'])) (fun x => by
   cases e : Nat.beq x t with
   | true =>
    have := Nat.eq_of_beq_eq_true e
    subst this
    rw [cond_true]
    simpa [hts] using ha
   | false =>
    have hne : t ≠ x := fun h => by subst h; rw [Nat.beq_refl] at e; cases e
    rw [cond_false]
    have := h x
    simpa [Array.getElem?_setIfInBounds, hne] using this)
  exact ⟨k1, k2.trans (by simp)⟩
end
end AL
end
section
set_option linter.unusedVariables false
set_option linter.unusedSimpArgs false
namespace AL
open Go
section
variable {C : Cfg} {rm : Nat} {L : Lp} {fnid : FuncId} {ct : Array Value} {D : Nat} {φ0 : Hnd} {ow0 : Own} {w0 : World}
theorem ADi (hS : ∀ f, AT C.P f (C.S f)) (hm : C.P.follows .mixedOrders = true) {f : Nat} {o : Oper} {st : St} {a : Act} {w : World} {args : List AV}
  (hy : yieldOf L.k st.env o.op = some args) (hlen : args.length = L.ps.size) (hd : Bw st.n o.dst = true) (hz : h0 st = true) (hps : ∀ t ∈ L.ps.toList, t < L.n)
  (hs : VA L fnid ct D φ0 ow0 w0 st Option.none a w) {K : St -> Option Jmp -> Prop} {Ka : Act -> World -> Prop} {Q : Exit -> Act -> World -> Prop}
  (hv : vcU C f L.assign { env := HI L.env (L.ps.toList.zip args), heap := st.heap, next := st.next, n := L.n } fun e s1 => match e with
       | .normal => bif h0 s1 then vcU C f L.body s1 fun e2 s2 => match e2 with
        | .normal => bif h0 s2 then K (C6 st s2 o.dst true) Option.none else Av 55
        | .ret => bif h0 s2 then K (C6 st s2 o.dst false) (some .ret) else Av 55
        | .exit id => bif h0 s2 then K (C6 st s2 o.dst false) (some (.exit id)) else Av 55
        | _ => Av 52
        else Av 56
       | _ => Av 53)
  (hK : ∀ st' j', K st' j' -> ∀ a' w', VA L fnid ct D φ0 ow0 w0 st' j' a' w' -> Ka a' w') : o.wpIn (rnd Option.none) rm C.P a w Ka Q := by
 obtain ⟨φ, ow, hc, hr, hf⟩ := hs
 -- the operation
 unfold yieldOf at hy
 split at hy <;> try (cases hy; done)
 rename_i c hop
 split at hy <;> try (cases hy; done)
 rename_i t hcal
 split at hy <;> try (cases hy; done)
 rename_i k' hk'
 cases hkk : Nat.beq k' L.k with
 | false => rw [hkk] at hy; cases hy
 | true =>
 rw [hkk, cond_true] at hy
 injection hy with hy
 have hkk := Nat.eq_of_beq_eq_true hkk
 subst hkk
 have hev := hc.env t
 rw [hk'] at hev
 obtain ⟨v, hv1, hv2, _⟩ := hev
 rw [hr.phi] at hv1
 injection hv1 with hv1
 injection hv2 with hv2
 have hval : a.eval (.tmp t) = .func (.yield (D + 1)) #[] #[] := by rw [hv1]; exact hv2
 have hall : W8 φ ow w args (c.args.toList.map a.eval) := by rw [<- hy]; exact NY (fun x => Bd hc.env x) _
 have hsz : (c.args.map a.eval).size = L.ps.size := by
  rw [<- hlen, <- hy]; simp
 have hrun := run_yield (P := C.P) (args := c.args.map a.eval) hr.rc (by rw [hsz]; rfl)
 refine ⟨fun _ _ => trivial, ?_⟩
 have he : (o.semAt (rnd Option.none).round a.eval).run C.P w = .ok (.round (D + 1) fnid ((L.ps.zip (c.args.map a.eval)).foldl (fun tmps (t, a) => tmps.setIfInBounds t a) ct) L.assign L.body) w := by
  show (execOp a.eval o).run C.P w = _
  have e1 : execOp a.eval o = (do let d <- resolve a.eval c o.type; invoke d.target d.args) := by
   cases o
   simp only at hop
   subst hop
   rfl
  rw [e1]
  simp only [resolve, hcal, hval, Deferred.ofValue, Sem.run_bind, Sem.run_pure, Result.andThen_ok, invoke, Array.empty_append]
  exact hrun
 rw [he]
 refine ⟨Kt _, ?_⟩
 refine roundIn_of_wpIn trivial ?_
 -- the frame of the round
 obtain ⟨p1, p2⟩ := Qr (φ := φ) (ow := ow) (w := w) L.ps.toList args (c.args.toList.map a.eval) L.env ct (by rw [hlen]; simp) hall (fun t ht => by rw [hr.n]; exact hps t ht) hr.env
 have hfold : (L.ps.zip (c.args.map a.eval)).foldl (fun tmps (t, a) => tmps.setIfInBounds t a) ct = (L.ps.toList.zip (c.args.toList.map a.eval)).foldl (fun m (p : Tmp × Value) => m.setIfInBounds p.1 p.2) ct := by
  rw [<- Array.foldl_toList]
  simp [Array.toList_zip]
 have hs1 : BN [] φ ow w { env := HI L.env (L.ps.toList.zip args), heap := st.heap, next := st.next, n := L.n } { tmps := (L.ps.zip (c.args.map a.eval)).foldl (fun tmps (t, a) => tmps.setIfInBounds t a) ct, defers := [] } w := by
  refine StH.here ⟨?_, rfl, ?_, hc.heap, hc.fresh, hc.own, hc.pos⟩
  ·rw [hfold]; exact p2.trans hr.n
  ·rw [hfold]; exact p1
 refine ADg (ro := some (D + 1)) hS hm f L.assign hv hs1 ?_
 intro e s1 h1 a1 w1 hs1'
 cases e with
 | normal =>
  simp only at h1
  cases hz1 : h0 s1 with
  | false => rw [hz1] at h1; cases h1
  | true =>
  rw [hz1, cond_true] at h1
  obtain ⟨φ1, ow1, hc1, hfr1⟩ := Cz.1 hs1'
  have hr1 := hr.fr hfr1
  refine ⟨_, run_beginRound hr1.rc rfl, ?_⟩
  have hlt1 : D + 1 < w1.heap.size := (Array.getElem?_eq_some_iff.1 hr1.rc).1
  have hc1' := hc1.put (o := .loop { Gf L fnid ct D Option.none with state := .busy }) hr1.oL hz1
  refine ADg (ro := some (D + 1)) hS hm f L.body h1 hc1'.here ?_
  intro e2 s2 h2 a2 w3 hs2
  obtain ⟨φ3, ow3, hc3, hfr3⟩ := Cz.1 hs2
  obtain ⟨o1, o2⟩ := hfr3.blk (D + 1) (by simpa using hlt1) (.inr hr1.oL)
  have hrec3 : w3.heap[D + 1]? = some (.loop { Gf L fnid ct D Option.none with state := .busy }) := o2.trans (World.putObj_heap_same hlt1)
  have hlt3 : D + 1 < w3.heap.size := (Array.getElem?_eq_some_iff.1 hrec3).1
  have hltD : D < w1.heap.size := by omega
  obtain ⟨d1, d2⟩ := hfr3.blk D (by simpa using hltD) (.inr hr1.oD)
  have oL3 : ow3 (D + 1) = some 0 := o1.trans hr1.oL
  have oD3 : ow3 D = some 0 := d1.trans hr1.oD
  have fin : ∀ (jo : Option Jmp), h0 s2 = true -> K (C6 st s2 o.dst jo.isNone) jo -> ∃ v w', (Instr.endRound (D + 1) (jo.map Jmp.code)).run C.P w3 = .ok v w' /\ Ka (a.put o.dst v) w' := by
   intro jo hz2 hk
   refine ⟨_, _, run_endRound _ hrec3, ?_⟩
   have hrd : (Obj.loop { ({ Gf L fnid ct D Option.none with state := .busy } : Loop) with state := if (jo.map Jmp.code).isNone then .ready else .done, pending := jo.map Jmp.code }) = .loop (Gf L fnid ct D jo) := by
    cases jo <;> rfl
   rw [hrd]
   have hb : (jo.map Jmp.code).isNone = jo.isNone := by cases jo <;> rfl
   rw [hb]
   have hc4 := hc3.put (o := .loop (Gf L fnid ct D jo)) oL3 hz2
   have kAll : A8 ow w ow3 (w3.putObj (D + 1) (.loop (Gf L fnid ct D jo))) := ((hfr1.keep.trans (HJ (o := .loop { Gf L fnid ct D Option.none with state := .busy }) hr1.oL)).trans hfr3.keep).trans (HJ oL3)
   have pAll : Aw φ φ3 := hfr1.phi.trans hfr3.phi
   refine hK _ _ hk _ _ ⟨φ3, ow3, ⟨?_, ?_, ?_, ?_, ?_, ?_, ?_⟩, ⟨?_, oL3, oD3, World.putObj_heap_same hlt3, ?_, ?_, hr.n⟩, ?_⟩
   ·rw [(Fc a o.dst _).1, hc.n, show (C6 st s2 o.dst jo.isNone).n = st.n from (Bg _ _ _).2.2]
   ·rw [(Fc a o.dst _).2, hc.dfr]
   ·exact Ku (st := { env := st.env, heap := s2.heap, next := s2.next, n := st.n }) hc.n hc.env (fun h => AV.Ab pAll kAll h) hd ⟨rfl, rfl, rfl⟩
   ·intro id
    rw [show (C6 st s2 o.dst jo.isNone).heap = s2.heap from (Bg _ _ _).1]
    exact hc4.heap id
   ·intro id hid
    rw [show (C6 st s2 o.dst jo.isNone).next = s2.next from (Bg _ _ _).2.1] at hid
    exact hc3.fresh id hid
   ·intro c id hc'
    rw [show (C6 st s2 o.dst jo.isNone).next = s2.next from (Bg _ _ _).2.1]
    exact hc4.own c id hc'
   ·rw [show (C6 st s2 o.dst jo.isNone).next = s2.next from (Bg _ _ _).2.1]
    exact hc3.pos
   ·exact pAll _ _ hr.phi
   ·rw [World.putObj_heap_other (by omega)]
    exact d2.trans ((World.putObj_heap_other (by omega)).trans hr1.dfr)
   ·intro t
    exact AV.Ab pAll kAll (hr.env t)
   ·exact (((hf.step hfr1).put).step hfr3).put
  cases e2 with
  | normal =>
   simp only at h2
   cases hz2 : h0 s2 with
   | false => rw [hz2] at h2; cases h2
   | true => rw [hz2, cond_true] at h2; exact fin Option.none hz2 h2
  | ret =>
   simp only at h2
   cases hz2 : h0 s2 with
   | false => rw [hz2] at h2; cases h2
   | true => rw [hz2, cond_true] at h2; exact fin (some .ret) hz2 h2
  | exit id =>
   simp only at h2
   cases hz2 : h0 s2 with
   | false => rw [hz2] at h2; cases h2
   | true => rw [hz2, cond_true] at h2; exact fin (some (.exit id)) hz2 h2
  | goto => cases h2
  | panic => cases h2
  | outgrown => cases h2
 | exit => cases h1
 | goto => cases h1
 | ret => cases h1
 | panic => cases h1
 | outgrown => cases h1
theorem R7 (hS : ∀ f, AT C.P f (C.S f)) (hm : C.P.follows .mixedOrders = true) {f : Nat} {ops : Array Oper} {Q : Exit -> Act -> World -> Prop} {K : St -> Option Jmp -> Prop} (hK : ∀ st' j', K st' j' -> ∀ a' w', VA L fnid ct D φ0 ow0 w0 st' j' a' w' -> Q .normal a' w') :
  ∀ (l : List Oper) (i : Nat), ops.toList.drop i = l -> ∀ (st : St) (j : Option Jmp), Eu C L f l st j K -> ∀ (a : Act) (w : World), VA L fnid ct D φ0 ow0 w0 st j a w -> wpOpsIn (rnd Option.none) rm C.P ops Q (List.range' i l.length) a w
 | [], i, hl, st, j, hv, a, w, hs => hK st j hv a w hs
 | o :: r, i, hl, st, j, hv, a, w, hs => by
  have hoi : ops[i]? = some o := by
   have : (ops.toList.drop i)[0]? = some o := by rw [hl]; rfl
   simpa [List.getElem?_drop] using this
  have hr : ops.toList.drop (i + 1) = r := by
   rw [<- List.tail_drop, hl]; rfl
  rw [List.length_cons, List.range'_succ, wpOpsIn_cons, wpOpIn, hoi]
  simp only [Eu] at hv
  split at hv
  ·cases hv
  ·rename_i hg
   have hw : Region.wanted o (yielded ops a.tmps) = true := by simp [Region.wanted, hg]
   simp only [hw, if_true]
   split at hv
   ·rename_i args hy
    split at hv
    ·cases hv
    ·cases hcnd : (Nat.beq args.length L.ps.size && Bw st.n o.dst) && (h0 st && L.ps.toList.all fun t => Nat.blt t L.n) with
     | false => rw [hcnd] at hv; cases hv
     | true =>
      rw [hcnd, cond_true] at hv
      simp only [Bool.and_eq_true, List.all_eq_true] at hcnd
      obtain ⟨⟨c1, c2⟩, c3, c4⟩ := hcnd
      exact ADi hS hm hy (Nat.eq_of_beq_eq_true c1) c2 c3 (fun t ht => Nat.le_of_ble_eq_true (c4 t ht)) hs (K := fun st' j' => Eu C L f r st' j' K) hv fun st' j' h' a' w' hs' => R7 hS hm hK r (i + 1) hr st' j' h' a' w' hs'
   ·obtain ⟨φ, ow, hc, hrh, hf⟩ := hs
    unfold ID at hv
    simp only at hv
    split at hv
    ·rename_i out hout
     cases hb : Ed st.next 0 (fun _ => false) ((Br C.P C.S C.wr o.op (Ah st.env) (st.next + 64 * 0)).Bc st.heap) out.upd && Bw st.n o.dst with
     | false => rw [hb] at hv; cases hv
     | true =>
      rw [hb, cond_true] at hv
      simp only [Bool.and_eq_true] at hb
      obtain ⟨hobl, hv⟩ := G2 hv
      refine ADh hS hc.here hout hobl hb.1 hb.2 fun a' w' hs' => ?_
      obtain ⟨φ', ow', hc', hfr'⟩ := Cz.1 hs'
      exact R7 hS hm hK r (i + 1) hr _ j hv a' w' ⟨φ', ow', hc', hrh.fr hfr', hf.step hfr'⟩
    ·cases hv
theorem AJk (hS : ∀ f, AT C.P f (C.S f)) (hm : C.P.follows .mixedOrders = true) : ∀ (f : Nat) (c : Code) {st : St} {j : Option Jmp} {K : Exit -> St -> Option Jmp -> Prop}, vcY C L f c st j K ->
  ∀ {Q : Exit -> Act -> World -> Prop} {a : Act} {w : World}, VA L fnid ct D φ0 ow0 w0 st j a w -> (∀ e st' j', K e st' j' -> ∀ a' w', VA L fnid ct D φ0 ow0 w0 st' j' a' w' -> Q e a' w') -> c.wpIn (rnd Option.none) rm C.P Q a w := by
 intro f
 induction f using Nat.strongRecOn with
 | _ f0 ih =>
 intro c st j K h Q a w hs hK
 cases f0 with
 | zero => cases h
 | succ f =>
 have ihf := ih f (Nat.lt_succ_self f)
 cases c with
 | skip => exact wpIn_skip (hK _ _ _ h _ _ hs)
 | label l => exact wpIn_label (hK _ _ _ h _ _ hs)
 | region id ops draw =>
  simp only [vcY] at h
  cases hg : draw || ops.toList.any (fun o => o.guard.isSome) with
  | true =>
   rw [hg, cond_true] at h
   obtain ⟨φ, ow, hc, hrh, hf⟩ := hs
   refine Eo hS hm h hc.here fun st' h' a' w' hs' => ?_
   obtain ⟨φ', ow', hc', hfr'⟩ := Cz.1 hs'
   exact hK _ _ _ h' _ _ ⟨φ', ow', hc', hrh.fr hfr', hf.step hfr'⟩
  | false =>
   rw [hg, cond_false] at h
   simp only [Bool.or_eq_false_iff] at hg
   rw [hg.1]
   refine wpIn_region ?_
   have := R7 hS hm (ops := ops) (rm := rm) (Q := Q) (fun st' j' h' a' w' hs' => hK _ _ _ h' _ _ hs') ops.toList 0 (by simp) st j h a w hs
   rw [List.range_eq_range']
   simpa using this
 | seq x y =>
  refine wpIn_seq (ihf x h hs fun e st' j' h' a' w' hs' => ?_)
  cases e with
  | normal => exact ihf y h' hs' hK
  | exit => exact hK _ _ _ h' _ _ hs'
  | goto => exact hK _ _ _ h' _ _ hs'
  | ret => exact hK _ _ _ h' _ _ hs'
  | panic => exact hK _ _ _ h' _ _ hs'
  | outgrown => exact hK _ _ _ h' _ _ hs'
 | cond c x y =>
  simp only [vcY] at h
  obtain ⟨φ, ow, hc, _⟩ := id hs
  have hev : (Ah st.env c).holds φ ow w [a.eval c] := Bd hc.env c
  split at h
  ·rename_i v hv
   rw [hv] at hev
   have hb := BL hev
   cases v with
   | true =>
    simp only [brB, cond_true] at h
    exact wpIn_cond hb (ihf x h hs hK)
   | false =>
    simp only [brB, cond_false] at h
    exact wpIn_cond hb (ihf y h hs hK)
  ·cases h
 | block id x =>
  refine wpIn_block (ihf x h hs fun e st' j' h' a' w' hs' => ?_)
  cases e with
  | exit id' =>
   cases hz : Nat.beq id' id with
   | true =>
    simp only [hz, cond_true] at h'
    simp only [Exit.inBlock, Nat.eq_of_beq_eq_true hz, if_true]
    exact hK _ _ _ h' _ _ hs'
   | false =>
    simp only [hz, cond_false] at h'
    simp only [Exit.inBlock]
    rw [if_neg (fun e => by rw [e, Nat.beq_refl] at hz; cases hz)]
    exact hK _ _ _ h' _ _ hs'
  | normal => exact hK _ _ _ h' _ _ hs'
  | goto => exact hK _ _ _ h' _ _ hs'
  | ret => exact hK _ _ _ h' _ _ hs'
  | panic => exact hK _ _ _ h' _ _ hs'
  | outgrown => exact hK _ _ _ h' _ _ hs'
 | exit id => exact wpIn_exit (hK _ _ _ h _ _ hs)
 | ret => exact wpIn_ret (hK _ _ _ h _ _ hs)
 | loop x =>
  refine wpIn_loop_ghost (fun n a w => n <= f + 1 /\ ∃ st j, vcY C L n (.loop x) st j K /\ VA L fnid ct D φ0 ow0 w0 st j a w) (f + 1) ⟨Nat.le_refl _, st, j, h, hs⟩ ?_
  rintro n a' w' ⟨hn, st1, j1, h1, hs1⟩
  cases n with
  | zero => cases h1
  | succ n =>
  refine ih n (by omega) x h1 hs1 fun e st' j' h' a2 w2 hs2 => ?_
  cases e with
  | normal => exact ⟨n, Nat.lt_succ_self n, by omega, st', j', h', hs2⟩
  | exit => exact hK _ _ _ h' _ _ hs2
  | goto => exact hK _ _ _ h' _ _ hs2
  | ret => exact hK _ _ _ h' _ _ hs2
  | panic => exact hK _ _ _ h' _ _ hs2
  | outgrown => exact hK _ _ _ h' _ _ hs2
 | _ => cases h
end
end AL
end
