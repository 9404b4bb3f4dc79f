/- The texts Sx1, Sx2, Sx3, Sx4, Sx5, Sx6, Sx7, Sx8, Sx9, Sx10, Sx11, Sx12, SxA, SxB, SxC, SxD, SxH, one behind the other. -/
import Derived.WalkKit
import Derived.Orders
import Derived.Laws.BytesArg
import Derived.Maps.AppendAt
set_option linter.unusedVariables false
set_option linter.unusedSimpArgs false
section
set_option linter.unusedVariables false
set_option linter.unusedSimpArgs false
namespace AL
open Go
def lim : Nat := 140737488355328
inductive Ty where
 | int (k : IntKind)
 | bool
 | str
 | fnT                        -- a function of the text, that captures nothing
 | sl (t : Ty)
 | ptr (t : Ty)
 | CE (K V : Ty)
 | unit
 | pair (a b : Ty)
 deriving DecidableEq
@[reducible] def Ty.den : Ty -> Type
 | .int _ => Int
 | .bool => Bool
 | .str => ByteArray
 | .fnT => Nat
 | .sl t => List t.den
 | .ptr t => t.den
 | .CE K V => List (K.den × V.den)
 | .unit => Unit
 | .pair a b => a.den × b.den
def Ty.Bl : (T : Ty) -> T.den
 | .int _ => (0 : Int)
 | .bool => false
 | .str => ByteArray.empty
 | .fnT => (0 : Nat)
 | .sl _ => []
 | .ptr t => t.Bl
 | .CE _ _ => []
 | .unit => ()
 | .pair a b => (a.Bl, b.Bl)
def Ty.eqD : (T : Ty) -> DecidableEq T.den
 | .int _ => (inferInstance : DecidableEq Int)
 | .bool => (inferInstance : DecidableEq Bool)
 | .str => (inferInstance : DecidableEq ByteArray)
 | .fnT => (inferInstance : DecidableEq Nat)
 | .sl t => @instDecidableEqList _ t.eqD
 | .ptr t => t.eqD
 | .CE K V => @instDecidableEqList _ (@instDecidableEqProd _ _ K.eqD V.eqD)
 | .unit => (inferInstance : DecidableEq Unit)
 | .pair a b => @instDecidableEqProd _ _ a.eqD b.eqD
def Ty.size : Ty -> Nat
 | .unit => 0
 | .pair a b => a.size + b.size
 | _ => 1
def Ty.leaf : Ty -> Bool
 | .unit => false
 | .pair _ _ => false
 | _ => true
def get (T : Ty) (l : List T.den) (i : Int) : T.den := l.getD i.toNat T.Bl
def Bp (w : World) (g o : Nat) (cs : List Value) : Prop := ∀ k v, cs[k]? = some v -> w.cell? ⟨g, o + k, none⟩ = some v
def Rows {α : Type} (R : List Value -> α -> Prop) : List Value -> List α -> Prop
 | xs, [] => xs = []
 | xs, a :: l => ∃ c r, xs = c ++ r /\ R c a /\ Rows R r l
theorem Rows.mono {α : Type} {R R' : List Value -> α -> Prop} (h : ∀ c a, R c a -> R' c a) : ∀ {l : List α} {xs : List Value}, Rows R xs l -> Rows R' xs l
 | [], _, hr => hr
 | _ :: _, _, ⟨c, r, e, h1, h2⟩ => ⟨c, r, e, h _ _ h1, Rows.mono h h2⟩
theorem Rows.len {α : Type} {R : List Value -> α -> Prop} {n : Nat} (hn : ∀ c a, R c a -> c.length = n) : ∀ {l : List α} {xs : List Value}, Rows R xs l -> xs.length = l.length * n
 | [], _, h => by rw [show _ = _ from h]; simp
 | _ :: l, _, ⟨c, r, e, h1, h2⟩ => by rw [e, List.length_append, hn _ _ h1, Rows.len hn h2, List.length_cons, Nat.succ_mul]; omega
theorem Rows.app {α : Type} {R : List Value -> α -> Prop} : ∀ {l m : List α} {xs ys : List Value}, Rows R xs l -> Rows R ys m -> Rows R (xs ++ ys) (l ++ m)
 | [], _, _, _, h, k => by rw [show _ = _ from h]; exact k
 | _ :: _, _, _, ys, ⟨c, r, e, h1, h2⟩, k => ⟨c, r ++ ys, by rw [e, List.append_assoc], h1, Rows.app h2 k⟩
theorem Rows.one {α : Type} {R : List Value -> α -> Prop} {c : List Value} {a : α} (h : R c a) : Rows R c [a] := ⟨c, [], by simp, h, rfl⟩
theorem Rows.split {α : Type} {R : List Value -> α -> Prop} : ∀ {l m : List α} {xs : List Value}, Rows R xs (l ++ m) -> ∃ c r, xs = c ++ r /\ Rows R c l /\ Rows R r m
 | [], _, xs, h => ⟨[], xs, rfl, rfl, h⟩
 | _ :: _, _, _, ⟨c, r, e, h1, h2⟩ =>
  let ⟨c', r', e', h3, h4⟩ := Rows.split h2
  ⟨c ++ c', r', by rw [e, e', List.append_assoc], ⟨c, c', rfl, h1, h3⟩, h4⟩
theorem Rows.get {α : Type} {R : List Value -> α -> Prop} {n : Nat} (hn : ∀ c a, R c a -> c.length = n) {l : List α} {xs : List Value} (h : Rows R xs l) {j : Nat} (hj : j < l.length) : R ((xs.drop (j * n)).take n) l[j] := by
 have e : l = l.take j ++ (l[j] :: l.drop (j + 1)) := by rw [<- List.drop_eq_getElem_cons hj, List.take_append_drop]
 rw [e] at h
 obtain ⟨c, r, e1, h1, c', r', e2, h2, h3⟩ := Rows.split h
 have hc := Rows.len hn h1
 rw [List.length_take, Nat.min_eq_left (Nat.le_of_lt hj)] at hc
 rw [e1, <- hc, List.drop_left, e2, <- hn _ _ h2, List.take_left]
 exact h2
theorem Rows.ND {α : Type} {R : List Value -> α -> Prop} {n : Nat} (hn : ∀ c a, R c a -> c.length = n) {l : List α} {xs : List Value} (h : Rows R xs l) (k : Nat) : Rows R (xs.take (k * n)) (l.take k) := by
 rcases Nat.lt_or_ge k l.length with hk | hk
 ·rw [<- List.take_append_drop k l] at h
  obtain ⟨c, r, e1, h1, h2⟩ := Rows.split h
  have hc := Rows.len hn h1
  rw [List.length_take, Nat.min_eq_left (Nat.le_of_lt hk)] at hc
  rw [e1, <- hc, List.take_left]
  exact h1
 ·have := Rows.len hn h
  rw [List.take_of_length_le hk, List.take_of_length_le (by rw [this]; exact Nat.mul_le_mul_right _ hk)]
  exact h
theorem Rows.Zn {α : Type} {R : List Value -> α -> Prop} {n : Nat} (hn : ∀ c a, R c a -> c.length = n) {l : List α} {xs : List Value} (h : Rows R xs l) (k : Nat) : Rows R (xs.drop (k * n)) (l.drop k) := by
 rcases Nat.lt_or_ge k l.length with hk | hk
 ·rw [<- List.take_append_drop k l] at h
  obtain ⟨c, r, e1, h1, h2⟩ := Rows.split h
  have hc := Rows.len hn h1
  rw [List.length_take, Nat.min_eq_left (Nat.le_of_lt hk)] at hc
  rw [e1, <- hc, List.drop_left]
  exact h2
 ·have := Rows.len hn h
  rw [List.drop_of_length_le hk, List.drop_of_length_le (by rw [this]; exact Nat.mul_le_mul_right _ hk)]
  exact rfl
theorem Rows.set {α : Type} {R : List Value -> α -> Prop} {n : Nat} (hn : ∀ c a, R c a -> c.length = n) {l : List α} {xs : List Value} (h : Rows R xs l) {j : Nat} (hj : j < l.length) {c : List Value} {a : α} (hc : R c a) :
  Rows R (xs.take (j * n) ++ c ++ xs.drop ((j + 1) * n)) (l.set j a) := by
 rw [List.set_eq_take_append_cons_drop, if_pos hj, List.append_assoc]
 exact Rows.app (Rows.ND hn h j) ⟨c, _, rfl, hc, Rows.Zn hn h (j + 1)⟩
theorem Rows.rep {α : Type} {R : List Value -> α -> Prop} {c : List Value} {a : α} (h : R c a) : ∀ k, Rows R ((List.replicate k c).flatten) (List.replicate k a)
 | 0 => rfl
 | k + 1 => ⟨c, _, rfl, h, Rows.rep h k⟩
theorem Rows.all {α : Type} {R : List Value -> α -> Prop} {p : Value -> Prop} (h : ∀ c a, R c a -> ∀ v ∈ c, p v) : ∀ {l : List α} {xs : List Value}, Rows R xs l -> ∀ v ∈ xs, p v
 | [], _, hr => by rw [show _ = _ from hr]; simp
 | _ :: _, _, ⟨c, r, e, h1, h2⟩ => by
  intro v hv
  rw [e, List.mem_append] at hv
  exact hv.elim (h _ _ h1 v) (Rows.all h h2 v)
def B7 : (K : Ty) -> K.den -> Value
 | .int k, a => .int k a
 | .str, s => .string s
 | .pair (.int k) (.pair (.int q) .unit), x => .agg #[.int k x.1, .int q x.2.1]
 | _, _ => .bool false
def KV : (K : Ty) -> K.den -> Prop
 | .int k, a => k.has a
 | .str, s => s.size <= lim
 | .pair (.int k) (.pair (.int q) .unit), x => k.has x.1 /\ q.has x.2.1
 | _, _ => True
def EH {α : Type} (R : List Value -> α -> Prop) (K : Ty) : List MapEntry -> List (K.den × α) -> Prop
 | [], l => l = []
 | e :: es, l => ∃ a x r, l = (a, x) :: r /\ e.key = B7 K a /\ KV K a /\ R [e.val] x /\ EH R K es r
theorem Cb {α : Type} {R R' : List Value -> α -> Prop} (h : ∀ c a, R c a -> R' c a) {K : Ty} : ∀ {es : List MapEntry} {l : List (K.den × α)}, EH R K es l -> EH R' K es l
 | [], _, hr => hr
 | _ :: _, _, ⟨a, x, r, h1, h2, h3, h4, h5⟩ => ⟨a, x, r, h1, h2, h3, h _ _ h4, Cb h h5⟩
def Ty.rep (ow : Nat -> Option Nat) (w : World) : (T : Ty) -> List Value -> T.den -> Prop
 | .int k, cs, x => cs = [.int k x] /\ k.has x
 | .bool, cs, b => cs = [.bool b]
 | .str, cs, s => cs = [.string s] /\ s.size <= lim
 | .fnT, cs, f => cs = [.func (.func f) #[] #[]]
 | .sl t, cs, l => ∃ A c, cs = [.slice A l.length c] /\ l.length <= c /\ l.length <= lim /\ c <= maxLen /\
   (l = [] \/ ∃ g o xs, A = some ⟨g, o, none⟩ /\ ow g = none /\ g < w.heap.size /\ Bp w g o xs /\ Rows (Ty.rep ow w t) xs l)
 | .ptr t, cs, x => ∃ g o, cs = [.pointer (some ⟨g, o, none⟩)] /\ ow g = none /\ g < w.heap.size /\
   ∃ cs', Bp w g o cs' /\ Ty.rep ow w t cs' x
 | .CE K V, cs, x => ∃ (g : Nat) (es : Array MapEntry) (clock : Nat), cs = [.map (some g)] /\ ow g = none /\ w.heap[g]? = some (.map es clock) /\ V.leaf = true /\ EH (Ty.rep ow w V) K es.toList x
 | .unit, cs, _ => cs = []
 | .pair a b, cs, x => ∃ c1 c2, cs = c1 ++ c2 /\ Ty.rep ow w a c1 x.1 /\ Ty.rep ow w b c2 x.2
theorem Ty.A6 {ow : Nat -> Option Nat} {w : World} : ∀ {T : Ty} {cs : List Value} {x : T.den}, T.rep ow w cs x -> cs.length = T.size
 | .int _, _, _, h => by rw [h.1]; rfl
 | .bool, _, _, h => by rw [show _ = _ from h]; rfl
 | .str, _, _, h => by rw [h.1]; rfl
 | .fnT, _, _, h => by rw [show _ = _ from h]; rfl
 | .sl _, _, _, ⟨_, _, h, _⟩ => by rw [h]; rfl
 | .ptr _, _, _, ⟨_, _, h, _⟩ => by rw [h]; rfl
 | .CE _ _, _, _, ⟨_, _, _, h, _⟩ => by rw [h]; rfl
 | .unit, _, _, h => by rw [show _ = _ from h]; rfl
 | .pair a b, _, _, ⟨c1, c2, h, h1, h2⟩ => by rw [h, List.length_append, A6 h1, A6 h2]; rfl
structure A8 (ow : Nat -> Option Nat) (w : World) (ow' : Nat -> Option Nat) (w' : World) : Prop where
 size : w.heap.size <= w'.heap.size
 blk : ∀ b, b < w.heap.size -> ow b = none -> ow' b = none /\ w'.heap[b]? = w.heap[b]?
theorem A8.refl (ow : Nat -> Option Nat) (w : World) : A8 ow w ow w := ⟨Nat.le_refl _, fun _ _ h => ⟨h, rfl⟩⟩
theorem A8.trans {o1 o2 o3 : Nat -> Option Nat} {w1 w2 w3 : World} (h : A8 o1 w1 o2 w2) (k : A8 o2 w2 o3 w3) : A8 o1 w1 o3 w3 :=
 ⟨Nat.le_trans h.size k.size, fun b hb hn =>
  let ⟨h1, h2⟩ := h.blk b hb hn
  let ⟨k1, k2⟩ := k.blk b (Nat.lt_of_lt_of_le hb h.size) h1
  ⟨k1, k2.trans h2⟩⟩
theorem Fy {w w' : World} {g o : Nat} {cs : List Value} (h : Bp w g o cs) (hb : w'.heap[g]? = w.heap[g]?) : Bp w' g o cs :=
 fun k v hv => (World.cell?_of_block (a := ⟨g, o + k, none⟩) hb).trans (h k v hv)
theorem Ty.AO {ow ow' : Nat -> Option Nat} {w w' : World} (hk : A8 ow w ow' w') : ∀ {T : Ty} {cs : List Value} {x : T.den}, T.rep ow w cs x -> T.rep ow' w' cs x
 | .int _, _, _, h => h
 | .bool, _, _, h => h
 | .str, _, _, h => h
 | .fnT, _, _, h => h
 | .sl t, _, _, ⟨A, c, h1, h2, h3, h3', h4⟩ => ⟨A, c, h1, h2, h3, h3', h4.imp (fun h => h) fun ⟨g, o, xs, e, hn, hg, r1, r2⟩ =>
   let ⟨k1, k2⟩ := hk.blk g hg hn
   ⟨g, o, xs, e, k1, Nat.lt_of_lt_of_le hg hk.size, Fy r1 k2, Rows.mono (fun _ _ => AO hk) r2⟩⟩
 | .ptr t, _, _, ⟨g, o, e, hn, hg, cs', r1, r2⟩ =>
   let ⟨k1, k2⟩ := hk.blk g hg hn
   ⟨g, o, e, k1, Nat.lt_of_lt_of_le hg hk.size, cs', Fy r1 k2, AO hk r2⟩
 | .CE K V, _, _, ⟨g, es, clock, e, hn, hg, hl, r1⟩ =>
   let ⟨k1, k2⟩ := hk.blk g (Array.getElem?_eq_some_iff.1 hg).1 hn
   ⟨g, es, clock, e, k1, k2.trans hg, hl, Cb (fun _ _ => AO hk) r1⟩
 | .unit, _, _, h => h
 | .pair a b, _, _, ⟨c1, c2, h, h1, h2⟩ => ⟨c1, c2, h, AO hk h1, AO hk h2⟩
theorem Ty.Fz {ow : Nat -> Option Nat} {w : World} : ∀ {T : Ty} {cs : List Value} {x : T.den}, T.rep ow w cs x -> ∀ v ∈ cs, v.oneCell' = true
 | .int _, _, _, h => by rw [h.1]; simp [Value.oneCell']
 | .bool, _, _, h => by rw [show _ = _ from h]; simp [Value.oneCell']
 | .str, _, _, h => by rw [h.1]; simp [Value.oneCell']
 | .fnT, _, _, h => by rw [show _ = _ from h]; simp [Value.oneCell']
 | .sl _, _, _, ⟨_, _, h, _⟩ => by rw [h]; simp [Value.oneCell']
 | .ptr _, _, _, ⟨_, _, h, _⟩ => by rw [h]; simp [Value.oneCell']
 | .CE _ _, _, _, ⟨_, _, _, h, _⟩ => by rw [h]; simp [Value.oneCell']
 | .unit, _, _, h => by rw [show _ = _ from h]; simp
 | .pair a b, _, _, ⟨c1, c2, h, h1, h2⟩ => by
  intro v hv
  rw [h, List.mem_append] at hv
  exact hv.elim (Fz h1 v) (Fz h2 v)
inductive AV : Type where
 | bot
 | raw (v : Value)
 | dat (T : Ty) (x : T.den)
 | isNil (p : Prop)
 | arr (id : Nat)
 | vw (id sz : Nat) (lo hi : Int)
 | ref (id off : Nat)
 | elt (id sz : Nat) (i : Int) (off : Nat)
 | spt (T : Ty) (x : T.den)
 | fn (f : FuncId) (caps : AV)
 | BY (id : Nat)
 | chv (id : Nat)
 | bfn (id : Nat) (f : FuncId)          -- a method bound to an object
 | opq (k : Nat)                       -- one cell: k's handle
 | idn (k : Nat) (T : Ty) (x : T.den)   -- data: k's handle
 | nil
 | cons (a b : AV)
 | agg (l : AV)
 | tup (l : AV)
abbrev Hnd := Nat -> Option Value   -- by chunk: its handle
abbrev Own := Nat -> Option Nat     -- by block: the chunk that owns it
def AV.holds (φ : Hnd) (ow : Own) (w : World) : AV -> List Value -> Prop
 | .bot, vs => vs.length = 1
 | .raw v, vs => vs = [v]
 | .dat T x, vs => vs.length = 1 /\ T.leaf = true /\ T.rep ow w vs x
 | .isNil p, vs => ∃ b, vs = [.bool b] /\ (b = true -> p)
 | .arr id, vs => ∃ A n c, φ id = some (.slice A n c) /\ vs = [.slice A n c]
 | .vw id sz lo hi, vs => ∃ A n c X, φ id = some (.slice A n c) /\ 0 <= lo /\ lo <= hi /\ hi <= n /\ n <= c /\
   ((lo = hi /\ 0 < lo) \/ X = A.map (·.add (lo.toNat * sz))) /\ vs = [.slice X (hi.toNat - lo.toNat) (c - lo.toNat)]
 | .ref id off, vs => ∃ g, φ id = some (.pointer (some ⟨g, 0, none⟩)) /\ vs = [.pointer (some ⟨g, off, none⟩)]
 | .elt id sz i off, vs => ∃ g n c, φ id = some (.slice (some ⟨g, 0, none⟩) n c) /\ 0 <= i /\ i < n /\ vs = [.pointer (some ⟨g, i.toNat * sz + off, none⟩)]
 | .spt T x, vs => ∃ g o cs, vs = [.pointer (some ⟨g, o, none⟩)] /\ ow g = none /\ g < w.heap.size /\ Bp w g o cs /\ T.rep ow w cs x
 | .fn f caps, vs => ∃ cs : Array Value, vs = [.func (.func f) #[] cs] /\ AV.holds φ ow w caps cs.toList
 | .BY id, vs => ∃ g, φ id = some (.map (some g)) /\ vs = [.map (some g)]
 | .chv id, vs => ∃ g, φ id = some (.chan (some g)) /\ vs = [.chan (some g)]
 | .bfn id f, vs => ∃ g, φ id = some (.pointer (some ⟨g, 0, none⟩)) /\ vs = [.func (.func f) #[.pointer (some ⟨g, 0, none⟩)] #[]]
 | .opq k, vs => ∃ v, φ k = some v /\ vs = [v] /\ v.oneCell' = true
 | .idn k T x, vs => ∃ v, φ k = some v /\ vs = [v] /\ T.leaf = true /\ T.rep ow w vs x
 | .nil, vs => vs = []
 | .cons a b, vs => ∃ v r, vs = v :: r /\ AV.holds φ ow w a [v] /\ AV.holds φ ow w b r
 | .agg l, vs => ∃ cs : Array Value, vs = [.agg cs] /\ AV.holds φ ow w l cs.toList
 | .tup l, vs => ∃ cs : Array Value, vs = [.tuple cs] /\ AV.holds φ ow w l cs.toList
def Aw (φ φ' : Hnd) : Prop := ∀ id v, φ id = some v -> φ' id = some v
theorem Aw.refl (φ : Hnd) : Aw φ φ := fun _ _ h => h
theorem Aw.trans {a b c : Hnd} (h : Aw a b) (k : Aw b c) : Aw a c := fun i v hv => k i v (h i v hv)
theorem AV.Ab {φ φ' : Hnd} {ow ow' : Own} {w w' : World} (hp : Aw φ φ') (hk : A8 ow w ow' w') : ∀ {a : AV} {vs : List Value}, a.holds φ ow w vs -> a.holds φ' ow' w' vs
 | .bot, _, h => h
 | .raw _, _, h => h
 | .dat T x, _, ⟨h0, h1, h2⟩ => ⟨h0, h1, Ty.AO hk h2⟩
 | .isNil _, _, h => h
 | .arr id, _, ⟨A, n, c, h1, h2⟩ => ⟨A, n, c, hp _ _ h1, h2⟩
 | .vw id sz lo hi, _, ⟨A, n, c, X, h1, h2⟩ => ⟨A, n, c, X, hp _ _ h1, h2⟩
 | .ref id off, _, ⟨g, h1, h2⟩ => ⟨g, hp _ _ h1, h2⟩
 | .elt id sz i off, _, ⟨g, n, c, h1, h2⟩ => ⟨g, n, c, hp _ _ h1, h2⟩
 | .spt T x, _, ⟨g, o, cs, h1, h2, h3, h4, h5⟩ =>
  let ⟨k1, k2⟩ := hk.blk g h3 h2
  ⟨g, o, cs, h1, k1, Nat.lt_of_lt_of_le h3 hk.size, Fy h4 k2, Ty.AO hk h5⟩
 | .fn f caps, _, ⟨cs, h1, h2⟩ => ⟨cs, h1, Ab hp hk h2⟩
 | .BY id, _, ⟨g, h1, h2⟩ => ⟨g, hp _ _ h1, h2⟩
 | .chv id, _, ⟨g, h1, h2⟩ => ⟨g, hp _ _ h1, h2⟩
 | .bfn id f, _, ⟨g, h1, h2⟩ => ⟨g, hp _ _ h1, h2⟩
 | .opq k, _, ⟨v, h1, h2⟩ => ⟨v, hp _ _ h1, h2⟩
 | .idn k T x, _, ⟨v, h0, h1, h2, h3⟩ => ⟨v, hp _ _ h0, h1, h2, Ty.AO hk h3⟩
 | .nil, _, h => h
 | .cons a b, _, ⟨v, r, h1, h2, h3⟩ => ⟨v, r, h1, Ab hp hk h2, Ab hp hk h3⟩
 | .agg l, _, ⟨cs, h1, h2⟩ => ⟨cs, h1, Ab hp hk h2⟩
 | .tup l, _, ⟨cs, h1, h2⟩ => ⟨cs, h1, Ab hp hk h2⟩
def AV.single : AV -> Bool
 | .nil => false
 | .cons _ _ => false
 | _ => true
theorem AV.JZ {φ : Hnd} {ow : Own} {w : World} {a : AV} {vs : List Value} (h : a.holds φ ow w vs) (hs : a.single = true) : vs.length = 1 := by
 cases a <;> simp only [AV.holds, AV.single] at h hs
 case bot => exact h
 case raw => rw [h]; rfl
 case dat => exact h.1
 case isNil => obtain ⟨_, h, _⟩ := h; rw [h]; rfl
 case arr => obtain ⟨_, _, _, _, h⟩ := h; rw [h]; rfl
 case vw => obtain ⟨_, _, _, _, _, _, _, _, _, _, h⟩ := h; rw [h]; rfl
 case ref => obtain ⟨_, _, h⟩ := h; rw [h]; rfl
 case elt => obtain ⟨_, _, _, _, _, _, h⟩ := h; rw [h]; rfl
 case spt => obtain ⟨_, _, _, h, _⟩ := h; rw [h]; rfl
 case fn => obtain ⟨_, h, _⟩ := h; rw [h]; rfl
 case BY => obtain ⟨_, _, h⟩ := h; rw [h]; rfl
 case chv => obtain ⟨_, _, h⟩ := h; rw [h]; rfl
 case bfn => obtain ⟨_, _, h⟩ := h; rw [h]; rfl
 case opq => obtain ⟨_, _, h, _⟩ := h; rw [h]; rfl
 case idn => obtain ⟨_, _, h, _⟩ := h; rw [h]; rfl
 case nil => cases hs
 case cons => cases hs
 case agg => obtain ⟨_, h, _⟩ := h; rw [h]; rfl
 case tup => obtain ⟨_, h, _⟩ := h; rw [h]; rfl
def AV.strip : AV -> AV
 | .idn _ T x => .dat T x
 | a => a
theorem AV.E9 {φ : Hnd} {ow : Own} {w : World} {a : AV} {vs : List Value} (h : a.holds φ ow w vs) : a.strip.holds φ ow w vs := by
 cases a <;> try exact h
 obtain ⟨_, _, h1, h2, h3⟩ := h
 exact ⟨by rw [h1]; rfl, h2, h3⟩
inductive Chunk : Type where
 | none
 | box (e : TypeId) (cells : AV)
 | arr (e : TypeId) (T : Ty) (l : List T.den)
 | lit (e : TypeId) (n : Nat) (cells : AV)   -- n elements
 | sld (T : Ty) (l : List T.den)
 | BC (e e' : TypeId) (T : Ty) (l : List (List T.den)) (hs : List (Int × Nat))   -- a row of rows; those that are out, and where they are
 | mp (K V : Ty) (l : List (K.den × V.den))
 | mpo (K : Ty) (e : TypeId) (B : Int) (outs : List Nat)   -- a map of rows of numbers, whatever they are: none longer than B; rows of its that are out
 | orw (id : Nat)                                          -- a row of id's that is out
 | ch (cap n : Int)                                        -- a channel, open: its capacity, how many lie in it
 | mpf (K : Ty) (l : List (K.den × AV))                    -- a map of values told one by one (functions)
 | glb (g : Nat)                                           -- what is told of a package's variable: it holds a number
def EJ (ow : Own) (w : World) (id : Nat) (v : Value) (e : TypeId) (T : Ty) (l : List T.den) : Prop :=
 ∃ xs, w.ownsRow 0 e T.size v l.length xs /\ (∀ g, v.ownBlock = some g -> ow g = some id) /\ l.length <= lim /\ Rows (T.rep ow w) xs l
def BV : List (Int × Nat) -> Nat -> Option Nat
 | [], _ => Option.none
 | (i, k) :: r, j => if i = (j : Int) then some k else BV r j
def KW (φ : Hnd) (ow : Own) (w : World) (id : Nat) (pos : Nat -> Nat) (e' : TypeId) (T : Ty) (l : List (List T.den)) (hs : List (Int × Nat)) (xs : List Value) : Prop :=
 xs.length = l.length /\ (∀ p ∈ hs, 0 <= p.1) /\ (hs.map (·.1)).Nodup /\ ∀ j h, xs[j]? = some h -> match BV hs j with
  | some k => φ k = some h
  | Option.none => EJ ow w id h e' T (l.getD j []) /\ ∀ g, h.ownBlock = some g -> pos g = j + 1
def IU (ow : Own) (w : World) (id : Nat) (e : TypeId) (B : Int) (v : Value) : Prop :=
 (v = .slice Option.none 0 0 /\ 0 <= B) \/ ∃ (b n c : Nat) (cur : Array Value), v = .slice (some ⟨b, 0, Option.none⟩) n c /\ ow b = some id /\ w.heap[b]? = some (.cells cur e (0, 0)) /\ (∀ u ∈ cur.toList, ∃ x, u = .int .i64 x /\ IntKind.i64.has x) /\ n <= c /\ c <= maxLen /\ cur.size = c /\ (n : Int) <= B
def AIl (ow : Own) (w : World) (id : Nat) (e : TypeId) (B : Int) (vs : List Value) (_ : Unit) : Prop := ∃ v, vs = [v] /\ IU ow w id e B v
@[reducible] def Gp (ow : Own) (w : World) (K V : Ty) (es : List MapEntry) (l : List (K.den × V.den)) : Prop := EH (V.rep ow w) K es l
def IA (φ : Hnd) (ow : Own) (w : World) (K : Ty) : List MapEntry -> List (K.den × AV) -> Prop
 | [], l => l = []
 | e :: es, l => ∃ k a r, l = (k, a) :: r /\ e.key = B7 K k /\ KV K k /\ a.holds φ ow w [e.val] /\ IA φ ow w K es r
def cH (φ : Hnd) (ow : Own) (w : World) (id : Nat) : Chunk -> Prop
 | .none => True
 | .box e cells => ∃ (g : Nat) (cs : Array Value), φ id = some (.pointer (some ⟨g, 0, none⟩)) /\ ow g = some id /\ w.heap[g]? = some (.cells cs e (0, 0)) /\ cells.holds φ ow w cs.toList
 | .arr e T l => ∃ v, φ id = some v /\ EJ ow w id v e T l
 | .lit e n cells => ∃ (g : Nat) (cs : Array Value), φ id = some (.slice (some ⟨g, 0, none⟩) n n) /\ ow g = some id /\ w.heap[g]? = some (.cells cs e (0, 0)) /\ n <= lim /\ cells.holds φ ow w cs.toList
 | .sld T l => ∃ v, φ id = some v /\ (Ty.sl T).rep ow w [v] l
 | .BC e e' T l hs => ∃ v xs pos, φ id = some v /\ w.ownsRow 0 e 1 v l.length xs /\ (∀ g, v.ownBlock = some g -> ow g = some id /\ pos g = 0) /\ l.length <= lim /\ KW φ ow w id pos e' T l hs xs
 | .mp k V l => ∃ g es clock, φ id = some (.map (some g)) /\ ow g = some id /\ w.heap[g]? = some (.map es clock) /\ V.leaf = true /\ Gp ow w k V es.toList l
 | .mpo K e B outs => ∃ g es clock L, φ id = some (.map (some g)) /\ ow g = some id /\ w.heap[g]? = some (.map es clock) /\ EH (AIl ow w id e B) K es.toList L /\ ∀ k ∈ outs, ∃ v, φ k = some v /\ IU ow w id e B v
 | .orw _ => True
 | .mpf K l => ∃ g es clock, φ id = some (.map (some g)) /\ ow g = some id /\ w.heap[g]? = some (.map es clock) /\ IA φ ow w K es.toList l
 | .glb g => ow g = Option.none /\ g < w.heap.size /\ ∃ m, w.cell? ⟨g, 0, Option.none⟩ = some (.int .i64 m)
 | .ch cap n => ∃ (g c s r : Nat) (buf : Array Value), φ id = some (.chan (some g)) /\ ow g = some id /\ w.heap[g]? = some (.chan c buf false s r false) /\ (c : Int) = cap /\ (buf.size : Int) = n
structure Ext (X : List Nat) (nx : Nat) (φ : Hnd) (ow : Own) (w : World) (φ' : Hnd) (ow' : Own) (w' : World) : Prop where
 size : w.heap.size <= w'.heap.size
 os : w'.os = w.os
 tape : w'.tape = w.tape
 output : w'.output = w.output
 blk : ∀ b, b < w.heap.size -> (∀ id, ow b = some id -> id ∉ X) -> ow' b = ow b /\ w'.heap[b]? = w.heap[b]?
 AC5 : ∀ b id, ow' b = some id -> b < w'.heap.size /\ ((id ∈ X \/ (nx <= id /\ id < nx + 64)) \/ (b < w.heap.size /\ ow b = some id))
 phi : Aw φ φ'
 AJX : ∀ id, id < nx \/ nx + 64 <= id -> φ' id = φ id
theorem Ext.keep {X : List Nat} {nx : Nat} {φ φ' : Hnd} {ow ow' : Own} {w w' : World} (h : Ext X nx φ ow w φ' ow' w') : A8 ow w ow' w' :=
 ⟨h.size, fun b hb hn => by
  obtain ⟨h1, h2⟩ := h.blk b hb (by intro id hi; rw [hn] at hi; cases hi)
  exact ⟨h1.trans hn, h2⟩⟩
theorem QF {ow ow' : Own} {w w' : World} {id : Nat} (hk : A8 ow w ow' w')
  (hb : ∀ b, b < w.heap.size -> ow b = some id -> ow' b = some id /\ w'.heap[b]? = w.heap[b]?) {v : Value} {e : TypeId} {T : Ty} {l : List T.den} (h : EJ ow w id v e T l) : EJ ow' w' id v e T l := by
 obtain ⟨xs, h1, h2, h3, h4⟩ := h
 refine ⟨xs, ⟨h1.1, ?_⟩, ?_, h3, Rows.mono (fun _ _ => Ty.AO hk) h4⟩
 ·rcases h1.2 with h | ⟨g, cap, cur, rfl, hb0, hg, r⟩
  ·exact .inl h
  ·exact .inr ⟨g, cap, cur, rfl, hb0, (hb g (Array.getElem?_eq_some_iff.1 hg).1 (h2 g rfl)).2.trans hg, r⟩
 ·intro g hg
  exact (hb g (h1.lt g hg).2 (h2 g hg)).1
theorem Re {ow ow' : Own} {w w' : World} {id size n : Nat} {v : Value} {e : TypeId} {xs : List Value}
  (hb : ∀ b, b < w.heap.size -> ow b = some id -> ow' b = some id /\ w'.heap[b]? = w.heap[b]?) (h2 : ∀ g, v.ownBlock = some g -> ow g = some id) (h1 : w.ownsRow 0 e size v n xs) : w'.ownsRow 0 e size v n xs := by
 refine ⟨h1.1, ?_⟩
 rcases h1.2 with h | ⟨g, cap, cur, rfl, hb0, hg, r⟩
 ·exact .inl h
 ·exact .inr ⟨g, cap, cur, rfl, hb0, (hb g (Array.getElem?_eq_some_iff.1 hg).1 (h2 g rfl)).2.trans hg, r⟩
theorem AA1 {φ φ' : Hnd} {ow ow' : Own} {w w' : World} {id : Nat} (hp : Aw φ φ') (hk : A8 ow w ow' w')
  (hb : ∀ b, b < w.heap.size -> ow b = some id -> ow' b = some id /\ w'.heap[b]? = w.heap[b]?) {pos : Nat -> Nat} {e' : TypeId} {T : Ty} {l : List (List T.den)} {hs : List (Int × Nat)} {xs : List Value} (h : KW φ ow w id pos e' T l hs xs) : KW φ' ow' w' id pos e' T l hs xs := by
 refine ⟨h.1, h.2.1, h.2.2.1, fun j v hv => ?_⟩
 have := h.2.2.2 j v hv
 split <;> rename_i hh <;> rw [hh] at this
 ·exact hp _ _ this
 ·exact ⟨QF hk hb this.1, this.2⟩
theorem C2 {ow ow' : Own} {w w' : World} (hk : A8 ow w ow' w') {K V : Ty} : ∀ {es : List MapEntry} {l : List (K.den × V.den)}, Gp ow w K V es l -> Gp ow' w' K V es l
 | [], _, h => h
 | _ :: _, _, ⟨a, x, r, h1, h2, h3, h4, h5⟩ => ⟨a, x, r, h1, h2, h3, Ty.AO hk h4, C2 hk h5⟩
theorem He {ow ow' : Own} {w w' : World} {id id' : Nat} {e : TypeId} {B : Int} {v : Value} (hb : ∀ b, b < w.heap.size -> ow b = some id -> ow' b = some id' /\ w'.heap[b]? = w.heap[b]?) (h : IU ow w id e B v) : IU ow' w' id' e B v := by
 rcases h with h | ⟨b, n, c, cur, h1, h2, h3, h4⟩
 ·exact .inl h
 ·obtain ⟨k1, k2⟩ := hb b (Array.getElem?_eq_some_iff.1 h3).1 h2
  exact .inr ⟨b, n, c, cur, h1, k1, k2.trans h3, h4⟩
theorem IV {φ φ' : Hnd} {ow ow' : Own} {w w' : World} (hp : Aw φ φ') (hk : A8 ow w ow' w') {K : Ty} : ∀ {es : List MapEntry} {l : List (K.den × AV)}, IA φ ow w K es l -> IA φ' ow' w' K es l
 | [], _, h => h
 | _ :: _, _, ⟨k, a, r, h1, h2, h3, h4, h5⟩ => ⟨k, a, r, h1, h2, h3, AV.Ab hp hk h4, IV hp hk h5⟩
theorem Cp {φ φ' : Hnd} {ow ow' : Own} {w w' : World} {id : Nat} (hp : Aw φ φ') (hk : A8 ow w ow' w')
  (hb : ∀ b, b < w.heap.size -> ow b = some id -> ow' b = some id /\ w'.heap[b]? = w.heap[b]?) : ∀ {c : Chunk}, cH φ ow w id c -> cH φ' ow' w' id c
 | .none, _ => trivial
 | .box e cells, ⟨g, cs, h1, h2, h3, h4⟩ =>
  let ⟨k1, k2⟩ := hb g (Array.getElem?_eq_some_iff.1 h3).1 h2
  ⟨g, cs, hp _ _ h1, k1, k2.trans h3, AV.Ab hp hk h4⟩
 | .arr e T l, ⟨v, h1, h2⟩ => ⟨v, hp _ _ h1, QF hk hb h2⟩
 | .lit e n cells, ⟨g, cs, h1, h2, h3, h4, h5⟩ =>
  let ⟨k1, k2⟩ := hb g (Array.getElem?_eq_some_iff.1 h3).1 h2
  ⟨g, cs, hp _ _ h1, k1, k2.trans h3, h4, AV.Ab hp hk h5⟩
 | .sld T l, ⟨v, h1, h2⟩ => ⟨v, hp _ _ h1, Ty.AO hk h2⟩
 | .BC e e' T l hs, ⟨v, xs, pos, h1, h2, h3, h4, h5⟩ => ⟨v, xs, pos, hp _ _ h1, Re hb (fun g hg => (h3 g hg).1) h2, fun g hg => ⟨(hb g (h2.lt g hg).2 (h3 g hg).1).1, (h3 g hg).2⟩, h4, AA1 hp hk hb h5⟩
 | .mp k V l, ⟨g, es, clock, h1, h2, h3, h4, h5⟩ =>
  let ⟨k1, k2⟩ := hb g (Array.getElem?_eq_some_iff.1 h3).1 h2
  ⟨g, es, clock, hp _ _ h1, k1, k2.trans h3, h4, C2 hk h5⟩
 | .mpo K e B outs, ⟨g, es, clock, L, h1, h2, h3, h4, h5⟩ =>
  let ⟨k1, k2⟩ := hb g (Array.getElem?_eq_some_iff.1 h3).1 h2
  ⟨g, es, clock, L, hp _ _ h1, k1, k2.trans h3, Cb (fun _ _ ⟨v, e1, e2⟩ => ⟨v, e1, He hb e2⟩) h4, fun k hk' => let ⟨v, e1, e2⟩ := h5 k hk'; ⟨v, hp _ _ e1, He hb e2⟩⟩
 | .orw _, _ => trivial
 | .mpf K l, ⟨g, es, clock, h1, h2, h3, h4⟩ =>
  let ⟨k1, k2⟩ := hb g (Array.getElem?_eq_some_iff.1 h3).1 h2
  ⟨g, es, clock, hp _ _ h1, k1, k2.trans h3, IV hp hk h4⟩
 | .glb g, ⟨h1, h2, m, h3⟩ =>
  let ⟨k1, k2⟩ := hk.blk g h2 h1
  ⟨k1, Nat.lt_of_lt_of_le h2 hk.size, m, (World.cell?_of_block (a := ⟨g, 0, Option.none⟩) k2).trans h3⟩
 | .ch cap n, ⟨g, c, s, r, buf, h1, h2, h3, h4⟩ =>
  let ⟨k1, k2⟩ := hb g (Array.getElem?_eq_some_iff.1 h3).1 h2
  ⟨g, c, s, r, buf, hp _ _ h1, k1, k2.trans h3, h4⟩
theorem Ext.chunk {X : List Nat} {nx : Nat} {φ φ' : Hnd} {ow ow' : Own} {w w' : World} (h : Ext X nx φ ow w φ' ow' w') {id : Nat} (hid : id ∉ X) {c : Chunk} (hc : cH φ ow w id c) : cH φ' ow' w' id c :=
 Cp h.phi h.keep (fun b hb ho => by
  obtain ⟨h1, h2⟩ := h.blk b hb (by intro i hi; rw [ho] at hi; cases hi; exact hid)
  exact ⟨h1.trans ho, h2⟩) hc
structure St where
 env : Nat -> AV
 heap : Nat -> Chunk
 next : Nat
 n : Nat    -- slots
structure Sat (st : St) (φ : Hnd) (ow : Own) (tmps : Array Value) (w : World) : Prop where
 n : tmps.size = st.n
 env : ∀ t, (st.env t).holds φ ow w [tmps.getD t undef]
 heap : ∀ id, cH φ ow w id (st.heap id)
 fresh : ∀ id, st.next <= id -> φ id = Option.none
 own : ∀ b id, ow b = some id -> b < w.heap.size /\ id < st.next
end AL
end
section
set_option linter.unusedVariables false
set_option linter.unusedSimpArgs false
namespace AL
open Go
def AV.len : AV -> Nat
 | .cons _ b => b.len + 1
 | _ => 0
def AV.app : AV -> AV -> AV
 | .cons a b, c => .cons a (b.app c)
 | _, c => c
def AV.nth : AV -> Nat -> AV
 | .cons a _, 0 => a
 | .cons _ b, k + 1 => b.nth k
 | _, _ => .bot
def AV.take : Nat -> AV -> AV
 | 0, _ => .nil
 | n + 1, .cons a b => .cons a (b.take n)
 | _ + 1, _ => .nil
def AV.drop : Nat -> AV -> AV
 | 0, l => l
 | n + 1, .cons _ b => b.drop n
 | _ + 1, _ => .nil
def AV.setAt : Nat -> AV -> AV -> AV
 | 0, .cons x xs, .cons _ b => .cons x (AV.setAt 0 xs b)
 | 0, _, l => l
 | k + 1, xs, .cons a b => .cons a (AV.setAt k xs b)
 | _ + 1, _, l => l
def AV.Bb : AV -> Bool
 | .nil => true
 | .cons _ b => b.Bb
 | _ => false
def AV.cells : AV -> AV
 | .agg l => l
 | a => .cons a .nil
def AV.one : AV -> Bool
 | .raw v => v.oneCell'
 | .dat _ _ | .isNil _ | .arr _ | .vw _ _ _ _ | .ref _ _ | .elt _ _ _ _ | .spt _ _ | .fn _ _ | .BY _ | .chv _ | .bfn _ _ | .opq _ | .idn _ _ _ => true
 | _ => false
def AV.F0 : AV -> Bool
 | .cons a b => a.one && b.F0
 | _ => true
def DN : (T : Ty) -> T.den -> AV
 | .unit, _ => .nil
 | .pair a b, x => (DN a x.1).app (DN b x.2)
 | .int k, x => .cons (.dat (.int k) x) .nil
 | .bool, x => .cons (.dat .bool x) .nil
 | .str, x => .cons (.dat .str x) .nil
 | .fnT, x => .cons (.dat .fnT x) .nil
 | .sl t, x => .cons (.dat (.sl t) x) .nil
 | .ptr t, x => .cons (.spt t x) .nil
 | .CE K V, x => .cons (.dat (.CE K V) x) .nil
def Hf : Nat -> (T : Ty) -> T.den -> AV
 | 0, T, x => .spt T x
 | o + 1, .pair a b, x => if a.size <= o + 1 then Hf (o + 1 - a.size) b x.2 else .bot
 | _ + 1, _, _ => .bot
termination_by structural _ T => T
inductive Gj : List Prop -> Type where
 | nil : Gj []
 | cons {p : Prop} {ps : List Prop} (d : Decidable p) (r : Gj ps) : Gj (p :: ps)
class NF (ps : List Prop) where
 dl : Gj ps
instance : NF [] := ⟨.nil⟩
instance {p : Prop} {ps : List Prop} [d : Decidable p] [r : NF ps] : NF (p :: ps) := ⟨.cons d r.dl⟩
def Gj.map {α : Type} (f : α -> Prop) (h : ∀ a, Decidable (f a)) : (l : List α) -> Gj (l.map f)
 | [] => .nil
 | a :: r => .cons (h a) (Gj.map f h r)
instance {α : Type} {f : α -> Prop} {l : List α} [h : ∀ a, Decidable (f a)] : NF (l.map f) := ⟨Gj.map f h l⟩
structure Out where
 Bu : List Prop
 res : AV
 upd : List (Nat × Chunk)
 [dec : NF Bu]
inductive Req where
 | look (id : Nat) (k : Chunk -> Req)
 | out (o : Out)
 | fail
 | call {X : Type} (m : Option X) (k : X -> Req)   -- what a function answers
def Req.run (hp : Nat -> Chunk) : Req -> Option Out
 | .look id k => (k (hp id)).run hp
 | .out o => some o
 | .fail => Option.none
 | .call m k => match m with
  | some x => (k x).run hp
  | Option.none => Option.none
def Req.Bc (hp : Nat -> Chunk) : Req -> List Nat
 | .look id k => id :: (k (hp id)).Bc hp
 | .call m k => match m with
  | some x => (k x).Bc hp
  | Option.none => []
 | _ => []
theorem Req.Wu {hp hp' : Nat -> Chunk} : ∀ {r : Req}, (∀ id ∈ r.Bc hp, hp' id = hp id) -> r.run hp' = r.run hp /\ r.Bc hp' = r.Bc hp
 | .look id k, h => by
  have e := h id (by simp [Bc])
  have := Wu (r := k (hp id)) (fun i hi => h i (by simp [Bc, hi]))
  simp only [run, Bc, e, this.1, this.2, and_self]
 | .out o, _ => ⟨rfl, rfl⟩
 | .fail, _ => ⟨rfl, rfl⟩
 | .call m k, h => by
  cases m with
  | none => exact ⟨rfl, rfl⟩
  | some x => exact Wu (r := k x) h
abbrev Upd := List (Nat × Chunk)
def Req.ret (a : AV) : Req := .out ⟨[], a, []⟩
def Bm {T' T : Ty} (h : T' = T) (x : T'.den) : T.den := @Eq.rec Ty T' (fun U _ => U.den) x T h
def coeM {K K' V V' : Ty} (h : K' = K) (h2 : V' = V) (l : List (K'.den × V'.den)) : List (K.den × V.den) := Bm (T' := .sl (.pair K' V')) (T := .sl (.pair K V)) (by rw [h, h2]) l
theorem NG {T : Ty} (h : T = T) (x : T.den) : Bm h x = x := rfl
def AA2 {α : Type} (f : AV -> (α -> AV -> Upd -> Req) -> Req) : Nat -> AV -> (List α -> AV -> Upd -> Req) -> Req
 | 0, c, k => k [] c []
 | n + 1, c, k => f c fun x c' u => AA2 f n c' fun xs c'' u' => k (x :: xs) c'' (u ++ u')
def QG (T : Ty) (a : AV) (k : T.den -> Req) : Req :=
 match a with
 | .dat T' x => if h : T' = T then k (Bm h x) else .fail
 | _ => .fail
def Bv : (T : Ty) -> AV -> (T.den -> AV -> Upd -> Req) -> Req
 | .unit, c, k => k () c []
 | .pair a b, c, k => Bv a c fun x c' u => Bv b c' fun y c'' u' => k (x, y) c'' (u ++ u')
 | .int i, .cons a c, k => QG (.int i) a fun x => k x c []
 | .bool, .cons a c, k => QG .bool a fun x => k x c []
 | .str, .cons a c, k => QG .str a fun x => k x c []
 | .fnT, .cons a c, k => match a with
  | .fn f .nil => k f c []
  | .dat T' x => if h : T' = .fnT then k (Bm (T := .fnT) h x) c [] else .fail
  | _ => .fail
 | .ptr t, .cons a c, k =>
  match a with
  | .spt t' x => if h : t' = t then k (Bm (T := t) h x) c [] else .fail
  | .dat T' x => if h : T' = .ptr t then k (Bm (T := .ptr t) h x) c [] else .fail
  | .ref id 0 => .look id fun
   | .box e cells => Bv t cells fun x c' u => match c' with
    | .nil => k x c ((id, .none) :: u)
    | _ => .fail
   | _ => .fail
  | _ => .fail
 | .CE K V, .cons a c, k =>
  match a with
  | .dat T' x => if h : T' = .CE K V then k (Bm (T := .CE K V) h x) c [] else .fail
  | .BY id => .look id fun
   | .mp K' V' l => if h : K' = K then (if h2 : V' = V then k (coeM h h2 l) c [(id, .none)] else .fail) else .fail
   | _ => .fail
  | _ => .fail
 | .sl t, .cons a c, k =>
  match a with
  | .dat T' x => if h : T' = .sl t then k (Bm h x) c [] else .fail
  | .raw (.slice Option.none 0 0) => k [] c []
  | .arr id => .look id fun
   | .arr e t' l => if h : t' = t then (if 0 < t'.size then k (Bm (congrArg Ty.sl h) l) c [(id, .sld t' l)] else .fail) else .fail
   | .sld t' l => if h : t' = t then k (Bm (congrArg Ty.sl h) l) c [] else .fail
   | .lit e n cells => if 0 < t.size then AA2 (Bv t) n cells fun xs r u =>
     match r with
     | .nil => k xs c ((id, .sld t xs) :: u)
     | _ => .fail
    else .fail
   | _ => .fail
  | .vw id sz lo hi => .look id fun
   | .arr e t' l => if h : t' = t then (if t'.size = sz /\ 0 < sz then k (Bm (congrArg Ty.sl h) ((l.take hi.toNat).drop lo.toNat)) c [(id, .sld t' l)] else .fail) else .fail
   | .sld t' l => if h : t' = t then (if t'.size = sz then k (Bm (congrArg Ty.sl h) ((l.take hi.toNat).drop lo.toNat)) c [] else .fail) else .fail
   | _ => .fail
  | _ => .fail
 | _, _, _ => .fail
def BX (x : Nat) : List Nat -> Bool
 | [] => false
 | y :: r => Nat.beq x y || BX x r
def Bn : List Nat -> List Nat -> Bool
 | [], _ => false
 | x :: r, l => BX x l || Bn r l
def Di : TypeDesc -> Bool
 | .struct _ => true
 | .array _ _ => true
 | _ => false
def AC6 : Ty -> Ty -> Ty
 | .unit, c => c
 | .pair a b, c => .pair a (AC6 b c)
 | a, c => .pair a c
def AIm : Nat -> Ty -> Ty
 | 0, _ => .unit
 | n + 1, T => AC6 T (AIm n T)
def UZ (P : Program) : Nat -> TypeId -> Option Ty
 | 0, _ => Option.none
 | n + 1, t => match P.underlying t with
  | some (.int k) => some (.int k)
  | some .bool => some .bool
  | some .string => some .str
  | some (.slice e) => (UZ P n e).map .sl
  | some (.pointer e) => (UZ P n e).map .ptr
  | some (.array m e) => (UZ P n e).map (AIm m)
  | some (.struct fs) => fs.toList.foldr (fun f r => match UZ P n f.type, r with
   | some a, some b => some (AC6 a b)
   | _, _ => Option.none) (some .unit)
  | _ => Option.none
def Hg (agg : Bool) (n : Nat) (cells : AV) : Option AV :=
 if agg then (if n <= cells.len then some (.agg (cells.take n)) else Option.none)
 else match cells with
  | .cons c _ => if n = 1 then some c.strip else Option.none
  | _ => Option.none
def C3 (agg : Bool) (n : Nat) (cells : AV) : Req :=
 match Hg agg n cells with
 | some v => .ret v
 | Option.none => .fail
def FA (P : Program) (t : TypeId) (a : AV) : Req :=
 match P.underlying t, P.info? t with
 | some d, some i =>
  match a with
  | .ref id off => .look id fun
   | .box _ cells => if off <= cells.len then C3 (Di d) i.size (cells.drop off) else .fail
   | _ => .fail
  | .elt id sz ix off => .look id fun
   | .arr _ T l => if T.size = sz /\ off <= sz then C3 (Di d) i.size ((DN T (get T l ix)).drop off) else .fail
   | .sld T l => if T.size = sz /\ off <= sz then C3 (Di d) i.size ((DN T (get T l ix)).drop off) else .fail
   | .lit _ _ cells => if ix.toNat * sz + off <= cells.len then C3 (Di d) i.size (cells.drop (ix.toNat * sz + off)) else .fail
   | _ => .fail
  | .spt T x => C3 (Di d) i.size (DN T x)
  | _ => .fail
 | _, _ => .fail
def Ja (P : Program) (t : TypeId) (a x : AV) : Req :=
 match P.info? t with
 | some i =>
  if x.cells.len = i.size /\ x.cells.F0 = true /\ x.cells.Bb = true then
   match a with
   | .ref id off => .look id fun
    | .box e cells => if off + x.cells.len <= cells.len then .out ⟨[], .raw undef, [(id, .box e (AV.setAt off x.cells cells))]⟩ else .fail
    | _ => .fail
   | .elt id sz ix off => .look id fun
    | .arr e T l => if T.size = sz /\ off + x.cells.len <= T.size then
      Bv T (AV.setAt off x.cells (DN T (get T l ix))) fun y _ u => if BX id (u.map (·.1)) then .fail else .out ⟨[], .raw undef, (id, .arr e T (l.set ix.toNat y)) :: u⟩
     else .fail
    | _ => .fail
   | _ => .fail
  else .fail
 | _ => .fail
def NH (P : Program) (s : TypeId) (a : AV) (f : Nat) : Req :=
 match P.underlying s with
 | some (.struct fs) => match fs[f]? with
  | some fd => match P.info? fd.type with
   | some i => if i.size = 0 then .fail else match a with
    | .ref id off => .ret (.ref id (off + fd.offset))
    | .elt id sz ix off => .ret (.elt id sz ix (off + fd.offset))
    | .spt T x => .ret (Hf fd.offset T x)
    | _ => .fail
   | _ => .fail
  | _ => .fail
 | _ => .fail
def Jb (P : Program) (t : TypeId) (a ix : AV) : Req :=
 match P.underlying t with
 | some (.slice e) => match P.info? e, ix with
  | some i, .dat (.int _) n => match a with
   | .dat (.sl T) l => if T.size = i.size /\ 0 < T.size then .out ⟨[0 <= n, n < l.length], .spt T (get T l n), []⟩ else .fail
   | .arr id => .look id fun
    | .arr _ T l => if T.size = i.size then .out ⟨[0 <= n, n < l.length], .elt id i.size n 0, []⟩ else .fail
    | .sld T l => if T.size = i.size /\ 0 < T.size then .out ⟨[0 <= n, n < l.length], .spt T (get T l n), []⟩ else .fail
    | .lit _ m _ => .out ⟨[0 <= n, n < (m : Int)], .elt id i.size n 0, []⟩
    | _ => .fail
   | .vw id sz lo hi => .look id fun
    | .arr _ T l => if T.size = i.size /\ sz = i.size then .out ⟨[0 <= n, n < hi - lo], .elt id i.size (lo + n) 0, []⟩ else .fail
    | _ => .fail
   | _ => .fail
  | _, _ => .fail
 | some (.array m e) => match P.info? e, ix with
  | some i, .dat (.int _) n => match a with
   | .ref id off => .out ⟨[0 <= n, n < (m : Int)], .ref id (off + n.toNat * i.size), []⟩
   | .elt id sz ix' off => .out ⟨[0 <= n, n < (m : Int)], .elt id sz ix' (off + n.toNat * i.size), []⟩
   | .spt T x => .out ⟨[0 <= n, n < (m : Int)], Hf (n.toNat * i.size) T x, []⟩
   | _ => .fail
  | _, _ => .fail
 | _ => .fail
def Rf (P : Program) (t : TypeId) (a : AV) : Req :=
 match P.underlying t, a with
 | some (.slice _), .dat (.sl _) l => .ret (.dat (.int .i64) (l.length : Int))
 | some (.slice _), .raw (.slice Option.none 0 0) => .ret (.dat (.int .i64) (0 : Int))
 | some (.slice _), .arr id => .look id fun
  | .arr _ _ l => .ret (.dat (.int .i64) (l.length : Int))
  | .sld _ l => .ret (.dat (.int .i64) (l.length : Int))
  | .lit _ m _ => .ret (.dat (.int .i64) (m : Int))
  | _ => .fail
 | some (.slice _), .vw id _ lo hi => .out ⟨[hi - lo <= (lim : Int)], .dat (.int .i64) (hi - lo), []⟩
 | some .string, .dat .str s => .ret (.dat (.int .i64) (s.size : Int))
 | _, _ => .fail
def Ua (T : Ty) (x : AV) (k : List T.den -> Upd -> Req) : Req :=
 match x with
 | .raw (.slice Option.none 0 0) => k [] []
 | .dat T' l => if h : T' = .sl T then k (Bm h l) [] else .fail
 | .arr id => .look id fun
  | .arr _ T' l => if h : T' = T then k (Bm (congrArg Ty.sl h) l) [] else .fail
  | .sld T' l => if h : T' = T then k (Bm (congrArg Ty.sl h) l) [] else .fail
  | .lit _ n cells => AA2 (Bv T) n cells fun xs r u =>
    match r with
    | .nil => k xs u
    | _ => .fail
  | _ => .fail
 | .vw id sz lo hi => .look id fun
  | .arr _ T' l => if h : T' = T then (if T'.size = sz then k (Bm (congrArg Ty.sl h) ((l.take hi.toNat).drop lo.toNat)) [] else .fail) else .fail
  | .sld T' l => if h : T' = T then (if T'.size = sz then k (Bm (congrArg Ty.sl h) ((l.take hi.toNat).drop lo.toNat)) [] else .fail) else .fail
  | _ => .fail
 | _ => .fail
def IB (e : TypeId) (T : Ty) (s : AV) (k : List T.den -> List Nat -> Upd -> Req) : Req :=
 match s with
 | .raw (.slice Option.none 0 0) => k [] [] []
 | .arr id => .look id fun
  | .arr e' T' l => if h : T' = T then (if e' = e then k (Bm (congrArg Ty.sl h) l) [id] [] else .fail) else .fail
  | .lit e' n cells => if e' = e then AA2 (Bv T) n cells fun xs r u =>
    match r with
    | .nil => k xs [id] u
    | _ => .fail
   else .fail
  | _ => .fail
 | .vw id sz lo hi => if lo = 0 then .look id fun
  | .arr e' T' l => if h : T' = T then (if e' = e /\ T'.size = sz then k (Bm (congrArg Ty.sl h) (l.take hi.toNat)) [id] [] else .fail) else .fail
  | _ => .fail
  else .fail
 | _ => .fail
def Rg : Nat := 12
def FR (P : Program) (t t2 : TypeId) (s x : AV) (nx : Nat) : Req :=
 match P.underlying t with
 | some (.slice e) => match P.info? e, UZ P Rg e with
  | some i, some T => match i.zero with
   | some z =>
    if t2 = t /\ T.size = i.size /\ z.cells.size = i.size /\ 0 < i.size then
     IB e T s fun l d u => Ua T x fun ys u' =>
      if Bn d ((u ++ u').map (·.1)) then .fail else
      .out ⟨[(l.length + ys.length) * i.bytes <= lim, l.length + ys.length <= lim], .arr nx, (nx, .arr e T (l ++ ys)) :: (d.map (fun i => (i, .none)) ++ (u ++ u'))⟩
    else .fail
   | _ => .fail
  | _, _ => .fail
 | _ => .fail
def Ms : Value -> AV
 | .int k n => if decide (k.min <= n) && decide (n <= k.max) then .dat (.int k) n else .raw (.int k n)
 | .bool b => .dat .bool b
 | .string s => if s.size <= lim then .dat .str s else .raw (.string s)
 | v => .raw v
def B9 : List Value -> AV
 | [] => .nil
 | v :: r => .cons (Ms v) (B9 r)
def Wv (e : TypeId) (x : AV) (nx : Nat) : Req :=
 if x.cells.F0 = true /\ x.cells.Bb = true then .out ⟨[], .ref nx 0, [(nx, .box e x.cells)]⟩ else .fail
def NI (P : Program) (e : TypeId) (nx : Nat) : Req :=
 match P.info? e with
 | some i => match i.zero with
  | some z => .out ⟨[], .ref nx 0, [(nx, .box e (B9 z.cells.toList))]⟩
  | _ => .fail
 | _ => .fail
def Ww : AV -> Bool
 | .cons (.dat _ _) b => Ww b
 | .cons (.raw (.slice Option.none 0 0)) b => Ww b
 | .nil => true
 | _ => false
def ES (sz : Nat) : Nat -> List (Nat × AV) -> Option AV
 | _, [] => some .nil
 | n, (i, x) :: r => if i = n /\ x.cells.len = sz /\ x.cells.F0 = true /\ x.cells.Bb = true then (ES sz (n + 1) r).map (x.cells.app ·) else Option.none
def FL (P : Program) (t : TypeId) (len : Nat) (parts : List (Nat × AV)) (nx : Nat) : Req :=
 match P.underlying t with
 | some (.slice e) => match P.info? e, ES ((P.info? e).elim 0 (·.size)) 0 parts with
  | some i, some cells => match i.zero with
   | some z =>
    if parts.length = len /\ len * i.size <= 16777216 /\ z.cells.size = i.size /\ 0 < i.size then
     match Ww cells, UZ P Rg e with
     | true, some T => if T.size = i.size then AA2 (Bv T) len cells fun xs r u =>
       match r with
       | .nil => .out ⟨[], .arr nx, (nx, .arr e T xs) :: u⟩
       | _ => .fail
      else .fail
     | _, _ => .out ⟨[], .arr nx, [(nx, .lit e len cells)]⟩
    else .fail
   | _ => .fail
  | _, _ => .fail
 | _ => .fail
def Rh (P : Program) (t : TypeId) (len cap : AV) (nx : Nat) : Req :=
 match P.underlying t with
 | some (.slice e) => match P.info? e, UZ P Rg e, len, cap with
  | some i, some T, .dat (.int _) n, .dat (.int _) c => match i.zero with
   | some z => match Bv T (B9 z.cells.toList) fun y r u => match r, u with
     | .nil, [] => .out ⟨[0 <= n, n <= c, c.toNat * i.bytes <= lim, c <= (lim : Int)], .arr nx, [(nx, .arr e T (List.replicate n.toNat y))]⟩
     | _, _ => .fail with
    | .out o => if T.size = i.size /\ z.cells.size = i.size /\ 0 < i.size /\ 0 < i.bytes then .out o else .fail
    | _ => .fail
   | _ => .fail
  | _, _, _, _ => .fail
 | _ => .fail
def NJ (P : Program) (t : TypeId) (x : AV) (lo hi : Option AV) : Req :=
 let bnd (o : Option AV) (d : Int) : Option Int := match o with
  | Option.none => some d
  | some (.dat (.int _) n) => some n
  | _ => Option.none
 match P.underlying t with
 | some (.slice e) => match P.info? e with
  | some i => match x with
   | .dat (.sl T) l => match bnd lo 0, bnd hi l.length with
    | some a, some b => if T.size = i.size then .out ⟨[0 <= a, a <= b, b <= l.length], .dat (.sl T) ((l.take b.toNat).drop a.toNat), []⟩ else .fail
    | _, _ => .fail
   | .arr id => .look id fun
    | .arr _ T l => match bnd lo 0, bnd hi l.length with
     | some a, some b => if T.size = i.size then .out ⟨[0 <= a, a <= b, b <= l.length], .vw id i.size a b, []⟩ else .fail
     | _, _ => .fail
    | .sld T l => match bnd lo 0, bnd hi l.length with
     | some a, some b => if T.size = i.size then .out ⟨[0 <= a, a <= b, b <= l.length], .dat (.sl T) ((l.take b.toNat).drop a.toNat), []⟩ else .fail
     | _, _ => .fail
    | _ => .fail
   | .vw id sz l0 h0 => match bnd lo 0, bnd hi (h0 - l0) with
    | some a, some b => if sz = i.size then .out ⟨[0 <= a, a <= b, b <= h0 - l0], .vw id sz (l0 + a) (l0 + b), []⟩ else .fail
    | _, _ => .fail
   | _ => .fail
  | _ => .fail
 | _ => .fail
def inK (k : IntKind) (n : Int) : Prop := k.min <= n /\ n <= k.max
instance {k : IntKind} {n : Int} : Decidable (inK k n) := inferInstanceAs (Decidable (_ /\ _))
def num (wr : Bool) (k : IntKind) (n : Int) : Req :=
 if wr then .ret (.dat (.int k) (k.wrap n)) else .out ⟨[inK k n], .dat (.int k) n, []⟩
def Wx (P : Program) (wr : Bool) (op : BinOp) (t : TypeId) (x y : AV) : Req :=
 match x, y with
 | .dat (.int k) a, .dat (.int k') b =>
  if k' = k then match op with
   | .add => num wr k (a + b)
   | .sub => num wr k (a - b)
   | .mul => num wr k (a * b)
   | .quo => .out ⟨[b ≠ 0], .dat (.int k) (k.wrap (a.tdiv b)), []⟩
   | .rem => .out ⟨[b ≠ 0], .dat (.int k) (a.tmod b), []⟩
   | .eql => .ret (.dat .bool (a == b))
   | .neq => .ret (.dat .bool (a != b))
   | .lss => .ret (.dat .bool (decide (a < b)))
   | .leq => .ret (.dat .bool (decide (a <= b)))
   | .gtr => .ret (.dat .bool (decide (a > b)))
   | .geq => .ret (.dat .bool (decide (a >= b)))
   | .and => .ret (.dat (.int k) (k.wrap ((BitVec.ofInt k.bits a &&& BitVec.ofInt k.bits b).toNat : Int)))
   | .or => .ret (.dat (.int k) (k.wrap ((BitVec.ofInt k.bits a ||| BitVec.ofInt k.bits b).toNat : Int)))
   | .xor => .ret (.dat (.int k) (k.wrap ((BitVec.ofInt k.bits a ^^^ BitVec.ofInt k.bits b).toNat : Int)))
   | _ => .fail
  else .fail
 | .dat .bool a, .dat .bool b => match P.underlying t, op with
  | some .bool, .eql => .ret (.dat .bool (a == b))
  | some .bool, .neq => .ret (.dat .bool (!(a == b)))
  | _, _ => .fail
 | .dat .str a, .dat .str b => match op with
  | .add => .out ⟨[ByteArray.size a + ByteArray.size b <= lim], .dat .str (ByteArray.append a b), []⟩
  | .eql => .ret (.dat .bool (ByteArray.toList a == ByteArray.toList b))
  | .neq => .ret (.dat .bool (!(ByteArray.toList a == ByteArray.toList b)))
  | _ => .fail
 | .ref _ _, .raw (.pointer Option.none) | .spt _ _, .raw (.pointer Option.none) => match P.underlying t, op with
  | some (.pointer _), .eql => .ret (.dat .bool false)
  | some (.pointer _), .neq => .ret (.dat .bool true)
  | _, _ => .fail
 | .raw (.pointer Option.none), .raw (.pointer Option.none) => match P.underlying t, op with
  | some (.pointer _), .eql => .ret (.dat .bool true)
  | some (.pointer _), .neq => .ret (.dat .bool false)
  | _, _ => .fail
 | .dat (.sl _) l, .raw (.slice Option.none 0 0) => match P.underlying t, op with
  | some (.slice _), .eql => .ret (.isNil (l = []))
  | _, _ => .fail
 | _, _ => .fail
def bAt (s : ByteArray) (n : Int) : Int := match s[n.toNat]? with
 | some b => (b.toNat : Int)
 | Option.none => 0
def NK (P : Program) (t : TypeId) (x i : AV) : Req :=
 match P.underlying t, x, i with
 | some .string, .dat .str s, .dat (.int _) n => .out ⟨[0 <= n, n < (s.size : Int)], .dat (.int .u8) (bAt s n), []⟩
 | _, _, _ => .fail
def Wy (x y : AV) : Req :=
 match x, y with
 | .dat (.int k) a, .dat (.int _) b => .out ⟨[0 <= b], .dat (.int k) (a.fdiv (2 ^ (min b.toNat k.bits))), []⟩
 | _, _ => .fail
def Wz (x y : AV) : Req :=
 match x, y with
 | .dat (.int k) a, .dat (.int _) b => .out ⟨[0 <= b], .dat (.int k) (k.wrap (a * 2 ^ (min b.toNat k.bits))), []⟩
 | _, _ => .fail
def AC7 (wr : Bool) (op : UnOp) (x : AV) : Req :=
 match op, x with
 | .neg, .dat (.int k) a => num wr k (0 - a)
 | .not, .dat .bool b => .ret (.dat .bool (!b))
 | .xor, .dat (.int k) a => if k.signed = true then .ret (.dat (.int k) (k.wrap ((BitVec.ofInt k.bits (-1) ^^^ BitVec.ofInt k.bits a).toNat : Int))) else .fail
 | _, _ => .fail
def Ri (P : Program) (src dst : TypeId) (x : AV) : Req :=
 match P.underlying src, P.underlying dst, x with
 | some (.int _), some (.int k), .dat (.int _) n => .ret (.dat (.int k) (k.wrap n))
 | _, _, _ => .fail
def NL (P : Program) (src dst : TypeId) (x : AV) : Req :=
 match x with
 | .arr id => match P.underlying src, P.underlying dst with
  | some (.slice e), some .string => match P.underlying e, P.info? e with
   | some (.int .u8), some i => if i.size = 1 then .look id fun
    | .arr _ T l => if h : T = .int .u8 then .ret (.dat .str (strOfNums (Bm (congrArg Ty.sl h) l))) else .fail
    | _ => .fail
    else .fail
   | _, _ => .fail
  | _, _ => .fail
 | x => Ri P src dst x
def min2 (x y : Int) : Int := if y < x then y else x
def max2 (x y : Int) : Int := if y > x then y else x
def KX (f : Int -> Int -> Int) (k : IntKind) : Int -> List AV -> Req
 | a, [] => .ret (.dat (.int k) a)
 | a, .dat (.int k') b :: r => if k' = k then KX f k (f a b) r else .fail
 | _, _ => .fail
def FM : List Nat -> Bool
 | [] => true
 | x :: r => !(BX x r) && FM r
def EK (e' : TypeId) (T : Ty) : List (Int × Nat) -> List (List T.den) -> (List (List T.den) -> List Nat -> Req) -> Req
 | [], l, k => k l []
 | (i, j) :: r, l, k => .look j fun
  | .arr e2 T2 x => if h : T2 = T then (if e2 = e' then EK e' T r (l.set i.toNat (Bm (congrArg Ty.sl h) x)) fun l d => k l (j :: d) else .fail) else .fail
  | _ => .fail
def QH (cl : Bool) (id : Nat) (e e' : TypeId) (T : Ty) (l : List (List T.den)) (hs : List (Int × Nat)) (ix : Int) (nx : Nat) : Req :=
 if cl then EK e' T hs l fun l d => if BX id d || !(FM d) then .fail else
   .out ⟨[], .arr nx, (id, .BC e e' T l [(ix, nx)]) :: (nx, .arr e' T (get (.sl T) l ix)) :: d.map fun j => (j, .none)⟩
 else .out ⟨hs.map fun p => p.1 ≠ ix, .arr nx, [(id, .BC e e' T l ((ix, nx) :: hs)), (nx, .arr e' T (get (.sl T) l ix))]⟩
def Jc (P : Program) (cl : Bool) (t : TypeId) (a : AV) (nx : Nat) : Req :=
 match a with
 | .elt id sz ix off => .look id fun
  | .BC e e' T l hs => match P.underlying t, P.info? t with
   | some (.slice _), some i => if i.size = 1 /\ sz = 1 /\ off = 0 then QH cl id e e' T l hs ix nx else .fail
   | _, _ => .fail
  | _ => FA P t (.elt id sz ix off)
 | .dat (.ptr T) x => FA P t (.spt T x)
 | a => FA P t a
def Lu (d : List Nat) (ix : Int) : List (Int × Nat) -> ((ps : List Prop) -> [NF ps] -> List (Int × Nat) -> Req) -> Req
 | [], k => k [] []
 | (i, j) :: r, k => if BX j d then Lu d ix r fun ps _ hs => k ((i = ix) :: ps) hs
  else .look j fun
   | .none => Lu d ix r fun ps _ hs => k ((i = ix) :: ps) hs
   | _ => Lu d ix r fun ps _ hs => k ((i ≠ ix) :: ps) ((i, j) :: hs)
def KY (P : Program) (t : TypeId) (a x : AV) : Req :=
 match a with
 | .elt id sz ix off => .look id fun
  | .BC e e' T l hs => match P.info? t with
   | some i => if i.size = 1 /\ sz = 1 /\ off = 0 then IB e' T x fun r d u => Lu d ix hs fun ps _ hs' =>
     if BX id d || BX id (u.map (·.1)) || Bn d (u.map (·.1)) then .fail else .out ⟨ps, .raw undef, (id, .BC e e' T (l.set ix.toNat r) hs') :: (d.map (fun j => (j, .none)) ++ u)⟩
    else .fail
   | _ => .fail
  | _ => Ja P t (.elt id sz ix off) x
 | a => Ja P t a x
def KZ (P : Program) (t : TypeId) (a ix : AV) : Req :=
 match a with
 | .arr id => .look id fun
  | .BC _ _ _ l _ => match P.underlying t with
   | some (.slice e) => match P.info? e, ix with
    | some i, .dat (.int _) n => if i.size = 1 then .out ⟨[0 <= n, n < l.length], .elt id 1 n 0, []⟩ else .fail
    | _, _ => .fail
   | _ => .fail
  | _ => Jb P t (.arr id) ix
 | a => Jb P t a ix
def Rj (P : Program) (t : TypeId) (a : AV) : Req :=
 match a with
 | .arr id => .look id fun
  | .BC _ _ _ l _ => match P.underlying t with
   | some (.slice _) => .ret (.dat (.int .i64) (l.length : Int))
   | _ => .fail
  | _ => Rf P t (.arr id)
 | a => Rf P t a
def rowOf (e' : TypeId) (T : Ty) (x : AV) (k : List T.den -> List Nat -> Upd -> Option Nat -> Req) : Req :=
 match x with
 | .arr id2 => .look id2 fun
  | .lit _ 1 (.cons (.arr i) .nil) => .look i fun
   | .arr e2 T2 r => if h : T2 = T then (if e2 = e' then k (Bm (congrArg Ty.sl h) r) [id2] [] (some i) else .fail) else .fail
   | .sld T2 r => if h : T2 = T then k (Bm (congrArg Ty.sl h) r) [id2] [] (some i) else .fail
   | _ => IB e' T (.arr i) fun r d u => k r (id2 :: d) u Option.none
  | .lit _ 1 (.cons a .nil) => IB e' T a fun r d u => k r (id2 :: d) u Option.none
  | _ => .fail
 | _ => .fail
def W0 (n : Nat) : Option Nat -> List (Int × Nat)
 | some i => [((n : Int), i)]
 | Option.none => []
def IW (P : Program) (t t2 : TypeId) (id : Nat) (e e' : TypeId) (T : Ty) (l : List (List T.den)) (x : AV) (nx : Nat) : Req :=
 match P.underlying t with
 | some (.slice e0) => match P.info? e0 with
  | some i => match i.zero with
   | some z => if e0 = e /\ t2 = t /\ i.size = 1 /\ z.cells.size = 1 then rowOf e' T x fun r d u h =>
     if BX id d || BX id (u.map (·.1)) || Bn d (u.map (·.1)) then .fail else
     .out ⟨[(l.length + 1) * i.bytes <= lim, l.length + 1 <= lim], .arr nx, (nx, .BC e e' T (l ++ [r]) (W0 l.length h)) :: ((id :: d).map (fun j => (j, .none)) ++ u)⟩
    else .fail
   | _ => .fail
  | _ => .fail
 | _ => .fail
def EZ (P : Program) (t t2 : TypeId) (s x : AV) (nx : Nat) : Req :=
 match P.underlying t, P.underlying t2, x with
 | some (.slice e), some (.int _), .dat (.int .i64) n => match P.info? e, UZ P Rg e with
  | some i, some T => match i.zero with
   | some z =>
    if T.size = i.size /\ z.cells.size = i.size /\ 0 < i.size /\ 0 < i.bytes then
     Bv T (B9 z.cells.toList) fun y r u => match r, u with
      | .nil, [] => IB e T s fun l d u' => if Bn d (u'.map (·.1)) then .fail else
        .out ⟨[0 <= n, (l.length + n.toNat) * i.bytes <= lim, l.length + n.toNat <= lim], .arr nx, (nx, .arr e T (l ++ List.replicate n.toNat y)) :: (d.map (fun i => (i, .none)) ++ u')⟩
      | _, _ => .fail
    else .fail
   | _ => .fail
  | _, _ => .fail
 | _, _, _ => .fail
def Gq (P : Program) (t t2 : TypeId) (id : Nat) (e e' : TypeId) (T : Ty) (l : List (List T.den)) (x : AV) (nx : Nat) : Req :=
 match P.underlying t, P.underlying t2, x with
 | some (.slice e0), some (.int _), .dat (.int .i64) n => match P.info? e0 with
  | some i => match i.zero with
   | some (.slice Option.none 0 0) => if e0 = e /\ i.size = 1 /\ 0 < i.bytes then
     .out ⟨[0 <= n, (l.length + n.toNat) * i.bytes <= lim, l.length + n.toNat <= lim], .arr nx, (nx, .BC e e' T (l ++ List.replicate n.toNat []) []) :: [(id, .none)]⟩
    else .fail
   | _ => .fail
  | _ => .fail
 | _, _, _ => .fail
def isInt (P : Program) (t : TypeId) : Bool := match P.underlying t with
 | some (.int _) => true
 | _ => false
def Mt : Option Value -> Bool
 | some (.int .i64 n) => decide (n = 0)
 | _ => false
theorem W2 {z : Option Value} (h : Mt z = true) : z = some (.int .i64 0) := by
 unfold Mt at h
 split at h
 ·rw [of_decide_eq_true h]
 ·cases h
def IX (P : Program) (t t2 : TypeId) (k : Nat) (x : AV) (nx : Nat) : Req :=
 .look k fun
  | .orw id => .look id fun
   | .mpo K e B outs => match P.underlying t, P.info? e with
    | some (.slice e2), some i => if BX k outs = true /\ e2 = e /\ t2 = t /\ i.size = 1 /\ Mt i.zero = true /\ i.bytes = 8 then
      Ua (.int .i64) x fun ys u => match ys, u with
       | [_], [] => .out ⟨[(B + 1) * 8 <= (lim : Int)], .opq nx, [(nx, .orw id), (id, .mpo K e (B + 1) (nx :: outs))]⟩
       | _, _ => .fail
     else .fail
    | _, _ => .fail
   | _ => .fail
  | _ => .fail
def IY (P : Program) (t t2 : TypeId) (s x : AV) (nx : Nat) : Req :=
 match s with
 | .opq k => IX P t t2 k x nx
 | .arr id => .look id fun
  | .BC e e' T l [] => if isInt P t2 then Gq P t t2 id e e' T l x nx else IW P t t2 id e e' T l x nx
  | _ => if isInt P t2 then EZ P t t2 (.arr id) x nx else FR P t t2 (.arr id) x nx
 | s => if isInt P t2 then EZ P t t2 s x nx else FR P t t2 s x nx
def Rk (P : Program) (t : TypeId) (a x : AV) : Req :=
 let go (id : Nat) (e0 : TypeId) (i : TypeInfo) (lo : Int) (hi : Option Int) : Req := .look id fun
  | .arr e T l => if e0 = e /\ T.size = i.size /\ 0 < i.size then Ua T x fun ys u => match u with
    | [] =>
     let n := Nat.min ys.length ((hi.getD l.length).toNat - lo.toNat)
     .out ⟨[ys.length <= lim], .dat (.int .i64) (n : Int), [(id, .arr e T (l.take lo.toNat ++ ys.take n ++ l.drop (lo.toNat + n)))]⟩
    | _ => .fail
   else .fail
  | _ => .fail
 match P.underlying t with
 | some (.slice e0) => match P.info? e0, a with
  | some i, .arr id => go id e0 i 0 Option.none
  | some i, .vw id sz lo hi => if sz = i.size then go id e0 i lo (some hi) else .fail
  | _, _ => .fail
 | _ => .fail
def Ad {κ α : Type} [DecidableEq κ] (d : α) : List (κ × α) -> κ -> α
 | [], _ => d
 | (a, x) :: r, k => bif decide (k = a) then x else Ad d r k
def A4 {κ α : Type} [DecidableEq κ] (x : α) : List (κ × α) -> κ -> List (κ × α)
 | [], k => [(k, x)]
 | (a, y) :: r, k => bif decide (k = a) then (a, x) :: r else (a, y) :: A4 x r k
def BF {κ α : Type} [DecidableEq κ] : List (κ × α) -> κ -> Bool
 | [], _ => false
 | (a, _) :: r, k => bif decide (k = a) then true else BF r k
def Gc (P : Program) (kt : TypeId) : Option Ty := match P.underlying kt with
 | some (.int k) => some (.int k)
 | some .string => some .str
 | some (.struct fs) => match fs.toList with
  | [f, g] => match P.underlying f.type, P.underlying g.type with
   | some (.int k), some (.int q) => if f.name ≠ "_" /\ g.name ≠ "_" /\ f.offset = 0 /\ g.offset = 1 /\ P.stoodInHeld kt = false then some (.pair (.int k) (.pair (.int q) .unit)) else Option.none
   | _, _ => Option.none
  | _ => Option.none
 | _ => Option.none
def Ea (P : Program) (t : TypeId) : Option (Ty × Ty) := match P.underlying t with
 | some (.map k e) => match Gc P k, P.underlying e, (P.info? e).bind (·.zero) with
  | some K, some .bool, some (.bool false) => some (K, .bool)
  | some K, some (.int q), some (.int q' 0) => if q' = q then some (K, .int q) else Option.none
  | _, _, _ => Option.none
 | _ => Option.none
def Gs : (K : Ty) -> AV -> Option K.den
 | .int k, .dat (.int k') n => if k' = k then some n else Option.none
 | .str, .dat .str s => some s
 | .pair (.int k) (.pair (.int q) .unit), .agg (.cons (.dat (.int k') a) (.cons (.dat (.int q') b) .nil)) => if k' = k /\ q' = q then some (a, b, ()) else Option.none
 | _, _ => Option.none
def IZ (P : Program) (t : TypeId) (nx : Nat) : Req :=
 match Ea P t with
 | some (K, V) => .out ⟨[], .BY nx, [(nx, .mp K V [])]⟩
 | _ => .fail
def Hh (ok : Bool) (K V : Ty) (l : List (K.den × V.den)) (n : K.den) : Req :=
 bif ok then .ret (.tup (.cons (.dat V (@Ad _ _ K.eqD V.Bl l n)) (.cons (.dat .bool (@BF _ _ K.eqD l n)) .nil))) else .ret (.dat V (@Ad _ _ K.eqD V.Bl l n))
def Kb (P : Program) (t : TypeId) (m ix : AV) (ok : Bool) : Req :=
 match Ea P t with
 | some (K, V) => match Gs K ix with
  | some n => match m with
   | .BY id => .look id fun
    | .mp K2 V2 l => if h : V2 = V then (if h2 : K2 = K then Hh ok K V (coeM h2 h l) n else .fail) else .fail
    | _ => .fail
   | .dat T l => if h : T = .CE K V then Hh ok K V (Bm h l) n else .fail
   | _ => .fail
  | Option.none => .fail
 | _ => .fail
def Hi (P : Program) (t : TypeId) (m ix x : AV) : Req :=
 match Ea P t, m, x with
 | some (K, V), .BY id, .dat V' y => match Gs K ix with
  | some n => .look id fun
   | .mp K2 V2 l => if h : V2 = V then (if h' : V' = V then (if h2 : K2 = K then .out ⟨[l.length < lim], .raw undef, [(id, .mp K V (@A4 _ _ K.eqD (Bm h' y) (coeM h2 h l) n))]⟩ else .fail) else .fail) else .fail
   | _ => .fail
  | Option.none => .fail
 | _, _, _ => .fail
def ET (P : Program) (t : TypeId) : Option (Ty × TypeId) := match P.underlying t with
 | some (.map kt e) => match Gc P kt, P.underlying e, (P.info? e).bind (·.zero) with
  | some K, some (.slice e'), some (.slice Option.none 0 0) => match P.underlying e', P.info? e' with
   | some (.int .i64), some i => if i.size = 1 /\ Mt i.zero = true /\ i.bytes = 8 then some (K, e') else Option.none
   | _, _ => Option.none
  | _, _, _ => Option.none
 | _ => Option.none
def Gt (P : Program) (t : TypeId) (nx : Nat) : Req :=
 match ET P t with
 | some (K, e) => .out ⟨[], .BY nx, [(nx, .mpo K e 0 [])]⟩
 | Option.none => IZ P t nx
def Eb (P : Program) (t : TypeId) (m ix : AV) (ok : Bool) (nx : Nat) : Req :=
 match ET P t with
 | some (K, e) => match Gs K ix with
  | some n => match m with
   | .BY id => .look id fun
    | .mpo K2 e2 B outs => if K2 = K /\ e2 = e /\ ok = false then .out ⟨[0 <= B], .opq nx, [(nx, .orw id), (id, .mpo K2 e2 B (nx :: outs))]⟩ else .fail
    | _ => .fail
   | _ => .fail
  | Option.none => .fail
 | Option.none => Kb P t m ix ok
def Ec (P : Program) (t : TypeId) (m ix x : AV) : Req :=
 match ET P t with
 | some (K, e) => match Gs K ix, m, x with
  | some n, .BY id, .opq k => .look id fun
    | .mpo K2 e2 B outs => if K2 = K /\ e2 = e /\ BX k outs = true then .out ⟨[], .raw undef, [(id, .mpo K2 e2 B outs)]⟩ else .fail
    | _ => .fail
  | _, _, _ => .fail
 | Option.none => Hi P t m ix x
def FT (P : Program) (t : TypeId) : Option (Ty × Ty) := match ET P t with
 | some (K, _) => some (K, .sl (.int .i64))
 | Option.none => Option.none
def FU (P : Program) (t : TypeId) : Option Ty := match P.underlying t with
 | some (.map kt e) => match Gc P kt, P.underlying e with
  | some K, some (.func _ _ _) => some K
  | _, _ => Option.none
 | _ => Option.none
def FB {κ α : Type} [DecidableEq κ] : List (κ × α) -> κ -> Option α
 | [], _ => Option.none
 | (a, x) :: r, k => bif decide (k = a) then some x else FB r k
def Gu (P : Program) (cl : Bool) (t : TypeId) (nx : Nat) : Req :=
 match FU P t with
 | some K => .out ⟨[], .BY nx, [(nx, .mpf K [])]⟩
 | Option.none => match cl, FT P t with
  | true, some (K, V) => .out ⟨[], .BY nx, [(nx, .mp K V [])]⟩
  | _, _ => Gt P t nx
def Ia (P : Program) (t : TypeId) (m ix : AV) (ok : Bool) (nx : Nat) : Req :=
 match m with
 | .BY id => .look id fun
  | .mpf K l => match FU P t with
   | some K2 => if K2 = K then (match Gs K ix with
    | some n => match @FB _ _ K.eqD l n with
     | some a => .ret (bif ok then .tup (.cons a (.cons (.dat .bool true) .nil)) else a)
     | Option.none => .fail
    | Option.none => .fail) else .fail
   | Option.none => .fail
  | .mp K V l => match FT P t with
   | some (K2, V2) => if h : V2 = V then (if h2 : K2 = K then (match Gs K ix with
    | some n => Hh ok K V l n
    | Option.none => .fail) else .fail) else .fail
   | Option.none => Eb P t (.BY id) ix ok nx
  | _ => Eb P t (.BY id) ix ok nx
 | m => Eb P t m ix ok nx
def F5 (P : Program) (t : TypeId) (m ix x : AV) : Req :=
 match m with
 | .BY id => .look id fun
  | .mpf K l => match FU P t with
   | some K2 => if K2 = K then (match Gs K ix with
    | some n => match @FB _ _ K.eqD l n with
     | some _ => .fail
     | Option.none => if x.one = true then .out ⟨[], .raw undef, [(id, .mpf K (l ++ [(n, x)]))]⟩ else .fail
    | Option.none => .fail) else .fail
   | Option.none => .fail
  | .mp K V l => match FT P t with
   | some (K2, V2) => if h : V2 = V then (if h2 : K2 = K then (match Gs K ix with
    | some n => Bv V (.cons x .nil) fun y c u => match c with
     | .nil => if BX id (u.map (·.1)) then .fail else .out ⟨[l.length < lim], .raw undef, (id, .mp K V (@A4 _ _ K.eqD y l n)) :: u⟩
     | _ => .fail
    | Option.none => .fail) else .fail) else .fail
   | Option.none => Ec P t (.BY id) ix x
  | _ => Ec P t (.BY id) ix x
 | m => Ec P t m ix x
def Gv (P : Program) (t : TypeId) (size : AV) (nx : Nat) : Req :=
 match P.underlying t, size with
 | some (.chan _ elem), .dat (.int .i64) n => match P.info? elem with
  | some i => .out ⟨[0 <= n, n <= IntKind.i64.max, (i.bytes : Int) * n <= 2 ^ 48 - 112], .chv nx, [(nx, .ch n 0)]⟩
  | _ => .fail
 | _, _ => .fail
def Ub : Value -> Option (FuncId × IntKind × Int)
 | .func (.func g) r c => match r.toList, c.toList with
  | [.agg cs], [] => match cs.toList with
   | [.int k n] => some (g, k, n)
   | _ => Option.none
  | _, _ => Option.none
 | _ => Option.none
def Kc (places : List (Nat × Nat)) : AV -> List (Nat × AV) -> Option AV
 | cells, [] => some cells
 | cells, (f, x) :: r => match places[f]? with
  | some (off, size) => if x.cells.len = size /\ x.cells.F0 = true /\ x.cells.Bb = true /\ off + x.cells.len <= cells.len then Kc places (AV.setAt off x.cells cells) r else Option.none
  | _ => Option.none
def NM (P : Program) (t : TypeId) (parts : List (Nat × AV)) : Req :=
 match P.info? t, P.underlying t with
 | some it, some (.struct fs) => match it.zero, fs.toList.mapM (fun f => (P.info? f.type).map fun i => (f.offset, i.size)) with
  | some z, some places => match Kc places (B9 z.cells.toList) parts with
   | some c => .ret (.agg c)
   | _ => .fail
  | _, _ => .fail
 | some it, some (.array m e) => match it.zero, P.info? e with
  | some z, some ie => match Kc ((List.range m).map fun i => (i * ie.size, ie.size)) (B9 z.cells.toList) parts with
   | some c => .ret (.agg c)
   | _ => .fail
  | _, _ => .fail
 | _, _ => .fail
def Kd (P : Program) (t : TypeId) (x : AV) (f : Nat) : Req :=
 match P.underlying t, x with
 | some (.struct fs), .agg c => match fs[f]? with
  | some fd => match P.underlying fd.type, P.info? fd.type with
   | some d, some i => if fd.offset <= c.len then C3 (Di d) i.size (c.drop fd.offset) else .fail
   | _, _ => .fail
  | _ => .fail
 | _, _ => .fail
def Ib (P : Program) (b : Builtin) (ts : List TypeId) (args : List AV) (nx : Nat) : Req :=
 match b, ts, args with
 | .len, [t], [x] => Rj P t x
 | .append, [t, t2], [s, x] => IY P t t2 s x nx
 | .copy, [t, _], [s, x] => Rk P t s x
 | .min, _, .dat (.int k) a :: r => KX min2 k a r
 | .max, _, .dat (.int k) a :: r => KX max2 k a r
 | _, _, _ => .fail
def Dj : List AV -> AV
 | [] => .nil
 | a :: r => .cons a (Dj r)
def NN (a : AV) (i : Nat) : Req :=
 match a with
 | .tup l => if i < l.len then .ret (l.nth i) else .fail
 | _ => .fail
def Rl (P : Program) (wr : Bool) (op : BinOp) (t : TypeId) (x y : AV) : Req :=
 match x, y with
 | .agg (.cons (.dat (.int k1) a) (.cons (.dat (.int k2) b) .nil)), .agg (.cons (.dat (.int k3) c) (.cons (.dat (.int k4) d) .nil)) => match op, P.underlying t with
  | .eql, some (.array 2 e) => match P.underlying e, P.info? e with
   | some (.int k), some i => if k1 = k /\ k2 = k /\ k3 = k /\ k4 = k /\ i.size = 1 /\ P.eqGuardType P.depth t = false then .ret (.dat .bool (a == c && b == d)) else .fail
   | _, _ => .fail
  | _, _ => .fail
 | x, y => Wx P wr op t x y
def Ke (P : Program) (t : TypeId) (x : AV) (lo hi : Option AV) : Req :=
 match x with
 | .raw (.slice Option.none 0 0) => match P.underlying t, lo, hi with
  | some (.slice e), Option.none, some (.dat (.int _) b) => match P.info? e with
   | some _ => .out ⟨[b = 0], .raw (.slice Option.none 0 0), []⟩
   | Option.none => .fail
  | _, _, _ => .fail
 | x => NJ P t x lo hi
def Gw (P : Program) (b : Builtin) (ts : List TypeId) (args : List AV) (nx : Nat) : Req :=
 match b, ts, args with
 | .cap, [t], [.raw (.slice Option.none 0 0)] => match P.underlying t with
  | some (.slice _) => .ret (.dat (.int .i64) (0 : Int))
  | _ => .fail
 | b, ts, args => Ib P b ts args nx
def W3 : BinOp -> Operand -> Bool
 | .eql, .const .nilIface => true
 | _, _ => false
def Zo (P : Program) (t : TypeId) (x y : AV) : Req := match x, y with
 | .raw .nilIface, .raw .nilIface => match P.underlying t with
  | some (.interface _) => .ret (.dat .bool true)
  | _ => .fail
 | _, _ => .fail
def Zp (P : Program) (wr : Bool) (o : BinOp) (t : TypeId) (yo : Operand) (x y : AV) : Req :=
 bif W3 o yo then Zo P t x y else match o with
  | .shr => Wy x y
  | .shl => Wz x y
  | o => Rl P wr o t x y
abbrev Bo := AV -> Nat -> Req
structure Md where
 wr : Bool
 cl : Bool
def Br (P : Program) (S : FuncId -> Bo) (wr : Md) (op : Op) (ev : Operand -> AV) (nx : Nat) : Req :=
 match op with
 | .move x => .ret (ev x)
 | .assign x => .ret (ev x)
 | .pick c a b => match ev c, ev a, ev b with
  | .dat .bool c, .dat .bool x, .dat .bool y => .ret (.dat .bool (bif c then x else y))
  | .dat .bool true, x, _ => .ret x
  | .dat .bool false, _, y => .ret y
  | _, _, _ => .fail
 | .alloc e => NI P e nx
 | .box e x => Wv e (ev x) nx
 | .load t a => Jc P wr.cl t (ev a) nx
 | .store t a x => KY P t (ev a) (ev x)
 | .nilCheck x => match ev x with
  | .ref id off => .ret (.ref id off)
  | .elt id sz i off => .ret (.elt id sz i off)
  | .spt T y => .ret (.spt T y)
  | .dat (.ptr T) y => .ret (.spt T y)
  | _ => .fail
 | .fieldAddr s x f => NH P s (ev x) f
 | .indexAddr t x i => KZ P t (ev x) (ev i)
 | .binOp o t x y _ => Zp P wr.wr o t y (ev x) (ev y)
 | .unOp o _ x => AC7 wr.wr o (ev x)
 | .index t x i => NK P t (ev x) (ev i)
 | .convert s d x => NL P s d (ev x)
 | .buildSlice t len parts => FL P t len (parts.toList.map fun p => (p.1, ev p.2)) nx
 | .makeMap t Option.none => Gu P wr.cl t nx
 | .makeChan t n => Gv P t (ev n) nx
 | .lookup t m k ok => Ia P t (ev m) (ev k) ok nx
 | .mapUpdate t m k x => F5 P t (ev m) (ev k) (ev x)
 | .insert t m k x => F5 P t (ev m) (ev k) (ev x)
 | .build t parts => NM P t (parts.toList.map fun p => (p.1, ev p.2))
 | .field t x f => Kd P t (ev x) f
 | .makeSlice t l c => Rh P t (ev l) (ev c) nx
 | .slice t x lo hi mx => match mx with
  | Option.none => Ke P t (ev x) (lo.map ev) (hi.map ev)
  | _ => .fail
 | .makeFunc (.func f) first captured => match first.toList with
  | [] => .ret (.fn f (Dj (captured.toList.map ev)))
  | [x] => match ev x, captured.toList with
   | .ref id 0, [] => .ret (.bfn id f)
   | .agg (.cons (.dat (.int k) n) .nil), [] => .ret (.raw (.func (.func f) #[.agg #[.int k n]] #[]))
   | _, _ => .fail
  | _ => .fail
 | .extract x i => NN (ev x) i
 | .call c => match c.callee with
  | .builtin b => Gw P b c.argTypes.toList (c.args.toList.map ev) nx
  | .value f => match ev f with
   | .fn g caps => S g ((Dj (c.args.toList.map ev)).app caps) nx
   | .dat .fnT g => S g ((Dj (c.args.toList.map ev)).app .nil) nx
   | .bfn id g => S g (.cons (.ref id 0) (Dj (c.args.toList.map ev))) nx
   | .raw v => match Ub v with
    | some (g, k, n) => .call (if inK k n then some () else Option.none) fun _ => S g (.cons (.agg (.cons (.dat (.int k) n) .nil)) (Dj (c.args.toList.map ev))) nx
    | Option.none => .fail
   | _ => .fail
  | _ => .fail
 | _ => .fail
end AL
end
section
set_option linter.unusedVariables false
set_option linter.unusedSimpArgs false
namespace AL
open Go
inductive Av (n : Nat) : Prop
structure Ann where
 ι : Type
 inv : ι -> Prop
 env : ι -> List (Nat × AV)
 heap : ι -> List (Nat × Chunk)
 keep : List Nat      -- slots that hold what they held
 AN : List Nat     -- chunks that do
 AC8 : ι -> Nat
structure Cfg where
 P : Program
 S : FuncId -> Bo
 wr : Md
 fix : List Nat       -- chunks that keep their handles
 loops : Nat -> St -> Option Ann
 Uc : Nat -> St -> Option Ann
def ids (u : Upd) : List Nat := u.map (·.1)
def W4 : List Prop -> Prop -> Prop
 | [], q => q
 | p :: ps, q => p /\ W4 ps q
def brB (b : Bool) (F : Bool -> Prop) : Prop := match b with
 | true => F true
 | false => F false
def St.put (st : St) (d : Option Tmp) (a : AV) : St :=
 match d with
 | some d => { st with env := fun t => bif Nat.beq t d then a else st.env t }
 | Option.none => st
def St.upd (st : St) : Upd -> St
 | [] => st
 | (i, c) :: r => let s := st.upd r; { s with heap := fun j => bif Nat.beq j i then c else s.heap j }
def St.grow (st : St) : St := { st with next := st.next + 64 }
def Ah (env : Nat -> AV) : Operand -> AV
 | .tmp t => env t
 | .const v => Ms v
 | .func f => .fn f .nil
 | .global _ => .bot
def Bw (n : Nat) : Option Tmp -> Bool
 | some d => Nat.blt d n
 | Option.none => true
def Ed (next i : Nat) (ord : Nat -> Bool) (tch : List Nat) : Upd -> Bool
 | [] => true
 | (id, _) :: r => Nat.blt 0 id && ((BX id tch && (Nat.blt id next || ord ((id - next) / 64))) || (Nat.ble (next + 64 * i) id && Nat.blt id (next + 64 * i + 64))) && Ed next i ord tch r
structure Trc where
 i : Nat
 rd : List Nat
 wt : Option Nat
 tch : List Nat
 upd : List Nat
 sft : Option (Nat × Nat)
 ups : List (Nat × Chunk × Chunk)
def Hj : List Operand -> List Nat
 | [] => []
 | .tmp t :: r => t :: Hj r
 | _ :: r => Hj r
def EL (o : Oper) : List Nat := Hj o.op.operands.toList
def H5 : Option Nat -> List Nat
 | some d => [d]
 | Option.none => []
def apart (a b : Trc) : Bool :=
 !(Bn (H5 a.wt) b.rd) && !(Bn (H5 b.wt) a.rd) && !(Bn (H5 a.wt) (H5 b.wt)) && !(Bn a.upd b.tch) && !(Bn b.upd a.tch) && !(Bn a.upd b.upd)
def IC (bef : Array Nat) : List Trc -> Bool
 | [] => true
 | a :: r => (r.all fun b => (bef.getD b.i 0).testBit a.i || apart a b) && IC bef r
def cellAt (off : Nat) : Chunk -> Option AV
 | .box _ cells => if off <= cells.len then (match cells.drop off with
  | .cons c _ => some c
  | _ => Option.none) else Option.none
 | _ => Option.none
def ED (P : Program) (op : Op) (ev : Operand -> AV) : Option (Nat × Nat) := match op with
 | .load t a => match P.underlying t, P.info? t, ev a with
  | some d, some _, .ref id off => bif Di d then Option.none else some (id, off)
  | _, _, _ => Option.none
 | _ => Option.none
abbrev EM := Option ((ps : List Prop) × Gj ps)
def Gj.app : {ps qs : List Prop} -> Gj ps -> Gj qs -> Gj (ps ++ qs)
 | _, _, .nil, e => e
 | _, _, .cons d r, e => .cons d (Gj.app r e)
def EM.one (p : Prop) [d : Decidable p] : EM := some ⟨[p], .cons d .nil⟩
def EM.nil : EM := some ⟨[], .nil⟩
def EM.and : EM -> EM -> EM
 | some ⟨p, d⟩, some ⟨q, e⟩ => some ⟨p ++ q, d.app e⟩
 | _, _ => Option.none
def W5 : AV -> AV -> EM
 | .dat T x, .dat T' y => if h : T' = T then @EM.one (Bm h y = x) (T.eqD _ _) else Option.none
 | .opq a, .opq b => bif Nat.beq a b then EM.nil else Option.none
 | .idn a T x, .idn b T' y => bif Nat.beq a b then (if h : T' = T then @EM.one (Bm h y = x) (T.eqD _ _) else Option.none) else Option.none
 | .arr a, .arr b => bif Nat.beq a b then EM.nil else Option.none
 | .BY a, .BY b => bif Nat.beq a b then EM.nil else Option.none
 | _, _ => Option.none
def AIn : Option AV -> Option AV -> EM
 | some a, some b => W5 a b
 | _, _ => Option.none
def F6 (id off : Nat) : List (Nat × Chunk × Chunk) -> EM
 | [] => EM.nil
 | (j, o, n) :: r => bif Nat.beq j id then (AIn (cellAt off o) (cellAt off n)).and (F6 id off r) else F6 id off r
def Rm (s : Nat × Nat) : List Trc -> EM
 | [] => EM.nil
 | t :: r => (F6 s.1 s.2 t.ups).and (Rm s r)
def NO (tr : List Trc) : List (Nat × Nat) -> EM
 | [] => EM.nil
 | s :: r => (Rm s tr).and (NO tr r)
def Trc.Kf (a : Trc) : List Nat := match a.sft with
 | some _ => []
 | Option.none => a.tch
def Ee (a b : Trc) : Bool :=
 !(Bn (H5 a.wt) b.rd) && !(Bn (H5 b.wt) a.rd) && !(Bn (H5 a.wt) (H5 b.wt)) && !(Bn a.upd b.Kf) && !(Bn b.upd a.Kf) && !(Bn a.upd b.upd)
def Kg (bef : Array Nat) : List Trc -> Bool
 | [] => true
 | a :: r => (r.all fun b => (bef.getD b.i 0).testBit a.i || Ee a b) && Kg bef r
def AG6 : Option (Nat × Nat) -> List (Nat × Nat)
 | some s => [s]
 | Option.none => []
def QI (bef : Array Nat) : List Trc -> List (Nat × Nat)
 | [] => []
 | a :: r => (r.flatMap fun b => bif (bef.getD b.i 0).testBit a.i || apart a b then [] else AG6 a.sft ++ AG6 b.sft) ++ QI bef r
def F7 (bef : Array Nat) (tr : List Trc) : EM := bif Kg bef tr then NO tr (QI bef tr) else Option.none
section
variable (C : Cfg)
def ID (o : Oper) (next i : Nat) (ord : Nat -> Bool) (st : St) (K : List Nat -> List Nat -> St -> Prop) : Prop :=
 let r := Br C.P C.S C.wr o.op (Ah st.env) (next + 64 * i)
 match r.run st.heap with
 | some out =>
  let tch := r.Bc st.heap
  bif Ed next i ord tch out.upd && Bw st.n o.dst then W4 out.Bu (K tch (ids out.upd) ((st.upd out.upd).put o.dst out.res)) else Av 1
 | Option.none => Av 2
def IE (bef : Option (Array Nat)) (i : Nat) : Nat -> Bool := match bef with
 | some b => fun k => (b.getD i 0).testBit k
 | Option.none => fun k => Nat.blt k i
def Hk : Value -> Bool
 | .bool _ => false
 | _ => true
def Cv (ops : Array Oper) (bef : Option (Array Nat)) (next : Nat) : List Oper -> Nat -> List Trc -> St -> (St -> Prop) -> Prop
 | [], _, tr, st, K => match bef with
  | some b => bif IC b tr.reverse then K st else match F7 b tr.reverse with
   | some q => W4 q.1 (K st)
   | Option.none => Av 3
  | Option.none => K st
 | o :: r, i, tr, st, K =>
  let go (rd : List Nat) (st : St) : Prop := ID C o next i (IE bef i) st fun tch up st' => Cv ops bef next r (i + 1) (⟨i, rd ++ EL o, o.dst, tch, up, ED C.P o.op (Ah st.env), up.map fun id => (id, st.heap id, st'.heap id)⟩ :: tr) st' K
  match o.guard with
  | Option.none => go [] st
  | some (j, want) => match (ops[j]?).bind (·.dst) with
   | some d => match st.env d with
    | .dat .bool b => brB b fun c =>
     let st1 := st.put (some d) (.dat .bool c)
     bif c == want then go [d] st1 else bif Bw st.n o.dst then Cv ops bef next r (i + 1) (⟨i, [d], o.dst, [], [], Option.none, []⟩ :: tr) (st1.put o.dst (.raw undef)) K else Av 6
    | .raw v => bif Hk v && Bw st.n o.dst then Cv ops bef next r (i + 1) (⟨i, [d], o.dst, [], [], Option.none, []⟩ :: tr) (st.put o.dst (.raw undef)) K else Av 6
    | _ => Av 4
   | _ => Av 5
def EN : Nat -> List Oper -> Bool
 | _, [] => true
 | i, o :: r => (o.after.toList.all fun e => !(Region.binds .any e) || Nat.blt e.on i) && EN (i + 1) r
def Cw (ops : Array Oper) (draw : Bool) (st : St) (K : St -> Prop) : Prop :=
 bif !draw || EN 0 ops.toList then
  Cv C ops (bif draw then some (Region.before ops) else Option.none) st.next ops.toList 0 [] st fun st' => K { st' with next := st.next + 64 * ops.size }
 else Av 16
def BQ : Code -> Nat
 | .region id _ _ => id
 | .seq a b => match BQ a with
  | 1000000 => BQ b
  | n => n
 | .cond _ a b => match BQ a with
  | 1000000 => BQ b
  | n => n
 | .block _ a => BQ a
 | .loop a => BQ a
 | .scope a => BQ a
 | _ => 1000000
abbrev Ren := List (Nat × Nat)   -- number in the invariant, number here
def Ren.find (ρ : Ren) (a : Nat) : Option Nat := match ρ with
 | [] => Option.none
 | (x, y) :: r => bif Nat.beq x a then some y else Ren.find r a
def Ren.bind (ρ : Ren) (a b : Nat) : Option Ren := match ρ.find a with
 | some c => bif Nat.beq c b then some ρ else Option.none
 | Option.none => some ((a, b) :: ρ)
def Ren.inj : Ren -> Bool
 | [] => true
 | (_, b) :: r => (r.all fun p => !(Nat.beq p.2 b)) && Ren.inj r
def Ren.ok (fix : List Nat) (next : Nat) (ρ : Ren) : Bool := ρ.inj && ρ.all fun p => Nat.blt 0 p.1 && Nat.blt p.1 next && Nat.blt 0 p.2 && (Nat.beq p.1 p.2 || !(BX p.1 fix))
def AJ (ρ : Ren) : AV -> AV -> Option (Ren × List Prop)
 | .bot, a => bif a.single then some (ρ, []) else Option.none
 | .raw v, .raw u => some (ρ, [u = v])
 | .dat T x, .dat T' y => if h : T' = T then some (ρ, [Bm h y = x]) else Option.none
 | .dat (.sl _) x, .raw (.slice Option.none 0 0) => some (ρ, [x = []])
 | .opq a, .opq b => (ρ.bind a b).map fun ρ => (ρ, [])
 | .idn a T x, .idn b T' y => if h : T' = T then (ρ.bind a b).map fun ρ => (ρ, [Bm h y = x]) else Option.none
 | .BY a, .BY b => (ρ.bind a b).map fun ρ => (ρ, [])
 | .chv a, .chv b => (ρ.bind a b).map fun ρ => (ρ, [])
 | .bfn a f, .bfn b g => bif Nat.beq f g then (ρ.bind a b).map fun ρ => (ρ, []) else Option.none
 | .arr a, .arr b => (ρ.bind a b).map fun ρ => (ρ, [])
 | .vw a sz lo hi, .vw b sz' lo' hi' => bif Nat.beq sz sz' then (ρ.bind a b).map fun ρ => (ρ, [lo' = lo, hi' = hi]) else Option.none
 | .ref a o, .ref b o' => bif Nat.beq o o' then (ρ.bind a b).map fun ρ => (ρ, []) else Option.none
 | .elt a sz i o, .elt b sz' i' o' => bif Nat.beq sz sz' && Nat.beq o o' then (ρ.bind a b).map fun ρ => (ρ, [i' = i]) else Option.none
 | .spt T x, .spt T' y => if h : T' = T then some (ρ, [Bm h y = x]) else Option.none
 | .fn f c, .fn g c' => bif Nat.beq f g then AJ ρ c c' else Option.none
 | .nil, .nil => some (ρ, [])
 | .cons a b, .cons a' b' => match AJ ρ a a' with
  | some (ρ, p) => match AJ ρ b b' with
   | some (ρ, q) => some (ρ, p ++ q)
   | Option.none => Option.none
  | Option.none => Option.none
 | .agg l, .agg l' => AJ ρ l l'
 | .tup l, .tup l' => AJ ρ l l'
 | _, _ => Option.none
def QJ (ρ : Ren) : AV -> Option Ren
 | .arr a => ρ.bind a a
 | .vw a _ _ _ => ρ.bind a a
 | .ref a _ => ρ.bind a a
 | .elt a _ _ _ => ρ.bind a a
 | .fn _ c => QJ ρ c
 | .BY a => ρ.bind a a
 | .chv a => ρ.bind a a
 | .bfn a _ => ρ.bind a a
 | .cons a b => (QJ ρ a).bind fun ρ => QJ ρ b
 | .agg l => QJ ρ l
 | .tup l => QJ ρ l
 | _ => some ρ
def DO (ρ : Ren) : List (Int × Nat) -> List (Int × Nat) -> Option (Ren × List Prop)
 | [], [] => some (ρ, [])
 | (i, k) :: r, (i', k') :: r' => match ρ.bind k k' with
  | some ρ => match DO ρ r r' with
   | some (ρ, ps) => some (ρ, (i' = i) :: ps)
   | Option.none => Option.none
  | Option.none => Option.none
 | _, _ => Option.none
def Ae (ρ : Ren) : Chunk -> Chunk -> Option (Ren × List Prop)
 | .none, _ => some (ρ, [])
 | .box e c, .box e' c' => bif Nat.beq e e' then AJ ρ c c' else Option.none
 | .arr e T l, .arr e' T' l' => bif Nat.beq e e' then (if h : T' = T then some (ρ, [Bm (congrArg Ty.sl h) l' = l]) else Option.none) else Option.none
 | .lit e n c, .lit e' n' c' => bif Nat.beq e e' && Nat.beq n n' then AJ ρ c c' else Option.none
 | .sld T l, .sld T' l' => if h : T' = T then some (ρ, [Bm (congrArg Ty.sl h) l' = l]) else Option.none
 | .BC e e1 T l hs, .BC e' e1' T' l' hs' => bif Nat.beq e e' && Nat.beq e1 e1' then (if h : T' = T then (match DO ρ hs hs' with
  | some (ρ, ps) => some (ρ, (Bm (congrArg (fun t => Ty.sl (Ty.sl t)) h) l' = l) :: ps)
  | Option.none => Option.none) else Option.none) else Option.none
 | .mp K V l, .mp K' V' l' => if h : V' = V then (if h2 : K' = K then some (ρ, [coeM h2 h l' = l]) else Option.none) else Option.none
 | .mpo K e B [], .mpo K' e' B' _ => if K' = K /\ e' = e then some (ρ, [B' = B]) else Option.none
 | .ch c n, .ch c' n' => some (ρ, [c' = c, n' = n])
 | .glb g, .glb g' => bif Nat.beq g g' then some (ρ, []) else Option.none
 | _, _ => Option.none
def CW (env : Nat -> AV) : List (Nat × AV) -> Ren -> List Prop -> Option (Ren × List Prop)
 | [], ρ, ps => some (ρ, ps)
 | (t, a) :: r, ρ, ps => match AJ ρ a (env t) with
  | some (ρ, q) => CW env r ρ (ps ++ q)
  | Option.none => Option.none
def Rn (env : Nat -> AV) : List Nat -> Ren -> Option Ren
 | [], ρ => some ρ
 | t :: r, ρ => (QJ ρ (env t)).bind fun ρ => Rn env r ρ
def CX (heap : Nat -> Chunk) : List (Nat × Chunk) -> Ren -> List Prop -> Option (Ren × List Prop)
 | [], ρ, ps => some (ρ, ps)
 | (a, c) :: r, ρ, ps =>
  let b := (ρ.find a).getD a
  match ρ.bind a b with
  | some ρ => match Ae ρ c (heap b) with
   | some (ρ, q) => CX heap r ρ (ps ++ q)
   | Option.none => Option.none
  | Option.none => Option.none
def Ef (l : List (Nat × AV)) (t : Nat) (d : AV) : AV := match l with
 | [] => d
 | (x, a) :: r => bif Nat.beq x t then a else Ef r t d
def Dk (l : List (Nat × Chunk)) (t : Nat) (d : Chunk) : Chunk := match l with
 | [] => d
 | (x, a) :: r => bif Nat.beq x t then a else Dk r t d
def Dw (A : Ann) (x : A.ι) (s0 : St) : St where
 env := fun t => Ef (A.env x) t (bif BX t A.keep then s0.env t else .bot)
 heap := fun id => Dk (A.heap x) id (bif BX id A.AN then s0.heap id else .none)
 next := s0.next
 n := s0.n
def AA3 (heap : Nat -> Chunk) : Upd -> Nat -> Chunk
 | [], j => heap j
 | (i, c) :: r, j => bif Nat.beq j i then c else AA3 heap r j
def FC (b : Nat) (heap : Nat -> Chunk) : Nat -> Chunk :=
 match heap b with
 | .BC e e' T l (h :: hs) => match (EK e' T (h :: hs) l fun l d => if BX b d || !(FM d) || BX 0 d || Nat.beq b 0 then .fail else
   .out ⟨[], .nil, (b, .BC e e' T l []) :: d.map fun j => (j, .none)⟩).run heap with
  | some o => AA3 heap o.upd
  | Option.none => heap
 | _ => heap
def Cx (ρ : Ren) : List (Nat × Chunk) -> (Nat -> Chunk) -> (Nat -> Chunk)
 | [], heap => heap
 | (a, .BC _ _ _ _ []) :: r, heap => Cx ρ r (FC ((ρ.find a).getD a) heap)
 | _ :: r, heap => Cx ρ r heap
def entails (fix : List Nat) (A : Ann) (x : A.ι) (s0 st : St) : Prop :=
 match Rn s0.env A.keep [] with
 | some ρ => match CW st.env (A.env x ++ A.keep.map fun t => (t, s0.env t)) ρ [] with
  | some (ρ, ps) => match CX (Cx ρ (A.heap x) st.heap) (A.heap x ++ A.AN.map fun i => (i, s0.heap i)) ρ ps with
   | some (ρ, ps) => bif ρ.ok fix s0.next && (Nat.beq st.n s0.n && (Nat.blt 0 s0.next && fix.all fun i => Nat.blt i s0.next)) then W4 ps True else Av 7
   | Option.none => Av 8
  | Option.none => Av 9
 | Option.none => Av 10
def B2 : Code -> St -> (Exit -> St -> Prop) -> Prop
 | .skip, st, K => K .normal st
 | .label _, st, K => K .normal st
 | .region _ ops draw, st, K => Cw C ops draw st (K .normal)
 | .seq a b, st, K => match C.Uc (BQ b) st with
  | Option.none => B2 a st fun e st' => match e with
   | .normal => B2 b st' K
   | e => K e st'
  | some A => (B2 a st fun e st' => match e with
   | .normal => ∃ x, A.inv x /\ entails C.fix A x st st'
   | e => K e st') /\ ∀ x, A.inv x -> B2 b (Dw A x st) K
 | .cond c a b, st, K => match Ah st.env c with
  | .dat .bool v => brB v fun v =>
   let st1 := match c with
    | .tmp t => st.put (some t) (.dat .bool v)
    | _ => st
   bif v then B2 a st1 K else B2 b st1 K
  | .isNil p => (p -> B2 a st K) /\ B2 b st K
  | _ => Av 11
 | .block id a, st, K => B2 a st fun e st' => match e with
  | .exit id' => bif Nat.beq id' id then K .normal st' else K (.exit id') st'
  | e => K e st'
 | .scope a, st, K => B2 a st fun e st' => match e with
  | .goto _ => Av 12
  | e => K e st'
 | .exit id, st, K => K (.exit id) st
 | .ret, st, K => K .ret st
 | .loop a, st, K => match C.loops (BQ a) st with
  | some A => (∃ x, A.inv x /\ entails C.fix A x st st) /\ ∀ x, A.inv x -> B2 a (Dw A x st) fun e st' => match e with
   | .normal => ∃ y, A.inv y /\ A.AC8 y < A.AC8 x /\ entails C.fix A y st st'
   | e => K e st'
  | Option.none => Av 14
 | _, _, _ => Av 15
def Gd : AV -> Nat -> AV
 | .cons a _, 0 => a
 | .cons _ b, t + 1 => Gd b t
 | _, _ => .bot
end
end AL
end
section
set_option linter.unusedVariables false
set_option linter.unusedSimpArgs false
namespace AL
open Go
section
variable {φ : Hnd} {ow : Own} {w : World}
theorem Kh : ∀ {l : AV} {cs : List Value}, l.holds φ ow w cs -> l.len <= cs.length
 | .cons a b, _, ⟨v, r, e, _, h⟩ => by rw [e]; simp only [AV.len, List.length_cons]; have := Kh h; omega
 | .BY _, _, _ | .chv _, _, _ | .bfn _ _, _, _ | .opq _, _, _ | .idn _ _ _, _, _ | .bot, _, _ | .raw _, _, _ | .dat _ _, _, _ | .isNil _, _, _ | .arr _, _, _ | .vw _ _ _ _, _, _ | .ref _ _, _, _ | .elt _ _ _ _, _, _ | .spt _ _, _, _ | .fn _ _, _, _ | .nil, _, _ | .agg _, _, _ | .tup _, _, _ => by simp [AV.len]
theorem FV : ∀ {l : AV} {cs : List Value}, l.Bb = true -> l.holds φ ow w cs -> l.len = cs.length
 | .cons a b, _, hl, ⟨v, r, e, _, h⟩ => by rw [e]; simp only [AV.len, List.length_cons]; rw [FV (by simpa [AV.Bb] using hl) h]
 | .nil, _, _, h => by rw [show _ = _ from h]; rfl
theorem Ic : ∀ (n : Nat) {l : AV} {cs : List Value}, n <= l.len -> l.holds φ ow w cs -> (l.take n).holds φ ow w (cs.take n)
 | 0, _, _, _, _ => rfl
 | n + 1, .cons a b, _, hn, ⟨v, r, e, h1, h2⟩ => by
  subst e
  exact ⟨v, r.take n, rfl, h1, Ic n (by simp [AV.len] at hn; exact hn) h2⟩
theorem Dl : ∀ (n : Nat) {l : AV} {cs : List Value}, n <= l.len -> l.holds φ ow w cs -> (l.drop n).holds φ ow w (cs.drop n)
 | 0, _, _, _, h => h
 | n + 1, .cons a b, _, hn, ⟨v, r, e, h1, h2⟩ => by
  subst e
  exact Dl n (by simp [AV.len] at hn; exact hn) h2
theorem FW : ∀ {l m : AV} {cs ds : List Value}, l.Bb = true -> l.holds φ ow w cs -> m.holds φ ow w ds -> (l.app m).holds φ ow w (cs ++ ds)
 | .cons a b, _, _, _, hl, ⟨v, r, e, h1, h2⟩, h => by
  subst e
  exact ⟨v, r ++ _, rfl, h1, FW (by simpa [AV.Bb] using hl) h2 h⟩
 | .nil, _, _, _, _, h0, h => by rw [show _ = _ from h0]; exact h
theorem Dx : ∀ (k : Nat) {xs l : AV} {ds cs : List Value}, xs.Bb = true -> k + xs.len <= l.len -> xs.holds φ ow w ds -> l.holds φ ow w cs ->
  (AV.setAt k xs l).holds φ ow w (cs.take k ++ ds ++ cs.drop (k + ds.length))
 | 0, .cons x xs, .cons a b, _, _, hl, hn, ⟨v, r, e, h1, h2⟩, ⟨v', r', e', h3, h4⟩ => by
  subst e; subst e'
  have := Dx 0 (xs := xs) (l := b) (by simpa [AV.Bb] using hl) (by simp [AV.len] at hn ⊢; omega) h2 h4
  exact ⟨v, _, rfl, h1, by simpa [Nat.add_comm] using this⟩
 | 0, .nil, l, ds, cs, _, _, h0, h => by
  rw [show _ = _ from h0]
  cases l <;> simpa [AV.setAt] using h
 | 0, .cons x xs, .idn _ _ _, _, _, _, hn, _, _ | 0, .cons x xs, .BY _, _, _, _, hn, _, _ | 0, .cons x xs, .chv _, _, _, _, hn, _, _ | 0, .cons x xs, .bfn _ _, _, _, _, hn, _, _ | 0, .cons x xs, .opq _, _, _, _, hn, _, _ | 0, .cons x xs, .nil, _, _, _, hn, _, _ | 0, .cons x xs, .bot, _, _, _, hn, _, _ | 0, .cons x xs, .raw _, _, _, _, hn, _, _ | 0, .cons x xs, .dat _ _, _, _, _, hn, _, _ | 0, .cons x xs, .isNil _, _, _, _, hn, _, _ | 0, .cons x xs, .arr _, _, _, _, hn, _, _ | 0, .cons x xs, .vw _ _ _ _, _, _, _, hn, _, _ | 0, .cons x xs, .ref _ _, _, _, _, hn, _, _ | 0, .cons x xs, .elt _ _ _ _, _, _, _, hn, _, _ | 0, .cons x xs, .spt _ _, _, _, _, hn, _, _ | 0, .cons x xs, .fn _ _, _, _, _, hn, _, _ | 0, .cons x xs, .agg _, _, _, _, hn, _, _ | 0, .cons x xs, .tup _, _, _, _, hn, _, _ => by simp [AV.len] at hn
 | k + 1, xs, .cons a b, _, _, hl, hn, h, ⟨v', r', e', h3, h4⟩ => by
  subst e'
  have := Dx k (xs := xs) (l := b) hl (by simp [AV.len] at hn ⊢; omega) h h4
  refine ⟨v', _, ?_, h3, this⟩
  simp [Nat.add_assoc, Nat.add_comm, Nat.add_left_comm]
  rw [<- Nat.add_assoc, List.drop_succ_cons]
 | k + 1, xs, .idn _ _ _, _, _, _, hn, _, _ | k + 1, xs, .BY _, _, _, _, hn, _, _ | k + 1, xs, .chv _, _, _, _, hn, _, _ | k + 1, xs, .bfn _ _, _, _, _, hn, _, _ | k + 1, xs, .opq _, _, _, _, hn, _, _ | k + 1, xs, .nil, _, _, _, hn, _, _ | k + 1, xs, .bot, _, _, _, hn, _, _ | k + 1, xs, .raw _, _, _, _, hn, _, _ | k + 1, xs, .dat _ _, _, _, _, hn, _, _ | k + 1, xs, .isNil _, _, _, _, hn, _, _ | k + 1, xs, .arr _, _, _, _, hn, _, _ | k + 1, xs, .vw _ _ _ _, _, _, _, hn, _, _ | k + 1, xs, .ref _ _, _, _, _, hn, _, _ | k + 1, xs, .elt _ _ _ _, _, _, _, hn, _, _ | k + 1, xs, .spt _ _, _, _, _, hn, _, _ | k + 1, xs, .fn _ _, _, _, _, hn, _, _ | k + 1, xs, .agg _, _, _, _, hn, _, _ | k + 1, xs, .tup _, _, _, _, hn, _, _ => by simp [AV.len] at hn
theorem QK : ∀ (k : Nat) {l : AV} {cs : List Value} {d : Value}, k < l.len -> l.holds φ ow w cs -> (l.nth k).holds φ ow w [cs.getD k d]
 | 0, .cons a b, _, _, _, ⟨v, r, e, h1, h2⟩ => by subst e; exact h1
 | k + 1, .cons a b, _, d, hk, ⟨v, r, e, h1, h2⟩ => by
  subst e
  have := QK k (d := d) (by simp [AV.len] at hk; exact hk) h2
  simpa [AV.nth] using this
theorem Ud {a : AV} {v : Value} (h : a.holds φ ow w [v]) : a.cells.holds φ ow w v.cells.toList \/ ∃ cs, v = .agg cs /\ ∀ l, a ≠ .agg l := by
 by_cases ha : ∃ l, a = .agg l
 ·obtain ⟨l, rfl⟩ := ha
  obtain ⟨cs, e, h1⟩ := h
  injection e with e
  subst e
  exact .inl h1
 ·have hc : a.cells = .cons a .nil := by cases a <;> first | rfl | exact absurd ⟨_, rfl⟩ ha
  cases v
  case agg cs => exact .inr ⟨cs, rfl, fun l e => ha ⟨l, e⟩⟩
  all_goals
   left
   rw [hc]
   exact ⟨_, [], rfl, h, rfl⟩
theorem NP {a : AV} (h1 : a.one = true) {v : Value} (h : a.holds φ ow w [v]) : v.oneCell' = true := by
 cases a <;> simp only [AV.one] at h1 <;> simp only [AV.holds] at h
 case raw u => injection h with h; subst h; exact h1
 case dat T x => exact Ty.Fz h.2.2 v (by simp)
 case isNil => obtain ⟨b, e, _⟩ := h; injection e with e; subst e; rfl
 case arr => obtain ⟨_, _, _, _, e⟩ := h; injection e with e; subst e; rfl
 case vw => obtain ⟨_, _, _, _, _, _, _, _, _, _, e⟩ := h; injection e with e; subst e; rfl
 case ref => obtain ⟨_, _, e⟩ := h; injection e with e; subst e; rfl
 case elt => obtain ⟨_, _, _, _, _, _, e⟩ := h; injection e with e; subst e; rfl
 case spt => obtain ⟨_, _, _, e, _⟩ := h; injection e with e; subst e; rfl
 case fn => obtain ⟨_, e, _⟩ := h; injection e with e; subst e; rfl
 case BY => obtain ⟨_, _, e⟩ := h; injection e with e; subst e; rfl
 case chv => obtain ⟨_, _, e⟩ := h; injection e with e; subst e; rfl
 case bfn => obtain ⟨_, _, e⟩ := h; injection e with e; subst e; rfl
 case opq => obtain ⟨_, _, e, h2⟩ := h; injection e with e; subst e; exact h2
 case idn => obtain ⟨_, _, _, _, h3⟩ := h; exact Ty.Fz h3 v (by simp)
 all_goals simp at h1
theorem Jd : ∀ {l : AV} {cs : List Value}, l.F0 = true -> l.Bb = true -> l.holds φ ow w cs -> ∀ v ∈ cs, v.oneCell' = true
 | .cons a b, _, h1, hl, ⟨v, r, e, h2, h3⟩ => by
  subst e
  simp only [AV.F0, Bool.and_eq_true] at h1
  intro u hu
  rcases List.mem_cons.1 hu with rfl | hu
  ·exact NP h1.1 h2
  ·exact Jd h1.2 (by simpa [AV.Bb] using hl) h3 u hu
 | .nil, _, _, _, h => by rw [show _ = _ from h]; simp
def AM (S : List Nat) (ow : Own) : Own := fun b => match ow b with
 | some i => if i ∈ S then Option.none else some i
 | Option.none => Option.none
theorem Ay {S : List Nat} {b : Nat} : AM S ow b = Option.none ↔ (ow b = Option.none \/ ∃ i ∈ S, ow b = some i) := by
 unfold AM
 cases h : ow b with
 | none => simp
 | some i => by_cases hi : i ∈ S <;> simp [hi]
theorem Aj {S : List Nat} {b i : Nat} : AM S ow b = some i ↔ (ow b = some i /\ i ∉ S) := by
 unfold AM
 cases h : ow b with
 | none => simp
 | some j => by_cases hj : j ∈ S <;> simp [hj] <;> (intro e; subst e; exact hj)
theorem An (S : List Nat) : A8 ow w (AM S ow) w := ⟨Nat.le_refl _, fun b _ h => ⟨Ay.2 (.inl h), rfl⟩⟩
theorem Ag {S S' : List Nat} (h : ∀ i ∈ S, i ∈ S') : A8 (AM S ow) w (AM S' ow) w :=
 ⟨Nat.le_refl _, fun b _ hb => ⟨Ay.2 ((Ay.1 hb).imp (fun h => h) fun ⟨i, hi, e⟩ => ⟨i, h i hi, e⟩), rfl⟩⟩
structure Hyp (hp : Nat -> Chunk) (nx : Nat) (φ : Hnd) (ow : Own) (w : World) : Prop where
 chunk : ∀ id, cH φ ow w id (hp id)
 fresh : ∀ id, nx <= id -> id < nx + 64 -> φ id = Option.none
 own : ∀ b id, ow b = some id -> b < w.heap.size /\ (id < nx \/ nx + 64 <= id)
theorem NQ (u v : Upd) : ∀ i ∈ ids u, i ∈ ids (u ++ v) := fun i h => by unfold ids at *; rw [List.map_append]; exact List.mem_append_left _ h
theorem NR (u v : Upd) : ∀ i ∈ ids v, i ∈ ids (u ++ v) := fun i h => by unfold ids at *; rw [List.map_append]; exact List.mem_append_right _ h
def A3 (φ : Hnd) (ow : Own) (w : World) (u : Upd) : Prop := ∀ p ∈ u, p.2 = .none \/ ∃ t l, p.2 = .sld t l /\ cH φ ow w p.1 (.sld t l)
theorem A3.mono {ow' : Own} {u : Upd} (hk : A8 ow w ow' w) (h : A3 φ ow w u) : A3 φ ow' w u := fun p hp =>
 (h p hp).imp (fun e => e) fun ⟨t, l, e, v, h1, h2⟩ => ⟨t, l, e, v, h1, Ty.AO hk h2⟩
def W6 {α : Type} (hp : Nat -> Chunk) (φ : Hnd) (ow : Own) (w : World) (f : AV -> (α -> AV -> Upd -> Req) -> Req) (R : Own -> List Value -> α -> Prop) : Prop :=
 ∀ c k cs out, c.holds φ ow w cs -> (f c k).run hp = some out ->
  ∃ x c' u cs1 cs2, cs = cs1 ++ cs2 /\ c'.holds φ ow w cs2 /\ (k x c' u).run hp = some out /\ R (AM (ids u) ow) cs1 x /\ A3 φ (AM (ids u) ow) w u
theorem Mu {α : Type} {hp : Nat -> Chunk} {f : AV -> (α -> AV -> Upd -> Req) -> Req} {R : Own -> List Value -> α -> Prop}
  (hR : ∀ S S' cs x, (∀ i ∈ S, i ∈ S') -> R (AM S ow) cs x -> R (AM S' ow) cs x) (hf : W6 hp φ ow w f R) :
  ∀ n, W6 hp φ ow w (AA2 f n) (fun o cs (l : List α) => l.length = n /\ Rows (R o) cs l) := by
 intro n
 induction n with
 | zero =>
  intro c k cs out hc hr
  exact ⟨[], c, [], [], cs, rfl, hc, hr, ⟨rfl, rfl⟩, fun p hp => by cases hp⟩
 | succ n ih =>
  intro c k cs out hc hr
  obtain ⟨x, c1, u1, cs1, r1, e1, h1, hr1, hx, s1⟩ := hf c _ cs out hc hr
  obtain ⟨l, c2, u2, cs2, r2, e2, h2, hr2, ⟨hl, hrow⟩, s2⟩ := ih c1 _ r1 out h1 hr1
  refine ⟨x :: l, c2, u1 ++ u2, cs1 ++ cs2, r2, by rw [e1, e2, List.append_assoc], h2, hr2, ⟨by simp [hl], cs1, cs2, rfl, ?_, ?_⟩, ?_⟩
  ·exact hR _ _ _ _ (NQ _ _) hx
  ·exact Rows.mono (fun cs x => hR _ _ cs x (NR _ _)) hrow
  ·intro p hp
   rcases List.mem_append.1 hp with hp | hp
   ·exact A3.mono (Ag (NQ _ _)) s1 p hp
   ·exact A3.mono (Ag (NR _ _)) s2 p hp
theorem Bx {S S' : List Nat} (h : ∀ i ∈ S, i ∈ S') {T : Ty} {cs : List Value} {x : T.den} (hr : T.rep (AM S ow) w cs x) : T.rep (AM S' ow) w cs x :=
 Ty.AO (Ag h) hr
theorem Eg {id : Nat} {v : Value} {e : TypeId} {T : Ty} {l : List T.den} (h : EJ ow w id v e T l) : (Ty.sl T).rep (AM [id] ow) w [v] l := by
 obtain ⟨xs, h1, h2, h3, h4⟩ := h
 rcases h1.2 with ⟨rfl, hn⟩ | ⟨g, cap, cur, rfl, hb0, hg, hle, hm, hs, ht⟩
 ·exact ⟨Option.none, 0, by rw [hn], by omega, by omega, by simp [maxLen], .inl (List.eq_nil_of_length_eq_zero hn)⟩
 ·refine ⟨_, cap, rfl, hle, h3, hm, .inr ⟨g, 0, xs, rfl, Ay.2 (.inr ⟨id, by simp, h2 g rfl⟩), (Array.getElem?_eq_some_iff.1 hg).1, ?_, Rows.mono (fun cs x hr => Ty.AO (An _) hr) h4⟩⟩
  intro k u hu
  rw [Nat.zero_add, cell_of_row w g k cur e (0, 0) hg]
  rw [<- ht, List.getElem?_take] at hu
  split at hu
  ·simpa using hu
  ·cases hu
theorem Hl {T : Ty} {A X : Option Addr} {n c : Nat} {l : List T.den} (h : (Ty.sl T).rep ow w [.slice A n c] l) {a b : Nat} (hab : a <= b) (hb : b <= n) {sz : Nat} (hs : T.size = sz) (hX : a = b \/ X = A.map (·.add (a * sz))) :
  (Ty.sl T).rep ow w [.slice X (b - a) (c - a)] ((l.take b).drop a) := by
 obtain ⟨A', c', e, h1, h2, h3, h4⟩ := h
 injection e with e _
 injection e with e1 e2 e3
 subst e1; subst e3
 have hl : ((l.take b).drop a).length = b - a := by rw [List.length_drop, List.length_take]; omega
 refine ⟨_, _, by rw [hl], by rw [hl]; omega, by rw [hl]; omega, by omega, ?_⟩
 rcases hX with h0 | rfl
 ·exact .inl (List.eq_nil_of_length_eq_zero (by rw [hl]; omega))
 ·rcases h4 with h4 | ⟨g, o, xs, rfl, g1, g2, g3, g4⟩
  ·subst h4
   left
   simp
  ·right
   refine ⟨g, o + a * sz, (xs.take (b * sz)).drop (a * sz), ?_, g1, g2, ?_, ?_⟩
   ·unfold Addr.add
    by_cases hz0 : a * sz = 0 <;> simp [hz0]
   ·intro k v hv
    rw [List.getElem?_drop, List.getElem?_take] at hv
    split at hv
    ·rw [Nat.add_assoc]; exact g3 _ _ hv
    ·cases hv
   ·have hn : ∀ cs x, Ty.rep ow w T cs x -> cs.length = sz := fun cs x hr => by rw [Ty.A6 hr, hs]
    exact Rows.Zn hn (Rows.ND hn g4 b) a
theorem Eh {T' T : Ty} (h : T' = T) {cs : List Value} {x : T'.den} (hr : T'.rep ow w cs x) : T.rep ow w cs (Bm h x) := by subst h; exact hr
theorem Ki {S S' : List Nat} (h : ∀ i ∈ S, i ∈ S') {T : Ty} {cs : List Value} {l : List T.den} (hr : Rows (T.rep (AM S ow) w) cs l) : Rows (T.rep (AM S' ow) w) cs l :=
 Rows.mono (fun _ _ => Bx h) hr
theorem take_getElem? {α : Type} {xs cur : List α} {n : Nat} (h : cur.take n = xs) {k : Nat} {u : α} (hu : xs[k]? = some u) : cur[k]? = some u := by
 rw [<- h, List.getElem?_take] at hu
 split at hu
 ·exact hu
 ·cases hu
theorem Cc {hp : Nat -> Chunk} {nx : Nat} (H : Hyp hp nx φ ow w) : ∀ T, W6 hp φ ow w (Bv T) (fun o cs x => T.rep o w cs x) := by
 intro T
 induction T with
 | unit => exact fun c k cs out hc hr => ⟨(), c, [], [], cs, rfl, hc, hr, rfl, fun p hp => by cases hp⟩
 | pair a b iha ihb =>
  intro c k cs out hc hr
  obtain ⟨x, c1, u1, cs1, r1, e1, h1, hr1, hx, s1⟩ := iha c _ cs out hc hr
  obtain ⟨y, c2, u2, cs2, r2, e2, h2, hr2, hy, s2⟩ := ihb c1 _ r1 out h1 hr1
  refine ⟨(x, y), c2, u1 ++ u2, cs1 ++ cs2, r2, by rw [e1, e2, List.append_assoc], h2, hr2, ⟨cs1, cs2, rfl, Bx (NQ _ _) hx, Bx (NR _ _) hy⟩, ?_⟩
  intro p hp
  rcases List.mem_append.1 hp with hp | hp
  ·exact A3.mono (Ag (NQ _ _)) s1 p hp
  ·exact A3.mono (Ag (NR _ _)) s2 p hp
 | int i =>
  intro c k cs out hc hr
  cases c <;> try (simp [Bv, Req.run] at hr; done)
  rename_i a c
  obtain ⟨v, r, rfl, h1, h2⟩ := hc
  simp only [Bv, QG] at hr
  cases a <;> try (simp [Req.run] at hr; done)
  rename_i T' x
  simp only at hr
  split at hr
  ·rename_i h
   exact ⟨_, c, [], [v], r, rfl, h2, hr, Eh h (Ty.AO (An _) h1.2.2), fun p hp => by cases hp⟩
  ·simp [Req.run] at hr
 | bool =>
  intro c k cs out hc hr
  cases c <;> try (simp [Bv, Req.run] at hr; done)
  rename_i a c
  obtain ⟨v, r, rfl, h1, h2⟩ := hc
  simp only [Bv, QG] at hr
  cases a <;> try (simp [Req.run] at hr; done)
  rename_i T' x
  simp only at hr
  split at hr
  ·rename_i h
   exact ⟨_, c, [], [v], r, rfl, h2, hr, Eh h (Ty.AO (An _) h1.2.2), fun p hp => by cases hp⟩
  ·simp [Req.run] at hr
 | str =>
  intro c k cs out hc hr
  cases c <;> try (simp [Bv, Req.run] at hr; done)
  rename_i a c
  obtain ⟨v, r, rfl, h1, h2⟩ := hc
  simp only [Bv, QG] at hr
  cases a <;> try (simp [Req.run] at hr; done)
  rename_i T' x
  simp only at hr
  split at hr
  ·rename_i h
   exact ⟨_, c, [], [v], r, rfl, h2, hr, Eh h (Ty.AO (An _) h1.2.2), fun p hp => by cases hp⟩
  ·simp [Req.run] at hr
 | fnT =>
  intro c k cs out hc hr
  cases c <;> try (simp [Bv, Req.run] at hr; done)
  rename_i a c
  obtain ⟨v, r, rfl, h1, h2⟩ := hc
  simp only [Bv] at hr
  split at hr <;> try (simp [Req.run] at hr; done)
  ·rename_i f
   obtain ⟨cs0, e, h3⟩ := h1
   have h3 : cs0.toList = [] := h3
   have h4 : cs0 = #[] := by rw [<- Array.toArray_toList (xs := cs0), h3]
   subst h4
   exact ⟨f, c, [], [v], r, rfl, h2, hr, e, fun p hp => by cases hp⟩
  ·rename_i T' x
   split at hr
   ·rename_i h
    exact ⟨_, c, [], [v], r, rfl, h2, hr, Eh h (Ty.AO (An _) h1.2.2), fun p hp => by cases hp⟩
   ·simp [Req.run] at hr
 | ptr t ih =>
  intro c k cs out hc hr
  cases c <;> try (simp [Bv, Req.run] at hr; done)
  rename_i a c
  obtain ⟨v, r, rfl, h1, h2⟩ := hc
  simp only [Bv] at hr
  split at hr <;> try (simp [Req.run] at hr; done)
  ·rename_i t' x
   split at hr
   ·rename_i h
    subst h
    obtain ⟨g, o, cs', e, g1, g2, g3, g4⟩ := h1
    exact ⟨_, c, [], [v], r, rfl, h2, hr, ⟨g, o, e, Ay.2 (.inl g1), g2, cs', g3, Ty.AO (An _) g4⟩, fun p hp => by cases hp⟩
   ·simp [Req.run] at hr
  ·rename_i T' x
   split at hr
   ·rename_i h
    exact ⟨_, c, [], [v], r, rfl, h2, hr, Eh h (Ty.AO (An _) h1.2.2), fun p hp => by cases hp⟩
   ·simp [Req.run] at hr
  ·rename_i id
   simp only [Req.run] at hr
   obtain ⟨g, hφ, e⟩ := h1
   injection e with e
   subst e
   have hch := H.chunk id
   generalize hp id = ch at hr hch
   cases ch <;> simp only at hr <;> try (simp [Req.run] at hr; done)
   rename_i e' cells
   obtain ⟨g', cs', hφ', k1, k2, k3⟩ := hch
   rw [hφ] at hφ'
   injection hφ' with hφ'; injection hφ' with hφ'; injection hφ' with hφ'
   injection hφ' with hφ'
   subst hφ'
   obtain ⟨x, c', u, cs1, cs2, e1, h1', hr1, hrep, hs⟩ := ih cells _ _ out k3 hr
   cases c' <;> try (simp [Req.run] at hr1; done)
   have h0 : cs2 = [] := h1'
   subst h0
   rw [List.append_nil] at e1
   have hS : ∀ i ∈ ids u, i ∈ ids ((id, Chunk.none) :: u) := by intro i hi; simp only [ids, List.map_cons, List.mem_cons]; right; exact hi
   refine ⟨x, c, (id, .none) :: u, [_], r, rfl, h2, hr1, ⟨g, 0, rfl, Ay.2 (.inr ⟨id, by simp [ids], k1⟩), (Array.getElem?_eq_some_iff.1 k2).1, cs1, ?_, Bx hS hrep⟩, ?_⟩
   ·intro j u' hu
    rw [Nat.zero_add, cell_of_row w g j cs' e' (0, 0) k2]
    rw [<- e1] at hu
    simpa using hu
   ·intro p hp
    rcases List.mem_cons.1 hp with rfl | hp
    ·exact .inl rfl
    ·exact A3.mono (Ag hS) hs p hp
 | CE K V _ _ =>
  intro c k cs out hc hr
  cases c <;> try (simp [Bv, Req.run] at hr; done)
  rename_i a c
  obtain ⟨v, r, rfl, h1, h2⟩ := hc
  simp only [Bv] at hr
  cases a <;> try (simp [Req.run] at hr; done)
  case dat T' x =>
   simp only at hr
   split at hr
   ·rename_i h
    exact ⟨_, c, [], [v], r, rfl, h2, hr, Eh h (Ty.AO (An _) h1.2.2), fun p hp => by cases hp⟩
   ·simp [Req.run] at hr
  case BY id =>
   obtain ⟨g, hφ, e⟩ := h1
   injection e with e
   subst e
   simp only [Req.run] at hr
   have hch := H.chunk id
   generalize hp id = ch at hr hch
   cases ch <;> simp only at hr <;> try (simp [Req.run] at hr; done)
   rename_i K' V' l
   split at hr
   ·rename_i hK
    subst hK
    split at hr
    ·rename_i hV
     subst hV
     obtain ⟨g', es, clock, hφ', k1, k2, k3, k4⟩ := hch
     rw [hφ] at hφ'
     injection hφ' with hφ'; injection hφ' with hφ'; injection hφ' with hφ'
     subst hφ'
     refine ⟨l, c, [(id, .none)], [_], r, rfl, h2, hr, ⟨g, es, clock, rfl, Ay.2 (.inr ⟨id, by simp [ids], k1⟩), k2, k3, C2 (An _) k4⟩, ?_⟩
     intro p hp
     simp only [List.mem_singleton] at hp
     subst hp
     exact .inl rfl
    ·simp [Req.run] at hr
   ·simp [Req.run] at hr
 | sl t ih =>
  intro c k cs out hc hr
  cases c <;> try (simp [Bv, Req.run] at hr; done)
  rename_i a c
  obtain ⟨v, r, rfl, h1, h2⟩ := hc
  simp only [Bv] at hr
  cases a <;> try (simp [Req.run] at hr; done)
  case raw u =>
   split at hr
   ·rename_i T' x h; cases h
   ·rename_i h
    injection h with h
    subst h
    injection h1 with h1
    subst h1
    exact ⟨_, c, [], [_], r, rfl, h2, hr, ⟨_, _, rfl, by simp, by simp, by simp [maxLen], .inl rfl⟩, fun p hp => by cases hp⟩
   all_goals first | (rename_i h; cases h; done) | (simp [Req.run] at hr; done)
  case dat T' x =>
   simp only at hr
   split at hr
   ·rename_i h
    exact ⟨_, c, [], [v], r, rfl, h2, hr, Eh h (Ty.AO (An _) h1.2.2), fun p hp => by cases hp⟩
   ·simp [Req.run] at hr
  case arr id =>
   obtain ⟨A, n, cc, hφ, e⟩ := h1
   injection e with e
   subst e
   simp only [Req.run] at hr
   have hch := H.chunk id
   generalize hp id = ch at hr hch
   cases ch <;> simp only at hr <;> try (simp [Req.run] at hr; done)
   case arr e t' l =>
    split at hr
    ·rename_i h
     subst h
     split at hr
     ·obtain ⟨v', hv', hrow⟩ := hch
      rw [hφ] at hv'
      injection hv' with hv'
      subst hv'
      refine ⟨_, c, _, [_], r, rfl, h2, hr, Eg hrow, ?_⟩
      intro p hp
      simp only [List.mem_singleton] at hp
      subst hp
      exact .inr ⟨_, _, rfl, _, hφ, Eg hrow⟩
     ·simp [Req.run] at hr
    ·simp [Req.run] at hr
   case sld t' l =>
    split at hr
    ·rename_i h
     subst h
     obtain ⟨v', hv', hrow⟩ := hch
     rw [hφ] at hv'
     injection hv' with hv'
     subst hv'
     exact ⟨_, c, _, [_], r, rfl, h2, hr, Ty.AO (An _) hrow, fun p hp => by cases hp⟩
    ·simp [Req.run] at hr
   case lit e n' cells =>
    split at hr
    ·obtain ⟨g, cs, hφ', g1, g2, g3, g4⟩ := hch
     rw [hφ] at hφ'
     injection hφ' with hφ'
     obtain ⟨rfl, rfl, rfl⟩ : some (⟨g, 0, none⟩ : Addr) = A /\ n' = n /\ n' = cc := by
      injection hφ' with e1 e2 e3
      exact ⟨e1.symm, e2.symm, e3.symm⟩
     obtain ⟨xs, c2, u2, cs2, r2, e2, h2', hr2, ⟨hl, hrow⟩, s2⟩ := Mu (R := fun o cs x => t.rep o w cs x) (fun S S' cs x h hr => Bx h hr) ih n' cells _ _ out g4 hr
     cases c2 <;> try (simp [Req.run] at hr2; done)
     have hr0 : r2 = [] := h2'
     subst hr0
     rw [List.append_nil] at e2
     have hS : ∀ i ∈ ids u2, i ∈ ids ((id, Chunk.sld t xs) :: u2) := by intro i hi; simp only [ids, List.map_cons, List.mem_cons]; right; exact hi
     have hrep : (Ty.sl t).rep (AM (ids ((id, Chunk.sld t xs) :: u2)) ow) w [.slice (some ⟨g, 0, none⟩) n' n'] xs := by
      refine ⟨_, n', by rw [hl], by omega, by omega, ?_, ?_⟩
      ·have : lim <= maxLen := by simp [lim, maxLen]
       omega
      ·right
       refine ⟨g, 0, cs2, rfl, Ay.2 (.inr ⟨id, by simp [ids], g1⟩), (Array.getElem?_eq_some_iff.1 g2).1, ?_, Ki hS hrow⟩
       intro j u hu
       rw [Nat.zero_add, cell_of_row w g j cs e (0, 0) g2]
       rw [<- e2] at hu
       simpa using hu
     refine ⟨xs, c, _, [_], r, rfl, h2, hr2, hrep, ?_⟩
     intro p hp
     rcases List.mem_cons.1 hp with rfl | hp
     ·exact .inr ⟨_, _, rfl, _, hφ, hrep⟩
     ·exact A3.mono (Ag hS) s2 p hp
    ·simp [Req.run] at hr
  case vw id sz lo hi =>
   obtain ⟨A, n, cc, X, hφ, q1, q2, q3, q4, q5, e⟩ := h1
   injection e with e
   subst e
   simp only [Req.run] at hr
   have hch := H.chunk id
   generalize hp id = ch at hr hch
   cases ch <;> simp only at hr <;> try (simp [Req.run] at hr; done)
   case arr e t' l =>
    split at hr
    ·rename_i h
     subst h
     split at hr
     ·rename_i hz
      obtain ⟨v', hv', hrow⟩ := hch
      rw [hφ] at hv'
      injection hv' with hv'
      subst hv'
      refine ⟨_, c, _, [_], r, rfl, h2, hr, Hl (Eg hrow) (by omega) (by omega) hz.1 (q5.imp (fun h => by rw [h.1]) (fun h => h)), ?_⟩
      intro p hp
      simp only [List.mem_singleton] at hp
      subst hp
      exact .inr ⟨_, _, rfl, _, hφ, Eg hrow⟩
     ·simp [Req.run] at hr
    ·simp [Req.run] at hr
   case sld t' l =>
    split at hr
    ·rename_i h
     subst h
     split at hr
     ·rename_i hz
      obtain ⟨v', hv', hrow⟩ := hch
      rw [hφ] at hv'
      injection hv' with hv'
      subst hv'
      exact ⟨_, c, _, [_], r, rfl, h2, hr, Ty.AO (An _) (Hl hrow (by omega) (by omega) hz (q5.imp (fun h => by rw [h.1]) (fun h => h))), fun p hp => by cases hp⟩
     ·simp [Req.run] at hr
    ·simp [Req.run] at hr
end
end AL
end
section
set_option linter.unusedVariables false
set_option linter.unusedSimpArgs false
namespace AL
open Go
section
variable {φ : Hnd} {ow : Own} {w : World} {P : Program} {hp : Nat -> Chunk} {nx : Nat}
theorem DD : ∀ (T : Ty) (x : T.den), (DN T x).Bb = true /\ (DN T x).len = T.size
 | .unit, _ => ⟨rfl, rfl⟩
 | .int _, _ | .bool, _ | .str, _ | .fnT, _ | .sl _, _ | .ptr _, _ | .CE _ _, _ => ⟨rfl, rfl⟩
 | .pair a b, x => by
  have ha := DD a x.1
  have hb := DD b x.2
  have h : ∀ {l m : AV}, l.Bb = true -> m.Bb = true -> (l.app m).Bb = true /\ (l.app m).len = l.len + m.len := by
   intro l
   induction l with
   | cons p q _ ih =>
    intro m h1 h2
    have := ih (m := m) (by simpa [AV.Bb] using h1) h2
    exact ⟨by simpa [AV.app, AV.Bb] using this.1, by simp only [AV.app, AV.len]; omega⟩
   | nil => intro m _ h2; exact ⟨h2, by simp [AV.app, AV.len]⟩
   | _ => intro m h1; simp [AV.Bb] at h1
  have := h ha.1 hb.1
  exact ⟨this.1, by show ((DN a x.1).app (DN b x.2)).len = _; rw [this.2, ha.2, hb.2]; rfl⟩
theorem CM : ∀ {T : Ty} {cs : List Value} {x : T.den}, T.rep ow w cs x -> (DN T x).holds φ ow w cs
 | .unit, _, _, h => h
 | .int k, _, x, h => ⟨.int k x, [], h.1, ⟨rfl, rfl, rfl, h.2⟩, rfl⟩
 | .bool, _, x, h => ⟨.bool x, [], h, ⟨rfl, rfl, rfl⟩, rfl⟩
 | .str, _, x, h => ⟨.string x, [], h.1, ⟨rfl, rfl, rfl, h.2⟩, rfl⟩
 | .fnT, _, x, h => ⟨.func (.func x) #[] #[], [], h, ⟨rfl, rfl, rfl⟩, rfl⟩
 | .sl t, _, x, ⟨A, c, e, h⟩ => by subst e; exact ⟨_, [], rfl, ⟨rfl, rfl, A, c, rfl, h⟩, rfl⟩
 | .ptr t, _, x, ⟨g, o, e, h1, h2, cs', h3, h4⟩ => by subst e; exact ⟨_, [], rfl, ⟨g, o, cs', rfl, h1, h2, h3, h4⟩, rfl⟩
 | .CE K V, _, x, ⟨g, es, clock, e, h⟩ => by subst e; exact ⟨_, [], rfl, ⟨rfl, rfl, g, es, clock, rfl, h⟩, rfl⟩
 | .pair a b, _, x, ⟨c1, c2, e, h1, h2⟩ => by
  subst e
  exact FW (DD a x.1).1 (CM h1) (CM h2)
theorem Cd {g o : Nat} {cs : List Value} (h : Bp w g o cs) (k : Nat) : Bp w g (o + k) (cs.drop k) := by
 intro j v hv
 rw [List.getElem?_drop] at hv
 rw [Nat.add_assoc]
 exact h _ _ hv
theorem Ei {g o : Nat} {cs : List Value} (h : Bp w g o cs) (k : Nat) : Bp w g o (cs.take k) := by
 intro j v hv
 rw [List.getElem?_take] at hv
 split at hv
 ·exact h _ _ hv
 ·cases hv
theorem FD {g : Nat} {cs : Array Value} {e : TypeId} {fr : Nat × Nat} (h : w.heap[g]? = some (.cells cs e fr)) : Bp w g 0 cs.toList := by
 intro k v hv
 rw [Nat.zero_add, cell_of_row w g k cs e fr h]
 simpa using hv
theorem NS {T : Ty} {l : List T.den} {i : Int} (h0 : 0 <= i) (h : i.toNat < l.length) : get T l i = l[i.toNat] := by
 simp [get, List.getD_eq_getElem?_getD, h]
theorem Ue {id g n c : Nat} {e : TypeId} {T : Ty} {l : List T.den} (h : EJ ow w id (.slice (some ⟨g, 0, none⟩) n c) e T l) {j : Nat} (hj : j < n) :
  n = l.length /\ ∃ (hl : j < l.length) (cs : List Value), Bp w g (j * T.size) cs /\ T.rep ow w cs l[j] := by
 obtain ⟨xs, h1, h2, h3, h4⟩ := h
 rcases h1.2 with ⟨h, _⟩ | ⟨g', cap, cur, he, hb0, hg, hle, hm, hs, ht⟩
 ·cases h
 ·injection he with e1 e2 e3
  injection e1 with e1
  injection e1 with e1
  subst e1
  subst e2
  refine ⟨rfl, hj, _, ?_, Rows.get (fun cs x hr => Ty.A6 hr) h4 hj⟩
  have hx : Bp w g 0 xs := by
   intro k v hv
   rw [Nat.zero_add, cell_of_row w g k cur e (0, 0) hg]
   have := take_getElem? ht hv
   simpa using this
  have := Ei (Cd hx (j * T.size)) T.size
  simpa using this
theorem NT {A : Option Addr} {n c : Nat} {T : Ty} {l : List T.den} (h : (Ty.sl T).rep ow w [.slice A n c] l) {j : Nat} (hj : j < n) :
  n = l.length /\ ∃ (hl : j < l.length) (g o : Nat) (cs : List Value), A = some ⟨g, o, none⟩ /\ ow g = Option.none /\ g < w.heap.size /\ Bp w g (o + j * T.size) cs /\ T.rep ow w cs l[j] := by
 obtain ⟨A', c', e, h1, h2, h3, h4⟩ := h
 injection e with e _
 injection e with e1 e2 e3
 subst e1; subst e2; subst e3
 refine ⟨rfl, hj, ?_⟩
 rcases h4 with h4 | ⟨g, o, xs, rfl, g1, g2, g3, g4⟩
 ·subst h4; simp at hj
 ·exact ⟨g, o, _, rfl, g1, g2, Ei (Cd g3 _) T.size, Rows.get (fun cs x hr => Ty.A6 hr) g4 hj⟩
theorem Hm {t : TypeId} {d : TypeDesc} (h : P.underlying t = some d) : (isAgg t).run P w = .ok (Di d) w := by
 unfold isAgg
 rw [Sem.run_bind, run_underlying h w]
 cases d <;> rfl
theorem run_sizeOf {t : TypeId} {i : TypeInfo} (h : P.info? t = some i) : (Go.sizeOf t).run P w = .ok i.size w := by
 simp [Go.sizeOf, typeInfo, h]
theorem add_lit (g o k : Nat) : (⟨g, o, none⟩ : Addr).add k = ⟨g, o + k, none⟩ := by unfold Addr.add; split <;> simp_all
theorem Kj {t : TypeId} {d : TypeDesc} {i : TypeInfo} (hu : P.underlying t = some d) (hi : P.info? t = some i) {g o : Nat} {cells : AV} {cs : List Value}
  (hc : cells.holds φ ow w cs) (hrd : Bp w g o cs) {out : Out} (hr : (C3 (Di d) i.size cells).run hp = some out) :
  out.Bu = [] /\ out.upd = [] /\ ∃ u, (loadVar t ⟨g, o, none⟩).run P w = .ok u w /\ out.res.holds φ ow w [u] := by
 unfold C3 Hg at hr
 by_cases ha : Di d = true
 ·rw [if_pos ha] at hr
  by_cases hn : i.size <= cells.len
  ·rw [if_pos hn] at hr
   simp only [Req.ret, Req.run, Option.some.injEq] at hr
   subst hr
   refine ⟨rfl, rfl, .agg (cs.take i.size).toArray, ?_, _, rfl, ?_⟩
   ·have hlen := Kh hc
    have hl : (cs.take i.size).length = i.size := by rw [List.length_take]; omega
    have := run_loadCells_list (P := P) w ⟨g, o, none⟩ (cs.take i.size) (fun j v hv => by rw [add_lit]; exact Ei hrd _ j v hv)
    rw [hl] at this
    simp [loadVar, Hm hu, ha, run_sizeOf hi, this]
   ·simpa using Ic i.size hn hc
  ·rw [if_neg hn] at hr
   simp [Req.run] at hr
 ·rw [if_neg ha] at hr
  cases cells <;> try (simp [Req.run] at hr; done)
  rename_i c r
  simp only at hr
  split at hr
  ·rename_i v hv
   split at hv
   ·injection hv with hv
    subst hv
    simp only [Req.ret, Req.run, Option.some.injEq] at hr
    subst hr
    obtain ⟨v, rs, rfl, h1, h2⟩ := hc
    have hcell := hrd 0 v rfl
    refine ⟨rfl, rfl, v, ?_, AV.E9 h1⟩
    simp only [Nat.add_zero] at hcell
    simp [loadVar, Hm hu, ha, hcell]
   ·cases hv
  ·simp [Req.run] at hr
theorem Ro (H : Hyp hp nx φ ow w) {t : TypeId} {a : AV} {v : Value} {out : Out} (hr : (FA P t a).run hp = some out) (ha : a.holds φ ow w [v]) :
  out.Bu = [] /\ out.upd = [] /\ ∃ u, (Instr.loadAt t v).run P w = .ok u w /\ out.res.holds φ ow w [u] := by
 unfold FA at hr
 cases hu : P.underlying t with
 | none => rw [hu] at hr; simp [Req.run] at hr
 | some d =>
  cases hi : P.info? t with
  | none => rw [hu, hi] at hr; simp [Req.run] at hr
  | some i =>
   rw [hu, hi] at hr
   cases a <;> try (simp [Req.run] at hr; done)
   case ref id off =>
    obtain ⟨g, hφ, e⟩ := ha
    injection e with e
    subst e
    simp only [Req.run] at hr
    have hch := H.chunk id
    generalize hp id = ch at hr hch
    cases ch <;> try (simp [Req.run] at hr; done)
    case box e cells =>
     obtain ⟨g', cs, hφ', h1, h2, h3⟩ := hch
     rw [hφ] at hφ'
     injection hφ' with hφ'; injection hφ' with hφ'; injection hφ' with hφ'; injection hφ' with hφ'
     subst hφ'
     simp only at hr
     split at hr
     ·rename_i ho
      have hrd := Cd (FD h2) off
      rw [Nat.zero_add] at hrd
      have := Kj hu hi (Dl off ho h3) hrd hr
      simpa [Instr.loadAt, Instr.sureAddr] using this
     ·simp [Req.run] at hr
   case elt id sz ix off =>
    obtain ⟨g, n, c, hφ, h0, hlt, e⟩ := ha
    injection e with e
    subst e
    simp only [Req.run] at hr
    have hch := H.chunk id
    generalize hp id = ch at hr hch
    cases ch <;> try (simp [Req.run] at hr; done)
    case arr e T l =>
     obtain ⟨v', hv', hrow⟩ := hch
     rw [hφ] at hv'
     injection hv' with hv'
     subst hv'
     simp only at hr
     split at hr
     ·rename_i hz
      obtain ⟨hn, hl, cs, r1, r2⟩ := Ue hrow (j := ix.toNat) (by omega)
      rw [NS h0 hl] at hr
      have hle : off <= (DN T l[ix.toNat]).len := by rw [(DD T _).2]; omega
      have := Kj hu hi (Dl off hle (CM (φ := φ) r2)) (Cd r1 off) hr
      rw [hz.1] at this
      simpa [Instr.loadAt, Instr.sureAddr] using this
     ·simp [Req.run] at hr
    case sld T l =>
     obtain ⟨v', hv', hrow⟩ := hch
     rw [hφ] at hv'
     injection hv' with hv'
     subst hv'
     simp only at hr
     split at hr
     ·rename_i hz
      obtain ⟨hn, hl, g', o, cs, he, _, _, r1, r2⟩ := NT hrow (j := ix.toNat) (by omega)
      injection he with he
      injection he with he1 he2
      subst he1; subst he2
      rw [NS h0 hl] at hr
      have hle : off <= (DN T l[ix.toNat]).len := by rw [(DD T _).2]; omega
      have := Kj hu hi (Dl off hle (CM (φ := φ) r2)) (Cd r1 off) hr
      rw [hz.1, Nat.zero_add] at this
      simpa [Instr.loadAt, Instr.sureAddr] using this
     ·simp [Req.run] at hr
    case lit e m cells =>
     obtain ⟨g', cs, hφ', h1, h2, h3, h4⟩ := hch
     rw [hφ] at hφ'
     injection hφ' with hφ'; injection hφ' with hφ1 _ _; injection hφ1 with hφ1; injection hφ1 with hφ1
     subst hφ1
     simp only at hr
     split at hr
     ·rename_i ho
      have hrd := Cd (FD h2) (ix.toNat * sz + off)
      rw [Nat.zero_add] at hrd
      have := Kj hu hi (Dl _ ho h4) hrd hr
      simpa [Instr.loadAt, Instr.sureAddr] using this
     ·simp [Req.run] at hr
   case spt T x =>
    obtain ⟨g, o, cs, e, h1, h2, h3, h4⟩ := ha
    injection e with e
    subst e
    have := Kj hu hi (CM (φ := φ) h4) h3 hr
    simpa [Instr.loadAt, Instr.sureAddr] using this
end
end AL
end
section
set_option linter.unusedVariables false
set_option linter.unusedSimpArgs false
namespace AL
open Go
section
variable {φ : Hnd} {ow : Own} {w : World} {P : Program} {hp : Nat -> Chunk} {nx : Nat}
theorem IF : ∀ (k : Nat) {T : Ty} {x : T.den} {g o : Nat} {cs : List Value}, ow g = Option.none -> g < w.heap.size -> Bp w g o cs -> T.rep ow w cs x ->
  (Hf k T x).holds φ ow w [.pointer (some ⟨g, o + k, none⟩)] := by
 intro k T
 induction T generalizing k with
 | pair a b _ ihb =>
  intro x g o cs h1 h2 h3 h4
  cases k with
  | zero => exact ⟨g, o, cs, rfl, h1, h2, h3, h4⟩
  | succ k =>
   simp only [Hf]
   split
   ·rename_i hle
    obtain ⟨c1, c2, rfl, r1, r2⟩ := h4
    have hl := Ty.A6 r1
    have hd := Cd h3 a.size
    rw [<- hl, List.drop_left, hl] at hd
    have := ihb (k + 1 - a.size) h1 h2 hd r2
    rwa [show o + a.size + (k + 1 - a.size) = o + (k + 1) from by omega] at this
   ·rfl
 | _ =>
  intro x g o cs h1 h2 h3 h4
  cases k with
  | zero => exact ⟨g, o, cs, rfl, h1, h2, h3, h4⟩
  | succ k => simp only [Hf]; rfl
theorem AC9 {s : TypeId} {a : AV} {f : Nat} {v : Value} {out : Out} (hr : (NH P s a f).run hp = some out) (ha : a.holds φ ow w [v]) :
  out.Bu = [] /\ out.upd = [] /\ ∃ u, (Instr.fieldAt s v f).run P w = .ok u w /\ out.res.holds φ ow w [u] := by
 unfold NH at hr
 split at hr <;> try (simp [Req.run] at hr; done)
 rename_i fs hu
 split at hr <;> try (simp [Req.run] at hr; done)
 rename_i fd hf
 split at hr <;> try (simp [Req.run] at hr; done)
 rename_i i hi
 split at hr
 ·simp [Req.run] at hr
 rename_i hz
 have key : ∀ g o, (Instr.fieldAt s (.pointer (some ⟨g, o, none⟩)) f).run P w = .ok (.pointer (some ⟨g, o + fd.offset, none⟩)) w := by
  intro g o
  simp [Instr.fieldAt, run_underlying hu, hf, Instr.sureAddr, fieldPlace, run_sizeOf hi, hz, add_lit]
 split at hr
 ·simp only [Req.ret, Req.run, Option.some.injEq] at hr
  subst hr
  obtain ⟨g, hφ, e⟩ := ha
  injection e with e
  subst e
  exact ⟨rfl, rfl, _, key _ _, g, hφ, rfl⟩
 ·simp only [Req.ret, Req.run, Option.some.injEq] at hr
  subst hr
  obtain ⟨g, n, c, hφ, h0, hlt, e⟩ := ha
  injection e with e
  subst e
  exact ⟨rfl, rfl, _, key _ _, g, n, c, hφ, h0, hlt, by rw [Nat.add_assoc]⟩
 ·simp only [Req.ret, Req.run, Option.some.injEq] at hr
  subst hr
  obtain ⟨g, o, cs, e, h1, h2, h3, h4⟩ := ha
  injection e with e
  subst e
  exact ⟨rfl, rfl, _, key _ _, IF _ h1 h2 h3 h4⟩
 ·simp [Req.run] at hr
theorem DE {t e : TypeId} {i : TypeInfo} (hu : P.underlying t = some (.slice e)) (hi : P.info? e = some i) {k : IntKind} {n : Int} {g o len cap : Nat} (h0 : 0 <= n) (h1 : n < len) :
  (Instr.indexAt t (.slice (some ⟨g, o, none⟩) len cap) (.int k n)).run P w = .ok (.pointer (some ⟨g, o + n.toNat * i.size, none⟩)) w := by
 simp [Instr.indexAt, asIntOf, run_underlying hu, h0, h1, run_sizeOf hi, add_lit]
theorem EE {t e : TypeId} {m : Nat} {i : TypeInfo} (hu : P.underlying t = some (.array m e)) (hi : P.info? e = some i) {k : IntKind} {n : Int} {g o : Nat} (h0 : 0 <= n) (h1 : n < m) :
  (Instr.indexAt t (.pointer (some ⟨g, o, none⟩)) (.int k n)).run P w = .ok (.pointer (some ⟨g, o + n.toNat * i.size, none⟩)) w := by
 simp [Instr.indexAt, asIntOf, run_underlying hu, h0, h1, run_sizeOf hi, add_lit, Instr.sureAddr]
theorem Ak {k : IntKind} {n : Int} {v : Value} (h : AV.holds φ ow w (.dat (.int k) n) [v]) : v = .int k n /\ k.has n := by
 obtain ⟨_, _, e, h⟩ := h
 injection e with e
 exact ⟨e, h⟩
theorem Uf (H : Hyp hp nx φ ow w) {t : TypeId} {a ix : AV} {v vi : Value} {out : Out} (hr : (Jb P t a ix).run hp = some out) (ha : a.holds φ ow w [v]) (hx : ix.holds φ ow w [vi]) (hobl : ∀ p ∈ out.Bu, p) :
  out.upd = [] /\ ∃ u, (Instr.indexAt t v vi).run P w = .ok u w /\ out.res.holds φ ow w [u] := by
 unfold Jb at hr
 split at hr <;> try (simp [Req.run] at hr; done)
 ·rename_i e hu
  split at hr <;> try (simp [Req.run] at hr; done)
  rename_i i k n hi
  obtain ⟨rfl, hk⟩ := Ak hx
  change Int at n
  split at hr <;> try (simp [Req.run] at hr; done)
  ·rename_i T l
   split at hr
   ·rename_i hz
    simp only [Req.run, Option.some.injEq] at hr
    subst hr
    simp only [List.mem_cons, List.not_mem_nil, or_false, forall_eq_or_imp, forall_eq] at hobl
    have o1 : @LE.le Int _ 0 n := hobl.1
    have o2 := hobl.2
    change @LT.lt Int _ n _ at o2
    obtain ⟨_, _, hrep⟩ := ha
    obtain ⟨A, c, e', _⟩ := (show _ from hrep)
    injection e' with e' _
    subst e'
    obtain ⟨_, hl, g, o, cs, rfl, g1, g2, g3, g4⟩ := NT hrep (j := n.toNat) ((Int.toNat_lt hobl.1).2 hobl.2)
    refine ⟨rfl, _, DE hu hi hobl.1 hobl.2, g, _, cs, rfl, g1, g2, ?_, ?_⟩
    ·rw [<- hz.1]; exact g3
    ·rw [NS hobl.1 hl]; exact g4
   ·simp [Req.run] at hr
  ·rename_i id
   obtain ⟨A, n', c, hφ, e'⟩ := ha
   injection e' with e'
   subst e'
   simp only [Req.run] at hr
   have hch := H.chunk id
   generalize hp id = ch at hr hch
   cases ch <;> try (simp [Req.run] at hr; done)
   case arr e2 T l =>
    simp only at hr
    split at hr
    ·rename_i hz
     simp only [Req.run, Option.some.injEq] at hr
     subst hr
     simp only [List.mem_cons, List.not_mem_nil, or_false, forall_eq_or_imp, forall_eq] at hobl
     have o1 : @LE.le Int _ 0 n := hobl.1
     have o2 := hobl.2
     change @LT.lt Int _ n _ at o2
     obtain ⟨v', hv', hrow⟩ := hch
     rw [hφ] at hv'
     injection hv' with hv'
     subst hv'
     obtain ⟨xs, h1, h2, h3, h4⟩ := (show _ from hrow)
     rcases h1.2 with ⟨h, hn⟩ | ⟨g', cap, cur, he, _⟩
     ·omega
     ·injection he with e1 e2 e3
      subst e1; subst e2; subst e3
      exact ⟨rfl, _, DE hu hi hobl.1 hobl.2, g', _, _, hφ, hobl.1, hobl.2, by simp⟩
    ·simp [Req.run] at hr
   case sld T l =>
    simp only at hr
    split at hr
    ·rename_i hz
     simp only [Req.run, Option.some.injEq] at hr
     subst hr
     simp only [List.mem_cons, List.not_mem_nil, or_false, forall_eq_or_imp, forall_eq] at hobl
     have o1 : @LE.le Int _ 0 n := hobl.1
     have o2 := hobl.2
     change @LT.lt Int _ n _ at o2
     obtain ⟨v', hv', hrep⟩ := hch
     rw [hφ] at hv'
     injection hv' with hv'
     subst hv'
     obtain ⟨A', c', e', _⟩ := (show _ from hrep)
     injection e' with e' _
     injection e' with e1 e2 e3
     subst e1; subst e2; subst e3
     obtain ⟨_, hl, g, o, cs, rfl, g1, g2, g3, g4⟩ := NT hrep (j := n.toNat) ((Int.toNat_lt hobl.1).2 hobl.2)
     refine ⟨rfl, _, DE hu hi hobl.1 hobl.2, g, _, cs, rfl, g1, g2, ?_, ?_⟩
     ·rw [<- hz.1]; exact g3
     ·rw [NS hobl.1 hl]; exact g4
    ·simp [Req.run] at hr
   case lit e2 m cells =>
    simp only [Req.run, Option.some.injEq] at hr
    subst hr
    simp only [List.mem_cons, List.not_mem_nil, or_false, forall_eq_or_imp, forall_eq] at hobl
    have o1 : @LE.le Int _ 0 n := hobl.1
    have o2 := hobl.2
    change @LT.lt Int _ n _ at o2
    obtain ⟨g', cs, hφ', h1, h2, h3, h4⟩ := hch
    rw [hφ] at hφ'
    injection hφ' with hφ'
    injection hφ' with e1 e2 e3
    subst e1; subst e2; subst e3
    exact ⟨rfl, _, DE hu hi hobl.1 hobl.2, g', _, _, hφ, hobl.1, hobl.2, by simp⟩
  ·rename_i id sz lo hi'
   obtain ⟨A, n', c, X, hφ, q1, q2, q3, q4, q5, e'⟩ := ha
   injection e' with e'
   subst e'
   simp only [Req.run] at hr
   have hch := H.chunk id
   generalize hp id = ch at hr hch
   cases ch <;> try (simp [Req.run] at hr; done)
   case arr e2 T l =>
    simp only at hr
    split at hr
    ·rename_i hz
     simp only [Req.run, Option.some.injEq] at hr
     subst hr
     simp only [List.mem_cons, List.not_mem_nil, or_false, forall_eq_or_imp, forall_eq] at hobl
     have o1 : @LE.le Int _ 0 n := hobl.1
     have o2 := hobl.2
     change @LT.lt Int _ n _ at o2
     obtain ⟨v', hv', hrow⟩ := hch
     rw [hφ] at hv'
     injection hv' with hv'
     subst hv'
     obtain ⟨xs, h1, h2, h3, h4⟩ := (show _ from hrow)
     rcases h1.2 with ⟨h, hn⟩ | ⟨g', cap, cur, he, _⟩
     ·injection h with _ h _
      omega
     ·injection he with e1 e2 e3
      subst e1; subst e2; subst e3
      refine ⟨rfl, ?_⟩
      obtain rfl := q5.resolve_left (by omega)
      simp only [Option.map_some, add_lit, Nat.zero_add]
      refine ⟨_, DE hu hi hobl.1 (by omega), g', _, _, hφ, by omega, by omega, ?_⟩
      rw [hz.2, <- Nat.add_mul]
      congr 5
      omega
    ·simp [Req.run] at hr
 ·rename_i m e hu
  split at hr <;> try (simp [Req.run] at hr; done)
  rename_i i k n hi
  obtain ⟨rfl, hk⟩ := Ak hx
  change Int at n
  split at hr <;> try (simp [Req.run] at hr; done)
  ·simp only [Req.run, Option.some.injEq] at hr
   subst hr
   simp only [List.mem_cons, List.not_mem_nil, or_false, forall_eq_or_imp, forall_eq] at hobl
   have o1 : @LE.le Int _ 0 n := hobl.1
   have o2 := hobl.2
   change @LT.lt Int _ n _ at o2
   obtain ⟨g, hφ, e'⟩ := ha
   injection e' with e'
   subst e'
   exact ⟨rfl, _, EE hu hi hobl.1 hobl.2, g, hφ, rfl⟩
  ·simp only [Req.run, Option.some.injEq] at hr
   subst hr
   simp only [List.mem_cons, List.not_mem_nil, or_false, forall_eq_or_imp, forall_eq] at hobl
   have o1 : @LE.le Int _ 0 n := hobl.1
   have o2 := hobl.2
   change @LT.lt Int _ n _ at o2
   obtain ⟨g, n', c, hφ, h0, hlt, e'⟩ := ha
   injection e' with e'
   subst e'
   exact ⟨rfl, _, EE hu hi hobl.1 hobl.2, g, n', c, hφ, h0, hlt, by rw [Nat.add_assoc]⟩
  ·simp only [Req.run, Option.some.injEq] at hr
   subst hr
   simp only [List.mem_cons, List.not_mem_nil, or_false, forall_eq_or_imp, forall_eq] at hobl
   have o1 : @LE.le Int _ 0 n := hobl.1
   have o2 := hobl.2
   change @LT.lt Int _ n _ at o2
   obtain ⟨g, o, cs, e', h1, h2, h3, h4⟩ := ha
   injection e' with e'
   subst e'
   exact ⟨rfl, _, EE hu hi hobl.1 hobl.2, IF _ h1 h2 h3 h4⟩
theorem FN {n : Nat} (h : n <= lim) : IntKind.i64.has (n : Int) := by
 unfold lim at h
 constructor
 ·have : IntKind.i64.min = -9223372036854775808 := by decide
  omega
 ·have : IntKind.i64.max = 9223372036854775807 := by decide
  omega
theorem B3 {k : IntKind} {n : Int} (h : k.has n) : AV.holds φ ow w (.dat (.int k) n) [.int k n] := ⟨rfl, rfl, rfl, h⟩
theorem CN (b : Bool) : AV.holds φ ow w (.dat .bool b) [.bool b] := ⟨rfl, rfl, rfl⟩
theorem ADA (H : Hyp hp nx φ ow w) {t ty : TypeId} {a : AV} {v : Value} {out : Out} (hr : (Rf P t a).run hp = some out) (ha : a.holds φ ow w [v]) (hobl : ∀ p ∈ out.Bu, p) :
  out.upd = [] /\ ∃ u, (Builtin.len_ #[t] ty #[v]).run P w = .ok u w /\ out.res.holds φ ow w [u] := by
 unfold Rf at hr
 split at hr <;> try (simp [Req.run] at hr; done)
 ·rename_i e T l hu
  simp only [Req.ret, Req.run, Option.some.injEq] at hr
  subst hr
  obtain ⟨_, _, A, c, e', h1, h2, _⟩ := ha
  injection e' with e' _
  subst e'
  exact ⟨rfl, .int .i64 l.length, by simp [Builtin.len_, run_underlying hu, goInt], B3 (FN h2)⟩
 ·rename_i e hu
  simp only [Req.ret, Req.run, Option.some.injEq] at hr
  subst hr
  injection ha with ha
  subst ha
  exact ⟨rfl, .int .i64 0, by simp [Builtin.len_, run_underlying hu, goInt], B3 (FN (n := 0) (by decide))⟩
 ·rename_i e id hu
  obtain ⟨A, n', c, hφ, e'⟩ := ha
  injection e' with e'
  subst e'
  simp only [Req.run] at hr
  have hch := H.chunk id
  generalize hp id = ch at hr hch
  cases ch <;> try (simp [Req.run] at hr; done)
  case arr e2 T l =>
   simp only [Req.ret, Req.run, Option.some.injEq] at hr
   subst hr
   obtain ⟨v', hv', hrow⟩ := hch
   rw [hφ] at hv'
   injection hv' with hv'
   subst hv'
   obtain ⟨xs, h1, h2, h3, h4⟩ := (show _ from hrow)
   have hn : n' = l.length := by
    rcases h1.2 with ⟨h, hn⟩ | ⟨g', cap, cur, he, _⟩
    ·injection h with _ h _; omega
    ·injection he
   subst hn
   exact ⟨rfl, .int .i64 l.length, by simp [Builtin.len_, run_underlying hu, goInt], B3 (FN h3)⟩
  case lit e2 m cells =>
   simp only [Req.ret, Req.run, Option.some.injEq] at hr
   subst hr
   obtain ⟨g, cs, hv', h1, h2, h3, h4⟩ := hch
   rw [hφ] at hv'
   injection hv' with hv'
   injection hv' with _ hv' _
   subst hv'
   exact ⟨rfl, .int .i64 n', by simp [Builtin.len_, run_underlying hu, goInt], B3 (FN h3)⟩
  case sld T l =>
   simp only [Req.ret, Req.run, Option.some.injEq] at hr
   subst hr
   obtain ⟨v', hv', A', c', e', h1, h2, _⟩ := hch
   rw [hφ] at hv'
   injection hv' with hv'
   subst hv'
   injection e' with e' _
   injection e' with _ e' _
   subst e'
   exact ⟨rfl, .int .i64 l.length, by simp [Builtin.len_, run_underlying hu, goInt], B3 (FN h2)⟩
 ·rename_i e id sz lo hi hu
  simp only [Req.run, Option.some.injEq] at hr
  subst hr
  simp only [List.mem_cons, List.not_mem_nil, or_false, forall_eq] at hobl
  obtain ⟨A, n', c, X, hφ, q1, q2, q3, q4, q5, e'⟩ := ha
  injection e' with e'
  subst e'
  refine ⟨rfl, .int .i64 ((hi.toNat - lo.toNat : Nat) : Int), by simp [Builtin.len_, run_underlying hu, goInt], ?_⟩
  have : ((hi.toNat - lo.toNat : Nat) : Int) = hi - lo := by omega
  rw [this]
  refine B3 ?_
  rw [<- this]
  exact FN (by omega)
 ·rename_i s hu
  simp only [Req.ret, Req.run, Option.some.injEq] at hr
  subst hr
  obtain ⟨_, _, e', h⟩ := ha
  injection e' with e'
  subst e'
  exact ⟨rfl, .int .i64 s.size, by simp [Builtin.len_, run_underlying hu, goInt], B3 (FN h)⟩
end
end AL
end
section
set_option linter.unusedVariables false
set_option linter.unusedSimpArgs false
namespace AL
open Go
section
variable {φ : Hnd} {ow : Own} {w : World} {P : Program} {hp : Nat -> Chunk} {nx : Nat}
theorem Zq {k : IntKind} {a : Int} {y : Nat} {code : BoundsCode} (h0 : 0 <= a) (h1 : a <= y) : (Instr.sliceBound (.int k a) y code).run P w = .ok a.toNat w := by
 simp [Instr.sliceBound, asIntOf, h0, h1]
theorem Je {t e : TypeId} {i : TypeInfo} (hu : P.underlying t = some (.slice e)) (hi : P.info? e = some i) {A : Option Addr} {n c : Nat} {lo hi' : Option Value} {a b : Int}
  (hlo : (lo = Option.none /\ a = 0) \/ ∃ k, lo = some (.int k a)) (hhi : (hi' = Option.none /\ b = n) \/ ∃ k, hi' = some (.int k b)) (h0 : 0 <= a) (hab : a <= b) (hb : b <= n) (hc : n <= c) :
  ∃ X, (Instr.sliceAt t (.slice A n c) lo hi' Option.none).run P w = .ok (.slice X (b.toNat - a.toNat) (c - a.toNat)) w /\ ((a = b /\ 0 < a) \/ X = A.map (·.add (a.toNat * i.size))) := by
 have e1 : (match hi' with | some v => Instr.sliceBound v c .sliceAcap | Option.none => pure n).run P w = .ok b.toNat w := by
  rcases hhi with ⟨rfl, rfl⟩ | ⟨k, rfl⟩
  ·simp
  ·exact Zq (by omega) (by omega)
 have e2 : (match lo with | some v => Instr.sliceBound v b.toNat .sliceB | Option.none => pure 0).run P w = .ok a.toNat w := by
  rcases hlo with ⟨rfl, rfl⟩ | ⟨k, rfl⟩
  ·simp
  ·exact Zq (by omega) (by omega)
 have e3 : (Instr.sliceBounds true n c lo hi' Option.none).run P w = .ok (a.toNat, b.toNat, c) w := by
  rcases hhi with ⟨rfl, rfl⟩ | ⟨k, rfl⟩ <;> rcases hlo with ⟨rfl, rfl⟩ | ⟨k', rfl⟩ <;> simp_all [Instr.sliceBounds]
 refine ⟨if c = a.toNat then A else A.map (·.add (a.toNat * i.size)), by simp [Instr.sliceAt, Instr.slice, run_underlying hu, e3, run_sizeOf hi], ?_⟩
 by_cases h : c = a.toNat
 ·by_cases ha : 0 < a
  ·left; omega
  ·right
   have : a = 0 := by omega
   subst this
   rw [if_pos h]
   cases A <;> simp [Addr.add]
 ·right; rw [if_neg h]
def W7 (φ : Hnd) (ow : Own) (w : World) : Option AV -> Option Value -> Prop
 | Option.none, Option.none => True
 | some a, some v => a.holds φ ow w [v]
 | _, _ => False
def Ge (o : Option AV) (d : Int) : Option Int := match o with
 | Option.none => some d
 | some (.dat (.int _) n) => some n
 | _ => Option.none
theorem FO {o : Option AV} {v : Option Value} {d a : Int} (h : W7 φ ow w o v) (hb : Ge o d = some a) : (v = Option.none /\ a = d) \/ ∃ k, v = some (.int k a) := by
 cases o with
 | none =>
  cases v with
  | none => simp [Ge] at hb; exact .inl ⟨rfl, hb.symm⟩
  | some u => exact h.elim
 | some x =>
  cases v with
  | none => exact h.elim
  | some u =>
   unfold Ge at hb
   split at hb
   ·rename_i hh; cases hh
   ·rename_i k n hh
    injection hh with hh
    subst hh
    injection hb with hb
    subst hb
    exact .inr ⟨k, by rw [(Ak (φ := φ) (ow := ow) (w := w) h).1]⟩
   ·cases hb
theorem ADB (H : Hyp hp nx φ ow w) {t : TypeId} {x : AV} {lo hi : Option AV} {v : Value} {vlo vhi : Option Value} {out : Out} (hr : (NJ P t x lo hi).run hp = some out)
  (hx : x.holds φ ow w [v]) (hlo : W7 φ ow w lo vlo) (hhi : W7 φ ow w hi vhi) (hobl : ∀ p ∈ out.Bu, p) :
  out.upd = [] /\ ∃ u, (Instr.sliceAt t v vlo vhi Option.none).run P w = .ok u w /\ out.res.holds φ ow w [u] := by
 unfold NJ at hr
 change (match P.underlying t with
  | some (.slice e) => match P.info? e with
   | some i => match x with
    | .dat (.sl T) l => match Ge lo 0, Ge hi l.length with
     | some a, some b => if T.size = i.size then Req.out ⟨[0 <= a, a <= b, b <= l.length], .dat (.sl T) ((l.take b.toNat).drop a.toNat), []⟩ else .fail
     | _, _ => .fail
    | .arr id => .look id fun
     | .arr _ T l => match Ge lo 0, Ge hi l.length with
      | some a, some b => if T.size = i.size then .out ⟨[0 <= a, a <= b, b <= l.length], .vw id i.size a b, []⟩ else .fail
      | _, _ => .fail
     | .sld T l => match Ge lo 0, Ge hi l.length with
      | some a, some b => if T.size = i.size then .out ⟨[0 <= a, a <= b, b <= l.length], .dat (.sl T) ((l.take b.toNat).drop a.toNat), []⟩ else .fail
      | _, _ => .fail
     | _ => .fail
    | .vw id sz l0 h0 => match Ge lo 0, Ge hi (h0 - l0) with
     | some a, some b => if sz = i.size then .out ⟨[0 <= a, a <= b, b <= h0 - l0], .vw id sz (l0 + a) (l0 + b), []⟩ else .fail
     | _, _ => .fail
    | _ => .fail
   | _ => .fail
  | _ => .fail).run hp = some out at hr
 split at hr <;> try (simp [Req.run] at hr; done)
 rename_i e hu
 split at hr <;> try (simp [Req.run] at hr; done)
 rename_i i hinf
 split at hr <;> try (simp [Req.run] at hr; done)
 ·rename_i T l
  split at hr <;> try (simp [Req.run] at hr; done)
  rename_i a b ha hb
  split at hr <;> try (simp [Req.run] at hr; done)
  rename_i hz
  simp only [Req.run, Option.some.injEq] at hr
  subst hr
  simp only [List.mem_cons, List.not_mem_nil, or_false, forall_eq_or_imp, forall_eq] at hobl
  obtain ⟨o1, o2, o3⟩ := hobl
  obtain ⟨_, _, hrep⟩ := hx
  obtain ⟨A, c, e', h1, _⟩ := (show _ from hrep)
  injection e' with e' _
  subst e'
  obtain ⟨X, hX, hX2⟩ := Je hu hinf (FO hlo ha) (FO hhi hb) o1 o2 o3 h1
  refine ⟨rfl, _, hX, rfl, rfl, Hl hrep (by omega) (Int.toNat_le.2 o3) hz (hX2.imp (fun h => by rw [h.1]) (fun h => h))⟩
 ·rename_i id
  obtain ⟨A, n', c, hφ, e'⟩ := hx
  injection e' with e'
  subst e'
  simp only [Req.run] at hr
  have hch := H.chunk id
  generalize hp id = ch at hr hch
  cases ch <;> try (simp [Req.run] at hr; done)
  case arr e2 T l =>
   simp only at hr
   split at hr <;> try (simp [Req.run] at hr; done)
   rename_i a b ha hb
   split at hr <;> try (simp [Req.run] at hr; done)
   rename_i hz
   simp only [Req.run, Option.some.injEq] at hr
   subst hr
   simp only [List.mem_cons, List.not_mem_nil, or_false, forall_eq_or_imp, forall_eq] at hobl
   obtain ⟨o1, o2, o3⟩ := hobl
   obtain ⟨v', hv', hrow⟩ := hch
   rw [hφ] at hv'
   injection hv' with hv'
   subst hv'
   obtain ⟨xs, h1, h2, h3, h4⟩ := (show _ from hrow)
   have hn : n' = l.length /\ n' <= c := by
    rcases h1.2 with ⟨h, hn⟩ | ⟨g', cap, cur, he, _, _, hle, _⟩
    ·injection h with _ h h'; omega
    ·injection he with _ h h'; omega
   obtain ⟨rfl, hc⟩ := hn
   obtain ⟨X, hX, hX2⟩ := Je hu hinf (FO hlo ha) (FO hhi hb) o1 o2 o3 hc
   exact ⟨rfl, _, hX, A, _, c, X, hφ, o1, o2, o3, hc, hX2, rfl⟩
  case sld T l =>
   simp only at hr
   split at hr <;> try (simp [Req.run] at hr; done)
   rename_i a b ha hb
   split at hr <;> try (simp [Req.run] at hr; done)
   rename_i hz
   simp only [Req.run, Option.some.injEq] at hr
   subst hr
   simp only [List.mem_cons, List.not_mem_nil, or_false, forall_eq_or_imp, forall_eq] at hobl
   obtain ⟨o1, o2, o3⟩ := hobl
   obtain ⟨v', hv', hrep⟩ := hch
   rw [hφ] at hv'
   injection hv' with hv'
   subst hv'
   obtain ⟨A', c', e', h1, _⟩ := (show _ from hrep)
   injection e' with e' _
   injection e' with e1 e2 e3
   subst e1; subst e2; subst e3
   obtain ⟨X, hX, hX2⟩ := Je hu hinf (FO hlo ha) (FO hhi hb) o1 o2 o3 h1
   refine ⟨rfl, _, hX, rfl, rfl, Hl hrep (by omega) (Int.toNat_le.2 o3) hz (hX2.imp (fun h => by rw [h.1]) (fun h => h))⟩
 ·rename_i id sz l0 h0
  split at hr <;> try (simp [Req.run] at hr; done)
  rename_i a b ha hb
  split at hr <;> try (simp [Req.run] at hr; done)
  rename_i hz
  simp only [Req.run, Option.some.injEq] at hr
  subst hr
  simp only [List.mem_cons, List.not_mem_nil, or_false, forall_eq_or_imp, forall_eq] at hobl
  obtain ⟨o1, o2, o3⟩ := hobl
  obtain ⟨A, n', c, X, hφ, q1, q2, q3, q4, q5, e'⟩ := hx
  injection e' with e'
  subst e'
  have hb' : Ge hi ((h0.toNat - l0.toNat : Nat) : Int) = some b := by rw [<- hb]; congr 1; omega
  obtain ⟨Y, hY, hY2⟩ := Je hu hinf (A := X) (FO hlo ha) (FO hhi hb') o1 o2 (by omega) (by omega : h0.toNat - l0.toNat <= c - l0.toNat)
  refine ⟨rfl, _, hY, A, n', c, Y, hφ, by omega, by omega, by omega, q4, ?_, ?_⟩
  ·rcases hY2 with h | rfl
   ·left; omega
   ·rcases q5 with h | rfl
    ·left; omega
    ·right
     subst hz
     cases A with
     | none => rfl
     | some ad =>
      simp only [Option.map_some]
      congr 1
      rw [show (l0 + a).toNat = l0.toNat + a.toNat from by omega, Nat.add_mul]
      unfold Addr.add
      by_cases h1 : l0.toNat * i.size = 0 <;> by_cases h2 : a.toNat * i.size = 0 <;> simp [h1, h2, Nat.add_assoc]
  ·congr 2
   ·omega
   ·omega
end
end AL
end
section
set_option linter.unusedVariables false
set_option linter.unusedSimpArgs false
namespace AL
open Go
section
variable {φ : Hnd} {ow : Own} {w : World} {P : Program} {hp : Nat -> Chunk} {nx : Nat}
theorem FX (k : IntKind) (n : Int) : k.has (k.wrap n) := by
 unfold IntKind.has IntKind.wrap IntKind.min IntKind.max
 cases k <;> simp only [IntKind.signed, IntKind.bits] <;> simp <;> (try split) <;> omega
theorem ADC {k : IntKind} {a b : Int} (h : k.has a) : k.has (a.tmod b) := by
 have key : (0 <= a -> 0 <= a.tmod b /\ a.tmod b <= a) /\ (a <= 0 -> a <= a.tmod b /\ a.tmod b <= 0) := by
  constructor
  ·intro h0
   have := Int.tmod_nonneg b h0
   refine ⟨this, ?_⟩
   rcases Int.le_total 0 b with hb | hb
   ·rw [Int.tmod_eq_emod_of_nonneg h0]
    rcases Int.lt_or_eq_of_le hb with hb | hb
    ·rcases Int.lt_or_le a b with h1 | h1
     ·rw [Int.emod_eq_of_lt h0 h1]; omega
     ·have := Int.emod_lt_of_pos a hb; omega
    ·subst hb; simp
   ·rw [<- Int.tmod_neg, Int.tmod_eq_emod_of_nonneg h0]
    rcases Int.lt_or_eq_of_le hb with hb | hb
    ·rcases Int.lt_or_le a (-b) with h1 | h1
     ·rw [Int.emod_eq_of_lt h0 h1]; omega
     ·have := Int.emod_lt_of_pos a (show 0 < -b by omega); omega
    ·subst hb; simp
  ·intro h0
   have e : a.tmod b = -((-a).tmod b) := by rw [Int.neg_tmod]; omega
   have h1 : 0 <= (-a).tmod b /\ (-a).tmod b <= -a := by
    have h0' : 0 <= -a := by omega
    have := Int.tmod_nonneg b h0'
    refine ⟨this, ?_⟩
    rcases Int.le_total 0 b with hb | hb
    ·rw [Int.tmod_eq_emod_of_nonneg h0']
     rcases Int.lt_or_eq_of_le hb with hb | hb
     ·rcases Int.lt_or_le (-a) b with h1 | h1
      ·rw [Int.emod_eq_of_lt h0' h1]; omega
      ·have := Int.emod_lt_of_pos (-a) hb; omega
     ·subst hb; simp
    ·rw [<- Int.tmod_neg, Int.tmod_eq_emod_of_nonneg h0']
     rcases Int.lt_or_eq_of_le hb with hb | hb
     ·rcases Int.lt_or_le (-a) (-b) with h1 | h1
      ·rw [Int.emod_eq_of_lt h0' h1]; omega
      ·have := Int.emod_lt_of_pos (-a) (show 0 < -b by omega); omega
     ·subst hb; simp
   omega
 unfold IntKind.has at *
 have h1 : k.min <= 0 := by cases k <;> decide
 have h2 : 0 <= k.max := by cases k <;> decide
 rcases Int.le_total 0 a with h0 | h0
 ·have := key.1 h0; omega
 ·have := key.2 h0; omega
theorem Rp {wr : Bool} {k : IntKind} {n : Int} {out : Out} (hr : (num wr k n).run hp = some out) (hobl : ∀ p ∈ out.Bu, p) :
  out.upd = [] /\ out.res.holds φ ow w [.int k (k.wrap n)] := by
 unfold num at hr
 split at hr
 ·simp only [Req.ret, Req.run, Option.some.injEq] at hr
  subst hr
  exact ⟨rfl, B3 (FX k n)⟩
 ·simp only [Req.run, Option.some.injEq] at hr
  subst hr
  simp only [List.mem_cons, List.not_mem_nil, or_false, forall_eq] at hobl
  have e : k.wrap n = n := by
   have h1 := hobl.1
   have h2 := hobl.2
   revert h1 h2
   unfold IntKind.wrap IntKind.min IntKind.max
   cases k <;> simp only [IntKind.signed, IntKind.bits] <;> simp <;> intro h1 h2 <;> (try split) <;> omega
  rw [e]
  exact ⟨rfl, B3 hobl⟩
theorem BL {b : Bool} {v : Value} (h : AV.holds φ ow w (.dat .bool b) [v]) : v = .bool b := by
 obtain ⟨_, _, e⟩ := h
 injection e with e
theorem Kk {b : ByteArray} {v : Value} (h : AV.holds φ ow w (.dat .str b) [v]) : v = .string b := by
 obtain ⟨_, _, e, _⟩ := h
 injection e with e
theorem ADD (op : BinOp) (t : TypeId) (x y : Operand) {a b : Value} (h : (∀ c, a ≠ .agg c) /\ a ≠ .nilIface) : (eqGuard op t x y a b).run P w = .ok () w := by
 cases a <;> first
  | exact absurd rfl (h.1 _)
  | exact absurd rfl h.2
  | (cases op <;> simp [eqGuard])
theorem A5 (op : BinOp) (t : TypeId) (x y : Operand) {a b u : Value} (h : (∀ c, a ≠ .agg c) /\ a ≠ .nilIface) (hr : (binOp op t a b).run P w = .ok u w) :
  (do eqGuard op t x y a b; binOp op t a b : Sem Value).run P w = .ok u w := by
 simp [ADD op t x y h, hr]
theorem run_equal_bool {t : TypeId} (hu : P.underlying t = some .bool) (a b : Bool) : (Op.equal t (.bool a) (.bool b)).run P w = .ok (a == b) w := by
 show (Op.equalIn (9999 + 1) t _ _).run P w = _
 rw [Op.equalIn]
 simp [run_underlying hu]
theorem CT {t e : TypeId} (hu : P.underlying t = some (.pointer e)) (a : Option Addr) : (Op.equal t (.pointer a) (.pointer none)).run P w = .ok a.isNone w := by
 show (Op.equalIn (9999 + 1) t _ _).run P w = _
 rw [Op.equalIn]
 cases a <;> simp [run_underlying hu]
theorem Rq {t e : TypeId} (hu : P.underlying t = some (.slice e)) (A : Option Addr) (n c : Nat) : (Op.equal t (.slice A n c) (.slice none 0 0)).run P w = .ok A.isNone w := by
 show (Op.equalIn (9999 + 1) t _ _).run P w = _
 rw [Op.equalIn]
 cases A <;> simp [run_underlying hu]
theorem AJY {wr : Bool} {op : BinOp} {t : TypeId} {x y : AV} {a b : Value} {ox oy : Operand} {out : Out} (hr : (Wx P wr op t x y).run hp = some out) (hx : x.holds φ ow w [a]) (hy : y.holds φ ow w [b]) (hobl : ∀ p ∈ out.Bu, p) :
  out.upd = [] /\ ∃ u, (do eqGuard op t ox oy a b; binOp op t a b : Sem Value).run P w = .ok u w /\ out.res.holds φ ow w [u] := by
 unfold Wx at hr
 split at hr <;> try (simp [Req.run] at hr; done)
 ·rename_i k n k' m
  obtain ⟨rfl, hn⟩ := Ak hx
  obtain ⟨rfl, hm⟩ := Ak hy
  split at hr <;> try (simp [Req.run] at hr; done)
  rename_i hk
  subst hk
  have ng : (∀ c, Value.int k' n ≠ .agg c) /\ Value.int k' n ≠ .nilIface := ⟨fun _ => by simp, by simp⟩
  split at hr <;> try (simp [Req.run] at hr; done)
  ·obtain ⟨h1, h2⟩ := Rp (φ := φ) (ow := ow) (w := w) hr hobl
   exact ⟨h1, _, A5 _ t ox oy ng (by simp [binOp, Op.intArith]), h2⟩
  ·obtain ⟨h1, h2⟩ := Rp (φ := φ) (ow := ow) (w := w) hr hobl
   exact ⟨h1, _, A5 _ t ox oy ng (by simp [binOp, Op.intArith]), h2⟩
  ·obtain ⟨h1, h2⟩ := Rp (φ := φ) (ow := ow) (w := w) hr hobl
   exact ⟨h1, _, A5 _ t ox oy ng (by simp [binOp, Op.intArith]), h2⟩
  ·simp only [Req.run, Option.some.injEq] at hr
   subst hr
   simp only [List.mem_cons, List.not_mem_nil, or_false, forall_eq] at hobl
   exact ⟨rfl, .int k' (k'.wrap (Int.tdiv n m)), A5 _ t ox oy ng (by simp [binOp, Op.intDiv]; intro h; exact absurd h hobl), B3 (FX _ _)⟩
  ·simp only [Req.run, Option.some.injEq] at hr
   subst hr
   simp only [List.mem_cons, List.not_mem_nil, or_false, forall_eq] at hobl
   exact ⟨rfl, .int k' (Int.tmod n m), A5 _ t ox oy ng (by simp [binOp, Op.intDiv]; intro h; exact absurd h hobl), B3 (ADC hn)⟩
  all_goals
   simp only [Req.ret, Req.run, Option.some.injEq] at hr
   subst hr
   first
    | (refine ⟨rfl, _, ?_, CN _⟩; exact A5 _ t ox oy ng (by simp [binOp, Op.intCmp]))
    | (refine ⟨rfl, _, ?_, B3 (FX _ _)⟩; exact A5 _ t ox oy ng (by simp [binOp, Op.intBits]))
 ·rename_i n m
  obtain rfl := BL hx
  obtain rfl := BL hy
  have ng : (∀ c, Value.bool n ≠ .agg c) /\ Value.bool n ≠ .nilIface := ⟨fun _ => by simp, by simp⟩
  split at hr <;> try (simp [Req.run] at hr; done)
  ·rename_i hu
   simp only [Req.ret, Req.run, Option.some.injEq] at hr
   subst hr
   exact ⟨rfl, .bool (n == m), A5 _ t ox oy ng (by simp [binOp, run_equal_bool hu]), CN _⟩
  ·rename_i hu
   simp only [Req.ret, Req.run, Option.some.injEq] at hr
   subst hr
   refine ⟨rfl, _, ?_, CN _⟩
   exact A5 _ t ox oy ng (by simp [binOp, run_equal_bool hu])
 ·rename_i n m
  obtain rfl := Kk hx
  obtain rfl := Kk hy
  have ng : (∀ c, Value.string n ≠ .agg c) /\ Value.string n ≠ .nilIface := ⟨fun _ => by simp, by simp⟩
  split at hr <;> try (simp [Req.run] at hr; done)
  ·simp only [Req.run, Option.some.injEq] at hr
   subst hr
   simp only [List.mem_cons, List.not_mem_nil, or_false, forall_eq] at hobl
   have hl : ByteArray.size n + ByteArray.size m <= 140737488355328 := hobl
   have hz : ByteArray.size (n ++ m) = ByteArray.size n + ByteArray.size m := ByteArray.size_append
   refine ⟨rfl, .string (n ++ m), A5 _ t ox oy ng ?_, rfl, rfl, rfl, by show ByteArray.size (n ++ m) <= lim; rw [hz]; exact hobl⟩
   have hm : IntKind.i64.max = 9223372036854775807 := rfl
   simp only [binOp, Op.stringOp]
   rw [if_neg (by rw [hm]; omega)]
   rfl
  ·simp only [Req.ret, Req.run, Option.some.injEq] at hr
   subst hr
   refine ⟨rfl, _, ?_, CN _⟩
   exact A5 _ t ox oy ng (by rfl)
  ·simp only [Req.ret, Req.run, Option.some.injEq] at hr
   subst hr
   refine ⟨rfl, _, ?_, CN _⟩
   exact A5 _ t ox oy ng (by rfl)
 ·rename_i id off
  obtain ⟨g, hφ, e⟩ := hx
  injection e with e
  subst e
  injection hy with hy
  subst hy
  have ng : (∀ c, Value.pointer (some ⟨g, off, none⟩) ≠ .agg c) /\ Value.pointer (some ⟨g, off, none⟩) ≠ .nilIface := ⟨fun _ => by simp, by simp⟩
  split at hr <;> try (simp [Req.run] at hr; done)
  ·rename_i e hu
   simp only [Req.ret, Req.run, Option.some.injEq] at hr
   subst hr
   exact ⟨rfl, .bool false, A5 _ t ox oy ng (by simp [binOp, CT hu]), CN _⟩
  ·rename_i e hu
   simp only [Req.ret, Req.run, Option.some.injEq] at hr
   subst hr
   exact ⟨rfl, .bool true, A5 _ t ox oy ng (by simp [binOp, CT hu]), CN _⟩
 ·rename_i T x
  obtain ⟨g, o, cs, e, _⟩ := hx
  injection e with e
  subst e
  injection hy with hy
  subst hy
  have ng : (∀ c, Value.pointer (some ⟨g, o, none⟩) ≠ .agg c) /\ Value.pointer (some ⟨g, o, none⟩) ≠ .nilIface := ⟨fun _ => by simp, by simp⟩
  split at hr <;> try (simp [Req.run] at hr; done)
  ·rename_i e hu
   simp only [Req.ret, Req.run, Option.some.injEq] at hr
   subst hr
   exact ⟨rfl, .bool false, A5 _ t ox oy ng (by simp [binOp, CT hu]), CN _⟩
  ·rename_i e hu
   simp only [Req.ret, Req.run, Option.some.injEq] at hr
   subst hr
   exact ⟨rfl, .bool true, A5 _ t ox oy ng (by simp [binOp, CT hu]), CN _⟩
 ·injection hx with hx
  subst hx
  injection hy with hy
  subst hy
  have ng : (∀ c, Value.pointer none ≠ .agg c) /\ Value.pointer none ≠ .nilIface := ⟨fun _ => by simp, by simp⟩
  split at hr <;> try (simp [Req.run] at hr; done)
  ·rename_i e hu
   simp only [Req.ret, Req.run, Option.some.injEq] at hr
   subst hr
   exact ⟨rfl, .bool true, A5 _ t ox oy ng (by simp [binOp, CT hu]), CN _⟩
  ·rename_i e hu
   simp only [Req.ret, Req.run, Option.some.injEq] at hr
   subst hr
   exact ⟨rfl, .bool false, A5 _ t ox oy ng (by simp [binOp, CT hu]), CN _⟩
 ·rename_i T l
  obtain ⟨_, _, A, c, e, h1, h2, h3, h4⟩ := hx
  injection e with e
  subst e
  injection hy with hy
  subst hy
  have ng : (∀ d, Value.slice A l.length c ≠ .agg d) /\ Value.slice A l.length c ≠ .nilIface := ⟨fun _ => by simp, by simp⟩
  split at hr <;> try (simp [Req.run] at hr; done)
  rename_i e hu
  simp only [Req.ret, Req.run, Option.some.injEq] at hr
  subst hr
  refine ⟨rfl, .bool A.isNone, A5 _ t ox oy ng ?_, _, rfl, ?_⟩
  ·simp [binOp, Rq hu]
  ·intro hA
   rcases h4 with h4 | ⟨g, o, xs, h4, _⟩
   ·exact h4
   ·subst h4; cases hA
theorem ADE {k : IntKind} {a : Int} {m : Nat} (h : k.has a) : k.has (a.fdiv (2 ^ m)) := by
 have hp : (0 : Int) < 2 ^ m := Int.pow_pos (by decide)
 have e : a.fdiv (2 ^ m) = a / (2 ^ m) := Int.fdiv_eq_ediv_of_nonneg _ (Int.le_of_lt hp)
 rw [e]
 have h1 : 0 <= a -> 0 <= a / 2 ^ m /\ a / 2 ^ m <= a := fun h0 => ⟨Int.ediv_nonneg h0 (Int.le_of_lt hp), Int.ediv_le_self _ h0⟩
 have h2 : a < 0 -> a <= a / 2 ^ m /\ a / 2 ^ m < 0 := fun h0 => ⟨(Int.le_ediv_iff_mul_le hp).2 (by
  have : (1 : Int) <= 2 ^ m := hp
  have h3 := Int.mul_le_mul_of_nonneg_right this (show (0 : Int) <= -a by omega)
  have h4 : a * 2 ^ m = -(2 ^ m * -a) := by rw [Int.mul_neg, Int.neg_neg, Int.mul_comm]
  omega), Int.ediv_neg_of_neg_of_pos h0 hp⟩
 generalize a / 2 ^ m = b at h1 h2
 unfold IntKind.has IntKind.min IntKind.max at *
 rcases Int.lt_or_le a 0 with h0 | h0
 ·have := h2 h0
  cases k <;> simp only [IntKind.bits, IntKind.signed] at h ⊢ <;> simp at h ⊢ <;> omega
 ·have := h1 h0
  cases k <;> simp only [IntKind.bits, IntKind.signed] at h ⊢ <;> simp at h ⊢ <;> omega
theorem AJZ {x y : AV} {a b : Value} {ox oy : Operand} {t : TypeId} {out : Out} (hr : (Wy x y).run hp = some out) (hx : x.holds φ ow w [a]) (hy : y.holds φ ow w [b]) (hobl : ∀ p ∈ out.Bu, p) :
  out.upd = [] /\ ∃ u, (do eqGuard .shr t ox oy a b; binOp .shr t a b : Sem Value).run P w = .ok u w /\ out.res.holds φ ow w [u] := by
 unfold Wy at hr
 split at hr <;> try (simp [Req.run] at hr; done)
 rename_i k n k' m
 obtain ⟨rfl, hn⟩ := Ak hx
 obtain ⟨rfl, hm⟩ := Ak hy
 have ng : (∀ c, Value.int k n ≠ .agg c) /\ Value.int k n ≠ .nilIface := ⟨fun _ => by simp, by simp⟩
 simp only [Req.run, Option.some.injEq] at hr
 subst hr
 simp only [List.mem_cons, List.not_mem_nil, or_false, forall_eq] at hobl
 have h0 : ¬ m < 0 := Int.not_lt.2 hobl
 exact ⟨rfl, .int k (n.fdiv (2 ^ (min m.toNat k.bits))), A5 _ t ox oy ng (by simp [binOp, Op.shift, h0]), B3 (ADE hn)⟩
theorem AJa {x y : AV} {a b : Value} {ox oy : Operand} {t : TypeId} {out : Out} (hr : (Wz x y).run hp = some out) (hx : x.holds φ ow w [a]) (hy : y.holds φ ow w [b]) (hobl : ∀ p ∈ out.Bu, p) :
  out.upd = [] /\ ∃ u, (do eqGuard .shl t ox oy a b; binOp .shl t a b : Sem Value).run P w = .ok u w /\ out.res.holds φ ow w [u] := by
 unfold Wz at hr
 split at hr <;> try (simp [Req.run] at hr; done)
 rename_i k n k' m
 obtain ⟨rfl, hn⟩ := Ak hx
 obtain ⟨rfl, hm⟩ := Ak hy
 have ng : (∀ c, Value.int k n ≠ .agg c) /\ Value.int k n ≠ .nilIface := ⟨fun _ => by simp, by simp⟩
 simp only [Req.run, Option.some.injEq] at hr
 subst hr
 simp only [List.mem_cons, List.not_mem_nil, or_false, forall_eq] at hobl
 have h0 : ¬ m < 0 := Int.not_lt.2 hobl
 exact ⟨rfl, .int k (k.wrap (n * 2 ^ (min m.toNat k.bits))), A5 _ t ox oy ng (by simp [binOp, Op.shift, h0]), B3 (FX k _)⟩
theorem AKc {wr : Bool} {op : UnOp} {x : AV} {a : Value} {out : Out} (hr : (AC7 wr op x).run hp = some out) (hx : x.holds φ ow w [a]) (hobl : ∀ p ∈ out.Bu, p) :
  out.upd = [] /\ ∃ u, (Op.unary op a).run P w = .ok u w /\ out.res.holds φ ow w [u] := by
 unfold AC7 at hr
 split at hr <;> try (simp [Req.run] at hr; done)
 ·rename_i k n
  obtain ⟨rfl, hn⟩ := Ak hx
  obtain ⟨h1, h2⟩ := Rp (φ := φ) (ow := ow) (w := w) hr hobl
  exact ⟨h1, .int k (k.wrap (0 - n)), by simp [Op.unary, Op.intArith], h2⟩
 ·rename_i b
  obtain rfl := BL hx
  simp only [Req.ret, Req.run, Option.some.injEq] at hr
  subst hr
  refine ⟨rfl, _, ?_, CN _⟩
  simp [Op.unary]
 ·rename_i k n
  obtain ⟨rfl, hn⟩ := Ak hx
  split at hr <;> try (simp [Req.run] at hr; done)
  rename_i hsg
  simp only [Req.ret, Req.run, Option.some.injEq] at hr
  subst hr
  refine ⟨rfl, _, ?_, B3 (FX _ _)⟩
  simp [Op.unary, Op.intBits, hsg]
theorem AG7 {src dst : TypeId} {x : AV} {a : Value} {out : Out} (hr : (Ri P src dst x).run hp = some out) (hx : x.holds φ ow w [a]) :
  out.upd = [] /\ ∃ u, (convert src dst a).run P w = .ok u w /\ out.res.holds φ ow w [u] := by
 unfold Ri at hr
 split at hr <;> try (simp [Req.run] at hr; done)
 rename_i k1 k2 k n h1 h2
 obtain ⟨rfl, hn⟩ := Ak hx
 simp only [Req.ret, Req.run, Option.some.injEq] at hr
 subst hr
 refine ⟨rfl, _, ?_, B3 (FX _ _)⟩
 simp [convert, run_underlying h1, run_underlying h2, Conv.intToInt]
def W8 (φ : Hnd) (ow : Own) (w : World) : List AV -> List Value -> Prop
 | [], [] => True
 | a :: r, v :: vs => a.holds φ ow w [v] /\ W8 φ ow w r vs
 | _, _ => False
theorem ADF {k : IntKind} {a b : Int} (h1 : k.has a) (h2 : k.has b) : k.has (min2 a b) := by unfold min2; split <;> assumption
theorem ADG {k : IntKind} {a b : Int} (h1 : k.has a) (h2 : k.has b) : k.has (max2 a b) := by unfold max2; split <;> assumption
theorem Rr {f : Int -> Int -> Int} {g : Value -> Value -> Sem Value} (hf : ∀ {k : IntKind} {a b : Int}, k.has a -> k.has b -> k.has (f a b)) (hg : ∀ k a b, (g (.int k a) (.int k b)) = pure (.int k (f a b))) {k : IntKind} :
  ∀ {l : List AV} {vs : List Value} {a : Int} {out : Out}, (KX f k a l).run hp = some out -> W8 φ ow w l vs -> k.has a ->
   out.Bu = [] /\ out.upd = [] /\ ∃ u, (vs.foldlM g (.int k a)).run P w = .ok u w /\ out.res.holds φ ow w [u]
 | [], [], a, out, hr, _, ha => by
  simp only [KX, Req.ret, Req.run, Option.some.injEq] at hr
  subst hr
  exact ⟨rfl, rfl, .int k a, by simp, B3 ha⟩
 | x :: l, v :: vs, a, out, hr, ⟨h1, h2⟩, ha => by
  unfold KX at hr
  split at hr <;> try (simp [Req.run] at hr; done)
  ·rename_i e; cases e
  ·rename_i k' b r e
   injection e with e1 e2
   subst e1; subst e2
   split at hr <;> try (simp [Req.run] at hr; done)
   rename_i hk
   subst hk
   obtain ⟨rfl, hb⟩ := Ak h1
   obtain ⟨o1, o2, u, h3, h4⟩ := Rr hf hg hr h2 (hf ha hb)
   exact ⟨o1, o2, u, by simpa [List.foldlM_cons, hg] using h3, h4⟩
end
end AL
end
section
set_option linter.unusedVariables false
set_option linter.unusedSimpArgs false
namespace AL
open Go
section
variable {φ : Hnd} {ow : Own} {w : World} {P : Program} {hp : Nat -> Chunk} {nx : Nat}
def Au (out : Out) (nx : Nat) (φ : Hnd) (ow : Own) (w : World) (v : Value) (w' : World) : Prop :=
 ∃ φ' ow', Ext (ids out.upd) nx φ ow w φ' ow' w' /\ out.res.holds φ' ow' w' [v] /\ ∀ p ∈ out.upd, cH φ' ow' w' p.1 p.2
theorem Ext.refl (H : Hyp hp nx φ ow w) : Ext [] nx φ ow w φ ow w :=
 ⟨Nat.le_refl _, rfl, rfl, rfl, fun b hb h => ⟨rfl, rfl⟩, fun b id h => ⟨(H.own b id h).1, .inr ⟨(H.own b id h).1, h⟩⟩, Aw.refl _, fun id h => rfl⟩
theorem Au.pure (H : Hyp hp nx φ ow w) {out : Out} {v : Value} (hu : out.upd = []) (hr : out.res.holds φ ow w [v]) : Au out nx φ ow w v w :=
 ⟨φ, ow, by rw [hu]; exact Ext.refl H, hr, by rw [hu]; intro p hp; cases hp⟩
theorem Ext.ADH (H : Hyp hp nx φ ow w) (S : List Nat) : Ext S nx φ ow w φ (AM S ow) w :=
 ⟨Nat.le_refl _, rfl, rfl, rfl, fun b hb h => ⟨by
   cases ho : ow b with
   | none => exact Ay.2 (.inl ho)
   | some i => exact Aj.2 ⟨ho, h i ho⟩, rfl⟩,
  fun b id h => have := (Aj.1 h).1; ⟨(H.own b id this).1, .inr ⟨(H.own b id this).1, this⟩⟩, Aw.refl _, fun id h => rfl⟩
def BG (φ : Hnd) (nx : Nat) (v : Value) : Hnd := fun id => if id = nx then some v else φ id
def BJ (ow : Own) (b : Nat) (nx : Nat) : Own := fun c => if c = b then some nx else ow c
theorem AP (v : Value) : BG φ nx v nx = some v := by simp [BG]
theorem BI (H : Hyp hp nx φ ow w) (v : Value) : Aw φ (BG φ nx v) := by
 intro id u h
 unfold BG
 by_cases e : id = nx
 ·subst e; rw [H.fresh _ (Nat.le_refl _) (by omega)] at h; cases h
 ·rw [if_neg e]; exact h
theorem Ext.new (H : Hyp hp nx φ ow w) (S : List Nat) (v : Value) {o : Obj} {w' : World} (hw : w'.heap = w.heap.push o) (h1 : w'.os = w.os) (h2 : w'.tape = w.tape) (h3 : w'.output = w.output) :
  Ext (nx :: S) nx φ ow w (BG φ nx v) (BJ (AM S ow) w.heap.size nx) w' := by
 have hs : w'.heap.size = w.heap.size + 1 := by rw [hw]; simp
 refine ⟨by omega, h1, h2, h3, ?_, ?_, BI H v, ?_⟩
 ·intro b hb h
  refine ⟨?_, ?_⟩
  ·unfold BJ
   rw [if_neg (by omega)]
   cases ho : ow b with
   | none => exact Ay.2 (.inl ho)
   | some i => exact Aj.2 ⟨ho, fun hi => h i ho (List.mem_cons_of_mem _ hi)⟩
  ·rw [hw, Array.getElem?_push, if_neg (by omega)]
 ·intro b id h
  unfold BJ at h
  by_cases e : b = w.heap.size
  ·rw [if_pos e] at h
   injection h with h
   subst h
   exact ⟨by omega, .inl (.inl (by simp))⟩
  ·rw [if_neg e] at h
   have ho := (Aj.1 h).1
   exact ⟨by have := (H.own b id ho).1; omega, .inr ⟨(H.own b id ho).1, ho⟩⟩
 ·intro id hid
  unfold BG
  rw [if_neg (by omega)]
theorem Ug (S : List Nat) {o : Obj} {w' : World} (hw : w'.heap = w.heap.push o) : A8 (AM S ow) w (BJ (AM S ow) w.heap.size nx) w' := by
 refine ⟨by rw [hw]; simp, fun b hb h => ⟨?_, ?_⟩⟩
 ·unfold BJ; rw [if_neg (by omega)]; exact h
 ·rw [hw, Array.getElem?_push, if_neg (by omega)]
theorem CU {o : Obj} {w' : World} (hw : w'.heap = w.heap.push o) : w'.heap[w.heap.size]? = some o := by rw [hw]; simp
theorem Hn {x : AV} {v : Value} (h : x.holds φ ow w [v]) (h1 : x.cells.F0 = true) (hl : x.cells.Bb = true) : x.cells.holds φ ow w v.cells.toList /\ ∀ u ∈ v.cells.toList, u.oneCell' = true := by
 have key : x.cells.holds φ ow w v.cells.toList := by
  rcases Ud h with h | ⟨cs, rfl, hne⟩
  ·exact h
  ·have hc : x.cells = .cons x .nil := by cases x <;> first | rfl | exact absurd rfl (hne _)
   rw [hc] at h1
   simp only [AV.F0, Bool.and_true] at h1
   have := NP h1 h
   simp [Value.oneCell'] at this
 exact ⟨key, Jd h1 hl key⟩
theorem AJb (H : Hyp hp nx φ ow w) {e : TypeId} {x : AV} {v : Value} {out : Out} (hr : (Wv e x nx).run hp = some out) (hx : x.holds φ ow w [v]) :
  out.Bu = [] /\ ∃ u w', (Instr.box e v).run P w = .ok u w' /\ Au out nx φ ow w u w' := by
 unfold Wv at hr
 split at hr <;> try (simp [Req.run] at hr; done)
 rename_i hc
 simp only [Req.run, Option.some.injEq] at hr
 subst hr
 refine ⟨rfl, .pointer (some ⟨w.heap.size, 0, none⟩), w.alloc (.cells v.cells e), by simp [Instr.box, newVar, newRow], ?_⟩
 have E := Ext.new (w' := w.alloc (.cells v.cells e)) H [] (.pointer (some ⟨w.heap.size, 0, none⟩)) rfl rfl rfl rfl
 refine ⟨_, _, E, ⟨w.heap.size, AP _, rfl⟩, ?_⟩
 intro p hp
 simp only [List.mem_singleton] at hp
 subst hp
 exact ⟨w.heap.size, v.cells, AP _, by simp [BJ], CU (w' := w.alloc (.cells v.cells e)) rfl, AV.Ab E.phi E.keep (Hn hx hc.1 hc.2).1⟩
theorem IG (v : Value) : (Ms v).holds φ ow w [v] := by
 unfold Ms
 split
 ·rename_i k n
  split
  ·rename_i h
   simp only [Bool.and_eq_true, decide_eq_true_eq] at h
   exact B3 h
  ·rfl
 ·exact CN _
 ·split
  ·rename_i s h
   exact ⟨rfl, rfl, rfl, h⟩
  ·rfl
 ·rfl
theorem Bt : ∀ (l : List Value), (B9 l).holds φ ow w l
 | [] => rfl
 | v :: r => ⟨v, r, rfl, IG v, Bt r⟩
theorem ADI (H : Hyp hp nx φ ow w) {e : TypeId} {out : Out} (hr : (NI P e nx).run hp = some out) :
  out.Bu = [] /\ ∃ u w', (Instr.alloc e true (.tuple #[])).run P w = .ok u w' /\ Au out nx φ ow w u w' := by
 unfold NI at hr
 split at hr <;> try (simp [Req.run] at hr; done)
 rename_i i hi
 split at hr <;> try (simp [Req.run] at hr; done)
 rename_i z hz
 simp only [Req.run, Option.some.injEq] at hr
 subst hr
 refine ⟨rfl, .pointer (some ⟨w.heap.size, 0, none⟩), w.alloc (.cells z.cells e), by simp [Instr.alloc, zeroValue, typeInfo, hi, hz, newVar, newRow], ?_⟩
 have E := Ext.new (w' := w.alloc (.cells z.cells e)) H [] (.pointer (some ⟨w.heap.size, 0, none⟩)) rfl rfl rfl rfl
 refine ⟨_, _, E, ⟨w.heap.size, AP _, rfl⟩, ?_⟩
 intro p hp
 simp only [List.mem_singleton] at hp
 subst hp
 exact ⟨w.heap.size, z.cells, AP _, by simp [BJ], CU (w' := w.alloc (.cells z.cells e)) rfl, Bt _⟩
theorem Kl (off : Nat) : ∀ (vs : List Value) (j : Nat) (cs : Array Value), off + j + vs.length <= cs.size ->
  ((vs.zipIdx j).foldl (fun (cs : Array Value) p => cs.setIfInBounds (off + p.2) p.1) cs).toList = cs.toList.take (off + j) ++ vs ++ cs.toList.drop (off + j + vs.length)
 | [], j, cs, _ => by simp
 | v :: vs, j, cs, h => by
  rw [List.zipIdx_cons, List.foldl_cons, Kl off vs (j + 1) _ (by simp at h ⊢; omega)]
  have e := list_seg_step cs.toList (off + j) v vs (by simp at h ⊢; omega)
  simpa [Array.toList_setIfInBounds, Nat.add_assoc] using e
theorem Uh (sz : Nat) : ∀ (ps : List (Nat × Value)) (n : Nat) (acc : Array Value), (∀ k p, ps[k]? = some p -> p.1 = n + k /\ p.2.cells.size = sz) -> (n + ps.length) * sz <= acc.size ->
  ∃ r, Instr.fill (fun i => some (i * sz, sz)) acc ps = some r /\ r.toList = acc.toList.take (n * sz) ++ (ps.map fun p => p.2.cells.toList).flatten ++ acc.toList.drop ((n + ps.length) * sz)
 | [], n, acc, _, _ => ⟨acc, rfl, by simp⟩
 | (i, v) :: ps, n, acc, h, hs => by
  obtain ⟨h1, h2⟩ := h 0 (i, v) rfl
  simp only at h1 h2
  have hi : i = n := by omega
  subst hi
  have hsz : (i + 1) * sz <= acc.size := Nat.le_trans (Nat.mul_le_mul_right _ (by simp)) hs
  have hpre : ¬ (v.cells.size ≠ sz || i * sz + v.cells.size > acc.size) = true := by
   rw [Nat.succ_mul] at hsz
   simp [h2]; omega
  have hput := Kl (i * sz) v.cells.toList 0 acc (by rw [Nat.succ_mul] at hsz; simp [h2]; omega)
  have hfold : (v.cells.zipIdx.foldl (fun (cs : Array Value) (c, j) => cs.setIfInBounds (i * sz + j) c) acc).toList = acc.toList.take (i * sz) ++ v.cells.toList ++ acc.toList.drop (i * sz + sz) := by
   rw [<- Array.foldl_toList, Array.toList_zipIdx]
   simpa [h2] using hput
  generalize ha : v.cells.zipIdx.foldl (fun (cs : Array Value) (c, j) => cs.setIfInBounds (i * sz + j) c) acc = acc' at hfold
  have hsz' : acc'.size = acc.size := by
   have := congrArg List.length hfold
   simp [h2] at this
   rw [Nat.succ_mul] at hsz
   omega
  obtain ⟨r, hr, hrl⟩ := Uh sz ps (i + 1) acc' (fun k p hk => by
   have := h (k + 1) p (by simpa using hk)
   exact ⟨by omega, this.2⟩) (by rw [hsz']; simp only [List.length_cons] at hs; rw [show i + 1 + ps.length = i + (ps.length + 1) from by omega]; exact hs)
  refine ⟨r, ?_, ?_⟩
  ·simp only [Instr.fill]
   rw [if_neg hpre, ha]
   exact hr
  ·rw [hrl, hfold]
   have hl1 : (acc.toList.take (i * sz)).length = i * sz := by rw [List.length_take, Array.length_toList]; rw [Nat.succ_mul] at hsz; omega
   have hL : (acc.toList.take (i * sz) ++ v.cells.toList).length = (i + 1) * sz := by rw [List.length_append, hl1, Array.length_toList, h2, Nat.succ_mul]
   have t1 : (acc.toList.take (i * sz) ++ v.cells.toList ++ acc.toList.drop (i * sz + sz)).take ((i + 1) * sz) = acc.toList.take (i * sz) ++ v.cells.toList := by
    rw [<- hL, List.take_left]
   have t2 : (acc.toList.take (i * sz) ++ v.cells.toList ++ acc.toList.drop (i * sz + sz)).drop ((i + 1 + ps.length) * sz) = acc.toList.drop ((i + (ps.length + 1)) * sz) := by
    have e1 : (i + 1 + ps.length) * sz = (i + 1) * sz + ps.length * sz := Nat.add_mul _ _ _
    have e2 : (i + (ps.length + 1)) * sz = i * sz + sz + ps.length * sz := by simp only [Nat.add_mul, Nat.one_mul]; omega
    rw [List.drop_append, List.drop_of_length_le (by rw [hL, e1]; omega), List.nil_append, List.drop_drop, hL]
    congr 1
    rw [e1, e2]
    omega
   rw [t1, t2]
   simp [List.append_assoc]
end
end AL
end
section
set_option linter.unusedVariables false
set_option linter.unusedSimpArgs false
namespace AL
open Go
section
variable {φ : Hnd} {ow : Own} {w : World} {P : Program} {hp : Nat -> Chunk} {nx : Nat}
def Km (φ : Hnd) (ow : Own) (w : World) : List (Nat × AV) -> List (Nat × Value) -> Prop
 | [], [] => True
 | a :: r, v :: vs => a.1 = v.1 /\ a.2.holds φ ow w [v.2] /\ Km φ ow w r vs
 | _, _ => False
theorem Zr {sz : Nat} : ∀ {l : List (Nat × AV)} {ps : List (Nat × Value)} {n : Nat} {cells : AV}, ES sz n l = some cells -> Km φ ow w l ps ->
  l.length = ps.length /\ (∀ k p, ps[k]? = some p -> p.1 = n + k /\ p.2.cells.size = sz) /\ cells.holds φ ow w (ps.map fun p => p.2.cells.toList).flatten /\ ∀ v ∈ (ps.map fun p => p.2.cells.toList).flatten, v.oneCell' = true
 | [], [], n, cells, h, _ => by
  simp only [ES, Option.some.injEq] at h
  subst h
  exact ⟨rfl, by simp, rfl, by simp⟩
 | (i, x) :: l, (j, v) :: ps, n, cells, h, ⟨h1, h2, h3⟩ => by
  simp only at h1
  subst h1
  unfold ES at h
  split at h <;> try (cases h; done)
  rename_i hc
  obtain ⟨rfl, c2, c3, c4⟩ := hc
  cases hr : ES sz (i + 1) l with
  | none => rw [hr] at h; cases h
  | some rest =>
   rw [hr] at h
   simp only [Option.map_some, Option.some.injEq] at h
   subst h
   obtain ⟨i1, i2, i3, i4⟩ := Zr hr h3
   obtain ⟨k1, k2⟩ := Hn h2 c3 c4
   refine ⟨by simp [i1], ?_, ?_, ?_⟩
   ·intro k p hk
    cases k with
    | zero =>
     simp only [List.getElem?_cons_zero, Option.some.injEq] at hk
     subst hk
     refine ⟨rfl, ?_⟩
     have := FV c4 k1
     simp only [Array.length_toList] at this
     show v.cells.size = _
     omega
    | succ k =>
     have := i2 k p (by simpa using hk)
     exact ⟨by omega, this.2⟩
   ·simpa using FW c4 k1 i3
   ·intro u hu
    simp only [List.map_cons, List.flatten_cons, List.mem_append] at hu
    exact hu.elim (k2 u) (i4 u)
theorem Zs {S : List Nat} {w' : World} {cur : Array Value} {e : TypeId} (hw : w'.heap = w.heap.push (.cells cur e (0, 0))) {T : Ty} {xs : List Value} {l : List T.den} (h : Rows (T.rep (AM S ow) w) xs l) {cap : Nat}
  (hc : l.length <= cap) (hm : cap <= maxLen) (hs : cur.size = cap * T.size) (ht : cur.toList.take (l.length * T.size) = xs) (hl : l.length <= lim) :
  EJ (BJ (AM S ow) w.heap.size nx) w' nx (.slice (some ⟨w.heap.size, 0, none⟩) l.length cap) e T l := by
 refine ⟨xs, ⟨Rows.len (fun _ _ hr => Ty.A6 hr) h, .inr ⟨w.heap.size, cap, cur, rfl, Nat.zero_le _, CU hw, hc, hm, hs, ht⟩⟩, ?_, hl, Rows.mono (fun _ _ => Ty.AO (Ug S hw)) h⟩
 intro g hg
 simp only [Value.ownBlock, Option.some.injEq] at hg
 subst hg
 simp [BJ]
theorem A3.post {S : List Nat} {φ' : Hnd} {ow' : Own} {w' : World} {u : Upd} (hS : ∀ i ∈ ids u, i ∈ S) (hp : Aw φ φ') (hk : A8 (AM S ow) w ow' w') (h : A3 φ (AM (ids u) ow) w u) : ∀ p ∈ u, cH φ' ow' w' p.1 p.2 := by
 intro p hp'
 rcases A3.mono (Ag hS) h p hp' with e | ⟨t, l, e, v, h1, h2⟩
 ·rw [e]; trivial
 ·rw [e]
  exact ⟨v, hp _ _ h1, Ty.AO hk h2⟩
theorem run_build {t e : TypeId} {i : TypeInfo} {z : Value} {len : Nat} {ps : List (Nat × Value)} (hu : P.underlying t = some (.slice e)) (hi : P.info? e = some i) (hz : i.zero = some z) (hzs : z.cells.size = i.size) (hlen : ps.length = len) (hmax : len * i.size <= 16777216)
  (h : ∀ k p, ps[k]? = some p -> p.1 = 0 + k /\ p.2.cells.size = i.size) :
  (Instr.buildSlice t len ps.toArray).run P w = .ok (.slice (some ⟨w.heap.size, 0, none⟩) len len) (w.alloc (.cells (ps.map fun p => p.2.cells.toList).flatten.toArray e)) /\ (ps.map fun p => p.2.cells.toList).flatten.length = len * i.size := by
 have key : ∀ acc : Array Value, acc.size = len * i.size -> ∃ r, Instr.fill (fun k => some (k * i.size, i.size)) acc ps = some r /\ r = (ps.map fun p => p.2.cells.toList).flatten.toArray /\ (ps.map fun p => p.2.cells.toList).flatten.length = len * i.size := by
  intro acc ha
  obtain ⟨r, hr, hl⟩ := Uh i.size ps 0 acc h (by rw [Nat.zero_add, hlen, ha]; exact Nat.le_refl _)
  rw [Nat.zero_add, hlen, List.drop_of_length_le (by rw [Array.length_toList, ha]; exact Nat.le_refl _), Nat.zero_mul, List.take_zero, List.nil_append, List.append_nil] at hl
  refine ⟨r, hr, by rw [<- hl], ?_⟩
  clear hr hl
  have : ∀ (ps : List (Nat × Value)) (n : Nat), (∀ k p, ps[k]? = some p -> p.1 = n + k /\ p.2.cells.size = i.size) -> (ps.map fun p => p.2.cells.toList).flatten.length = ps.length * i.size := by
   intro ps
   induction ps with
   | nil => intro n _; simp
   | cons p ps ih =>
    intro n hh
    have h0 := (hh 0 p rfl).2
    have := ih (n + 1) (fun k q hk => by have := hh (k + 1) q (by simpa using hk); exact ⟨by omega, this.2⟩)
    rw [List.map_cons, List.flatten_cons, List.length_append, this, Array.length_toList, h0, List.length_cons, Nat.succ_mul]
    omega
  rw [this ps 0 h, hlen]
 by_cases h0 : len * i.size = 0
 ·obtain ⟨r, hr, he, hl⟩ := key (Array.map (fun _ => default) (Array.range 0)) (by simp [h0])
  refine ⟨?_, hl⟩
  rw [<- he]
  simp [Instr.buildSlice, run_underlying hu, run_sizeOf hi, h0, hr, newRow]
 ·obtain ⟨r, hr, he, hl⟩ := key ((Array.range (len * i.size)).map (z.cells[· % z.cells.size]!)) (by simp)
  refine ⟨?_, hl⟩
  rw [<- he]
  simp [Instr.buildSlice, run_underlying hu, run_sizeOf hi, h0, hr, newRow, zeroValue, typeInfo, hi, hz]
  exact hmax
theorem Ho : lim <= maxLen := by simp [lim, maxLen]
theorem ADJ (H : Hyp hp nx φ ow w) {t : TypeId} {len : Nat} {parts : List (Nat × AV)} {ps : List (Nat × Value)} {out : Out} (hr : (FL P t len parts nx).run hp = some out) (hps : Km φ ow w parts ps) :
  ∃ u w', (Instr.buildSlice t len ps.toArray).run P w = .ok u w' /\ Au out nx φ ow w u w' := by
 unfold FL at hr
 split at hr <;> try (simp [Req.run] at hr; done)
 rename_i e hu
 split at hr <;> try (simp [Req.run] at hr; done)
 rename_i i cells hi hcells
 rw [hi] at hcells
 simp only [Option.elim] at hcells
 split at hr <;> try (simp [Req.run] at hr; done)
 rename_i z hz
 split at hr <;> try (simp [Req.run] at hr; done)
 rename_i hc
 obtain ⟨c1, c2, c3, c4⟩ := hc
 obtain ⟨p1, p2, p3, p4⟩ := Zr hcells hps
 obtain ⟨hrun, hlen⟩ := run_build (w := w) hu hi hz c3 (by omega : ps.length = len) c2 p2
 have hL : len <= lim := by
  have : len * 1 <= len * i.size := Nat.mul_le_mul_left _ c4
  simp only [lim]; omega
 have lit : ∀ out, (Req.out ⟨[], .arr nx, [(nx, .lit e len cells)]⟩).run hp = some out -> Au out nx φ ow w (.slice (some ⟨w.heap.size, 0, none⟩) len len) (w.alloc (.cells (ps.map fun p => p.2.cells.toList).flatten.toArray e)) := by
  intro out hr
  simp only [Req.run, Option.some.injEq] at hr
  subst hr
  have E := Ext.new (w' := w.alloc (.cells (ps.map fun p => p.2.cells.toList).flatten.toArray e)) H [] (.slice (some ⟨w.heap.size, 0, none⟩) len len) rfl rfl rfl rfl
  refine ⟨_, _, E, ⟨_, _, _, AP _, rfl⟩, ?_⟩
  intro p hp
  simp only [List.mem_singleton] at hp
  subst hp
  refine ⟨w.heap.size, _, AP _, by simp [BJ], CU (w' := w.alloc (.cells (ps.map fun p => p.2.cells.toList).flatten.toArray e)) rfl, hL, ?_⟩
  simpa using AV.Ab E.phi E.keep p3
 split at hr
 ·rename_i T hall hT
  split at hr <;> try (simp [Req.run] at hr; done)
  rename_i hTs
  obtain ⟨xs, c', u, cs1, cs2, e1, h1, hr1, ⟨hl, hrow⟩, hs⟩ := Mu (R := fun o cs x => T.rep o w cs x) (fun S S' cs x h hr => Bx h hr) (Cc H T) len cells _ _ out p3 hr
  cases c' <;> try (simp [Req.run] at hr1; done)
  have h0 : cs2 = [] := h1
  subst h0
  rw [List.append_nil] at e1
  simp only [Req.run, Option.some.injEq] at hr1
  subst hr1
  refine ⟨_, _, hrun, ?_⟩
  have E := Ext.new (w' := w.alloc (.cells (ps.map fun p => p.2.cells.toList).flatten.toArray e)) H (ids u) (.slice (some ⟨w.heap.size, 0, none⟩) len len) rfl rfl rfl rfl
  refine ⟨_, _, E, ⟨_, _, _, AP _, rfl⟩, ?_⟩
  intro p hp
  rcases List.mem_cons.1 hp with rfl | hp
  ·refine ⟨_, AP _, ?_⟩
   subst hl
   rw [e1]
   refine Zs (w' := w.alloc (.cells cs1.toArray e)) rfl hrow (Nat.le_refl _) (by have := Ho; omega) ?_ ?_ hL
   ·rw [<- e1]; simpa [hTs] using hlen
   ·rw [<- e1]; rw [List.take_of_length_le (by rw [hlen, hTs]; exact Nat.le_refl _)]
  ·exact A3.post (S := ids u) (fun i hi => hi) E.phi (Ug (w' := w.alloc (.cells (ps.map fun p => p.2.cells.toList).flatten.toArray e)) (ids u) rfl) hs p hp
 ·exact ⟨_, _, hrun, lit out hr⟩
theorem Kn (z : Array Value) (n : Nat) : ((Array.range (n * z.size)).map (z[· % z.size]!)).toList = (List.replicate n z.toList).flatten := by
 rw [Array.toList_map, Array.toList_range]
 induction n with
 | zero => simp
 | succ n ih =>
  rw [Nat.succ_mul, List.range_add, List.map_append, ih, List.replicate_succ', List.flatten_append]
  congr 1
  simp only [List.map_map, List.flatten_cons, List.flatten_nil, List.append_nil]
  apply List.ext_getElem
  ·simp
  ·intro k h1 h2
   simp at h1 h2
   simp [Nat.mod_eq_of_lt h1, h1]
theorem AG8 (H : Hyp hp nx φ ow w) {t : TypeId} {l c : AV} {vl vc : Value} {out : Out} (hr : (Rh P t l c nx).run hp = some out) (hl : l.holds φ ow w [vl]) (hc : c.holds φ ow w [vc]) (hobl : ∀ p ∈ out.Bu, p) :
  ∃ u w', (Instr.makeSlice t vl vc).run P w = .ok u w' /\ Au out nx φ ow w u w' := by
 unfold Rh at hr
 split at hr <;> try (simp [Req.run] at hr; done)
 rename_i e hu
 split at hr <;> try (simp [Req.run] at hr; done)
 rename_i i T k1 n k2 m hi hT
 split at hr <;> try (simp [Req.run] at hr; done)
 rename_i z hz
 obtain ⟨rfl, hn⟩ := Ak hl
 obtain ⟨rfl, hm⟩ := Ak hc
 change Int at n
 change Int at m
 have hrunD : ∃ o, (Bv T (B9 z.cells.toList) fun y r u => match r, u with
     | .nil, [] => .out ⟨[0 <= n, n <= m, m.toNat * i.bytes <= lim, m <= (lim : Int)], .arr nx, [(nx, .arr e T (List.replicate n.toNat y))]⟩
     | _, _ => .fail) = .out o /\ (if T.size = i.size /\ z.cells.size = i.size /\ 0 < i.size /\ 0 < i.bytes then Req.out o else .fail).run hp = some out := by
  split at hr
  ·rename_i o ho
   exact ⟨o, ho, hr⟩
  ·simp [Req.run] at hr
 obtain ⟨o, ho, hr⟩ := hrunD
 split at hr <;> try (simp [Req.run] at hr; done)
 rename_i hcond
 obtain ⟨z1, z2, z3, z4⟩ := hcond
 simp only [Req.run, Option.some.injEq] at hr
 subst hr
 obtain ⟨y, c', u, cs1, cs2, e1, h1, hr1, hy, _⟩ := Cc H T (B9 z.cells.toList) _ _ o (Bt z.cells.toList) (by rw [ho]; rfl)
 cases c' <;> try (simp [Req.run] at hr1; done)
 cases u <;> try (simp [Req.run] at hr1; done)
 have h0 : cs2 = [] := h1
 subst h0
 rw [List.append_nil] at e1
 subst e1
 simp only [Req.run, Option.some.injEq] at hr1
 subst hr1
 simp only [List.mem_cons, List.not_mem_nil, or_false, forall_eq_or_imp, forall_eq] at hobl
 obtain ⟨o1, o2, o3, o4⟩ := hobl
 change @LE.le Int _ 0 n at o1
 change @LE.le Int _ n m at o2
 simp only [lim] at o3 o4
 change @LE.le Int _ m _ at o4
 have w1 : IntKind.i64.wrap n = n := by rw [IntKind.wrap_i64]; omega
 have w2 : IntKind.i64.wrap m = m := by rw [IntKind.wrap_i64]; omega
 have hb : ¬ (i.bytes * m > 2 ^ 48) := by
  have : (m.toNat * i.bytes : Nat) = (m * i.bytes : Int) := by rw [Int.natCast_mul, Int.toNat_of_nonneg (by omega)]
  rw [Int.mul_comm]
  have h3 : ((m.toNat * i.bytes : Nat) : Int) <= 140737488355328 := by omega
  rw [this] at h3
  omega
 have hrun : (Instr.makeSlice t (.int k1 n) (.int k2 m)).run P w = .ok (.slice (some ⟨w.heap.size, 0, none⟩) n.toNat m.toNat) (w.alloc (.cells ((Array.range (m.toNat * z.cells.size)).map (z.cells[· % z.cells.size]!)) e)) := by
  have g1 : ¬ (m < 0) := by omega
  have g2 : ¬ (n < 0) := by omega
  have g3 : ¬ (n > m) := by omega
  have hroom : ¬ (m.toNat * i.bytes > roomBytes) := by simp only [roomBytes]; omega
  by_cases hz0 : m.toNat * i.size = 0
  ·have hm0 : m = 0 := by
    rcases Nat.mul_eq_zero.1 hz0 with h | h <;> omega
   have hn0 : n = 0 := by omega
   subst hm0
   subst hn0
   simp [Instr.makeSlice, run_underlying hu, asInt, asIntOf, typeInfo, hi, w1, askRoom, run_sizeOf hi, newRow, show Array.range 0 = (#[] : Array Nat) from rfl]
  ·simp [Instr.makeSlice, run_underlying hu, asInt, asIntOf, typeInfo, hi, w1, w2, g1, g2, g3, hb, askRoom, hroom, run_sizeOf hi, hz0, newRow, zeroValue, hz, z2]
   intro h
   exact absurd h (by omega)
 refine ⟨_, _, hrun, ?_⟩
 have E := Ext.new (w' := w.alloc (.cells ((Array.range (m.toNat * z.cells.size)).map (z.cells[· % z.cells.size]!)) e)) H [] (.slice (some ⟨w.heap.size, 0, none⟩) n.toNat m.toNat) rfl rfl rfl rfl
 refine ⟨_, _, E, ⟨_, _, _, AP _, rfl⟩, ?_⟩
 intro p hp
 simp only [List.mem_singleton] at hp
 subst hp
 refine ⟨_, AP _, ?_⟩
 have hy' : T.rep (AM [] ow) w z.cells.toList y := hy
 have hrow := Rows.rep (R := T.rep (AM [] ow) w) hy' n.toNat
 have hlr : (List.replicate n.toNat y).length = n.toNat := by simp
 have := Zs (nx := nx) (w' := w.alloc (.cells ((Array.range (m.toNat * z.cells.size)).map (z.cells[· % z.cells.size]!)) e)) rfl hrow (cap := m.toNat) (by rw [hlr]; omega) (by have := Ho; simp only [lim] at this; omega)
  (by simp [z1, z2]) (by
   rw [Kn, hlr, z1, <- z2]
   have e2 : m.toNat = n.toNat + (m.toNat - n.toNat) := by omega
   rw [e2, <- List.replicate_append_replicate, List.flatten_append, List.take_left']
   simp) (by rw [hlr]; simp only [lim]; omega)
 rwa [hlr] at this
end
end AL
end
section
set_option linter.unusedVariables false
set_option linter.unusedSimpArgs false
namespace AL
open Go
section
variable {φ : Hnd} {ow : Own} {w : World} {P : Program} {hp : Nat -> Chunk} {nx : Nat}
theorem Ext.write (H : Hyp hp nx φ ow w) (S : List Nat) {id g : Nat} (hg : ow g = some id) (hS : id ∉ S) (new : Array Value) :
  Ext (id :: S) nx φ ow w φ (AM S ow) (w.setRow g new) := by
 refine ⟨by simp, rfl, rfl, rfl, ?_, ?_, Aw.refl _, fun i hi => rfl⟩
 ·intro b hb h
  have hbg : b ≠ g := by
   intro e
   subst e
   exact h id hg (by simp)
  refine ⟨?_, setRow_other w g b new hbg⟩
  cases ho : ow b with
  | none => exact Ay.2 (.inl ho)
  | some i => exact Aj.2 ⟨ho, fun hi => h i ho (List.mem_cons_of_mem _ hi)⟩
 ·intro b i h
  have ho := (Aj.1 h).1
  exact ⟨by simpa using (H.own b i ho).1, .inr ⟨(H.own b i ho).1, ho⟩⟩
theorem NU (S : List Nat) {id g : Nat} (hg : ow g = some id) (hS : id ∉ S) (new : Array Value) : A8 (AM S ow) w (AM S ow) (w.setRow g new) := by
 refine ⟨by simp, fun b hb h => ⟨h, setRow_other w g b new ?_⟩⟩
 intro e
 subst e
 rw [Aj.2 ⟨hg, hS⟩] at h
 cases h
theorem F8 {t : TypeId} {i : TypeInfo} (hi : P.info? t = some i) {g o : Nat} {cur : Array Value} {e : TypeId} (hg : w.heap[g]? = some (.cells cur e (0, 0))) {v : Value} (hs : v.cells.size = i.size) (ho : o + v.cells.size <= cur.size)
  (h1 : ∀ u ∈ v.cells.toList, u.oneCell' = true) :
  (Instr.storeAt t (.pointer (some ⟨g, o, none⟩)) v).run P w = .ok () (w.setRow g (cur.toList.take o ++ v.cells.toList ++ cur.toList.drop (o + v.cells.toList.length)).toArray) := by
 have := run_storeCells_at P g o e v.cells.toList 0 cur w hg (by simpa using ho) h1
 simp only [Nat.add_zero] at this
 simp [Instr.storeAt, Instr.sureAddr, storeVar, run_sizeOf hi, hs, this]
theorem Am {x : Nat} : ∀ {l : List Nat}, BX x l = true ↔ x ∈ l
 | [] => by simp [BX]
 | y :: r => by
  simp only [BX, Bool.or_eq_true, List.mem_cons, Am (l := r)]
  constructor
  ·rintro (h | h)
   ·exact .inl (Nat.eq_of_beq_eq_true h)
   ·exact .inr h
  ·rintro (h | h)
   ·subst h; exact .inl (Nat.beq_refl _)
   ·exact .inr h
theorem AJc (A cs B vs : List Value) (off : Nat) (h : off + vs.length <= cs.length) :
  (A ++ cs ++ B).take (A.length + off) ++ vs ++ (A ++ cs ++ B).drop (A.length + off + vs.length) = A ++ (cs.take off ++ vs ++ cs.drop (off + vs.length)) ++ B := by
 have e1 : (A ++ cs ++ B).take (A.length + off) = A ++ cs.take off := by
  rw [List.append_assoc, List.take_append, List.take_of_length_le (by omega), Nat.add_sub_cancel_left, List.take_append, show off - cs.length = 0 from by omega]
  simp
 have e2 : (A ++ cs ++ B).drop (A.length + off + vs.length) = cs.drop (off + vs.length) ++ B := by
  rw [List.append_assoc, List.drop_append, List.drop_of_length_le (by omega), List.nil_append, Nat.add_assoc, Nat.add_sub_cancel_left, List.drop_append, show off + vs.length - cs.length = 0 from by omega]
  simp
 rw [e1, e2]
 simp [List.append_assoc]
theorem ADK {g o : Nat} {cs : List Value} {cur : Array Value} {e : TypeId} {fr : Nat × Nat} (h : Bp w g o cs) (hg : w.heap[g]? = some (.cells cur e fr)) : cs = (cur.toList.drop o).take cs.length := by
 apply List.ext_getElem?
 intro k
 rw [List.getElem?_take]
 split
 ·rename_i hk
  have := h k cs[k] (List.getElem?_eq_getElem hk)
  rw [cell_of_row w g (o + k) cur e fr hg] at this
  rw [List.getElem?_drop, List.getElem?_eq_getElem hk, <- this]
  simp
 ·rename_i hk
  exact List.getElem?_eq_none (by omega)
theorem Ui (H : Hyp hp nx φ ow w) {t : TypeId} {a x : AV} {va vx : Value} {out : Out} (hr : (Ja P t a x).run hp = some out) (ha : a.holds φ ow w [va]) (hx : x.holds φ ow w [vx]) :
  ∃ w', (Instr.storeAt t va vx).run P w = .ok () w' /\ Au out nx φ ow w undef w' := by
 unfold Ja at hr
 split at hr <;> try (simp [Req.run] at hr; done)
 rename_i i hi
 split at hr <;> try (simp [Req.run] at hr; done)
 rename_i hc
 obtain ⟨c1, c2, c3⟩ := hc
 obtain ⟨k1, k2⟩ := Hn hx c2 c3
 have hsz : vx.cells.size = i.size := by
  have := FV c3 k1
  simp only [Array.length_toList] at this
  omega
 split at hr <;> try (simp [Req.run] at hr; done)
 ·rename_i id off
  obtain ⟨g, hφ, e⟩ := ha
  injection e with e
  subst e
  simp only [Req.run] at hr
  have hch := H.chunk id
  generalize hp id = ch at hr hch
  cases ch <;> try (simp [Req.run] at hr; done)
  case box e cells =>
   obtain ⟨g', cs, hφ', h1, h2, h3⟩ := hch
   rw [hφ] at hφ'
   injection hφ' with hφ'; injection hφ' with hφ'; injection hφ' with hφ'; injection hφ' with hφ'
   subst hφ'
   simp only at hr
   split at hr <;> try (simp [Req.run] at hr; done)
   rename_i ho
   simp only [Req.run, Option.some.injEq] at hr
   subst hr
   have hlc := Kh h3
   simp only [Array.length_toList] at hlc
   refine ⟨_, F8 hi h2 hsz (by omega) k2, φ, _, Ext.write H [] h1 (by simp) _, rfl, ?_⟩
   intro p hp
   simp only [List.mem_singleton] at hp
   subst hp
   refine ⟨g, _, hφ, Aj.2 ⟨h1, by simp⟩, setRow_heap w g cs _ e _ h2, ?_⟩
   have hset := Dx off c3 ho k1 h3
   have E := Ext.write H [] h1 (by simp) (cs.toList.take off ++ vx.cells.toList ++ cs.toList.drop (off + vx.cells.toList.length)).toArray
   simpa using AV.Ab E.phi E.keep hset
 ·rename_i id sz ix off
  obtain ⟨g, n, c, hφ, h0, hlt, e⟩ := ha
  injection e with e
  subst e
  simp only [Req.run] at hr
  have hch := H.chunk id
  generalize hp id = ch at hr hch
  cases ch <;> try (simp [Req.run] at hr; done)
  case arr e T l =>
   simp only at hr
   split at hr <;> try (simp [Req.run] at hr; done)
   rename_i hz
   obtain ⟨z1, z2⟩ := hz
   subst z1
   obtain ⟨v', hv', hrow⟩ := hch
   rw [hφ] at hv'
   injection hv' with hv'
   subst hv'
   obtain ⟨hn, hl, cs, r1, r2⟩ := Ue hrow (j := ix.toNat) (by omega)
   rw [NS h0 hl] at hr
   have hcl := Ty.A6 r2
   have hset := Dx (φ := φ) off c3 (by rw [(DD T _).2]; exact z2) k1 (CM (φ := φ) r2)
   obtain ⟨y, c', u, cs1, cs2, e1, hc', hr1, hy, hs⟩ := Cc H T _ _ _ out hset hr
   split at hr1 <;> try (simp [Req.run] at hr1; done)
   rename_i hmem
   have hid : id ∉ ids u := fun h => hmem (Am.2 h)
   simp only [Req.run, Option.some.injEq] at hr1
   subst hr1
   obtain ⟨xs, q1, q2, q3, q4⟩ := (show _ from hrow)
   rcases q1.2 with ⟨h, _⟩ | ⟨g', cap, cur, he, hb0, hg, hle, hm, hcs, ht⟩
   ·cases h
   ·injection he with f1 f2 f3
    injection f1 with f1
    injection f1 with f1
    subst f1; subst f2; subst f3
    have hog : ow g = some id := q2 g rfl
    have hxl : vx.cells.toList.length = x.cells.len := (FV c3 k1).symm
    have hes : (ix.toNat + 1) * T.size <= cur.size := by
     rw [hcs]
     exact Nat.mul_le_mul_right _ (by omega)
    have hes' := hes
    rw [Nat.succ_mul] at hes
    have hrun := F8 (v := vx) (o := ix.toNat * T.size + off) hi hg hsz (by simp only [Array.length_toList] at hxl; omega) k2
    refine ⟨_, hrun, φ, _, Ext.write H (ids u) hog hid _, rfl, ?_⟩
    have K := NU (w := w) (ids u) hog hid (cur.toList.take (ix.toNat * T.size + off) ++ vx.cells.toList ++ cur.toList.drop (ix.toNat * T.size + off + vx.cells.toList.length)).toArray
    intro p hp
    rcases List.mem_cons.1 hp with rfl | hp
    ·refine ⟨_, hφ, ?_⟩
     have hcs1 : cs1.length = T.size := Ty.A6 hy
     have hset_len : (cs.take off ++ vx.cells.toList ++ cs.drop (off + vx.cells.toList.length)).length = T.size := by
      simp only [List.length_append, List.length_take, List.length_drop]
      omega
     have hcs2 : cs2 = [] := by
      have := congrArg List.length e1
      rw [hset_len, List.length_append, hcs1] at this
      exact List.eq_nil_of_length_eq_zero (by omega)
     subst hcs2
     rw [List.append_nil] at e1
     have hrows := Rows.set (fun cs x hr => Ty.A6 hr) (Rows.mono (fun cs x hr => Ty.AO (An (ids u)) hr) q4) hl hy
     -- the cells that lie there now
     have hcur : cur.toList = cur.toList.take (ix.toNat * T.size) ++ cs ++ cur.toList.drop ((ix.toNat + 1) * T.size) := by
      have hcse := ADK r1 hg
      rw [hcl] at hcse
      rw [hcse, List.append_assoc, Nat.succ_mul, <- List.drop_drop, List.take_append_drop, List.take_append_drop]
     have hA : (cur.toList.take (ix.toNat * T.size)).length = ix.toNat * T.size := by rw [List.length_take, Array.length_toList]; omega
     have hnew : (cur.toList.take (ix.toNat * T.size + off) ++ vx.cells.toList ++ cur.toList.drop (ix.toNat * T.size + off + vx.cells.toList.length)) =
       cur.toList.take (ix.toNat * T.size) ++ cs1 ++ cur.toList.drop ((ix.toNat + 1) * T.size) := by
      have := AJc (cur.toList.take (ix.toNat * T.size)) cs (cur.toList.drop ((ix.toNat + 1) * T.size)) vx.cells.toList off (by rw [hcl]; omega)
      rw [<- hcur, hA, e1] at this
      exact this
     refine ⟨xs.take (ix.toNat * T.size) ++ cs1 ++ xs.drop ((ix.toNat + 1) * T.size), ⟨?_, .inr ⟨g, c, _, ?_, hb0, setRow_heap w g cur _ e _ hg, ?_, hm, ?_, ?_⟩⟩, ?_, ?_, Rows.mono (fun cs x => Ty.AO K) hrows⟩
     ·rw [Rows.len (fun cs x hr => Ty.A6 hr) hrows]
     ·rw [List.length_set]
     ·rw [List.length_set]; exact hle
     ·rw [<- hcs]
      have := congrArg List.length hnew
      rw [List.size_toArray, this, List.length_append, List.length_append, hA, hcs1, List.length_drop, Array.length_toList]
      have h9 : (ix.toNat + 1) * T.size = ix.toNat * T.size + T.size := Nat.succ_mul _ _
      omega
     ·rw [List.length_set, List.toList_toArray, hnew, <- ht]
      have hle2 : (ix.toNat + 1) * T.size <= l.length * T.size := Nat.mul_le_mul_right _ (by omega)
      rw [Nat.succ_mul] at hle2
      rw [List.take_take, List.drop_take, Nat.min_eq_left (by omega), List.take_append, List.take_append, List.take_take, hA, Nat.min_eq_right (by omega), List.take_of_length_le (i := l.length * T.size - ix.toNat * T.size) (by rw [hcs1]; omega)]
      congr 2
      rw [List.length_append, hA, hcs1, Nat.succ_mul]
     ·intro g' hg'
      simp only [Value.ownBlock, Option.some.injEq] at hg'
      subst hg'
      exact Aj.2 ⟨hog, hid⟩
     ·rw [List.length_set]; exact q3
    ·exact A3.post (S := ids u) (fun i hi => hi) (Aw.refl φ) K hs p hp
def NV (w : World) (v : Value) (m : Nat) (xs : List Value) : Prop :=
 ∃ A c, v = .slice A m c /\ (m = 0 \/ ∃ g o, A = some ⟨g, o, none⟩ /\ Bp w g o xs)
theorem Rs {T : Ty} {v : Value} {l : List T.den} {o : Own} (h : (Ty.sl T).rep o w [v] l) : ∃ xs, NV w v l.length xs /\ Rows (T.rep o w) xs l := by
 obtain ⟨A, c, e, h1, h2, h3, h4⟩ := h
 injection e with e _
 subst e
 rcases h4 with h4 | ⟨g, o, xs, rfl, _, _, h5, h6⟩
 ·subst h4; exact ⟨[], ⟨A, c, rfl, .inl rfl⟩, rfl⟩
 ·exact ⟨xs, ⟨_, c, rfl, .inr ⟨g, o, rfl, h5⟩⟩, h6⟩
theorem Zt {id : Nat} {v : Value} {e : TypeId} {T : Ty} {l : List T.den} (h : EJ ow w id v e T l) : ∃ xs, NV w v l.length xs /\ Rows (T.rep ow w) xs l := by
 obtain ⟨xs, h1, h2, h3, h4⟩ := h
 rcases h1.2 with ⟨rfl, hn⟩ | ⟨g, cap, cur, rfl, hb0, hg, hle, hm, hs, ht⟩
 ·exact ⟨xs, ⟨none, 0, by rw [hn], .inl hn⟩, h4⟩
 ·refine ⟨xs, ⟨_, cap, rfl, .inr ⟨g, 0, rfl, ?_⟩⟩, h4⟩
  intro k u hu
  rw [Nat.zero_add, cell_of_row w g k cur e (0, 0) hg]
  have := take_getElem? ht hu
  simpa using this
theorem QL {T : Ty} {A X : Option Addr} {n c : Nat} {l : List T.den} {xs : List Value} {o : Own} (h : NV w (.slice A n c) l.length xs) (hn : n = l.length) (hrow : Rows (T.rep o w) xs l) {a b : Nat} (hab : a <= b) (hb : b <= n) {sz : Nat} (hs : T.size = sz)
  (hX : a = b \/ X = A.map (·.add (a * sz))) : ∃ ys, NV w (.slice X (b - a) (c - a)) ((l.take b).drop a).length ys /\ Rows (T.rep o w) ys ((l.take b).drop a) := by
 have hl : ((l.take b).drop a).length = b - a := by rw [List.length_drop, List.length_take]; omega
 have hnn : ∀ cs x, Ty.rep o w T cs x -> cs.length = sz := fun cs x hr => by rw [Ty.A6 hr, hs]
 refine ⟨(xs.take (b * sz)).drop (a * sz), ⟨X, c - a, by rw [hl], ?_⟩, Rows.Zn hnn (Rows.ND hnn hrow b) a⟩
 rcases hX with h0 | rfl
 ·left; omega
 ·obtain ⟨A', c', e, h5⟩ := h
  injection e with e1 e2 e3
  subst e1
  rcases h5 with h5 | ⟨g, o', rfl, h5⟩
  ·left; omega
  ·right
   refine ⟨g, o' + a * sz, ?_, Cd (Ei h5 _) _⟩
   unfold Addr.add
   by_cases hz0 : a * sz = 0 <;> simp [hz0]
theorem Jf (H : Hyp hp nx φ ow w) {T : Ty} {x : AV} {v : Value} {k : List T.den -> Upd -> Req} {out : Out} (hr : (Ua T x k).run hp = some out) (hx : x.holds φ ow w [v]) :
  ∃ ys u xs, (k ys u).run hp = some out /\ NV w v ys.length xs /\ Rows (T.rep (AM (ids u) ow) w) xs ys /\ A3 φ (AM (ids u) ow) w u := by
 have sk : ∀ {xs : List Value} {l : List T.den}, Rows (T.rep ow w) xs l -> Rows (T.rep (AM (ids []) ow) w) xs l := fun h => Rows.mono (fun _ _ => Ty.AO (An _)) h
 have sn : A3 φ (AM (ids []) ow) w [] := fun p hp => by cases hp
 unfold Ua at hr
 split at hr <;> try (simp [Req.run] at hr; done)
 ·injection hx with hx
  subst hx
  exact ⟨[], [], [], hr, ⟨none, 0, rfl, .inl rfl⟩, rfl, sn⟩
 ·split at hr <;> try (simp [Req.run] at hr; done)
  rename_i h
  obtain ⟨_, _, hrep⟩ := hx
  subst h
  obtain ⟨xs, h1, h2⟩ := Rs hrep
  exact ⟨_, [], xs, hr, h1, sk h2, sn⟩
 ·rename_i id
  obtain ⟨A, n', c, hφ, e'⟩ := hx
  injection e' with e'
  subst e'
  simp only [Req.run] at hr
  have hch := H.chunk id
  generalize hp id = ch at hr hch
  cases ch <;> try (simp [Req.run] at hr; done)
  case arr e2 T' l =>
   simp only at hr
   split at hr <;> try (simp [Req.run] at hr; done)
   rename_i h
   subst h
   obtain ⟨v', hv', hrow⟩ := hch
   rw [hφ] at hv'
   injection hv' with hv'
   subst hv'
   obtain ⟨xs, h1, h2⟩ := Zt hrow
   exact ⟨_, [], xs, hr, h1, sk h2, sn⟩
  case sld T' l =>
   simp only at hr
   split at hr <;> try (simp [Req.run] at hr; done)
   rename_i h
   subst h
   obtain ⟨v', hv', hrep⟩ := hch
   rw [hφ] at hv'
   injection hv' with hv'
   subst hv'
   obtain ⟨xs, h1, h2⟩ := Rs hrep
   exact ⟨_, [], xs, hr, h1, sk h2, sn⟩
  case lit e n cells =>
   obtain ⟨g, cs, hφ', g1, g2, g3, g4⟩ := hch
   rw [hφ] at hφ'
   injection hφ' with hφ'
   obtain ⟨rfl, rfl, rfl⟩ : some (⟨g, 0, none⟩ : Addr) = A /\ n = n' /\ n = c := by
    injection hφ' with e1 e2 e3
    exact ⟨e1.symm, e2.symm, e3.symm⟩
   obtain ⟨xs, c2, u2, cs2, r2, e2, h2', hr2, ⟨hl, hrow⟩, s2⟩ := Mu (R := fun o cs x => T.rep o w cs x) (fun S S' cs x h hr => Bx h hr) (Cc H T) n cells _ _ out g4 hr
   cases c2 <;> try (simp [Req.run] at hr2; done)
   have hr0 : r2 = [] := h2'
   subst hr0
   rw [List.append_nil] at e2
   refine ⟨xs, u2, cs2, hr2, ⟨_, n, by rw [hl], .inr ⟨g, 0, rfl, ?_⟩⟩, hrow, s2⟩
   rw [<- e2]
   exact FD g2
 ·rename_i id sz lo hi
  obtain ⟨A, n', c, X, hφ, q1, q2, q3, q4, q5, e'⟩ := hx
  injection e' with e'
  subst e'
  simp only [Req.run] at hr
  have hch := H.chunk id
  generalize hp id = ch at hr hch
  cases ch <;> try (simp [Req.run] at hr; done)
  case arr e2 T' l =>
   simp only at hr
   split at hr <;> try (simp [Req.run] at hr; done)
   rename_i h
   subst h
   split at hr <;> try (simp [Req.run] at hr; done)
   rename_i hz
   obtain ⟨v', hv', hrow⟩ := hch
   rw [hφ] at hv'
   injection hv' with hv'
   subst hv'
   obtain ⟨xs, h1, h2⟩ := Zt hrow
   have hn : n' = l.length := by obtain ⟨_, _, e, _⟩ := h1; injection e
   obtain ⟨ys, h3, h4⟩ := QL h1 hn h2 (a := lo.toNat) (b := hi.toNat) (X := X) (by omega) (by omega) hz (q5.imp (fun h => by rw [h.1]) (fun h => h))
   exact ⟨_, [], ys, hr, h3, sk h4, sn⟩
  case sld T' l =>
   simp only at hr
   split at hr <;> try (simp [Req.run] at hr; done)
   rename_i h
   subst h
   split at hr <;> try (simp [Req.run] at hr; done)
   rename_i hz
   obtain ⟨v', hv', hrep⟩ := hch
   rw [hφ] at hv'
   injection hv' with hv'
   subst hv'
   obtain ⟨xs, h1, h2⟩ := Rs hrep
   have hn : n' = l.length := by obtain ⟨_, _, e, _⟩ := h1; injection e
   obtain ⟨ys, h3, h4⟩ := QL h1 hn h2 (a := lo.toNat) (b := hi.toNat) (X := X) (by omega) (by omega) hz (q5.imp (fun h => by rw [h.1]) (fun h => h))
   exact ⟨_, [], ys, hr, h3, sk h4, sn⟩
theorem FY (H : Hyp hp nx φ ow w) {e : TypeId} {T : Ty} {s : AV} {v : Value} {k : List T.den -> List Nat -> Upd -> Req} {out : Out} (hr : (IB e T s k).run hp = some out) (hx : s.holds φ ow w [v]) :
  ∃ l d u xs, (k l d u).run hp = some out /\ w.ownsRow 0 e T.size v l.length xs /\ (∀ g, v.ownBlock = some g -> ∃ i ∈ d, ow g = some i) /\ Rows (T.rep (AM (ids u) ow) w) xs l /\ A3 φ (AM (ids u) ow) w u /\ l.length <= lim := by
 have sk : ∀ {xs : List Value} {l : List T.den}, Rows (T.rep ow w) xs l -> Rows (T.rep (AM (ids []) ow) w) xs l := fun h => Rows.mono (fun _ _ => Ty.AO (An _)) h
 have sn : A3 φ (AM (ids []) ow) w [] := fun p hp => by cases hp
 unfold IB at hr
 split at hr <;> try (simp [Req.run] at hr; done)
 ·injection hx with hx
  subst hx
  exact ⟨[], [], [], [], hr, World.ownsRow_nil w 0 e T.size, by simp [Value.ownBlock], rfl, sn, Nat.zero_le _⟩
 ·rename_i id
  obtain ⟨A, n', c, hφ, e'⟩ := hx
  injection e' with e'
  subst e'
  simp only [Req.run] at hr
  have hch := H.chunk id
  generalize hp id = ch at hr hch
  cases ch <;> try (simp [Req.run] at hr; done)
  case arr e2 T' l =>
   simp only at hr
   split at hr <;> try (simp [Req.run] at hr; done)
   rename_i h
   subst h
   split at hr <;> try (simp [Req.run] at hr; done)
   rename_i he
   subst he
   obtain ⟨v', hv', xs, h1, h2, h3, h4⟩ := hch
   rw [hφ] at hv'
   injection hv' with hv'
   subst hv'
   exact ⟨_, _, _, xs, hr, h1, fun g hg => ⟨id, by simp, h2 g hg⟩, sk h4, sn, h3⟩
  case lit e2 n cells =>
   simp only at hr
   split at hr <;> try (simp [Req.run] at hr; done)
   rename_i he
   subst he
   obtain ⟨g, cs, hφ', g1, g2, g3, g4⟩ := hch
   rw [hφ] at hφ'
   injection hφ' with hφ'
   obtain ⟨rfl, rfl, rfl⟩ : some (⟨g, 0, none⟩ : Addr) = A /\ n = n' /\ n = c := by
    injection hφ' with e1 e2 e3
    exact ⟨e1.symm, e2.symm, e3.symm⟩
   obtain ⟨xs, c2, u2, cs2, r2, e2', h2', hr2, ⟨hl, hrow⟩, s2⟩ := Mu (R := fun o cs x => T.rep o w cs x) (fun S S' cs x h hr => Bx h hr) (Cc H T) n cells _ _ out g4 hr
   cases c2 <;> try (simp [Req.run] at hr2; done)
   have hr0 : r2 = [] := h2'
   subst hr0
   rw [List.append_nil] at e2'
   have hlen := Rows.len (fun cs x hr => Ty.A6 hr) hrow
   refine ⟨xs, _, _, cs2, hr2, ⟨hlen, .inr ⟨g, n, cs, by rw [hl], Nat.zero_le _, g2, by omega, by have := Ho; omega, ?_, ?_⟩⟩, ?_, hrow, s2, by rw [hl]; exact g3⟩
   ·rw [<- Array.length_toList, e2', hlen, hl]
   ·rw [e2', List.take_of_length_le (by rw [hlen]; exact Nat.le_refl _)]
   ·intro g' hg'
    simp only [Value.ownBlock, Option.some.injEq] at hg'
    subst hg'
    exact ⟨id, by simp, g1⟩
 ·rename_i id sz lo hi
  obtain ⟨A, n', c, X, hφ, q1, q2, q3, q4, q5, e'⟩ := hx
  injection e' with e'
  subst e'
  split at hr <;> try (simp [Req.run] at hr; done)
  rename_i hlo
  subst hlo
  simp only [Req.run] at hr
  have hch := H.chunk id
  generalize hp id = ch at hr hch
  cases ch <;> try (simp [Req.run] at hr; done)
  case arr e2 T' l =>
   simp only at hr
   split at hr <;> try (simp [Req.run] at hr; done)
   rename_i h
   subst h
   split at hr <;> try (simp [Req.run] at hr; done)
   rename_i he
   obtain ⟨rfl, hz⟩ := he
   obtain ⟨v', hv', xs, h1, h2, h3, h4⟩ := hch
   rw [hφ] at hv'
   injection hv' with hv'
   subst hv'
   obtain rfl : X = A := by
    rcases q5 with h | h
    ·omega
    ·rw [h]; cases A <;> simp [Addr.add]
   have hnn : ∀ cs x, Ty.rep ow w T' cs x -> cs.length = T'.size := fun cs x hr => Ty.A6 hr
   have hn : n' = l.length := by
    rcases h1.2 with ⟨h, hn⟩ | ⟨g', cap, cur, he, _⟩
    ·injection h with _ h _; omega
    ·injection he
   have hl : (l.take hi.toNat).length = hi.toNat := by rw [List.length_take]; omega
   refine ⟨l.take hi.toNat, [id], [], xs.take (hi.toNat * T'.size), hr, ⟨?_, ?_⟩, ?_, sk (Rows.ND hnn h4 _), sn, by rw [List.length_take]; have h3' : l.length <= lim := h3; omega⟩
   ·exact Rows.len hnn (Rows.ND hnn h4 _)
   ·rcases h1.2 with ⟨h, h0⟩ | ⟨g', cap, cur, he, hb0, hg, hle, hm, hs, ht⟩
    ·left
     injection h with h5 h6 h7
     subst h5; subst h6; subst h7
     have : hi = 0 := by omega
     subst this
     exact ⟨rfl, by simp⟩
    ·right
     injection he with f1 f2 f3
     subst f1; subst f3
     refine ⟨g', c, cur, ?_, hb0, hg, by omega, hm, hs, ?_⟩
     ·rw [hl]; simp
     ·rw [hl, <- ht, List.take_take, Nat.min_eq_left]
      exact Nat.mul_le_mul_right _ (by omega)
   ·intro g hg
    refine ⟨id, by simp, h2 g ?_⟩
    cases X with
    | none => simp [Value.ownBlock] at hg
    | some ad => simpa [Value.ownBlock] using hg
end
end AL
end
section
set_option linter.unusedVariables false
set_option linter.unusedSimpArgs false
namespace AL
open Go
section
variable {φ : Hnd} {ow : Own} {w : World} {P : Program} {hp : Nat -> Chunk} {nx : Nat}
theorem Dy {x : Nat} : ∀ {a b : List Nat}, Bn a b = false -> x ∈ a -> x ∉ b
 | [], _, _, h => by cases h
 | y :: r, b, h, hx => by
  simp only [Bn, Bool.or_eq_false_iff] at h
  rcases List.mem_cons.1 hx with rfl | hx
  ·intro hb
   rw [Am.2 hb] at h
   cases h.1
  ·exact Dy h.2 hx
theorem Gx {t ty e : TypeId} {i : TypeInfo} {z : Value} (ht : P.underlying t = some (.slice e)) (hi : P.info? e = some i) (hz : i.zero = some z) (hzs : z.cells.size = i.size) (hsz : 0 < i.size)
  {v vx : Value} {n m : Nat} {xs ys : List Value} (hown : w.ownsRow 0 e i.size v n xs) (hsrc : NV w vx m ys) (hl : ys.length = m * i.size) (h1 : ∀ u ∈ ys, u.oneCell' = true)
  (h63 : n + m <= maxLen) (hbytes : (n + m) * i.bytes <= 140737488355328) :
  ∃ v' w', (Builtin.append_ #[t, t] ty #[v, vx]).run P w = .ok v' w' /\ w'.ownsRow 0 e i.size v' (n + m) (xs ++ ys) /\ w.grownBy w' v.ownBlock /\ (v'.ownBlock = v.ownBlock \/ v'.ownBlock = some w.heap.size) := by
 obtain ⟨A, c, rfl, hA⟩ := hsrc
 have nilcase : m = 0 -> A = none -> ∃ v' w', (Builtin.append_ #[t, t] ty #[v, .slice A m c]).run P w = .ok v' w' /\ w'.ownsRow 0 e i.size v' (n + m) (xs ++ ys) /\ w.grownBy w' v.ownBlock /\ (v'.ownBlock = v.ownBlock \/ v'.ownBlock = some w.heap.size) := by
  intro hm hAn
  subst hm; subst hAn
  have hy : ys = [] := List.eq_nil_of_length_eq_zero (by simpa using hl)
  subst hy
  refine ⟨v, w, ?_, by simpa using hown, World.grownBy.refl w _, .inl rfl⟩
  rcases hown.2 with ⟨rfl, rfl⟩ | ⟨g, cap, cur, rfl, _, _, hnc, _⟩
  ·simp [Builtin.append_, run_underlying ht, Go.sizeOf, typeInfo, hi, Builtin.lenOf, Builtin.firstCells]
  ·simp [Builtin.append_, run_underlying ht, Go.sizeOf, typeInfo, hi, Builtin.lenOf, Builtin.firstCells, hnc, storeCells]
 rcases A with _ | ad
 ·rcases hA with h0 | ⟨g, o, e, _⟩
  ·exact nilcase h0 rfl
  ·cases e
 ·have hcells : ∀ j u, ys[j]? = some u -> w.cell? (ad.add j) = some u := by
   rcases hA with h0 | ⟨g, o, e, hrd⟩
   ·intro j u hu
    subst h0
    have hy : ys = [] := List.eq_nil_of_length_eq_zero (by simpa using hl)
    subst hy
    simp at hu
   ·injection e with e
    subst e
    intro j u hu
    rw [add_lit]
    exact hrd j u hu
  obtain ⟨v1, w1, hr, h2, h3, _, h5⟩ := run_append_own_at (P := P) w 0 t ty e i z i.size i.bytes ht hi hz rfl rfl hzs hsz v n xs hown ad m c ys hl hcells h1 h63 hbytes (Nat.zero_le _)
  exact ⟨v1, w1, hr, h2, h3, h5⟩
def CY (ow : Own) (nx : Nat) : Option Nat -> Own
 | some b => BJ ow b nx
 | none => ow
theorem AA4 (H : Hyp hp nx φ ow w) {t t2 ty : TypeId} {s x : AV} {vs vx : Value} {out : Out} (hr : (FR P t t2 s x nx).run hp = some out) (hs : s.holds φ ow w [vs]) (hx : x.holds φ ow w [vx]) (hobl : ∀ p ∈ out.Bu, p) :
  ∃ u w', (Builtin.append_ #[t, t2] ty #[vs, vx]).run P w = .ok u w' /\ Au out nx φ ow w u w' := by
 unfold FR at hr
 split at hr <;> try (simp [Req.run] at hr; done)
 rename_i e hu
 split at hr <;> try (simp [Req.run] at hr; done)
 rename_i i T hi hT
 split at hr <;> try (simp [Req.run] at hr; done)
 rename_i z hz
 split at hr <;> try (simp [Req.run] at hr; done)
 rename_i hc
 obtain ⟨rfl, c2, c3, c4⟩ := hc
 obtain ⟨l, d, u1, xs, hr1, hown, hd, hrow, hs1, _⟩ := FY H hr hs
 obtain ⟨ys, u2, zs, hr2, hsrc, hrow2, hs2⟩ := Jf H hr1 hx
 split at hr2 <;> try (simp [Req.run] at hr2; done)
 rename_i hmeet
 simp only [Req.run, Option.some.injEq] at hr2
 subst hr2
 have hmeet : Bn d (ids (u1 ++ u2)) = false := by simpa [ids] using hmeet
 simp only [List.mem_cons, List.not_mem_nil, or_false, forall_eq_or_imp, forall_eq] at hobl
 obtain ⟨o1, o2⟩ := hobl
 rw [c2] at hown
 have hzl : zs.length = ys.length * i.size := Rows.len (fun cs x hr => by rw [Ty.A6 hr, c2]) hrow2
 obtain ⟨v', w', hrun, hown', hgrow, hat⟩ := Gx (ty := ty) hu hi hz c3 c4 hown hsrc hzl (Rows.all (p := fun v => v.oneCell' = true) (fun cs x hr => Ty.Fz hr) hrow2) (by have := Ho; omega) o1
 refine ⟨v', w', hrun, BG φ nx v', CY (AM (d ++ ids (u1 ++ u2)) ow) nx v'.ownBlock, ?_, ?_, ?_⟩
 ·-- Ext
  have hX : ids ((nx, Chunk.arr e T (l ++ ys)) :: (d.map (fun i => (i, Chunk.none)) ++ (u1 ++ u2))) = nx :: (d ++ ids (u1 ++ u2)) := by simp [ids, Function.comp_def]
  show Ext (ids ((nx, Chunk.arr e T (l ++ ys)) :: (d.map (fun i => (i, Chunk.none)) ++ (u1 ++ u2)))) nx φ ow w _ _ w'
  rw [hX]
  have far : ∀ b, b < w.heap.size -> (∀ id, ow b = some id -> id ∉ nx :: (d ++ ids (u1 ++ u2))) -> some b ≠ vs.ownBlock /\ v'.ownBlock ≠ some b := by
   intro b hb h
   have h1 : some b ≠ vs.ownBlock := by
    intro e
    obtain ⟨j, hj, hj2⟩ := hd b e.symm
    exact h j hj2 (by simp [hj])
   refine ⟨h1, ?_⟩
   rcases hat with h | h
   ·rw [h]; exact fun e => h1 e.symm
   ·rw [h]; intro e; injection e with e; omega
  refine ⟨hgrow.size, hgrow.os, hgrow.tape, hgrow.output, ?_, ?_, BI H v', ?_⟩
  ·intro b hb h
   obtain ⟨f1, f2⟩ := far b hb h
   refine ⟨?_, hgrow.block b hb f1⟩
   have : AM (d ++ ids (u1 ++ u2)) ow b = ow b := by
    cases ho : ow b with
    | none => exact Ay.2 (.inl ho)
    | some j => exact Aj.2 ⟨ho, fun hi => h j ho (List.mem_cons_of_mem _ hi)⟩
   cases ho : v'.ownBlock with
   | none => exact this
   | some g =>
    show BJ _ g nx b = _
    unfold BJ
    rw [if_neg (fun e => f2 (by rw [ho, e])), this]
  ·intro b id h
   have lift : AM (d ++ ids (u1 ++ u2)) ow b = some id -> b < w'.heap.size /\ ((id ∈ nx :: (d ++ ids (u1 ++ u2)) \/ nx <= id /\ id < nx + 64) \/ b < w.heap.size /\ ow b = some id) := by
    intro h
    have ho := (Aj.1 h).1
    have := (H.own b id ho).1
    have := hgrow.size
    exact ⟨by omega, .inr ⟨by omega, ho⟩⟩
   cases ho : v'.ownBlock with
   | none => rw [ho] at h; exact lift h
   | some g =>
    rw [ho] at h
    change BJ _ g nx b = _ at h
    unfold BJ at h
    split at h
    ·rename_i e
     injection h with h
     subst h; subst e
     exact ⟨(hown'.lt _ ho).2, .inl (.inl (by simp))⟩
    ·exact lift h
  ·intro id hid
   unfold BG
   rw [if_neg (by omega)]
 ·-- the result
  have hsl : ∃ A n c, v' = .slice A n c := by
   rcases hown'.2 with ⟨h, _⟩ | ⟨g, cap, cur, h, _⟩
   ·exact ⟨_, _, _, h⟩
   ·exact ⟨_, _, _, h⟩
  obtain ⟨A, n, c, rfl⟩ := hsl
  exact ⟨A, n, c, AP _, rfl⟩
 ·have K : A8 (AM (ids (u1 ++ u2)) ow) w (CY (AM (d ++ ids (u1 ++ u2)) ow) nx v'.ownBlock) w' := by
   refine ⟨hgrow.size, fun b hb h => ?_⟩
   have h1 : some b ≠ vs.ownBlock := by
    intro e
    obtain ⟨j, hj, hj2⟩ := hd b e.symm
    rw [Aj.2 ⟨hj2, Dy hmeet hj⟩] at h
    cases h
   refine ⟨?_, hgrow.block b hb h1⟩
   have h2 : AM (d ++ ids (u1 ++ u2)) ow b = none := Ay.2 ((Ay.1 h).imp (fun h => h) fun ⟨j, hj, e⟩ => ⟨j, List.mem_append_right _ hj, e⟩)
   cases ho : v'.ownBlock with
   | none => exact h2
   | some g =>
    show BJ _ g nx b = _
    unfold BJ
    rw [if_neg, h2]
    intro e
    subst e
    rcases hat with h | h
    ·exact h1 (by rw [<- h, ho])
    ·rw [ho] at h; injection h with h; omega
  intro p hp
  rcases List.mem_cons.1 hp with rfl | hp
  ·refine ⟨v', AP _, xs ++ zs, ?_, ?_, ?_, ?_⟩
   ·rw [c2, List.length_append]; exact hown'
   ·intro g hg
    rw [hg]
    simp [CY, BJ]
   ·rw [List.length_append]; exact o2
   ·exact Rows.mono (fun cs x => Ty.AO K) (Rows.app (Ki (NQ _ _) hrow) (Ki (NR _ _) hrow2))
  ·rcases List.mem_append.1 hp with hp | hp
   ·obtain ⟨j, _, rfl⟩ := List.mem_map.1 hp
    trivial
   ·have hs12 : A3 φ (AM (ids (u1 ++ u2)) ow) w (u1 ++ u2) := by
     intro p hp
     rcases List.mem_append.1 hp with hp | hp
     ·exact A3.mono (Ag (NQ _ _)) hs1 p hp
     ·exact A3.mono (Ag (NR _ _)) hs2 p hp
    rcases hs12 p hp with e' | ⟨t', l', e', v0, f1, f2⟩
    ·rw [e']; trivial
    ·rw [e']
     exact ⟨v0, BI H v' _ _ f1, Ty.AO K f2⟩
end
end AL
end
section
set_option linter.unusedVariables false
set_option linter.unusedSimpArgs false
namespace AL
open Go
section
variable {φ : Hnd} {ow : Own} {w : World} {P : Program} {hp : Nat -> Chunk} {nx : Nat}
def Al (d : List Nat) (id : Nat) (ow : Own) : Own := fun b => match ow b with
 | some i => if i ∈ d then some id else some i
 | Option.none => Option.none
theorem CJ {d : List Nat} {id b : Nat} : Al d id ow b = Option.none ↔ ow b = Option.none := by
 unfold Al
 cases ow b with
 | none => simp
 | some i => by_cases h : i ∈ d <;> simp [h]
theorem Ko {d : List Nat} {id b i : Nat} (h : ow b = some i) (hi : i ∈ d) : Al d id ow b = some id := by
 unfold Al
 rw [h]
 simp [hi]
theorem CA {d : List Nat} {id b i : Nat} (h : ow b = some i) (hi : i ∉ d) : Al d id ow b = some i := by
 unfold Al
 rw [h]
 simp [hi]
theorem Ce {d : List Nat} {id b i : Nat} (h : Al d id ow b = some i) : (ow b = some i /\ i ∉ d) \/ (i = id /\ ∃ j ∈ d, ow b = some j) := by
 unfold Al at h
 cases ho : ow b with
 | none => rw [ho] at h; cases h
 | some j =>
  rw [ho] at h
  simp only at h
  by_cases hj : j ∈ d
  ·rw [if_pos hj] at h
   injection h with h
   exact .inr ⟨h.symm, j, hj, rfl⟩
  ·rw [if_neg hj] at h
   injection h with h
   subst h
   exact .inl ⟨rfl, hj⟩
theorem Hp (d : List Nat) (id : Nat) : A8 ow w (Al d id ow) w := ⟨Nat.le_refl _, fun b _ h => ⟨CJ.2 h, rfl⟩⟩
theorem FZ {ow' : Own} {id id' : Nat} {v : Value} {e : TypeId} {T : Ty} {l : List T.den} (hk : A8 ow w ow' w) (hb : ∀ b, v.ownBlock = some b -> ow' b = some id') (h : EJ ow w id v e T l) : EJ ow' w id' v e T l := by
 obtain ⟨xs, h1, h2, h3, h4⟩ := h
 exact ⟨xs, h1, hb, h3, Rows.mono (fun _ _ => Ty.AO hk) h4⟩
theorem Lv {hs : List (Int × Nat)} {j : Nat} : BV hs j = Option.none ↔ ∀ p ∈ hs, p.1 ≠ (j : Int) := by
 induction hs with
 | nil => simp [BV]
 | cons p r ih =>
  obtain ⟨i, k⟩ := p
  unfold BV
  by_cases h : i = (j : Int)
  ·simp [h]
  ·simp [h, ih]
theorem Dm : ∀ {l : List Nat}, FM l = true ↔ l.Nodup
 | [] => by simp [FM]
 | x :: r => by
  simp only [FM, Bool.and_eq_true, Bool.not_eq_true', List.nodup_cons, Dm (l := r)]
  constructor
  ·rintro ⟨h1, h2⟩
   exact ⟨fun h => (by rw [Am.2 h] at h1; cases h1), h2⟩
  ·rintro ⟨h1, h2⟩
   refine ⟨?_, h2⟩
   cases hm : BX x r with
   | false => rfl
   | true => exact absurd (Am.1 hm) h1
theorem AA5 {id j : Nat} {pos : Nat -> Nat} {e' : TypeId} {T : Ty} {l : List (List T.den)} {i : Int} {hs : List (Int × Nat)} {xs : List Value} {h : Value} {x : List T.den}
  (hsub : KW φ ow w id pos e' T l ((i, j) :: hs) xs) (hφ : φ j = some h) (hrow : EJ ow w j h e' T x) (hij : j ≠ id) :
  ∃ pos', (∀ b, ow b = some id -> pos' b = pos b) /\ KW φ (Al [j] id ow) w id pos' e' T (l.set i.toNat x) hs xs := by
 obtain ⟨h1, h2, h3, h4⟩ := hsub
 have hi0 : 0 <= i := h2 (i, j) (by simp)
 simp only [List.map_cons, List.nodup_cons] at h3
 refine ⟨fun b => if h.ownBlock = some b then i.toNat + 1 else pos b, ?_, ?_, fun p hp => h2 p (List.mem_cons_of_mem _ hp), h3.2, ?_⟩
 ·intro b hb
  show (if h.ownBlock = some b then i.toNat + 1 else pos b) = pos b
  rw [if_neg]
  intro e
  rw [hrow.choose_spec.2.1 b e] at hb
  injection hb with hb
  exact hij hb
 ·rw [List.length_set]; exact h1
 ·intro q u hu
  have hq : q < l.length := by
   rw [<- h1]
   exact (List.getElem?_eq_some_iff.1 hu).1
  have h5 := h4 q u hu
  unfold BV at h5
  by_cases hqi : i = (q : Int)
  ·rw [if_pos hqi] at h5
   simp only at h5
   rw [hφ] at h5
   injection h5 with h5
   subst h5
   have hn : BV hs q = Option.none := Lv.2 fun p hp e => h3.1 (List.mem_map.2 ⟨p, hp, by rw [hqi]; exact e⟩)
   rw [hn]
   have hqn : i.toNat = q := by omega
   refine ⟨?_, fun b hb => by simp [hb, hqn]⟩
   rw [hqn]
   have : (l.set q x).getD q [] = x := by simp [hq]
   rw [this]
   exact FZ (Hp _ _) (fun b hb => Ko (hrow.choose_spec.2.1 b hb) (by simp)) hrow
  ·rw [if_neg hqi] at h5
   have hqn : i.toNat ≠ q := by omega
   cases hh : BV hs q with
   | some k => rw [hh] at h5; exact h5
   | none =>
    rw [hh] at h5
    simp only at h5 ⊢
    obtain ⟨h6, h7⟩ := h5
    have hown := h6.choose_spec.2.1
    refine ⟨?_, fun b hb => ?_⟩
    ·have : (l.set i.toNat x).getD q [] = l.getD q [] := by simp [List.getElem?_set, hqn]
     rw [this]
     exact FZ (Hp _ _) (fun b hb => CA (hown b hb) (by simpa using Ne.symm hij)) h6
    ·show (if h.ownBlock = some b then i.toNat + 1 else pos b) = q + 1
     rw [if_neg]
     ·exact h7 b hb
     ·intro e
      have k1 := hrow.choose_spec.2.1 b e
      rw [hown b hb] at k1
      injection k1 with k1
      exact hij k1.symm
theorem Uj {j id : Nat} {r : List Nat} (h : id ∉ r) : Al (j :: r) id ow = Al r id (Al [j] id ow) := by
 funext b
 unfold Al
 cases ow b with
 | none => rfl
 | some i =>
  by_cases h1 : i = j
  ·subst h1
   simp [h]
  ·by_cases h2 : i ∈ r <;> simp [h1, h2]
theorem Ie {id : Nat} {e' : TypeId} {T : Ty} {out : Out} : ∀ (hs : List (Int × Nat)) (l : List (List T.den)) (k : List (List T.den) -> List Nat -> Req), (EK e' T hs l k).run hp = some out ->
  ∃ l', (k l' (hs.map (·.2))).run hp = some out /\ l'.length = l.length /\
   ∀ (ow : Own) (pos : Nat -> Nat) (xs : List Value), (∀ p ∈ hs, cH φ ow w p.2 (hp p.2)) -> (hs.map (·.2)).Nodup -> id ∉ hs.map (·.2) -> KW φ ow w id pos e' T l hs xs ->
    ∃ pos', (∀ b, ow b = some id -> pos' b = pos b) /\ KW φ (Al (hs.map (·.2)) id ow) w id pos' e' T l' [] xs := by
 intro hs
 induction hs with
 | nil =>
  intro l k hr
  refine ⟨l, hr, rfl, fun ow pos xs _ _ _ h => ⟨pos, fun _ _ => rfl, ?_⟩⟩
  have : Al [] id ow = ow := by
   funext b
   unfold Al
   cases ow b <;> simp
  simpa [this] using h
 | cons p r ih =>
  obtain ⟨i, j⟩ := p
  intro l k hr
  unfold EK at hr
  simp only [Req.run] at hr
  generalize hc : hp j = ch at hr
  cases ch <;> try (simp [Req.run] at hr; done)
  rename_i e2 T2 x
  simp only at hr
  split at hr <;> try (simp [Req.run] at hr; done)
  rename_i h
  subst h
  split at hr <;> try (simp [Req.run] at hr; done)
  rename_i he
  subst he
  obtain ⟨l', h1, h2, h3⟩ := ih _ _ hr
  refine ⟨l', h1, by rw [h2, List.length_set], fun ow pos xs hch hnd hid hsub => ?_⟩
  simp only [List.map_cons, List.nodup_cons, List.mem_cons, not_or] at hnd hid
  have hj := hch (i, j) (by simp)
  simp only [hc] at hj
  obtain ⟨v, hv, hrow⟩ := hj
  obtain ⟨pos1, hp1, hsub1⟩ := AA5 hsub hv hrow (Ne.symm hid.1)
  have hch' : ∀ p ∈ r, cH φ (Al [j] id ow) w p.2 (hp p.2) := by
   intro p hp
   refine Cp (Aw.refl φ) (Hp _ _) (fun b _ hb => ⟨CA hb ?_, rfl⟩) (hch p (List.mem_cons_of_mem _ hp))
   intro e
   rw [List.mem_singleton] at e
   exact hnd.1 (List.mem_map.2 ⟨p, hp, e⟩)
  obtain ⟨pos2, hp2, hsub2⟩ := h3 (Al [j] id ow) pos1 xs hch' hnd.2 hid.2 hsub1
  refine ⟨pos2, fun b hb => ?_, ?_⟩
  ·rw [hp2 b (CA hb (by simpa using hid.1)), hp1 b hb]
  ·simp only [List.map_cons]
   rw [Uj hid.2]
   exact hsub2
theorem W9 {id : Nat} {pos : Nat -> Nat} {e' : TypeId} {T : Ty} {l : List (List T.den)} {i : Int} {hs : List (Int × Nat)} {xs : List Value} (H : φ nx = Option.none) (ho : ∀ b, ow b ≠ some nx) (hid : id ≠ nx)
  (hsub : KW φ ow w id pos e' T l hs xs) (h0 : 0 <= i) (hi : i.toNat < l.length) (hne : ∀ p ∈ hs, p.1 ≠ i) :
  ∃ h, xs[i.toNat]? = some h /\ (∀ b, h.ownBlock = some b -> ow b = some id /\ pos b = i.toNat + 1) /\ EJ (CY ow nx h.ownBlock) w nx h e' T (get (.sl T) l i) /\
   KW (BG φ nx h) (CY ow nx h.ownBlock) w id pos e' T l ((i, nx) :: hs) xs := by
 obtain ⟨h1, h2, h3, h4⟩ := hsub
 have hx : i.toNat < xs.length := by omega
 have hh := h4 i.toNat xs[i.toNat] (List.getElem?_eq_getElem hx)
 have hn : BV hs i.toNat = Option.none := Lv.2 fun p hp e => hne p hp (by omega)
 rw [hn] at hh
 simp only at hh
 obtain ⟨hrow, hpos⟩ := hh
 have hown := hrow.choose_spec.2.1
 have K : A8 ow w (CY ow nx xs[i.toNat].ownBlock) w := by
  refine ⟨Nat.le_refl _, fun b _ hb => ⟨?_, rfl⟩⟩
  cases hbk : xs[i.toNat].ownBlock with
  | none => exact hb
  | some g =>
   show BJ _ g nx b = _
   unfold BJ
   rw [if_neg, hb]
   intro e
   subst e
   rw [hown b hbk] at hb
   cases hb
 refine ⟨xs[i.toNat], List.getElem?_eq_getElem hx, fun b hb => ⟨hown b hb, hpos b hb⟩, ?_, h1, ?_, ?_, ?_⟩
 ·have : l.getD i.toNat [] = get (.sl T) l i := rfl
  rw [this] at hrow
  refine FZ K (fun b hb => ?_) hrow
  rw [hb]
  simp [CY, BJ]
 ·intro p hp
  rcases List.mem_cons.1 hp with rfl | hp
  ·exact h0
  ·exact h2 p hp
 ·simp only [List.map_cons, List.nodup_cons]
  refine ⟨fun h => ?_, h3⟩
  obtain ⟨p, hp, e⟩ := List.mem_map.1 h
  exact hne p hp e
 ·intro q u hu
  unfold BV
  by_cases hq : i = (q : Int)
  ·rw [if_pos hq]
   have : i.toNat = q := by omega
   subst this
   rw [List.getElem?_eq_getElem hx] at hu
   injection hu with hu
   simp [BG, hu]
  ·rw [if_neg hq]
   have h5 := h4 q u hu
   cases hh : BV hs q with
   | some k =>
    rw [hh] at h5
    simp only at h5 ⊢
    unfold BG
    rw [if_neg, h5]
    intro e
    rw [e, H] at h5
    cases h5
   | none =>
    rw [hh] at h5
    simp only at h5 ⊢
    refine ⟨FZ K (fun b hb => ?_) h5.1, h5.2⟩
    have k1 := h5.1.choose_spec.2.1 b hb
    cases hbk : xs[i.toNat].ownBlock with
    | none => exact k1
    | some g =>
     show BJ _ g nx b = _
     unfold BJ
     rw [if_neg, k1]
     intro e
     subst e
     have := h5.2 b hb
     rw [hpos b hbk] at this
     omega
end
end AL
end
section
set_option linter.unusedVariables false
set_option linter.unusedSimpArgs false
namespace AL
open Go
section
variable {φ : Hnd} {ow : Own} {w : World} {P : Program} {hp : Nat -> Chunk} {nx : Nat}
theorem XA (id : Nat) : Al [] id ow = ow := by
 funext b
 unfold Al
 cases ow b <;> simp
theorem Ext.borrow (H : Hyp hp nx φ ow w) {id : Nat} {d : List Nat} {h : Value} (hb : ∀ b, h.ownBlock = some b -> Al d id ow b = some id) (X : List Nat) (hX : ∀ i, i = id \/ i = nx \/ i ∈ d -> i ∈ X) :
  Ext X nx φ ow w (BG φ nx h) (CY (Al d id ow) nx h.ownBlock) w := by
 have key : ∀ b, (∀ i, ow b = some i -> i ∉ X) -> CY (Al d id ow) nx h.ownBlock b = ow b := by
  intro b hn
  have h1 : Al d id ow b = ow b := by
   cases ho : ow b with
   | none => exact CJ.2 ho
   | some i => exact CA ho fun hi => hn i ho (hX i (.inr (.inr hi)))
  cases hk : h.ownBlock with
  | none => exact h1
  | some g =>
   show BJ _ g nx b = _
   unfold BJ
   rw [if_neg, h1]
   intro e
   subst e
   have := hb b hk
   rw [h1] at this
   exact hn id this (hX id (.inl rfl))
 refine ⟨Nat.le_refl _, rfl, rfl, rfl, fun b _ hn => ⟨key b hn, rfl⟩, ?_, BI H h, fun i hi => ?_⟩
 ·intro b i hi
  have lift : Al d id ow b = some i -> b < w.heap.size /\ ((i ∈ X \/ nx <= i /\ i < nx + 64) \/ b < w.heap.size /\ ow b = some i) := by
   intro h
   rcases Ce h with ⟨h1, _⟩ | ⟨h1, j, _, h2⟩
   ·exact ⟨(H.own b i h1).1, .inr ⟨(H.own b i h1).1, h1⟩⟩
   ·exact ⟨(H.own b j h2).1, .inl (.inl (hX i (.inl h1)))⟩
  cases hk : h.ownBlock with
  | none => rw [hk] at hi; exact lift hi
  | some g =>
   rw [hk] at hi
   change BJ _ g nx b = _ at hi
   unfold BJ at hi
   split at hi
   ·rename_i e
    injection hi with hi
    subst hi; subst e
    refine ⟨?_, .inl (.inr ⟨Nat.le_refl _, by omega⟩)⟩
    rcases Ce (hb b hk) with ⟨h1, _⟩ | ⟨_, j, _, h2⟩
    ·exact (H.own b _ h1).1
    ·exact (H.own b _ h2).1
   ·exact lift hi
 ·unfold BG
  rw [if_neg (by omega)]
theorem ADL {t e : TypeId} {i : TypeInfo} (hu : P.underlying t = some (.slice e)) (hi : P.info? t = some i) (hs : i.size = 1) {g o : Nat} {h : Value} (hc : w.cell? ⟨g, o, none⟩ = some h) :
  (Instr.loadAt t (.pointer (some ⟨g, o, none⟩))).run P w = .ok h w := by
 have hrd : Bp w g o [h] := by
  intro k u hu
  cases k with
  | zero => simp at hu; subst hu; exact hc
  | succ k => simp at hu
 obtain ⟨_, _, u, h1, h2⟩ := Kj (φ := fun _ => none) (ow := fun _ => none) (hp := fun _ => .none) hu hi (cells := .cons (.raw h) .nil) (cs := [h]) ⟨h, [], rfl, rfl, rfl⟩ hrd (out := ⟨[], .raw h, []⟩) (by simp [C3, Hg, Di, hs, Req.ret, Req.run, AV.strip])
 injection h2 with h2
 subst h2
 simpa [Instr.loadAt, Instr.sureAddr] using h1
theorem ADM (H : Hyp hp nx φ ow w) {cl : Bool} {t : TypeId} {a : AV} {v : Value} {out : Out} (hr : (Jc P cl t a nx).run hp = some out) (ha : a.holds φ ow w [v]) (hobl : ∀ p ∈ out.Bu, p) :
  ∃ u, (Instr.loadAt t v).run P w = .ok u w /\ Au out nx φ ow w u w := by
 have old : (FA P t a).run hp = some out -> ∃ u, (Instr.loadAt t v).run P w = .ok u w /\ Au out nx φ ow w u w := by
  intro hr
  obtain ⟨_, h0, u, h1, h2⟩ := Ro H hr ha
  exact ⟨u, h1, Au.pure H h0 h2⟩
 unfold Jc at hr
 split at hr
 rotate_left
 ·rename_i T x
  have ha2 : (AV.spt T x).holds φ ow w [v] := by
   obtain ⟨_, _, g, o, e, g1, g2, cs', g3, g4⟩ := ha
   exact ⟨g, o, cs', e, g1, g2, g3, g4⟩
  obtain ⟨_, h0, u, h1, h2⟩ := Ro H hr ha2
  exact ⟨u, h1, Au.pure H h0 h2⟩
 rotate_left
 ·rename_i id sz ix off
  simp only [Req.run] at hr
  have hch := H.chunk id
  have hal := H.chunk
  cases hc : hp id <;> rw [hc] at hr hch <;> try (exact old hr)
  rename_i e e' T l hs
  simp only at hr
  split at hr <;> try (simp [Req.run] at hr; done)
  rename_i e0 i hu hi
  split at hr <;> try (simp [Req.run] at hr; done)
  rename_i hz
  obtain ⟨z1, rfl, rfl⟩ := hz
  obtain ⟨g, n, c, hφ, h0, hlt, ea⟩ := ha
  injection ea with ea
  subst ea
  obtain ⟨v', xs, pos, hv', hown, hvb, hlim, hsub⟩ := hch
  rw [hφ] at hv'
  injection hv' with hv'
  subst hv'
  rcases hown.2 with ⟨h, _⟩ | ⟨g', cap, cur, he, hb0, hg, hle, hm, hcs, ht⟩
  ·cases h
  injection he with f1 f2 f3
  injection f1 with f1
  injection f1 with f1
  subst f1; subst f2; subst f3
  have hix : ix.toNat < l.length := by omega
  -- a cell of the row
  have cell : ∀ h, xs[ix.toNat]? = some h -> (Instr.loadAt t (.pointer (some ⟨g, ix.toNat * 1 + 0, none⟩))).run P w = .ok h w := by
   intro h hx
   refine ADL hu hi z1 ?_
   rw [cell_of_row w g _ cur e (0, 0) hg]
   have := take_getElem? ht hx
   simpa using this
  have idnx : id < nx \/ nx + 64 <= id := (H.own g id (hvb g rfl).1).2
  -- out it goes, some having come back
  have fin : ∀ (d : List Nat) (pos' : Nat -> Nat) (l' : List (List T.den)) (hs' : List (Int × Nat)) (out : Out), l'.length = l.length -> id ∉ d -> (∀ b, ow b = some id -> pos' b = pos b) -> KW φ (Al d id ow) w id pos' e' T l' hs' xs -> (∀ p ∈ hs', p.1 ≠ ix) ->
    out.res = .arr nx -> (∀ p ∈ out.upd, p = (id, .BC e e' T l' ((ix, nx) :: hs')) \/ p = (nx, .arr e' T (get (.sl T) l' ix)) \/ ∃ j ∈ d, p = (j, .none)) -> (∀ i, i = id \/ i = nx \/ i ∈ d -> i ∈ ids out.upd) ->
    ∃ u, (Instr.loadAt t (.pointer (some ⟨g, ix.toNat * 1 + 0, none⟩))).run P w = .ok u w /\ Au out nx φ ow w u w := by
   intro d pos' l' hs' out hll hid hpos hsub' hne hres hupd hX
   have hfr : φ nx = none := H.fresh nx (Nat.le_refl _) (by omega)
   have hno : ∀ b, Al d id ow b ≠ some nx := by
    intro b hb
    rcases Ce hb with ⟨h1, _⟩ | ⟨h1, _⟩
    ·have := (H.own b nx h1).2; omega
    ·omega
   obtain ⟨h, k1, k2, k3, k4⟩ := W9 (nx := nx) hfr hno (by omega) hsub' h0 (by omega) hne
   have E := Ext.borrow H (fun b hb => (k2 b hb).1) (ids out.upd) hX
   have hsl : ∃ A n c, h = .slice A n c := by
    obtain ⟨ys, q1, _⟩ := k3
    rcases q1.2 with ⟨h, _⟩ | ⟨_, _, _, h, _⟩
    ·exact ⟨_, _, _, h⟩
    ·exact ⟨_, _, _, h⟩
   refine ⟨h, cell h k1, BG φ nx h, _, E, ?_, ?_⟩
   ·rw [hres]
    obtain ⟨A, n, c, rfl⟩ := hsl
    exact ⟨A, n, c, AP _, rfl⟩
   ·intro p hp
    rcases hupd p hp with rfl | rfl | ⟨j, _, rfl⟩
    ·refine ⟨_, xs, pos', BI H h _ _ hφ, by rw [hll]; exact hown, ?_, by rw [hll]; exact hlim, k4⟩
     intro b hb
     have h5 := hvb b hb
     have h6 : Al d id ow b = some id := CA h5.1 hid
     have h7 : pos' b = 0 := by rw [hpos b h5.1]; exact h5.2
     refine ⟨?_, h7⟩
     cases hk : h.ownBlock with
     | none => exact h6
     | some g1 =>
      show BJ _ g1 nx b = _
      unfold BJ
      rw [if_neg, h6]
      intro e
      subst e
      have := (k2 b hk).2
      omega
    ·exact ⟨h, AP _, k3⟩
    ·trivial
  unfold QH at hr
  cases cl with
  | false =>
   rw [if_neg (by simp)] at hr
   simp only [Req.run, Option.some.injEq] at hr
   subst hr
   refine fin [] pos l hs _ rfl (by simp) (fun _ _ => rfl) (by rw [XA]; exact hsub) ?_ rfl (fun p hp => ?_) (fun i hi => ?_)
   ·intro p hp
    exact hobl _ (List.mem_map.2 ⟨p, hp, rfl⟩)
   ·simp only [List.mem_cons, List.not_mem_nil, or_false] at hp
    exact hp.imp (fun h => h) .inl
   ·simp [ids]
    rcases hi with h | h | h
    ·exact .inl h
    ·exact .inr h
    ·cases h
  | true =>
   rw [if_pos rfl] at hr
   obtain ⟨l', hr', hll, hcl⟩ := Ie (φ := φ) (w := w) (id := id) hs l _ hr
   split at hr' <;> try (simp [Req.run] at hr'; done)
   rename_i hcond
   simp only [Bool.or_eq_true, Bool.not_eq_true', not_or, Bool.not_eq_true, Bool.not_eq_false] at hcond
   simp only [Req.run, Option.some.injEq] at hr'
   subst hr'
   have hid : id ∉ hs.map (·.2) := fun h => by have := Am.2 h; rw [hcond.1] at this; cases this
   obtain ⟨pos', hpos, hsub'⟩ := hcl ow pos xs (fun p _ => hal p.2) (Dm.1 hcond.2) hid hsub
   refine fin (hs.map (·.2)) pos' l' [] _ hll hid hpos hsub' (by simp) rfl (fun p hp => ?_) (fun i hi => ?_)
   ·rcases List.mem_cons.1 hp with rfl | hp
    ·exact .inl rfl
    ·rcases List.mem_cons.1 hp with rfl | hp
     ·exact .inr (.inl rfl)
     ·obtain ⟨j, hj, rfl⟩ := List.mem_map.1 hp
      exact .inr (.inr ⟨j, hj, rfl⟩)
   ·simp only [ids, List.map_cons, List.map_map, List.mem_cons, List.mem_map, Function.comp]
    rcases hi with h | h | h
    ·exact .inl h
    ·exact .inr (.inl h)
    ·obtain ⟨p, hp, rfl⟩ := List.mem_map.1 h
     exact .inr (.inr ⟨p, hp, rfl⟩)
 ·exact old hr
theorem AA6 (H : Hyp hp nx φ ow w) {t : TypeId} {a ix : AV} {v vi : Value} {out : Out} (hr : (KZ P t a ix).run hp = some out) (ha : a.holds φ ow w [v]) (hx : ix.holds φ ow w [vi]) (hobl : ∀ p ∈ out.Bu, p) :
  out.upd = [] /\ ∃ u, (Instr.indexAt t v vi).run P w = .ok u w /\ out.res.holds φ ow w [u] := by
 unfold KZ at hr
 split at hr
 ·rename_i id
  simp only [Req.run] at hr
  have hch := H.chunk id
  cases hc : hp id <;> rw [hc] at hr hch <;> try (exact Uf H hr ha hx hobl)
  rename_i e e' T l hs
  simp only at hr
  split at hr <;> try (simp [Req.run] at hr; done)
  rename_i e0 hu
  split at hr <;> try (simp [Req.run] at hr; done)
  rename_i i k n hi
  split at hr <;> try (simp [Req.run] at hr; done)
  rename_i hz
  simp only [Req.run, Option.some.injEq] at hr
  subst hr
  obtain ⟨rfl, hk⟩ := Ak hx
  change Int at n
  simp only [List.mem_cons, List.not_mem_nil, or_false, forall_eq_or_imp, forall_eq] at hobl
  have o1 : @LE.le Int _ 0 n := hobl.1
  have o2 := hobl.2
  change @LT.lt Int _ n _ at o2
  obtain ⟨A, n', c, hφ, e'⟩ := ha
  injection e' with e'
  subst e'
  obtain ⟨v', xs, pos, hv', hown, hvb, hlim, hsub⟩ := hch
  rw [hφ] at hv'
  injection hv' with hv'
  subst hv'
  rcases hown.2 with ⟨h, hn⟩ | ⟨g', cap, cur, he, hb0, hg, hle, hm, hcs, ht⟩
  ·have : l.length = 0 := hn
   omega
  injection he with f1 f2 f3
  subst f1; subst f2; subst f3
  refine ⟨rfl, _, DE hu hi o1 o2, g', l.length, c, hφ, o1, o2, ?_⟩
  rw [hz, Nat.add_zero, Nat.zero_add]
 ·exact Uf H hr ha hx hobl
theorem AG9 (H : Hyp hp nx φ ow w) {t ty : TypeId} {a : AV} {v : Value} {out : Out} (hr : (Rj P t a).run hp = some out) (ha : a.holds φ ow w [v]) (hobl : ∀ p ∈ out.Bu, p) :
  out.upd = [] /\ ∃ u, (Builtin.len_ #[t] ty #[v]).run P w = .ok u w /\ out.res.holds φ ow w [u] := by
 unfold Rj at hr
 split at hr
 ·rename_i id
  simp only [Req.run] at hr
  have hch := H.chunk id
  cases hc : hp id <;> rw [hc] at hr hch <;> try (exact ADA H hr ha hobl)
  rename_i e e' T l hs
  simp only at hr
  split at hr <;> try (simp [Req.run] at hr; done)
  rename_i e0 hu
  simp only [Req.ret, Req.run, Option.some.injEq] at hr
  subst hr
  obtain ⟨A, n', c, hφ, e'⟩ := ha
  injection e' with e'
  subst e'
  obtain ⟨v', xs, pos, hv', hown, hvb, hlim, hsub⟩ := hch
  rw [hφ] at hv'
  injection hv' with hv'
  subst hv'
  have hn : n' = l.length := by
   rcases hown.2 with ⟨h, hn⟩ | ⟨g', cap, cur, he, _⟩
   ·injection h with _ h _; omega
   ·injection he
  subst hn
  exact ⟨rfl, .int .i64 l.length, by simp [Builtin.len_, run_underlying hu, goInt], B3 (FN hlim)⟩
 ·exact ADA H hr ha hobl
end
end AL
end
section
set_option linter.unusedVariables false
set_option linter.unusedSimpArgs false
namespace AL
open Go
section
variable {φ : Hnd} {ow : Own} {w : World} {P : Program} {hp : Nat -> Chunk} {nx : Nat}
theorem ADN {d : List Nat} {ix : Int} {out : Out} : ∀ (hs : List (Int × Nat)) (k : (ps : List Prop) -> [NF ps] -> List (Int × Nat) -> Req), (Lu d ix hs k).run hp = some out ->
  ∃ ps, ∃ _ : NF ps, ∃ hs', (k ps hs').run hp = some out /\ ((∀ p ∈ ps, p) -> hs' = hs.filter fun p => decide (p.1 ≠ ix)) := by
 intro hs
 induction hs with
 | nil => intro k hr; exact ⟨[], inferInstance, [], hr, fun _ => rfl⟩
 | cons p r ih =>
  obtain ⟨i, j⟩ := p
  intro k hr
  have dead : (Lu d ix r fun ps _ hs => k ((i = ix) :: ps) hs).run hp = some out -> ∃ ps, ∃ _ : NF ps, ∃ hs', (k ps hs').run hp = some out /\ ((∀ p ∈ ps, p) -> hs' = ((i, j) :: r).filter fun p => decide (p.1 ≠ ix)) := by
   intro hr
   obtain ⟨ps, dps, hs', h1, h2⟩ := ih _ hr
   refine ⟨_, _, _, h1, fun h => ?_⟩
   have h3 : i = ix := h _ (by simp)
   rw [h2 fun p hp => h p (List.mem_cons_of_mem _ hp), List.filter_cons, if_neg (by simp [h3])]
  unfold Lu at hr
  split at hr
  ·exact dead hr
  ·simp only [Req.run] at hr
   have live : (Lu d ix r fun ps _ hs => k ((i ≠ ix) :: ps) ((i, j) :: hs)).run hp = some out -> ∃ ps, ∃ _ : NF ps, ∃ hs', (k ps hs').run hp = some out /\ ((∀ p ∈ ps, p) -> hs' = ((i, j) :: r).filter fun p => decide (p.1 ≠ ix)) := by
    intro hr
    obtain ⟨ps, dps, hs', h1, h2⟩ := ih _ hr
    refine ⟨_, _, _, h1, fun h => ?_⟩
    have h3 : i ≠ ix := h _ (by simp)
    rw [h2 fun p hp => h p (List.mem_cons_of_mem _ hp), List.filter_cons, if_pos (by simp [h3])]
   cases hc : hp j <;> rw [hc] at hr
   ·exact dead hr
   all_goals exact live hr
theorem FP {ix : Int} {q : Nat} : ∀ {hs : List (Int × Nat)}, (ix ≠ (q : Int) -> BV (hs.filter fun p => decide (p.1 ≠ ix)) q = BV hs q) /\ (ix = (q : Int) -> BV (hs.filter fun p => decide (p.1 ≠ ix)) q = Option.none)
 | [] => ⟨fun _ => rfl, fun _ => rfl⟩
 | (i, j) :: r => by
  obtain ⟨h1, h2⟩ := FP (ix := ix) (q := q) (hs := r)
  constructor
  ·intro h
   by_cases hi : i = ix
   ·rw [List.filter_cons, if_neg (by simp [hi]), h1 h]
    unfold BV
    rw [if_neg (by rw [hi]; exact h)]
    cases r <;> rfl
   ·rw [List.filter_cons, if_pos (by simp [hi])]
    unfold BV
    by_cases hq : i = (q : Int)
    ·rw [if_pos hq, if_pos hq]
    ·rw [if_neg hq, if_neg hq, h1 h]
  ·intro h
   by_cases hi : i = ix
   ·rw [List.filter_cons, if_neg (by simp [hi]), h2 h]
   ·rw [List.filter_cons, if_pos (by simp [hi])]
    unfold BV
    rw [if_neg (by rw [<- h]; exact hi), h2 h]
theorem Mc {d : List Nat} {u : Upd} {g id : Nat} (hg : ow g = some id) (hu : id ∉ ids u) (new : Array Value) : A8 (AM (ids u) ow) w (Al d id (AM (ids u) ow)) (w.setRow g new) := by
 refine ⟨by simp, fun b hb h => ⟨CJ.2 h, setRow_other w g b new ?_⟩⟩
 intro e
 subst e
 rw [Aj.2 ⟨hg, hu⟩] at h
 cases h
theorem AA7 (H : Hyp hp nx φ ow w) {t : TypeId} {a x : AV} {va vx : Value} {out : Out} (hr : (KY P t a x).run hp = some out) (ha : a.holds φ ow w [va]) (hx : x.holds φ ow w [vx]) (hobl : ∀ p ∈ out.Bu, p) :
  ∃ w', (Instr.storeAt t va vx).run P w = .ok () w' /\ Au out nx φ ow w undef w' := by
 unfold KY at hr
 split at hr
 ·rename_i id sz ix off
  simp only [Req.run] at hr
  have hch := H.chunk id
  cases hc : hp id <;> rw [hc] at hr hch <;> try (exact Ui H hr ha hx)
  rename_i e e' T l hs
  simp only at hr
  split at hr <;> try (simp [Req.run] at hr; done)
  rename_i i hi
  split at hr <;> try (simp [Req.run] at hr; done)
  rename_i hz
  obtain ⟨z1, rfl, rfl⟩ := hz
  obtain ⟨r, d, u, ys, hr1, hown, hd, hrow, hsl, hrl⟩ := FY H hr hx
  obtain ⟨ps, dps, hs', hr2, hfix⟩ := ADN hs _ hr1
  split at hr2 <;> try (simp [Req.run] at hr2; done)
  rename_i hcond
  simp only [Bool.or_eq_true, not_or, Bool.not_eq_true] at hcond
  obtain ⟨⟨c1, c2⟩, c3⟩ := hcond
  have hidd : id ∉ d := fun h => by have := Am.2 h; rw [c1] at this; cases this
  have hidu : id ∉ ids u := fun h => by have := Am.2 h; unfold ids at this; rw [c2] at this; cases this
  have c3' : Bn d (ids u) = false := c3
  simp only [Req.run, Option.some.injEq] at hr2
  subst hr2
  have hhs := hfix hobl
  subst hhs
  obtain ⟨g, n, c, hφ, h0, hlt, ea⟩ := ha
  injection ea with ea
  subst ea
  obtain ⟨v', xs, pos, hv', hown0, hvb, hlim, hsub⟩ := hch
  rw [hφ] at hv'
  injection hv' with hv'
  subst hv'
  rcases hown0.2 with ⟨h, _⟩ | ⟨g', cap, cur, he, hb0, hg, hle, hm, hcs, ht⟩
  ·cases h
  injection he with f1 f2 f3
  injection f1 with f1
  injection f1 with f1
  subst f1; subst f2; subst f3
  obtain ⟨s1, s2, s3, s4⟩ := hsub
  have hix : ix.toNat < l.length := by omega
  have hog : ow g = some id := (hvb g rfl).1
  have hvs : ∃ A n c, vx = .slice A n c := by
   rcases hown.2 with ⟨h, _⟩ | ⟨_, _, _, h, _⟩
   ·exact ⟨_, _, _, h⟩
   ·exact ⟨_, _, _, h⟩
  have hvc : vx.cells = #[vx] /\ vx.oneCell' = true := by
   obtain ⟨A, n, c, rfl⟩ := hvs
   exact ⟨rfl, rfl⟩
  have hcur : c = cur.size := by rw [hcs, Nat.mul_one]
  have hrun := F8 (P := P) (v := vx) (t := t) (o := ix.toNat * 1 + 0) hi hg (by rw [hvc.1, z1]; rfl) (by rw [hvc.1]; simp; omega) (by rw [hvc.1]; simp [hvc.2])
  rw [hvc.1] at hrun
  simp only [Nat.mul_one, Nat.add_zero] at hrun
  have hset : cur.toList.take ix.toNat ++ (#[vx] : Array Value).toList ++ cur.toList.drop (ix.toNat + (#[vx] : Array Value).toList.length) = cur.toList.set ix.toNat vx := by
   rw [List.set_eq_take_append_cons_drop, if_pos (by rw [Array.length_toList]; omega)]
   simp
  rw [hset] at hrun
  have K := Mc (w := w) (d := d) (u := u) hog hidu (cur.toList.set ix.toNat vx).toArray
  have hmv : ∀ b i, ow b = some i -> i ∉ d -> i ∉ ids u -> Al d id (AM (ids u) ow) b = some i := fun b i h1 h2 h3 => CA (Aj.2 ⟨h1, h3⟩) h2
  have hX : ids ((id, Chunk.BC e e' T (l.set ix.toNat r) (hs.filter fun p => decide (p.1 ≠ ix))) :: (d.map (fun j => (j, Chunk.none)) ++ u)) = id :: (d ++ ids u) := by simp [ids, Function.comp_def]
  have E : Ext (id :: (d ++ ids u)) nx φ ow w φ (Al d id (AM (ids u) ow)) (w.setRow g (cur.toList.set ix.toNat vx).toArray) := by
   refine ⟨by simp, rfl, rfl, rfl, ?_, ?_, Aw.refl _, fun _ _ => rfl⟩
   ·intro b hb hn
    have hbg : b ≠ g := fun h => by subst h; exact hn id hog (by simp)
    refine ⟨?_, setRow_other w g b _ hbg⟩
    cases ho : ow b with
    | none => exact CJ.2 (Ay.2 (.inl ho))
    | some i =>
     have := hn i ho
     simp only [List.mem_cons, List.mem_append, not_or] at this
     exact hmv b i ho this.2.1 this.2.2
   ·intro b i h
    rcases Ce h with ⟨h1, _⟩ | ⟨h1, j, _, h2⟩
    ·have ho := (Aj.1 h1).1
     exact ⟨by simpa using (H.own b i ho).1, .inr ⟨(H.own b i ho).1, ho⟩⟩
    ·exact ⟨by simpa using (H.own b j (Aj.1 h2).1).1, .inl (.inl (by simp [h1]))⟩
  rw [show ix.toNat * 1 + 0 = ix.toNat from by omega]
  refine ⟨_, hrun, φ, Al d id (AM (ids u) ow), ?_, rfl, ?_⟩
  ·show Ext (ids _) nx φ ow w φ _ _
   rw [hX]
   exact E
  intro p hp
  rcases List.mem_cons.1 hp with rfl | hp
  ·refine ⟨_, xs.set ix.toNat vx, fun b => if vx.ownBlock = some b then ix.toNat + 1 else pos b, hφ, ⟨?_, .inr ⟨g, c, _, ?_, hb0, setRow_heap w g cur _ e _ hg, ?_, hm, ?_, ?_⟩⟩, ?_, ?_, ?_, ?_, ?_, ?_⟩
   ·rw [List.length_set, List.length_set]; exact hown0.1
   ·rw [List.length_set]
   ·rw [List.length_set]; exact hle
   ·simpa using hcs
   ·rw [List.length_set, List.toList_toArray, <- ht, List.take_set]
   ·intro b hb
    injection hb with hb
    subst hb
    refine ⟨hmv _ id hog hidd hidu, ?_⟩
    show (if vx.ownBlock = some g then ix.toNat + 1 else pos g) = 0
    rw [if_neg]
    ·exact (hvb g rfl).2
    ·intro h
     obtain ⟨j, hj, hj2⟩ := hd g h
     rw [hog] at hj2
     injection hj2 with hj2
     subst hj2
     exact hidd hj
   ·rw [List.length_set]; exact hlim
   ·rw [List.length_set, List.length_set]; exact s1
   ·exact fun p hp => s2 p (List.mem_filter.1 hp).1
   ·exact List.Nodup.sublist (List.Sublist.map _ List.filter_sublist) s3
   ·intro q h hq
    rw [List.getElem?_set] at hq
    by_cases hqi : ix.toNat = q
    ·rw [if_pos hqi, if_pos (by omega)] at hq
     injection hq with hq
     subst hq
     rw [(FP (hs := hs)).2 (by omega)]
     have : (l.set ix.toNat r).getD q [] = r := by rw [<- hqi]; simp [hix]
     rw [this]
     refine ⟨⟨ys, ?_, ?_, hrl, Rows.mono (fun cs x => Ty.AO K) hrow⟩, fun b hb => ?_⟩
     ·refine ⟨hown.1, ?_⟩
      rcases hown.2 with h | ⟨g1, cap1, cur1, k1, k2, k3, k4⟩
      ·exact .inl h
      ·refine .inr ⟨g1, cap1, cur1, k1, k2, ?_, k4⟩
       rw [setRow_other w g g1 _ ?_]
       ·exact k3
       ·intro h
        subst h
        obtain ⟨j, hj, hj2⟩ := hd g1 (by rw [k1]; rfl)
        rw [hog] at hj2
        injection hj2 with hj2
        subst hj2
        exact hidd hj
     ·intro b hb
      obtain ⟨j, hj, hj2⟩ := hd b hb
      exact Ko (Aj.2 ⟨hj2, Dy c3' hj⟩) hj
     ·show (if vx.ownBlock = some b then ix.toNat + 1 else pos b) = q + 1
      rw [if_pos hb, hqi]
    ·rw [if_neg hqi] at hq
     rw [(FP (hs := hs)).1 (by omega)]
     have h5 := s4 q h hq
     cases hh : BV hs q with
     | some k => rw [hh] at h5; exact h5
     | none =>
      rw [hh] at h5
      simp only at h5 ⊢
      obtain ⟨h6, h7⟩ := h5
      have hob := h6.choose_spec.2.1
      have : (l.set ix.toNat r).getD q [] = l.getD q [] := by simp [List.getElem?_set, hqi]
      rw [this]
      refine ⟨?_, fun b hb => ?_⟩
      ·obtain ⟨zs, k1, k2, k3, k4⟩ := h6
       refine ⟨zs, ⟨k1.1, ?_⟩, fun b hb => hmv b id (k2 b hb) hidd hidu, k3, Rows.mono (fun cs x hr => Ty.AO K (Ty.AO (An (ids u)) hr)) k4⟩
       rcases k1.2 with h | ⟨g1, cap1, cur1, m1, m2, m3, m4⟩
       ·exact .inl h
       ·refine .inr ⟨g1, cap1, cur1, m1, m2, ?_, m4⟩
        rw [setRow_other w g g1 _ ?_]
        ·exact m3
        ·intro h
         subst h
         have q1 := h7 g1 (by rw [m1]; rfl)
         have q2 := (hvb g1 rfl).2
         omega
      ·show (if vx.ownBlock = some b then ix.toNat + 1 else pos b) = q + 1
       rw [if_neg]
       ·exact h7 b hb
       ·intro hv
        obtain ⟨j, hj, hj2⟩ := hd b hv
        rw [hob b hb] at hj2
        injection hj2 with hj2
        subst hj2
        exact hidd hj
  ·rcases List.mem_append.1 hp with hp | hp
   ·obtain ⟨j, _, rfl⟩ := List.mem_map.1 hp
    trivial
   ·exact A3.post (S := ids u) (fun i hi => hi) (Aw.refl φ) K hsl p hp
 ·exact Ui H hr ha hx
end
end AL
end
section
set_option linter.unusedVariables false
set_option linter.unusedSimpArgs false
namespace AL
open Go
section
variable {φ : Hnd} {ow : Own} {w : World} {P : Program} {hp : Nat -> Chunk} {nx : Nat}
theorem Fa {t ti ty e : TypeId} {i : TypeInfo} {z : Value} (ht : P.underlying t = some (.slice e)) {k : IntKind} (hti : P.underlying ti = some (.int k)) (hi : P.info? e = some i) (hz : i.zero = some z)
  (hzs : z.cells.size = i.size) (hsz : 0 < i.size) (hb0 : 0 < i.bytes) {v : Value} {n : Nat} {xs news : List Value} (hown : w.ownsRow 0 e i.size v n xs) (m : Nat) (hnews : news = (Builtin.zeroCells z.cells m).toList) (h1 : ∀ u ∈ news, u.oneCell' = true)
  (hbytes : (n + m) * i.bytes <= 140737488355328) :
  ∃ v' w', (Builtin.append_ #[t, ti] ty #[v, .int .i64 m]).run P w = .ok v' w' /\ w'.ownsRow 0 e i.size v' (n + m) (xs ++ news) /\ w.grownBy w' v.ownBlock /\ (v'.ownBlock = v.ownBlock \/ v'.ownBlock = some w.heap.size) := by
 have hle : n + m <= 140737488355328 := Nat.le_trans (Nat.le_mul_of_pos_right _ hb0) hbytes
 have h63 : n + m <= maxLen := by simp only [maxLen]; omega
 have hw : IntKind.i64.wrap (m : Int) = m := by rw [IntKind.wrap_i64]; omega
 have hw0 : IntKind.i64.wrap 0 = 0 := by rw [IntKind.wrap_i64]; rfl
 have hneg : ¬ ((m : Int) < 0) := by omega
 have hmb : m * i.bytes <= 140737488355328 := Nat.le_trans (Nat.mul_le_mul_right _ (Nat.le_add_left m n)) hbytes
 have hbig : ¬ (281474976710656 < (m : Int) * (i.bytes : Int)) := by
  rw [<- Int.natCast_mul]
  omega
 have hsn : i.size ≠ 0 := by omega
 have hl : news.length = m * i.size := by rw [hnews, Array.length_toList, size_zeroCells, hzs]
 have hna : Builtin.zeroCells z.cells m = news.toArray := by rw [hnews]
 have hlen : (xs ++ news).length = (n + m) * i.size := by rw [List.length_append, hown.1, hl, Nat.add_mul]
 have hnil : m = 0 -> news = [] := fun h => List.eq_nil_of_length_eq_zero (by rw [hl, h, Nat.zero_mul])
 have grown : ∀ (old : Nat), old < n + m -> ∀ (row : Option Nat),
   (w.drew.alloc (.cells (xs.toArray ++ news.toArray ++ Builtin.zeroCells z.cells (grownCap w (n + m) old e - (n + m))) e)).ownsRow 0 e i.size
    (.slice (some ⟨w.heap.size, 0, none⟩) (n + m) (grownCap w (n + m) old e)) (n + m) (xs ++ news) /\
   w.grownBy (w.drew.alloc (.cells (xs.toArray ++ news.toArray ++ Builtin.zeroCells z.cells (grownCap w (n + m) old e - (n + m))) e)) row := by
  intro old ho row
  have hge := grownCap_ge w (n + m) old e
  have hcm : grownCap w (n + m) old e <= maxLen := grownCap_le_maxLen w (n + m) old e h63
  refine ⟨⟨hlen, .inr ⟨w.heap.size, _, _, rfl, Nat.zero_le _, heap_alloc_new w.drew _, hge, hcm, ?_, ?_⟩⟩, ⟨rfl, rfl, rfl, by simp, fun k hk _ => heap_alloc_old w.drew _ hk⟩⟩
  ·simp only [Array.size_append, List.size_toArray, size_zeroCells, hzs, hown.1, hl, <- Nat.add_mul]
   congr 1
   omega
  ·simp only [Array.toList_append, List.append_assoc]
   rw [<- List.append_assoc, <- hlen]
   exact List.take_left
 have runs : ∀ (A : Option Addr) (cap : Nat), cap < n + m -> (Builtin.firstCells i.size n (.slice A n cap)).run P w.drew = .ok xs.toArray w.drew -> (Builtin.append_ #[t, ti] ty #[.slice A n cap, .int .i64 m]).run P w =
   .ok (.slice (some ⟨w.heap.size, 0, none⟩) (n + m) (grownCap w (n + m) cap e)) (w.drew.alloc (.cells (xs.toArray ++ news.toArray ++ Builtin.zeroCells z.cells (grownCap w (n + m) cap e - (n + m))) e)) := by
  intro A cap hcap hfo
  have hn : ¬ (n + m <= cap) := by omega
  have h63' : ¬ (9223372036854775807 < ((n : Int) + (m : Int))) := by omega
  have hfit := growslice_fits hcap hbytes
  have h48' : ¬ (281474976710656 < Builtin.nextslicecap (n + m) cap * i.bytes) := by omega
  by_cases hm : m = 0
  ·have hnl := hnil hm
   subst hm
   rw [hnl]
   simp only [Nat.add_zero] at hn h63' h48' ⊢
   have h63'' : ¬ (9223372036854775807 < (n : Int)) := by omega
   simp [Builtin.append_, run_underlying ht, run_underlying hti, Go.sizeOf, typeInfo, zeroValue, hi, hz, asInt, asIntOf, hw0, hn, h63'', h48', Question.forced, hfo, newRow, grownCap]
  ·have hmz : ¬ (m * i.size = 0) := Nat.mul_ne_zero hm hsn
   simp [Builtin.append_, run_underlying ht, run_underlying hti, Go.sizeOf, typeInfo, zeroValue, hi, hz, asInt, asIntOf, hw, hneg, hbig, hn, h63', h48', Question.forced, hfo, newRow, grownCap, hmz, hna]
   congr 2
   apply Array.ext'
   simp [List.append_assoc]
 rcases hown.2 with ⟨rfl, rfl⟩ | ⟨g, cap, cur, rfl, hbg, hg, hnc, hcm, hcs, htake⟩
 ·have hx : xs = [] := List.eq_nil_of_length_eq_zero (by simpa using hown.1)
  subst hx
  by_cases hm : m = 0
  ·have hnl := hnil hm
   subst hm
   rw [hnl]
   refine ⟨.slice none 0 0, w, ?_, World.ownsRow_nil w 0 e i.size, World.grownBy.refl w _, Or.inl rfl⟩
   simp [Builtin.append_, run_underlying ht, run_underlying hti, Go.sizeOf, typeInfo, hi, asInt, asIntOf, hw0]
  ·have hgr := grown 0 (by omega) (Value.ownBlock (.slice none 0 0))
   exact ⟨_, _, runs none 0 (by omega) (by simp [Builtin.firstCells]), hgr.1, hgr.2, Or.inr rfl⟩
 ·by_cases hroom : n + m <= cap
  ·have hfit : n * i.size + news.length <= cur.size := by rw [hl, hcs, <- Nat.add_mul]; exact Nat.mul_le_mul_right _ hroom
   have hst := run_storeCells_at P g (n * i.size) e news 0 cur w hg (by simpa using hfit) h1
   simp only [Nat.add_zero] at hst
   have hnn : (n + m) * i.size = n * i.size + news.length := by rw [Nat.add_mul, hl]
   refine ⟨.slice (some ⟨g, 0, none⟩) (n + m) cap, w.setRow g (cur.toList.take (n * i.size) ++ news ++ cur.toList.drop (n * i.size + news.length)).toArray, ?_, ⟨hlen, .inr ⟨g, cap, _, rfl, hbg, setRow_heap w g cur _ e _ hg, hroom, hcm, ?_, ?_⟩⟩, ⟨rfl, rfl, rfl, by simp, fun k _ hk => setRow_other w g k _ (fun e => hk (by simp [Value.ownBlock, e]))⟩, Or.inl rfl⟩
   ·by_cases hm : m = 0
    ·have hnl := hnil hm
     subst hm
     rw [hnl] at hst ⊢
     simp [Builtin.append_, run_underlying ht, run_underlying hti, Go.sizeOf, typeInfo, hi, asInt, asIntOf, hw0, hnc, add_lit, hst]
    ·have hmz : ¬ (m * i.size = 0) := Nat.mul_ne_zero hm hsn
     simp [Builtin.append_, run_underlying ht, run_underlying hti, Go.sizeOf, typeInfo, zeroValue, hi, hz, asInt, asIntOf, hw, hneg, hbig, hroom, hmz, hna, add_lit]
     have h5 := hst
     simp only [List.append_assoc] at h5
     simp [h5]
   ·rw [<- hcs]
    simp only [List.size_toArray, List.length_append, List.length_take, List.length_drop, Array.length_toList]
    omega
   ·rw [List.toList_toArray, hnn, htake]
    have h7 : xs.length = n * i.size := hown.1
    rw [<- h7, <- List.length_append, List.take_left]
  ·have holds : ∀ j u, xs[j]? = some u -> w.cell? ((⟨g, 0, none⟩ : Addr).add j) = some u := hown.cells (g := g) rfl
   have hgr := grown cap (by omega) (Value.ownBlock (.slice (some ⟨g, 0, none⟩) n cap))
   exact ⟨_, _, runs (some ⟨g, 0, none⟩) cap (by omega) (run_firstCells_some (P := P) w.drew i.size n _ n cap xs hown.1 (by simpa using holds)), hgr.1, hgr.2, Or.inr rfl⟩
theorem Kp (H : Hyp hp nx φ ow w) {d : List Nat} {u : Upd} {v v' : Value} {w' : World} (hd : ∀ g, v.ownBlock = some g -> ∃ i ∈ d, ow g = some i) (hmeet : Bn d (ids u) = false)
  (hgrow : w.grownBy w' v.ownBlock) (hlt : ∀ g, v'.ownBlock = some g -> g < w'.heap.size) (hat : v'.ownBlock = v.ownBlock \/ v'.ownBlock = some w.heap.size) :
  Ext (nx :: (d ++ ids u)) nx φ ow w (BG φ nx v') (CY (Al d nx (AM (ids u) ow)) nx v'.ownBlock) w' /\ A8 (AM (ids u) ow) w (CY (Al d nx (AM (ids u) ow)) nx v'.ownBlock) w' /\
   (∀ g, v'.ownBlock = some g -> CY (Al d nx (AM (ids u) ow)) nx v'.ownBlock g = some nx) /\ (∀ b j, j ∈ d -> ow b = some j -> CY (Al d nx (AM (ids u) ow)) nx v'.ownBlock b = some nx) := by
 have at_ : ∀ b, (v'.ownBlock = some b -> False) -> CY (Al d nx (AM (ids u) ow)) nx v'.ownBlock b = Al d nx (AM (ids u) ow) b := by
  intro b hb
  cases hk : v'.ownBlock with
  | none => rfl
  | some g =>
   show BJ _ g nx b = _
   unfold BJ
   rw [if_neg]
   intro e
   exact hb (by rw [hk, e])
 have self : ∀ g, v'.ownBlock = some g -> CY (Al d nx (AM (ids u) ow)) nx v'.ownBlock g = some nx := by
  intro g hg
  rw [hg]
  simp [CY, BJ]
 have inD : ∀ b j, j ∈ d -> ow b = some j -> Al d nx (AM (ids u) ow) b = some nx := fun b j hj ho => Ko (Aj.2 ⟨ho, Dy hmeet hj⟩) hj
 have mv : ∀ b j, j ∈ d -> ow b = some j -> CY (Al d nx (AM (ids u) ow)) nx v'.ownBlock b = some nx := by
  intro b j hj ho
  by_cases hb : v'.ownBlock = some b
  ·exact self b hb
  ·rw [at_ b hb]; exact inD b j hj ho
 have far : ∀ b, b < w.heap.size -> (some b = v.ownBlock -> False) -> v'.ownBlock ≠ some b := by
  intro b hb h1 h2
  rcases hat with h | h
  ·rw [h] at h2; exact h1 h2.symm
  ·rw [h] at h2; injection h2 with h2; omega
 refine ⟨⟨hgrow.size, hgrow.os, hgrow.tape, hgrow.output, ?_, ?_, BI H v', ?_⟩, ⟨hgrow.size, ?_⟩, self, mv⟩
 ·intro b hb h
  have h1 : some b ≠ v.ownBlock := by
   intro e
   obtain ⟨j, hj, hj2⟩ := hd b e.symm
   exact h j hj2 (by simp [hj])
  refine ⟨?_, hgrow.block b hb h1⟩
  rw [at_ b (far b hb fun e => h1 e)]
  cases ho : ow b with
  | none => exact CJ.2 (Ay.2 (.inl ho))
  | some j =>
   have := h j ho
   simp only [List.mem_cons, List.mem_append, not_or] at this
   exact CA (Aj.2 ⟨ho, this.2.2⟩) this.2.1
 ·intro b i h
  by_cases hb : v'.ownBlock = some b
  ·rw [self b hb] at h
   injection h with h
   subst h
   exact ⟨hlt b hb, .inl (.inl (by simp))⟩
  ·rw [at_ b hb] at h
   have := hgrow.size
   rcases Ce h with ⟨h1, _⟩ | ⟨h1, j, _, h2⟩
   ·have ho := (Aj.1 h1).1
    have := (H.own b i ho).1
    exact ⟨by omega, .inr ⟨by omega, ho⟩⟩
   ·have := (H.own b j (Aj.1 h2).1).1
    exact ⟨by omega, .inl (.inl (by simp [h1]))⟩
 ·intro id hid
  unfold BG
  rw [if_neg (by omega)]
 ·intro b hb h
  have h1 : some b ≠ v.ownBlock := by
   intro e
   obtain ⟨j, hj, hj2⟩ := hd b e.symm
   rw [Aj.2 ⟨hj2, Dy hmeet hj⟩] at h
   cases h
  refine ⟨?_, hgrow.block b hb h1⟩
  rw [at_ b (far b hb fun e => h1 e)]
  exact CJ.2 h
theorem Ej {e : TypeId} {size n : Nat} {v : Value} {xs : List Value} (h : w.ownsRow 0 e size v n xs) : ∃ A c, v = .slice A n c := by
 rcases h.2 with ⟨h, hn⟩ | ⟨g, cap, cur, h, _⟩
 ·exact ⟨_, _, by rw [h, hn]⟩
 ·exact ⟨_, _, h⟩
theorem XB (H : Hyp hp nx φ ow w) {t t2 ty : TypeId} {s x : AV} {vs vx : Value} {out : Out} (hr : (EZ P t t2 s x nx).run hp = some out) (hs : s.holds φ ow w [vs]) (hx : x.holds φ ow w [vx]) (hobl : ∀ p ∈ out.Bu, p) :
  ∃ u w', (Builtin.append_ #[t, t2] ty #[vs, vx]).run P w = .ok u w' /\ Au out nx φ ow w u w' := by
 unfold EZ at hr
 split at hr <;> try (simp [Req.run] at hr; done)
 rename_i e k n hu hu2
 split at hr <;> try (simp [Req.run] at hr; done)
 rename_i i T hi hT
 split at hr <;> try (simp [Req.run] at hr; done)
 rename_i z hz
 split at hr <;> try (simp [Req.run] at hr; done)
 rename_i hc
 obtain ⟨z1, z2, z3, z4⟩ := hc
 obtain ⟨rfl, hn⟩ := Ak hx
 change Int at n
 obtain ⟨y, c', u, cs1, cs2, e1, h1, hr1, hy, _⟩ := Cc H T (B9 z.cells.toList) _ _ out (Bt z.cells.toList) hr
 cases c' <;> try (simp [Req.run] at hr1; done)
 cases u <;> try (simp [Req.run] at hr1; done)
 have h0 : cs2 = [] := h1
 subst h0
 rw [List.append_nil] at e1
 obtain ⟨l, d, u', xs, hr2, hown, hd, hrow, hsl, hll⟩ := FY H hr1 hs
 split at hr2 <;> try (simp [Req.run] at hr2; done)
 rename_i hmeet
 have hmeet : Bn d (ids u') = false := by simpa [ids] using hmeet
 simp only [Req.run, Option.some.injEq] at hr2
 subst hr2
 simp only [List.mem_cons, List.not_mem_nil, or_false, forall_eq_or_imp, forall_eq] at hobl
 obtain ⟨o1, o2, o3⟩ := hobl
 change @LE.le Int _ 0 n at o1
 obtain ⟨m, rfl⟩ := Int.eq_ofNat_of_zero_le o1
 rw [z1] at hown
 have hzc : (Builtin.zeroCells z.cells m).toList = (List.replicate m z.cells.toList).flatten := by unfold Builtin.zeroCells; exact Kn z.cells m
 have hy' : T.rep (AM (ids u') ow) w z.cells.toList y := by
  have h2 : T.rep (AM [] ow) w cs1 y := hy
  rw [<- e1] at h2
  exact Ty.AO (Ag (by simp)) h2
 have hrep := Rows.rep (R := T.rep (AM (ids u') ow) w) hy' m
 obtain ⟨v', w', hrun, hown', hgrow, hat⟩ := Fa (ty := ty) hu hu2 hi hz z2 z3 z4 hown m rfl (by
  rw [hzc]
  exact Rows.all (p := fun v => v.oneCell' = true) (fun cs x hr => Ty.Fz hr) hrep) (by simpa [lim] using o2)
 obtain ⟨E, K, self, mv⟩ := Kp H hd hmeet hgrow (fun g hg => (hown'.lt g hg).2) hat
 refine ⟨v', w', hrun, BG φ nx v', CY (Al d nx (AM (ids u') ow)) nx v'.ownBlock, ?_, ?_, ?_⟩
 ·have hX : ids ((nx, Chunk.arr e T (l ++ List.replicate (Int.toNat (m : Int)) y)) :: (d.map (fun i => (i, Chunk.none)) ++ u')) = nx :: (d ++ ids u') := by simp [ids, Function.comp_def]
  show Ext (ids _) nx φ ow w _ _ w'
  rw [hX]
  exact E
 ·obtain ⟨A, c, rfl⟩ := Ej hown'
  exact ⟨A, _, c, AP _, rfl⟩
 ·intro p hp
  rcases List.mem_cons.1 hp with rfl | hp
  ·refine ⟨v', AP _, xs ++ (Builtin.zeroCells z.cells m).toList, ?_, self, ?_, ?_⟩
   ·rw [z1, List.length_append]; simpa using hown'
   ·rw [List.length_append]; simpa using o3
   ·rw [hzc]
    exact Rows.mono (fun cs x => Ty.AO K) (Rows.app hrow (by simpa using hrep))
  ·rcases List.mem_append.1 hp with hp | hp
   ·obtain ⟨j, _, rfl⟩ := List.mem_map.1 hp
    trivial
   ·exact A3.post (S := ids u') (fun i hi => hi) (BI H v') K hsl p hp
end
end AL
end
section
set_option linter.unusedVariables false
set_option linter.unusedSimpArgs false
namespace AL
open Go
section
variable {φ : Hnd} {ow : Own} {w : World} {P : Program} {hp : Nat -> Chunk} {nx : Nat}
theorem QM (n : Nat) : ∀ u ∈ (Builtin.zeroCells (Value.int .i64 0).cells n).toList, ∃ x, u = .int .i64 x /\ IntKind.i64.has x := by
 intro u hu
 refine ⟨0, ?_, by simp [IntKind.has, IntKind.min, IntKind.max, IntKind.signed, IntKind.bits]⟩
 simp only [Builtin.zeroCells, Value.cells, Array.toList_map, List.mem_map] at hu
 obtain ⟨i, _, rfl⟩ := hu
 simp [Nat.mod_one]
theorem AHA {id : Nat} {e : TypeId} {B C : Int} {v : Value} (h : IU ow w id e B v) (hle : B <= C) : IU ow w id e C v := by
 rcases h with ⟨h, h0⟩ | ⟨b, n, c, cur, h1, h2, h3, h4, h5, h6, h7, h8⟩
 ·exact .inl ⟨h, by omega⟩
 ·exact .inr ⟨b, n, c, cur, h1, h2, h3, h4, h5, h6, h7, by omega⟩
theorem XC (H : Hyp hp nx φ ow w) {t t2 ty : TypeId} {k : Nat} {x : AV} {vs vx : Value} {out : Out} (hr : (IX P t t2 k x nx).run hp = some out) (hs : (AV.opq k).holds φ ow w [vs]) (hx : x.holds φ ow w [vx]) (hobl : ∀ p ∈ out.Bu, p) :
  ∃ u w', (Builtin.append_ #[t, t2] ty #[vs, vx]).run P w = .ok u w' /\ Au out nx φ ow w u w' := by
 unfold IX at hr
 simp only [Req.run] at hr
 split at hr <;> try (simp [Req.run] at hr; done)
 rename_i id hk
 simp only [Req.run] at hr
 split at hr <;> try (simp [Req.run] at hr; done)
 rename_i K e B outs hc
 split at hr <;> try (simp [Req.run] at hr; done)
 rename_i e2 i hu hi
 split at hr <;> try (simp [Req.run] at hr; done)
 rename_i hcond
 obtain ⟨hkm, rfl, rfl, hs1, hz, h8⟩ := hcond
 have hz := W2 hz
 obtain ⟨ys, u, zs, hr2, hsrc, hrows, _⟩ := Jf H hr hx
 split at hr2 <;> try (simp [Req.run] at hr2; done)
 rename_i y _
 simp only [Req.run, Option.some.injEq] at hr2
 subst hr2
 have hB : (B + 1) * 8 <= (lim : Int) := hobl _ (by simp)
 have hch := H.chunk id
 rw [hc] at hch
 obtain ⟨g, es, clock, L, h1, h2, h3, h4, h5⟩ := hch
 obtain ⟨v, hv, hrow⟩ := h5 k (Am.1 hkm)
 obtain ⟨v0, hv0, e0, _⟩ := hs
 rw [hv] at hv0
 injection hv0 with hv0
 injection e0 with e0
 subst hv0; subst e0
 have hzs : zs = [.int .i64 y] /\ IntKind.i64.has y := by
  obtain ⟨c, r, rfl, ⟨rfl, hy⟩, hr0⟩ := hrows
  rw [show r = [] from hr0]
  exact ⟨rfl, hy⟩
 obtain ⟨rfl, hy⟩ := hzs
 obtain ⟨A, c0, rfl, hA⟩ := hsrc
 simp only [List.length_cons, List.length_nil, Nat.zero_add] at hA ⊢
 rcases hA with hA | ⟨gg, o, rfl, hrd⟩
 ·cases hA
 have hcells : ∀ j u, [Value.int .i64 y][j]? = some u -> w.cell? ((⟨gg, o, none⟩ : Addr).add j) = some u := fun j u hu => by
  rw [add_lit]
  exact hrd j u hu
 have hgs : g < w.heap.size := (H.own g id h2).1
 have hlim : (lim : Int) = 140737488355328 := rfl
 have fin : ∀ (u : Value) (w' : World) (ow' : Own), (Builtin.append_ #[t2, t2] ty #[vs, .slice (some ⟨gg, o, none⟩) 1 c0]).run P w = .ok u w' ->
   w.heap.size <= w'.heap.size -> w'.os = w.os -> w'.tape = w.tape -> w'.output = w.output ->
   (∀ b, b < w.heap.size -> ow' b = ow b /\ (ow b ≠ some id -> w'.heap[b]? = w.heap[b]?)) -> w'.heap[g]? = w.heap[g]? ->
   (∀ b j, ow' b = some j -> b < w'.heap.size /\ (j = id \/ (b < w.heap.size /\ ow b = some j))) ->
   (∀ v, IU ow w id e2 B v -> IU ow' w' id e2 (B + 1) v) -> IU ow' w' id e2 (B + 1) u ->
   ∃ u w', (Builtin.append_ #[t2, t2] ty #[vs, .slice (some ⟨gg, o, none⟩) 1 c0]).run P w = .ok u w' /\ Au ⟨[(B + 1) * 8 <= (lim : Int)], .opq nx, [(nx, .orw id), (id, .mpo K e2 (B + 1) (nx :: outs))]⟩ nx φ ow w u w' := by
  intro u w' ow' hrun f1 f2 f3 f4 f5 f6 f7 f8 f9
  have h1c : u.oneCell' = true := by
   rcases f9 with ⟨rfl, _⟩ | ⟨b, n, c, cur, rfl, _⟩ <;> simp [Value.oneCell']
  refine ⟨u, w', hrun, BG φ nx u, ow', ⟨f1, f2, f3, f4, ?_, ?_, BI H u, ?_⟩, ⟨u, AP _, rfl, h1c⟩, ?_⟩
  ·intro b hb hno
   exact ⟨(f5 b hb).1, (f5 b hb).2 fun e => hno id e (by simp [ids])⟩
  ·intro b j hj
   obtain ⟨k1, k2⟩ := f7 b j hj
   exact ⟨k1, k2.elim (fun e => .inl (.inl (by simp [ids, e]))) .inr⟩
  ·intro j hj
   unfold BG
   rw [if_neg (by omega)]
  ·intro p hp
   simp only [List.mem_cons, List.not_mem_nil, or_false] at hp
   rcases hp with rfl | rfl
   ·trivial
   ·refine ⟨g, es, clock, L, BI H u _ _ h1, (f5 g hgs).1.trans h2, f6.trans h3, Cb (fun _ _ ⟨v, e1, e2⟩ => ⟨v, e1, f8 v e2⟩) h4, fun j hj => ?_⟩
    rcases List.mem_cons.1 hj with rfl | hj
    ·exact ⟨u, AP _, f9⟩
    ·obtain ⟨v, e1, e2⟩ := h5 j hj
     exact ⟨v, BI H u _ _ e1, f8 v e2⟩
 -- a new block
 have new : ∀ (n c : Nat) (cur : Array Value) (u : Value), (Builtin.append_ #[t2, t2] ty #[vs, .slice (some ⟨gg, o, none⟩) 1 c0]).run P w = .ok u (w.drew.alloc (.cells cur e2)) -> u = .slice (some ⟨w.heap.size, 0, none⟩) n c ->
   (∀ u ∈ cur.toList, ∃ x, u = .int .i64 x /\ IntKind.i64.has x) -> n <= c -> c <= maxLen -> cur.size = c -> (n : Int) <= B + 1 ->
   ∃ u w', (Builtin.append_ #[t2, t2] ty #[vs, .slice (some ⟨gg, o, none⟩) 1 c0]).run P w = .ok u w' /\ Au ⟨[(B + 1) * 8 <= (lim : Int)], .opq nx, [(nx, .orw id), (id, .mpo K e2 (B + 1) (nx :: outs))]⟩ nx φ ow w u w' := by
  intro n c cur u hrun hu q1 q2 q3 q4 q5
  have hold : ∀ b, b < w.heap.size -> (w.drew.alloc (.cells cur e2)).heap[b]? = w.heap[b]? := fun b hb => heap_alloc_old w.drew _ hb
  have how : ∀ b, b < w.heap.size -> BJ ow w.heap.size id b = ow b := fun b hb => by unfold BJ; rw [if_neg (by omega)]
  refine fin u _ (BJ ow w.heap.size id) hrun (by simp) rfl rfl rfl (fun b hb => ⟨how b hb, fun _ => hold b hb⟩) (hold g hgs) ?_ ?_ ?_
  ·intro b j hj
   unfold BJ at hj
   split at hj
   ·rename_i e
    injection hj with hj
    subst e
    exact ⟨by simp, .inl hj.symm⟩
   ·have := (H.own b j hj).1
    exact ⟨by simp; omega, .inr ⟨this, hj⟩⟩
  ·intro v hv
   exact AHA (He (fun b hb ho => ⟨(how b hb).trans ho, hold b hb⟩) hv) (by omega)
  ·exact .inr ⟨w.heap.size, n, c, cur, hu, by simp [BJ], heap_alloc_new w.drew _, q1, q2, q3, q4, q5⟩
 have hzc : (Value.int .i64 0).cells.size = 1 := rfl
 rcases hrow with ⟨rfl, hB0⟩ | ⟨b, n, c, cur, rfl, hb1, hb2, hb3, hb4, hb5, hb6, hb7⟩
 ·have hr := run_append_nil (P := P) w t2 ty e2 i (.int .i64 0) hu hi hz ⟨gg, o, none⟩ 1 c0 [.int .i64 y] (by rw [hs1]; rfl) hcells (by omega) (by omega) (by rw [h8]; omega)
  refine new 1 (grownCap w 1 0 e2) _ _ hr rfl ?_ (grownCap_ge w 1 0 e2) (grownCap_le_maxLen w 1 0 e2 (by simp [maxLen])) ?_ (by omega)
  ·intro u hu
   rw [Array.toList_append, List.mem_append] at hu
   rcases hu with hu | hu
   ·simp at hu; subst hu; exact ⟨y, rfl, hy⟩
   ·exact QM _ u hu
  ·have := grownCap_ge w 1 0 e2
   simp only [Array.size_append, List.size_toArray, size_zeroCells, hzc, List.length_cons, List.length_nil]
   omega
 ·have hcur : ∀ j u, (cur.toList.take n)[j]? = some u -> w.cell? ((⟨b, 0, none⟩ : Addr).add j) = some u := by
   intro j u hu
   rw [add_lit, Nat.zero_add]
   have hj : cur[j]? = some u := by
    rw [List.getElem?_take] at hu
    split at hu
    ·rwa [Array.getElem?_toList] at hu
    ·cases hu
   unfold World.cell?
   rw [hb2]
   simp [hj]
  by_cases hroom : n + 1 <= c
  ·have hr := run_append_room (P := P) w t2 ty e2 i hu hi b n c cur hb2 ⟨gg, o, none⟩ 1 c0 [.int .i64 y] (by rw [hs1]; rfl) hcells (by intro u hu; simp at hu; subst hu; rfl) hroom (by rw [hs1]; simp; omega)
   have hints : ∀ u ∈ (cur.toList.take (n * i.size) ++ [Value.int .i64 y] ++ cur.toList.drop (n * i.size + [Value.int .i64 y].length)).toArray.toList, ∃ x, u = .int .i64 x /\ IntKind.i64.has x := by
    intro u hu
    simp only [List.mem_append, List.mem_singleton] at hu
    rcases hu with (hu | hu) | hu
    ·exact hb3 u (List.mem_of_mem_take hu)
    ·subst hu; exact ⟨y, rfl, hy⟩
    ·exact hb3 u (List.mem_of_mem_drop hu)
   have hsz : (cur.toList.take (n * i.size) ++ [Value.int .i64 y] ++ cur.toList.drop (n * i.size + [Value.int .i64 y].length)).toArray.size = c := by
    rw [hs1]
    simp only [List.size_toArray, List.length_append, List.length_take, List.length_drop, Array.length_toList, List.length_cons, List.length_nil]
    omega
   generalize (cur.toList.take (n * i.size) ++ [Value.int .i64 y] ++ cur.toList.drop (n * i.size + [Value.int .i64 y].length)).toArray = cur' at hr hints hsz
   have hnew := setRow_heap w b cur cur' e2 (0, 0) hb2
   have hgb : g ≠ b := by
    intro e
    subst e
    rw [h3] at hb2
    cases hb2
   have hrows : ∀ v, IU ow w id e2 B v -> IU ow (w.setRow b cur') id e2 (B + 1) v := by
    intro v hv
    rcases hv with ⟨h, h0⟩ | ⟨b', n', c', cur1, q1, q2, q3, q4, q5, q6, q7, q8⟩
    ·exact .inl ⟨h, by omega⟩
    ·by_cases hbb : b' = b
     ·subst hbb
      rw [hb2] at q3
      injection q3 with q3
      injection q3 with q3 _ _
      subst q3
      exact .inr ⟨b', n', c', cur', q1, q2, hnew, hints, q5, q6, by omega, by omega⟩
     ·exact .inr ⟨b', n', c', cur1, q1, q2, (setRow_other w b b' cur' hbb).trans q3, q4, q5, q6, q7, by omega⟩
   refine fin _ _ ow hr (by simp [World.setRow]) rfl rfl rfl (fun b' hb' => ⟨rfl, fun hno => setRow_other w b b' cur' fun e => hno (by rw [e]; exact hb1)⟩) (setRow_other w b g cur' hgb) ?_ hrows ?_
   ·intro b' j hj
    have := (H.own b' j hj).1
    exact ⟨by simp [World.setRow]; exact this, .inr ⟨this, hj⟩⟩
   ·exact .inr ⟨b, n + 1, c, cur', rfl, hb1, hnew, hints, hroom, hb5, hsz, by omega⟩
  ·have hmx : maxLen = 9223372036854775807 \/ maxLen >= 17592186044416 := by simp [maxLen]
   have hr := run_append_grow (P := P) w t2 ty e2 i (.int .i64 0) hu hi hz ⟨b, 0, none⟩ n c (cur.toList.take n) (by rw [hs1, List.length_take, Array.length_toList]; omega) hcur ⟨gg, o, none⟩ 1 c0 [.int .i64 y] (by rw [hs1]; rfl) hcells (by omega) (by omega) (growslice_fits (by omega) (by rw [h8]; omega))
   refine new (n + 1) (grownCap w (n + 1) c e2) _ _ hr rfl ?_ (grownCap_ge w (n + 1) c e2) (grownCap_le_maxLen w (n + 1) c e2 (by omega)) ?_ (by omega)
   ·intro u hu
    simp only [Array.toList_append, List.mem_append] at hu
    rcases hu with (hu | hu) | hu
    ·exact hb3 u (List.mem_of_mem_take (by simpa using hu))
    ·simp at hu; subst hu; exact ⟨y, rfl, hy⟩
    ·exact QM _ u hu
   ·have := grownCap_ge w (n + 1) c e2
    simp only [Array.size_append, List.size_toArray, size_zeroCells, hzc, List.length_cons, List.length_nil, List.length_take, Array.length_toList]
    omega
end
end AL
end
