/- The texts Sy1, Sy2, Sy3, Sx22, Sx23, Sx24, Sx25, Sx26, Sy4, Sy7, Sy8, SzA, SzB, Sy5, Sy6, one behind the other. -/
import Derived.Test.YtjoemkjibcfgnaaGreatGA2
import Derived.KernelRfl
import Derived.Shelf.Slices.CompactI
import Derived.Shelf.Slices.Delete
import Derived.Conc.LoneCalls
import Derived.RangeFuncRecord
import Derived.RangeFuncIn
import Derived.RangeFuncLeaves
import Derived.ProofKit
import Derived.SizedLaws
import Derived.HandedShaped
import Derived.ChangeCalls
set_option linter.unusedVariables false
set_option linter.unusedSimpArgs false
section
/- Sy, part 1: code as a program over data: what code computes, if its rules hold on the way. -/
set_option linter.unusedVariables false
set_option linter.unusedSimpArgs false
namespace GoSx
open Go

/-! ### Programs over data -/
/-- What may have changed. -/
structure Dirt where
  e : Nat → Bool
  h : Nat → Bool
inductive Prog : Type → Type 1 where
  | ret {R : Type} (r : R) : Prog R
  | fail {R : Type} (n : Nat) : Prog R
  | at {R : Type} (n : Nat) (st : St) (D : Dirt) : Prog R   -- a cut that has no shape, or whose shape does not fit
  | guard {R : Type} (p : Prop) (d : Decidable p) (k : Prog R) : Prog R
  | ite {R : Type} (b : Bool) (t e : Prog R) : Prog R
  | bind {X R : Type} (m : Option X) (k : X → Prog R) : Prog R
  | join {X R : Type} (a : Prog (X ⊕ R)) (k : X → Prog R) : Prog R
  | loop {X R : Type} (n : Nat) (b : X → Prog (X ⊕ R)) (x : X) : Prog R

/-- A number, as one below 0 might be. -/
abbrev nI (n : Nat) : Int := n

/-- Goes on where p holds. -/
def gd (p : Prop) [d : Decidable p] {R : Type} (k : Option R) : Option R := @ite _ p d k Option.none

/-- So many rounds at most. -/
def iterO {X R : Type} (b : X → Option (X ⊕ R)) : Nat → X → Option R
  | 0, _ => Option.none
  | n + 1, x => match b x with
    | some (.inl y) => iterO b n y
    | some (.inr r) => some r
    | Option.none => Option.none

def bindO {X R : Type} (m : Option X) (k : X → Option R) : Option R := match m with
  | some x => k x
  | Option.none => Option.none
def joinO {X R : Type} (m : Option (X ⊕ R)) (k : X → Option R) : Option R := match m with
  | some (.inl x) => k x
  | some (.inr r) => some r
  | Option.none => Option.none

def Prog.run : {R : Type} → Prog R → Option R
  | _, .ret r => some r
  | _, .fail _ => Option.none
  | _, .at _ _ _ => Option.none
  | _, .guard p d k => @_root_.ite _ p d k.run Option.none
  | _, .ite b t e => bif b then t.run else e.run
  | _, .bind m k => bindO m fun x => (k x).run
  | _, .join a k => joinO a.run fun x => (k x).run
  | _, .loop n b x => iterO (fun x => (b x).run) n x

/-! ### Pairs, without what tells nothing -/
@[reducible] def twoR (a : Ty) : Ty → Ty
  | .unit => a
  | .int k => .pair a (.int k)
  | .bool => .pair a .bool
  | .str => .pair a .str
  | .sl t => .pair a (.sl t)
  | .ptr t => .pair a (.ptr t)
  | .mapT K V => .pair a (.mapT K V)
  | .pair b c => .pair a (.pair b c)
@[reducible] def two : Ty → Ty → Ty
  | .unit, d => d
  | .int k, d => twoR (.int k) d
  | .bool, d => twoR .bool d
  | .str, d => twoR .str d
  | .sl t, d => twoR (.sl t) d
  | .ptr t, d => twoR (.ptr t) d
  | .mapT K V, d => twoR (.mapT K V) d
  | .pair b c, d => twoR (.pair b c) d
def mkR (a : Ty) : (d : Ty) → a.den → d.den → (twoR a d).den
  | .unit, x, _ => x
  | .int k, x, y => (x, y)
  | .bool, x, y => (x, y)
  | .str, x, y => (x, y)
  | .sl t, x, y => (x, y)
  | .ptr t, x, y => (x, y)
  | .mapT K V, x, y => (x, y)
  | .pair b c, x, y => (x, y)
def fstR (a : Ty) : (d : Ty) → (twoR a d).den → a.den
  | .unit, x => x
  | .int k, x => x.1
  | .bool, x => x.1
  | .str, x => x.1
  | .sl t, x => x.1
  | .ptr t, x => x.1
  | .mapT K V, x => x.1
  | .pair b c, x => x.1
def sndR (a : Ty) : (d : Ty) → (twoR a d).den → d.den
  | .unit, _ => ()
  | .int k, x => x.2
  | .bool, x => x.2
  | .str, x => x.2
  | .sl t, x => x.2
  | .ptr t, x => x.2
  | .mapT K V, x => x.2
  | .pair b c, x => x.2
def mk2 : (a d : Ty) → a.den → d.den → (two a d).den
  | .unit, _, _, y => y
  | .int k, d, x, y => mkR (.int k) d x y
  | .bool, d, x, y => mkR .bool d x y
  | .str, d, x, y => mkR .str d x y
  | .sl t, d, x, y => mkR (.sl t) d x y
  | .ptr t, d, x, y => mkR (.ptr t) d x y
  | .mapT K V, d, x, y => mkR (.mapT K V) d x y
  | .pair b c, d, x, y => mkR (.pair b c) d x y
def fst2 : (a d : Ty) → (two a d).den → a.den
  | .unit, _, _ => ()
  | .int k, d, x => fstR (.int k) d x
  | .bool, d, x => fstR .bool d x
  | .str, d, x => fstR .str d x
  | .sl t, d, x => fstR (.sl t) d x
  | .ptr t, d, x => fstR (.ptr t) d x
  | .mapT K V, d, x => fstR (.mapT K V) d x
  | .pair b c, d, x => fstR (.pair b c) d x
def snd2 : (a d : Ty) → (two a d).den → d.den
  | .unit, _, x => x
  | .int k, d, x => sndR (.int k) d x
  | .bool, d, x => sndR .bool d x
  | .str, d, x => sndR .str d x
  | .sl t, d, x => sndR (.sl t) d x
  | .ptr t, d, x => sndR (.ptr t) d x
  | .mapT K V, d, x => sndR (.mapT K V) d x
  | .pair b c, d, x => sndR (.pair b c) d x
theorem fstR_mk (a : Ty) : ∀ (d : Ty) (x : a.den) (y : d.den), fstR a d (mkR a d x y) = x := by intro d; cases d <;> intros <;> rfl
theorem sndR_mk (a : Ty) : ∀ (d : Ty) (x : a.den) (y : d.den), sndR a d (mkR a d x y) = y := by intro d; cases d <;> intros <;> rfl
theorem fst2_mk (a d : Ty) (x : a.den) (y : d.den) : fst2 a d (mk2 a d x y) = x := by cases a <;> first | rfl | exact fstR_mk _ d x y
theorem snd2_mk (a d : Ty) (x : a.den) (y : d.den) : snd2 a d (mk2 a d x y) = y := by cases a <;> first | rfl | exact sndR_mk _ d x y

/-! ### Shapes of states -/
inductive ASh where
  | bot
  | dat (T : Ty)
  | nilv                        -- nil, as a row
  | arr (id : Nat)
  | vw (id sz : Nat)
  | ref (id off : Nat)
  | elt (id sz off : Nat)
  | spt (T : Ty)
  | fn (f : FuncId) (caps : ASh)
  | mapv (id : Nat)
  | chv (id : Nat)
  | bfn (id : Nat) (f : FuncId)
  | opq (k : Nat)
  | idn (k : Nat) (T : Ty)
  | nil
  | cons (a b : ASh)
  | agg (l : ASh)
  | tup (l : ASh)

@[reducible] def ASh.ty : ASh → Ty
  | .dat T => T
  | .vw _ _ => .pair (.int .i64) (.int .i64)
  | .elt _ _ _ => .int .i64
  | .spt T => T
  | .fn _ c => c.ty
  | .idn _ T => T
  | .cons a b => two a.ty b.ty
  | .agg l => l.ty
  | .tup l => l.ty
  | _ => .unit

def ASh.enc : (s : ASh) → s.ty.den → AV
  | .bot, _ => .bot
  | .dat T, x => .dat T x
  | .nilv, _ => .raw (.slice Option.none 0 0)
  | .arr id, _ => .arr id
  | .vw id sz, x => .vw id sz x.1 x.2
  | .ref id off, _ => .ref id off
  | .elt id sz off, x => .elt id sz x off
  | .spt T, x => .spt T x
  | .fn f c, x => .fn f (c.enc x)
  | .mapv id, _ => .mapv id
  | .chv id, _ => .chv id
  | .bfn id f, _ => .bfn id f
  | .opq k, _ => .opq k
  | .idn k T, x => .idn k T x
  | .nil, _ => .nil
  | .cons a b, x => .cons (a.enc (fst2 a.ty b.ty x)) (b.enc (snd2 a.ty b.ty x))
  | .agg l, x => .agg (l.enc x)
  | .tup l, x => .tup (l.enc x)

def datD (T : Ty) (a : AV) : Option T.den := match a with
  | .dat T' y => if h : T' = T then some (coeT h y) else Option.none
  | _ => Option.none

def isNilV : AV → Bool
  | .raw (.slice Option.none 0 0) => true
  | _ => false

def ASh.dec : (s : ASh) → AV → Option s.ty.den
  | .bot, a => bif a.single then some () else Option.none
  | .dat (.sl T), a => match a with
    | .raw (.slice Option.none 0 0) => some []
    | a => datD (.sl T) a
  | .dat T, a => datD T a
  | .nilv, a => bif isNilV a then some () else Option.none
  | .arr _, .arr _ => some ()
  | .vw _ _, .vw _ _ lo hi => some (lo, hi)
  | .ref _ _, .ref _ _ => some ()
  | .elt _ _ _, .elt _ _ i _ => some i
  | .spt T, .spt T' y => if h : T' = T then some (coeT h y) else Option.none
  | .fn _ c, .fn _ c' => c.dec c'
  | .mapv _, .mapv _ => some ()
  | .chv _, .chv _ => some ()
  | .bfn _ _, .bfn _ _ => some ()
  | .opq _, .opq _ => some ()
  | .idn _ T, .idn _ T' y => if h : T' = T then some (coeT h y) else Option.none
  | .nil, .nil => some ()
  | .cons a b, .cons a' b' => match a.dec a' with
    | some x => match b.dec b' with
      | some y => some (mk2 a.ty b.ty x y)
      | Option.none => Option.none
    | Option.none => Option.none
  | .agg l, .agg l' => l.dec l'
  | .tup l, .tup l' => l.dec l'
  | _, _ => Option.none

inductive CSh where
  | box (e : TypeId) (cells : ASh)
  | arr (e : TypeId) (T : Ty)
  | lit (e : TypeId) (n : Nat) (cells : ASh)
  | sld (T : Ty)
  | arr2 (e e' : TypeId) (T : Ty) (hs : List Nat)
  | mp (K V : Ty)
  | mpo (K : Ty) (e : TypeId)
  | ch

@[reducible] def hsTy : List Nat → Ty
  | [] => .unit
  | _ :: r => two (.int .i64) (hsTy r)
def hsEnc : (l : List Nat) → (hsTy l).den → List (Int × Nat)
  | [], _ => []
  | k :: r, x => (fst2 (.int .i64) (hsTy r) x, k) :: hsEnc r (snd2 (.int .i64) (hsTy r) x)
def hsDec : (l : List Nat) → List (Int × Nat) → Option (hsTy l).den
  | [], [] => some ()
  | _ :: r, (i, _) :: r' => match hsDec r r' with
    | some y => some (mk2 (.int .i64) (hsTy r) i y)
    | Option.none => Option.none
  | _, _ => Option.none

@[reducible] def CSh.ty : CSh → Ty
  | .box _ c => c.ty
  | .arr _ T => .sl T
  | .lit _ _ c => c.ty
  | .sld T => .sl T
  | .arr2 _ _ T hs => two (.sl (.sl T)) (hsTy hs)
  | .mp K V => .sl (.pair K V)
  | .mpo _ _ => .int .i64
  | .ch => .pair (.int .i64) (.int .i64)

def CSh.enc : (s : CSh) → s.ty.den → Chunk
  | .box e c, x => .box e (c.enc x)
  | .arr e T, x => .arr e T x
  | .lit e n c, x => .lit e n (c.enc x)
  | .sld T, x => .sld T x
  | .arr2 e e' T hs, x => .arr2 e e' T (fst2 (.sl (.sl T)) (hsTy hs) x) (hsEnc hs (snd2 (.sl (.sl T)) (hsTy hs) x))
  | .mp K V, x => .mp K V x
  | .mpo K e, x => .mpo K e x []
  | .ch, x => .ch x.1 x.2

def CSh.dec : (s : CSh) → Chunk → Option s.ty.den
  | .box _ c, .box _ c' => c.dec c'
  | .arr _ T, .arr _ T' l => if h : T' = T then some (coeT (congrArg Ty.sl h) l) else Option.none
  | .lit _ _ c, .lit _ _ c' => c.dec c'
  | .sld T, .sld T' l => if h : T' = T then some (coeT (congrArg Ty.sl h) l) else Option.none
  | .arr2 _ _ T hs, .arr2 _ _ T' l hs' => if h : T' = T then (match hsDec hs hs' with
    | some y => some (mk2 (.sl (.sl T)) (hsTy hs) (coeT (congrArg (fun t => Ty.sl (Ty.sl t)) h) l) y)
    | Option.none => Option.none) else Option.none
  | .mp K V, .mp K' V' l => if h : V' = V then (if h2 : K' = K then some (coeM h2 h l) else Option.none) else Option.none
  | .mpo _ _, .mpo _ _ B _ => some B
  | .ch, .ch c n => some (c, n)
  | _, _ => Option.none

structure Shape where
  env : List (Nat × ASh)
  heap : List (Nat × CSh)
  keep : List Nat
  keepH : List Nat

@[reducible] def envTy : List (Nat × ASh) → Ty
  | [] => .unit
  | (_, s) :: r => two s.ty (envTy r)
@[reducible] def heapTy : List (Nat × CSh) → Ty
  | [] => .unit
  | (_, s) :: r => two s.ty (heapTy r)
@[reducible] def Shape.ty (sh : Shape) : Ty := two (envTy sh.env) (heapTy sh.heap)
def encEnv : (l : List (Nat × ASh)) → (envTy l).den → List (Nat × AV)
  | [], _ => []
  | (t, s) :: r, x => (t, s.enc (fst2 s.ty (envTy r) x)) :: encEnv r (snd2 s.ty (envTy r) x)
def encHeap : (l : List (Nat × CSh)) → (heapTy l).den → List (Nat × Chunk)
  | [], _ => []
  | (t, s) :: r, x => (t, s.enc (fst2 s.ty (heapTy r) x)) :: encHeap r (snd2 s.ty (heapTy r) x)
def decEnv (env : Nat → AV) : (l : List (Nat × ASh)) → Option (envTy l).den
  | [] => some ()
  | (t, s) :: r => match s.dec (env t) with
    | some x => match decEnv env r with
      | some y => some (mk2 s.ty (envTy r) x y)
      | Option.none => Option.none
    | Option.none => Option.none
def decHeap (heap : Nat → Chunk) : (l : List (Nat × CSh)) → Ren → Option (heapTy l).den
  | [], _ => some ()
  | (a, s) :: r, ρ =>
    let b := (ρ.find a).getD a
    match ρ.bind a b with
    | some ρ => match s.dec (heap b) with
      | some x => match matchCh ρ (s.enc x) (heap b) with
        | some (ρ, _) => match decHeap heap r ρ with
          | some y => some (mk2 s.ty (heapTy r) x y)
          | Option.none => Option.none
        | Option.none => Option.none
      | Option.none => Option.none
    | Option.none => Option.none

def Shape.ann (sh : Shape) : Ann where
  ι := sh.ty.den
  inv := fun _ => True
  env := fun x => encEnv sh.env (fst2 (envTy sh.env) (heapTy sh.heap) x)
  heap := fun x => encHeap sh.heap (snd2 (envTy sh.env) (heapTy sh.heap) x)
  keep := sh.keep
  keepH := sh.keepH
  meas := fun _ => 0

def Dirt.no : Dirt := ⟨fun _ => false, fun _ => false⟩
def Dirt.put (D : Dirt) (d : Option Tmp) : Dirt := match d with
  | some d => { D with e := fun t => Nat.beq t d || D.e t }
  | Option.none => D
def Dirt.upd (D : Dirt) (l : List Nat) : Dirt := { D with h := fun j => memN j l || D.h j }
/-- Behind a state of that shape. -/
def Dirt.behind (D : Dirt) (sh : Shape) : Dirt := ⟨fun t => !(memN t sh.keep) || memN t (sh.env.map (·.1)) || D.e t, fun i => !(memN i sh.keepH) || memN i (sh.heap.map (·.1)) || D.h i⟩

def closeIds (b : Nat) (heap : Nat → Chunk) : List Nat := match heap b with
  | .arr2 _ _ _ _ hs => b :: hs.map (·.2)
  | _ => []
/-- Which chunks change where rows come back. -/
def preIds (ρ : Ren) : List (Nat × CSh) → (Nat → Chunk) → List Nat
  | [], _ => []
  | (a, .arr2 _ _ _ []) :: r, heap => closeIds ((ρ.find a).getD a) heap ++ preIds ρ r (closeAt ((ρ.find a).getD a) heap)
  | _ :: r, heap => preIds ρ r heap
def preCloseS (ρ : Ren) : List (Nat × CSh) → (Nat → Chunk) → (Nat → Chunk)
  | [], heap => heap
  | (a, .arr2 _ _ _ []) :: r, heap => preCloseS ρ r (closeAt ((ρ.find a).getD a) heap)
  | _ :: r, heap => preCloseS ρ r heap

/-- The data of a state of that shape. -/
def decSt1 (fix : List Nat) (sh : Shape) (s0 st : St) (D : Dirt) : Option sh.ty.den :=
  match decEnv st.env sh.env with
  | some xe => match entFix s0.env sh.keep [] with
    | some ρ => match entEnv st.env (encEnv sh.env xe ++ sh.keep.map fun t => (t, s0.env t)) ρ [] with
      | some (ρ, ps) => match decHeap (preCloseS ρ sh.heap st.heap) sh.heap ρ with
        | some xh => match entHeap (preCloseS ρ sh.heap st.heap) (encHeap sh.heap xh ++ sh.keepH.map fun i => (i, s0.heap i)) ρ ps with
          | some (ρ', _) => bif ρ'.ok fix s0.next && (Nat.beq st.n s0.n && (Nat.blt 0 s0.next && (fix.all fun i => Nat.blt i s0.next))) &&
              ((sh.keep.all fun t => !(memN t (sh.env.map (·.1))) && !(D.e t)) && (sh.keepH.all fun i => !(memN i (sh.heap.map (·.1))) && !(D.h i) && (!(memN i (preIds ρ sh.heap st.heap)) && match ρ'.find i with
                | some j => Nat.beq i j
                | Option.none => false))) then some (mk2 (envTy sh.env) (heapTy sh.heap) xe xh) else Option.none
          | Option.none => Option.none
        | Option.none => Option.none
      | Option.none => Option.none
    | Option.none => Option.none
  | Option.none => Option.none

/-- A nil where a row of our own is told: an empty one. -/
def promo1 (hs : List (Nat × CSh)) (t : Nat) (s : ASh) (st : St) : St := match s, st.env t with
  | .arr a, .raw (.slice Option.none 0 0) => match hs.find? fun p => Nat.beq p.1 a with
    | some (_, .arr e T) => { env := fun u => bif Nat.beq u t then .arr st.next else st.env u, heap := fun j => bif Nat.beq j st.next then .arr e T [] else st.heap j, next := st.next + 1, n := st.n }
    | some (_, .arr2 e e' T _) => { env := fun u => bif Nat.beq u t then .arr st.next else st.env u, heap := fun j => bif Nat.beq j st.next then .arr2 e e' T [] [] else st.heap j, next := st.next + 1, n := st.n }
    | _ => st
  | _, _ => st
def promo (hs : List (Nat × CSh)) : List (Nat × ASh) → St → St
  | [], st => st
  | (t, s) :: r, st => promo hs r (promo1 hs t s st)

/-- The first nil among an object's cells where a row of our own is told. -/
def promoC (n : Nat) (hs : List (Nat × CSh)) : ASh → AV → Option (AV × TypeId × Ty)
  | .cons s r, .cons v r' => match s, v with
    | .arr a, .raw (.slice Option.none 0 0) => match hs.find? fun p => Nat.beq p.1 a with
      | some (_, .arr e T) => some (.cons (.arr n) r', e, T)
      | _ => match promoC n hs r r' with
        | some (x, y) => some (.cons v x, y)
        | Option.none => Option.none
    | _, _ => match promoC n hs r r' with
      | some (x, y) => some (.cons v x, y)
      | Option.none => Option.none
  | _, _ => Option.none
def promoB1 (hs : List (Nat × CSh)) (a : Nat) (c : ASh) (st : St) : St := match st.heap a with
  | .box e cells => match promoC st.next hs c cells with
    | some (cells', e1, T) => { env := st.env, heap := fun j => bif Nat.beq j st.next then .arr e1 T [] else bif Nat.beq j a then .box e cells' else st.heap j, next := st.next + 1, n := st.n }
    | Option.none => st
  | _ => st
def promoB (hs : List (Nat × CSh)) : List (Nat × CSh) → St → St
  | [], st => st
  | (a, .box _ c) :: r, st => promoB hs r (promoB1 hs a c (promoB1 hs a c st))
  | _ :: r, st => promoB hs r st

/-- A row of our own where a sealed one is told. -/
def promoS1 (a : Nat) (T : Ty) (st : St) : St := bif Nat.beq a 0 then st else match st.heap a with
  | .arr _ T' l => if h : T' = T then { st with heap := fun j => bif Nat.beq j a then .sld T (coeT (congrArg Ty.sl h) l) else st.heap j } else st
  | _ => st
def promoS : List (Nat × CSh) → St → St
  | [], st => st
  | (a, .sld T) :: r, st => promoS r (promoS1 a T st)
  | _ :: r, st => promoS r st

/-- The data of a state of that shape. -/
def decSt (fix : List Nat) (sh : Shape) (s0 st : St) (D : Dirt) : Option sh.ty.den :=
  bif sh.keepH.all fun i => Nat.blt i st.next then decSt1 fix sh s0 (promoS sh.heap (promoB sh.heap sh.heap (promo sh.heap sh.env st))) D else Option.none

/-! ### Code -/
/-- Rounds enough. -/
def fuelN : Nat := 2 ^ 200

structure LoopS where
  sh : Shape
  fuel : sh.ty.den → Nat

structure XCfg where
  P : Program
  S : FuncId → Summ
  wr : Md
  fix : List Nat
  loops : Nat → Option LoopS
  joins : Nat → Option Shape

def XCfg.cfg (C : XCfg) : Cfg := { P := C.P, S := C.S, wr := C.wr, fix := C.fix, loops := fun _ _ => Option.none, joins := fun _ _ => Option.none }

def exReq {R : Type} (hp : Nat → Chunk) : Req → (Out → List Nat → Prog R) → Prog R
  | .look id k, K => exReq hp (k (hp id)) fun o t => K o (id :: t)
  | .out o, K => K o []
  | .fail, _ => .fail 1
  | .call m k, K => .bind m fun x => exReq hp (k x) K

def guardL {R : Type} : {ps : List Prop} → DecL ps → Prog R → Prog R
  | _, .nil, x => x
  | _, @DecL.cons p _ d r, x => .guard p d (guardL r x)

section
variable (C : XCfg)

def exRun {R : Type} (o : Oper) (next i : Nat) (ord : Nat → Bool) (st : St) (K : List Nat → List Nat → St → Prog R) : Prog R :=
  exReq st.heap (reqOp C.P C.S C.wr o.op (evalAV st.env) (next + 64 * i)) fun out tch =>
    bif updOk next i ord tch out.upd && dstOk st.n o.dst then guardL out.dec.dl (K tch (ids out.upd) ((st.upd out.upd).put o.dst out.res)) else .fail 2

def exOps {R : Type} (ops : Array Oper) (bef : Option (Array Nat)) (next : Nat) : List Oper → Nat → List Trc → St → Dirt → (St → Dirt → Prog R) → Prog R
  | [], _, tr, st, D, K => match bef with
    | some b => bif trcOk b tr.reverse then K st D else .fail 3
    | Option.none => K st D
  | o :: r, i, tr, st, D, K =>
    let go (rd : List Nat) (st : St) : Prog R := exRun C o next i (ordOf bef i) st fun tch up st' => exOps ops bef next r (i + 1) (⟨i, rd ++ rdSlots o, o.dst, tch, up⟩ :: tr) st' ((D.put o.dst).upd up) K
    match o.guard with
    | Option.none => go [] st
    | some (j, want) => match (ops[j]?).bind (·.dst) with
      | some d => match st.env d with
        | .dat .bool b =>
          let F (c : Bool) : Prog R :=
            let st1 := st.put (some d) (.dat .bool c)
            bif c == want then go [d] st1 else bif dstOk st.n o.dst then exOps ops bef next r (i + 1) (⟨i, [d], o.dst, [], []⟩ :: tr) (st1.put o.dst (.raw undef)) (D.put o.dst) K else .fail 6
          .ite b (F true) (F false)
        | .raw v => bif notBool v && dstOk st.n o.dst then exOps ops bef next r (i + 1) (⟨i, [d], o.dst, [], []⟩ :: tr) (st.put o.dst (.raw undef)) (D.put o.dst) K else .fail 6
        | _ => .fail 4
      | _ => .fail 5

def exRegion {R : Type} (ops : Array Oper) (draw : Bool) (st : St) (D : Dirt) (K : St → Dirt → Prog R) : Prog R :=
  bif !draw || edgesOk 0 ops.toList then
    exOps C ops (bif draw then some (Region.before ops) else Option.none) st.next ops.toList 0 [] st D fun st' D' => K { st' with next := st.next + 64 * ops.size } D'
  else .fail 16

/-- Where code goes on: what it answers at last is injected. -/
abbrev Kont (R : Type) : Type 1 := (Y : Type) → (R → Y) → Exit → St → Dirt → Prog Y

def retO {X Y : Type} (inj : X → Y) (m : Option X) (n : Nat) (st : St) (D : Dirt) : Prog Y := match m with
  | some x => .ret (inj x)
  | Option.none => .at n st D

def Dirt.plus (D D' : Dirt) : Dirt := ⟨fun t => D.e t || D'.e t, fun i => D.h i || D'.h i⟩

def smap {X R Y : Type} (f : R → Y) : X ⊕ R → X ⊕ Y
  | .inl x => .inl x
  | .inr r => .inr (f r)

/-- Within a cut: its end gives data. -/
def cutK {R : Type} (n : Nat) (fix : List Nat) (sh : Shape) (s0 : St) (D : Dirt) (K : Kont R) : Kont (sh.ty.den ⊕ R) := fun Y inj e st' D' => match e with
  | .normal => retO (fun x => inj (.inl x)) (decSt fix sh s0 st' D') (1000000 + n) st' D'
  | e => K Y (fun r => inj (.inr r)) e st' (D.plus D')

def exCode : Code → {R : Type} → St → Dirt → Kont R → (Y : Type) → (R → Y) → Prog Y
  | .skip, _, st, D, K, Y, inj => K Y inj .normal st D
  | .label _, _, st, D, K, Y, inj => K Y inj .normal st D
  | .region _ ops draw, _, st, D, K, Y, inj => exRegion C ops draw st D (K Y inj .normal)
  | .seq a b, R, st, D, K, Y, inj => match C.joins (firstReg b) with
    | Option.none => exCode a st D (fun Y inj e st' D' => match e with
      | .normal => exCode b st' D' K Y inj
      | e => K Y inj e st' D') Y inj
    | some sh => .join (X := sh.ty.den) (exCode a st Dirt.no (cutK (firstReg b) C.fix sh st D K) (sh.ty.den ⊕ Y) (smap inj))
      fun x => exCode b (invSt sh.ann x st) (D.behind sh) K Y inj
  | .cond c a b, _, st, D, K, Y, inj => match evalAV st.env c with
    | .dat .bool v =>
      let F (v : Bool) : St := match c with
        | .tmp t => st.put (some t) (.dat .bool v)
        | _ => st
      .ite v (exCode a (F true) D K Y inj) (exCode b (F false) D K Y inj)
    | _ => .fail 11
  | .block id a, _, st, D, K, Y, inj => exCode a st D (fun Y inj e st' D' => match e with
    | .exit id' => bif Nat.beq id' id then K Y inj .normal st' D' else K Y inj (.exit id') st' D'
    | e => K Y inj e st' D') Y inj
  | .scope a, _, st, D, K, Y, inj => exCode a st D (fun Y inj e st' D' => match e with
    | .goto _ => .fail 12
    | e => K Y inj e st' D') Y inj
  | .exit id, _, st, D, K, Y, inj => K Y inj (.exit id) st D
  | .ret, _, st, D, K, Y, inj => K Y inj .ret st D
  | .loop a, R, st, D, K, Y, inj => match C.loops (firstReg a) with
    | some L => match decSt C.fix L.sh st st Dirt.no with
      | some x0 => .loop (X := L.sh.ty.den) (L.fuel x0) (fun x => exCode a (invSt L.sh.ann x st) Dirt.no (cutK (firstReg a) C.fix L.sh st (D.behind L.sh) K) (L.sh.ty.den ⊕ Y) (smap inj)) x0
      | Option.none => .at (firstReg a) st Dirt.no
    | Option.none => .at (firstReg a) st D
  | _, _, _, _, _, _, _ => .fail 15
end

end GoSx
end
section
/- Sy, part 2: a state whose data were found is of its shape. -/
set_option linter.unusedVariables false
set_option linter.unusedSimpArgs false
namespace GoSx
open Go

theorem mem_app {p : Prop} {a b : List Prop} (h : p ∈ a ++ b) (ha : ∀ p ∈ a, p) (hb : ∀ p ∈ b, p) : p := (List.mem_append.1 h).elim (ha p) (hb p)

theorem datD_some {T : Ty} {a : AV} {x : T.den} (h : datD T a = some x) : a = .dat T x := by
  unfold datD at h
  split at h <;> try (cases h; done)
  rename_i T' y
  split at h <;> try (cases h; done)
  rename_i hT
  subst hT
  injection h with h
  rw [← h]
  rfl

theorem match_dat {T : Ty} {x : T.den} {ρ ρ' : Ren} {ps : List Prop} (h : matchAV ρ (.dat T x) (.dat T x) = some (ρ', ps)) : ∀ p ∈ ps, p := by
  unfold matchAV at h
  first | rw [dif_pos rfl] at h | rw [dif_pos trivial] at h
  injection h with h
  injection h with h1 h2
  subst h2
  intro p hp
  simp only [List.mem_singleton] at hp
  subst hp
  rfl

theorem map_true {ρ' : Ren} {ps qs : List Prop} {m : Option Ren} (h : (m.map fun ρ => (ρ, qs)) = some (ρ', ps)) (hq : ∀ p ∈ qs, p) : ∀ p ∈ ps, p := by
  cases m with
  | none => cases h
  | some r => injection h with h; injection h with _ h; subst h; exact hq

theorem match_self : ∀ (a : AV) (ρ ρ' : Ren) (ps : List Prop), matchAV ρ a a = some (ρ', ps) → ∀ p ∈ ps, p
  | .bot, ρ, ρ', ps, h => by
    simp only [matchAV, AV.single, cond_true, Option.some.injEq, Prod.mk.injEq] at h
    rw [← h.2]; simp
  | .raw v, ρ, ρ', ps, h => by
    simp only [matchAV, Option.some.injEq, Prod.mk.injEq] at h
    rw [← h.2]; simp
  | .dat T x, ρ, ρ', ps, h => match_dat h
  | .isNil p, ρ, ρ', ps, h => by simp [matchAV] at h
  | .arr k, ρ, ρ', ps, h => by simp only [matchAV] at h; exact map_true h (by simp)
  | .vw k sz lo hi, ρ, ρ', ps, h => by
    simp only [matchAV, Nat.beq_refl, cond_true] at h
    exact map_true h (by simp)
  | .ref k o, ρ, ρ', ps, h => by simp only [matchAV, Nat.beq_refl, cond_true] at h; exact map_true h (by simp)
  | .elt k sz i o, ρ, ρ', ps, h => by simp only [matchAV, Nat.beq_refl, Bool.and_self, cond_true] at h; exact map_true h (by simp)
  | .spt T x, ρ, ρ', ps, h => by
    unfold matchAV at h
    first | rw [dif_pos rfl] at h | rw [dif_pos trivial] at h
    injection h with h
    injection h with h1 h2
    subst h2
    intro p hp
    simp only [List.mem_singleton] at hp
    subst hp
    rfl
  | .fn f c, ρ, ρ', ps, h => by simp only [matchAV, Nat.beq_refl, cond_true] at h; exact match_self c _ _ _ h
  | .mapv k, ρ, ρ', ps, h => by simp only [matchAV] at h; exact map_true h (by simp)
  | .chv k, ρ, ρ', ps, h => by simp only [matchAV] at h; exact map_true h (by simp)
  | .bfn k f, ρ, ρ', ps, h => by simp only [matchAV, Nat.beq_refl, cond_true] at h; exact map_true h (by simp)
  | .opq k, ρ, ρ', ps, h => by simp only [matchAV] at h; exact map_true h (by simp)
  | .idn k T x, ρ, ρ', ps, h => by
    unfold matchAV at h
    first | rw [dif_pos rfl] at h | rw [dif_pos trivial] at h
    exact map_true h (by intro p hp; simp only [List.mem_singleton] at hp; subst hp; first | rfl | trivial)
  | .nil, ρ, ρ', ps, h => by
    simp only [matchAV, Option.some.injEq, Prod.mk.injEq] at h
    rw [← h.2]; simp
  | .cons a b, ρ, ρ', ps, h => by
    simp only [matchAV] at h
    split at h <;> try (cases h; done)
    rename_i ρ1 p1 h1
    split at h <;> try (cases h; done)
    rename_i ρ2 p2 h2
    injection h with h
    injection h with _ h
    subst h
    exact fun p hp => mem_app hp (match_self a _ _ _ h1) (match_self b _ _ _ h2)
  | .agg l, ρ, ρ', ps, h => by simp only [matchAV] at h; exact match_self l _ _ _ h
  | .tup l, ρ, ρ', ps, h => by simp only [matchAV] at h; exact match_self l _ _ _ h

theorem nil_true {ρ ρ' : Ren} {ps : List Prop} (h : some (ρ, ([] : List Prop)) = some (ρ', ps)) : ∀ p ∈ ps, p := by
  injection h with h; injection h with _ h; subst h; simp

theorem dec_true : ∀ (s : ASh) (a : AV) (x : s.ty.den) (ρ ρ' : Ren) (ps : List Prop), s.dec a = some x → matchAV ρ (s.enc x) a = some (ρ', ps) → ∀ p ∈ ps, p := by
  intro s
  induction s with
  | bot =>
    intro a x ρ ρ' ps hd hm
    simp only [ASh.dec] at hd
    cases hs : a.single with
    | false => rw [hs] at hd; cases hd
    | true => simp only [ASh.enc, matchAV, hs, cond_true] at hm; exact nil_true hm
  | dat T =>
    intro a x ρ ρ' ps hd hm
    have key : datD T a = some x → ∀ p ∈ ps, p := fun h => by
      rw [datD_some h] at hm
      exact match_dat hm
    cases T with
    | sl T =>
      simp only [ASh.dec] at hd
      split at hd
      · injection hd with hd
        subst hd
        simp only [ASh.enc, matchAV, Option.some.injEq, Prod.mk.injEq] at hm
        rw [← hm.2]; simp
      · exact key hd
    | _ => exact key hd
  | nilv =>
    intro a x ρ ρ' ps hd hm
    simp only [ASh.dec] at hd
    cases hs : isNilV a with
    | false => rw [hs] at hd; cases hd
    | true =>
      unfold isNilV at hs
      split at hs <;> try (cases hs; done)
      simp only [ASh.enc, matchAV, Option.some.injEq, Prod.mk.injEq] at hm
      rw [← hm.2]; simp
  | arr id =>
    intro a x ρ ρ' ps hd hm
    cases a <;> try (simp [ASh.dec] at hd; done)
    simp only [ASh.enc, matchAV] at hm
    exact map_true hm (by simp)
  | vw id sz =>
    intro a x ρ ρ' ps hd hm
    cases a <;> try (simp [ASh.dec] at hd; done)
    rename_i id' sz' lo hi
    simp only [ASh.dec, Option.some.injEq] at hd
    subst hd
    simp only [ASh.enc, matchAV] at hm
    cases hb : Nat.beq sz sz' with
    | false => rw [hb] at hm; cases hm
    | true => rw [hb, cond_true] at hm; exact map_true hm (by simp)
  | ref id o =>
    intro a x ρ ρ' ps hd hm
    cases a <;> try (simp [ASh.dec] at hd; done)
    rename_i id' o'
    simp only [ASh.enc, matchAV] at hm
    cases hb : Nat.beq o o' with
    | false => rw [hb] at hm; cases hm
    | true => rw [hb, cond_true] at hm; exact map_true hm (by simp)
  | elt id sz o =>
    intro a x ρ ρ' ps hd hm
    cases a <;> try (simp [ASh.dec] at hd; done)
    rename_i id' sz' i o'
    simp only [ASh.dec, Option.some.injEq] at hd
    subst hd
    simp only [ASh.enc, matchAV] at hm
    cases hb : (Nat.beq sz sz' && Nat.beq o o') with
    | false => rw [hb] at hm; cases hm
    | true => rw [hb, cond_true] at hm; exact map_true hm (by simp)
  | spt T =>
    intro a x ρ ρ' ps hd hm
    cases a <;> try (simp [ASh.dec] at hd; done)
    rename_i T' y
    simp only [ASh.dec] at hd
    split at hd <;> try (cases hd; done)
    rename_i hT
    subst hT
    injection hd with hd
    subst hd
    exact match_self _ _ _ _ hm
  | fn f c ih =>
    intro a x ρ ρ' ps hd hm
    cases a <;> try (simp [ASh.dec] at hd; done)
    rename_i g c'
    simp only [ASh.enc, matchAV] at hm
    cases hb : Nat.beq f g with
    | false => rw [hb] at hm; cases hm
    | true => rw [hb, cond_true] at hm; exact ih c' x _ _ _ hd hm
  | mapv id =>
    intro a x ρ ρ' ps hd hm
    cases a <;> try (simp [ASh.dec] at hd; done)
    simp only [ASh.enc, matchAV] at hm
    exact map_true hm (by simp)
  | chv id =>
    intro a x ρ ρ' ps hd hm
    cases a <;> try (simp [ASh.dec] at hd; done)
    simp only [ASh.enc, matchAV] at hm
    exact map_true hm (by simp)
  | bfn id f =>
    intro a x ρ ρ' ps hd hm
    cases a <;> try (simp [ASh.dec] at hd; done)
    rename_i id' g
    simp only [ASh.enc, matchAV] at hm
    cases hb : Nat.beq f g with
    | false => rw [hb] at hm; cases hm
    | true => rw [hb, cond_true] at hm; exact map_true hm (by simp)
  | opq id =>
    intro a x ρ ρ' ps hd hm
    cases a <;> try (simp [ASh.dec] at hd; done)
    simp only [ASh.enc, matchAV] at hm
    exact map_true hm (by simp)
  | idn k T =>
    intro a x ρ ρ' ps hd hm
    cases a <;> try (simp [ASh.dec] at hd; done)
    rename_i k' T' y
    simp only [ASh.dec] at hd
    split at hd <;> try (cases hd; done)
    rename_i hT
    subst hT
    injection hd with hd
    subst hd
    simp only [ASh.enc, matchAV] at hm
    first | rw [dif_pos rfl] at hm | rw [dif_pos trivial] at hm
    exact map_true hm (by intro p hp; simp only [List.mem_singleton] at hp; subst hp; first | rfl | trivial)
  | nil =>
    intro a x ρ ρ' ps hd hm
    cases a <;> try (simp [ASh.dec] at hd; done)
    simp only [ASh.enc, matchAV] at hm
    exact nil_true hm
  | cons s1 s2 ih1 ih2 =>
    intro a x ρ ρ' ps hd hm
    cases a <;> try (simp [ASh.dec] at hd; done)
    rename_i a b
    simp only [ASh.dec] at hd
    split at hd <;> try (cases hd; done)
    rename_i x1 hx1
    split at hd <;> try (cases hd; done)
    rename_i x2 hx2
    injection hd with hd
    subst hd
    simp only [ASh.enc, fst2_mk, snd2_mk, matchAV] at hm
    split at hm <;> try (cases hm; done)
    rename_i ρ1 p1 h1
    split at hm <;> try (cases hm; done)
    rename_i ρ2 p2 h2
    injection hm with hm
    injection hm with _ hm
    subst hm
    exact fun p hp => mem_app hp (ih1 a x1 _ _ _ hx1 h1) (ih2 b x2 _ _ _ hx2 h2)
  | agg l ih =>
    intro a x ρ ρ' ps hd hm
    cases a <;> try (simp [ASh.dec] at hd; done)
    rename_i c'
    simp only [ASh.enc, matchAV] at hm
    exact ih c' x _ _ _ hd hm
  | tup l ih =>
    intro a x ρ ρ' ps hd hm
    cases a <;> try (simp [ASh.dec] at hd; done)
    rename_i c'
    simp only [ASh.enc, matchAV] at hm
    exact ih c' x _ _ _ hd hm

theorem hs_self : ∀ (l : List (Int × Nat)) (ρ ρ' : Ren) (ps : List Prop), matchHs ρ l l = some (ρ', ps) → ∀ p ∈ ps, p
  | [], ρ, ρ', ps, h => nil_true h
  | (i, k) :: r, ρ, ρ', ps, h => by
    simp only [matchHs] at h
    split at h <;> try (cases h; done)
    split at h <;> try (cases h; done)
    rename_i ρ1 ps1 h1
    injection h with h
    injection h with _ h
    subst h
    intro p hp
    rcases List.mem_cons.1 hp with rfl | hp
    · first | rfl | trivial
    · exact hs_self r _ _ _ h1 p hp
theorem hs_true : ∀ (l : List Nat) (l' : List (Int × Nat)) (x : (hsTy l).den) (ρ ρ' : Ren) (ps : List Prop), hsDec l l' = some x → matchHs ρ (hsEnc l x) l' = some (ρ', ps) → ∀ p ∈ ps, p
  | [], l', x, ρ, ρ', ps, hd, hm => by
    cases l' with
    | nil => exact nil_true hm
    | cons => simp [hsDec] at hd
  | k :: r, l', x, ρ, ρ', ps, hd, hm => by
    cases l' with
    | nil => simp [hsDec] at hd
    | cons q r' =>
      obtain ⟨i, k'⟩ := q
      simp only [hsDec] at hd
      split at hd <;> try (cases hd; done)
      rename_i y hy
      injection hd with hd
      subst hd
      simp only [hsEnc, fst2_mk, snd2_mk, matchHs] at hm
      split at hm <;> try (cases hm; done)
      split at hm <;> try (cases hm; done)
      rename_i ρ1 ps1 h1
      injection hm with hm
      injection hm with _ hm
      subst hm
      intro p hp
      rcases List.mem_cons.1 hp with rfl | hp
      · first | rfl | trivial
      · exact hs_true r r' y _ _ _ hy h1 p hp

theorem one_true {q : Prop} {ρ ρ' : Ren} {ps : List Prop} (h : some (ρ, [q]) = some (ρ', ps)) (hq : q) : ∀ p ∈ ps, p := by
  injection h with h; injection h with _ h; subst h
  intro p hp
  simp only [List.mem_singleton] at hp
  subst hp
  exact hq

theorem ch_self : ∀ (c : Chunk) (ρ ρ' : Ren) (ps : List Prop), matchCh ρ c c = some (ρ', ps) → ∀ p ∈ ps, p
  | .none, ρ, ρ', ps, h => nil_true h
  | .box e c, ρ, ρ', ps, h => by simp only [matchCh, Nat.beq_refl, cond_true] at h; exact match_self c _ _ _ h
  | .arr e T l, ρ, ρ', ps, h => by
    simp only [matchCh, Nat.beq_refl, cond_true] at h
    first | rw [dif_pos rfl] at h | rw [dif_pos trivial] at h
    exact one_true h (by first | rfl | trivial)
  | .lit e n c, ρ, ρ', ps, h => by simp only [matchCh, Nat.beq_refl, Bool.and_self, cond_true] at h; exact match_self c _ _ _ h
  | .sld T l, ρ, ρ', ps, h => by
    simp only [matchCh] at h
    first | rw [dif_pos rfl] at h | rw [dif_pos trivial] at h
    exact one_true h (by first | rfl | trivial)
  | .arr2 e e' T l hs, ρ, ρ', ps, h => by
    simp only [matchCh, Nat.beq_refl, Bool.and_self, cond_true] at h
    first | rw [dif_pos rfl] at h | rw [dif_pos trivial] at h
    split at h <;> try (cases h; done)
    rename_i ρ1 ps1 h1
    injection h with h
    injection h with _ h
    subst h
    intro p hp
    rcases List.mem_cons.1 hp with rfl | hp
    · first | rfl | trivial
    · exact hs_self hs _ _ _ h1 p hp
  | .mp k V l, ρ, ρ', ps, h => by
    simp only [matchCh] at h
    first | rw [dif_pos rfl] at h | rw [dif_pos trivial] at h
    first | rw [dif_pos rfl] at h | rw [dif_pos trivial] at h
    exact one_true h (by first | rfl | trivial)
  | .mpo K e B [], ρ, ρ', ps, h => by
    simp only [matchCh, and_self, if_true] at h
    exact one_true h (by first | rfl | trivial)
  | .mpo K e B (k :: r), ρ, ρ', ps, h => by simp [matchCh] at h
  | .orw k, ρ, ρ', ps, h => by simp [matchCh] at h
  | .ch c n, ρ, ρ', ps, h => by
    simp only [matchCh, Option.some.injEq, Prod.mk.injEq] at h
    rw [← h.2]
    simp

theorem ch_true (s : CSh) (c : Chunk) (x : s.ty.den) (ρ ρ' : Ren) (ps : List Prop) (hd : s.dec c = some x) (hm : matchCh ρ (s.enc x) c = some (ρ', ps)) : ∀ p ∈ ps, p := by
  cases s with
  | box e cs =>
    cases c <;> try (simp [CSh.dec] at hd; done)
    rename_i e' c'
    simp only [CSh.enc, matchCh] at hm
    cases hb : Nat.beq e e' with
    | false => rw [hb] at hm; cases hm
    | true => rw [hb, cond_true] at hm; exact dec_true cs c' x _ _ _ hd hm
  | arr e T =>
    cases c <;> try (simp [CSh.dec] at hd; done)
    rename_i e' T' l
    simp only [CSh.dec] at hd
    split at hd <;> try (cases hd; done)
    rename_i hT
    subst hT
    injection hd with hd
    subst hd
    simp only [CSh.enc, matchCh] at hm
    cases hb : Nat.beq e e' with
    | false => rw [hb] at hm; cases hm
    | true =>
      rw [hb, cond_true] at hm
      first | rw [dif_pos rfl] at hm | rw [dif_pos trivial] at hm
      exact one_true hm (by first | rfl | trivial)
  | lit e n cs =>
    cases c <;> try (simp [CSh.dec] at hd; done)
    rename_i e' n' c'
    simp only [CSh.enc, matchCh] at hm
    cases hb : (Nat.beq e e' && Nat.beq n n') with
    | false => rw [hb] at hm; cases hm
    | true => rw [hb, cond_true] at hm; exact dec_true cs c' x _ _ _ hd hm
  | sld T =>
    cases c <;> try (simp [CSh.dec] at hd; done)
    rename_i T' l
    simp only [CSh.dec] at hd
    split at hd <;> try (cases hd; done)
    rename_i hT
    subst hT
    injection hd with hd
    subst hd
    simp only [CSh.enc, matchCh] at hm
    first | rw [dif_pos rfl] at hm | rw [dif_pos trivial] at hm
    exact one_true hm (by first | rfl | trivial)
  | arr2 e e' T hs =>
    cases c <;> try (simp [CSh.dec] at hd; done)
    rename_i f f' T' l hs'
    simp only [CSh.dec] at hd
    split at hd <;> try (cases hd; done)
    rename_i hT
    subst hT
    split at hd <;> try (cases hd; done)
    rename_i y hy
    injection hd with hd
    subst hd
    simp only [CSh.enc, fst2_mk, snd2_mk, matchCh] at hm
    cases hb : (Nat.beq e f && Nat.beq e' f') with
    | false => rw [hb] at hm; cases hm
    | true =>
      rw [hb, cond_true] at hm
      first | rw [dif_pos rfl] at hm | rw [dif_pos trivial] at hm
      split at hm <;> try (cases hm; done)
      rename_i ρ1 ps1 h1
      injection hm with hm
      injection hm with _ hm
      subst hm
      intro p hp
      rcases List.mem_cons.1 hp with rfl | hp
      · first | rfl | trivial
      · exact hs_true hs hs' y _ _ _ hy h1 p hp
  | mp k V =>
    cases c <;> try (simp [CSh.dec] at hd; done)
    rename_i k' V' l
    simp only [CSh.dec] at hd
    split at hd <;> try (cases hd; done)
    rename_i hV
    subst hV
    split at hd <;> try (cases hd; done)
    rename_i hk
    subst hk
    injection hd with hd
    subst hd
    simp only [CSh.enc, matchCh] at hm
    first | rw [dif_pos rfl] at hm | rw [dif_pos trivial] at hm
    first | rw [dif_pos rfl] at hm | rw [dif_pos trivial] at hm
    exact one_true hm (by first | rfl | trivial)
  | mpo K e =>
    cases c <;> try (simp [CSh.dec] at hd; done)
    rename_i K' e' B outs
    simp only [CSh.dec, Option.some.injEq] at hd
    subst hd
    simp only [CSh.enc, matchCh] at hm
    split at hm <;> try (cases hm; done)
    exact one_true hm (by first | rfl | trivial)
  | ch =>
    cases c <;> try (simp [CSh.dec] at hd; done)
    rename_i c' n'
    simp only [CSh.dec, Option.some.injEq] at hd
    subst hd
    simp only [CSh.enc, matchCh, Option.some.injEq, Prod.mk.injEq] at hm
    rw [← hm.2]
    simp

theorem entEnv_app (env : Nat → AV) : ∀ (l r : List (Nat × AV)) (ρ : Ren) (ps : List Prop), entEnv env (l ++ r) ρ ps = match entEnv env l ρ ps with
    | some (ρ, ps) => entEnv env r ρ ps
    | Option.none => Option.none
  | [], _, _, _ => rfl
  | (t, a) :: l, r, ρ, ps => by
    simp only [List.cons_append, entEnv]
    cases h : matchAV ρ a (env t) with
    | none => rfl
    | some q => exact entEnv_app env l r _ _

theorem decEnv_true (env : Nat → AV) : ∀ (l : List (Nat × ASh)) (x : (envTy l).den) (ρ ρ' : Ren) (ps ps' : List Prop), decEnv env l = some x → entEnv env (encEnv l x) ρ ps = some (ρ', ps') → (∀ p ∈ ps, p) → ∀ p ∈ ps', p
  | [], x, ρ, ρ', ps, ps', hd, hm, h => by
    simp only [encEnv, entEnv, Option.some.injEq, Prod.mk.injEq] at hm
    rw [← hm.2]; exact h
  | (t, s) :: r, x, ρ, ρ', ps, ps', hd, hm, h => by
    simp only [decEnv] at hd
    split at hd <;> try (cases hd; done)
    rename_i x1 hx1
    split at hd <;> try (cases hd; done)
    rename_i y hy
    injection hd with hd
    subst hd
    simp only [encEnv, fst2_mk, snd2_mk, entEnv] at hm
    split at hm <;> try (cases hm; done)
    rename_i ρ1 q h1
    exact decEnv_true env r y _ _ _ _ hy hm (fun p hp => mem_app hp h (dec_true s _ x1 _ _ _ hx1 h1))

theorem keepEnv_true (env : Nat → AV) (e0 : Nat → AV) : ∀ (l : List Nat) (ρ ρ' : Ren) (ps ps' : List Prop), (∀ t ∈ l, env t = e0 t) → entEnv env (l.map fun t => (t, e0 t)) ρ ps = some (ρ', ps') → (∀ p ∈ ps, p) → ∀ p ∈ ps', p
  | [], ρ, ρ', ps, ps', hd, hm, h => by
    simp only [List.map_nil, entEnv, Option.some.injEq, Prod.mk.injEq] at hm
    rw [← hm.2]; exact h
  | t :: r, ρ, ρ', ps, ps', hd, hm, h => by
    simp only [List.map_cons, entEnv] at hm
    rw [hd t (.head _)] at hm
    split at hm <;> try (cases hm; done)
    rename_i ρ1 q h1
    exact keepEnv_true env e0 r _ _ _ _ (fun t ht => hd t (List.mem_cons_of_mem _ ht)) hm (fun p hp => mem_app hp h (match_self _ _ _ _ h1))

theorem decHeap_true (heap : Nat → Chunk) (r : List (Nat × Chunk)) : ∀ (l : List (Nat × CSh)) (x : (heapTy l).den) (ρ ρ' : Ren) (ps ps' : List Prop), decHeap heap l ρ = some x → entHeap heap (encHeap l x ++ r) ρ ps = some (ρ', ps') → (∀ p ∈ ps, p) →
    ∃ ρ1 ps1, entHeap heap r ρ1 ps1 = some (ρ', ps') ∧ ∀ p ∈ ps1, p
  | [], x, ρ, ρ', ps, ps', hd, hm, h => ⟨ρ, ps, hm, h⟩
  | (a, s) :: l, x, ρ, ρ', ps, ps', hd, hm, h => by
    simp only [decHeap] at hd
    split at hd <;> try (cases hd; done)
    rename_i ρ1 hb
    split at hd <;> try (cases hd; done)
    rename_i x1 hx1
    split at hd <;> try (cases hd; done)
    rename_i ρ2 q hm1
    split at hd <;> try (cases hd; done)
    rename_i y hy
    injection hd with hd
    subst hd
    simp only [encHeap, fst2_mk, snd2_mk, List.cons_append, entHeap, hb, hm1] at hm
    exact decHeap_true heap r l y _ _ _ _ hy hm (fun p hp => mem_app hp h (ch_true s _ x1 _ _ _ hx1 hm1))

theorem keepHeap_true (heap h0 : Nat → Chunk) : ∀ (l : List Nat) (ρ ρ' : Ren) (ps ps' : List Prop), (∀ i ∈ l, heap i = h0 i ∧ ρ'.find i = some i) → entHeap heap (l.map fun t => (t, h0 t)) ρ ps = some (ρ', ps') → (∀ p ∈ ps, p) → ∀ p ∈ ps', p
  | [], ρ, ρ', ps, ps', hd, hm, h => by
    simp only [List.map_nil, entHeap, Option.some.injEq, Prod.mk.injEq] at hm
    rw [← hm.2]; exact h
  | i :: r, ρ, ρ', ps, ps', hd, hm, h => by
    simp only [List.map_cons, entHeap] at hm
    split at hm <;> try (cases hm; done)
    rename_i ρ1 hb
    split at hm <;> try (cases hm; done)
    rename_i ρ2 q hm1
    obtain ⟨h1, h2⟩ := hd i (.head _)
    have hle := (entHeap_ok (φ0 := fun _ => none) (φ := fun _ => none) (ow1 := fun _ => none) (w := default) (ρf := ρ') _ _ _ _ _ hm).1
    have hfi := hle _ _ (matchCh_le _ _ _ _ _ hm1 _ _ (bind_spec hb).2)
    rw [h2] at hfi
    injection hfi with hfi
    rw [← hfi, h1] at hm1
    exact keepHeap_true heap h0 r _ _ _ _ (fun t ht => hd t (List.mem_cons_of_mem _ ht)) hm (fun p hp => mem_app hp h (ch_self _ _ _ _ hm1))

theorem preClose_eq (ρ : Ren) : ∀ (l : List (Nat × CSh)) (x : (heapTy l).den) (heap : Nat → Chunk), preClose ρ (encHeap l x) heap = preCloseS ρ l heap
  | [], _, _ => rfl
  | (a, .arr2 e e' T []) :: r, x, heap => preClose_eq ρ r _ _
  | (a, .arr2 e e' T (k :: hs)) :: r, x, heap => preClose_eq ρ r _ _
  | (a, .box _ _) :: r, x, heap => preClose_eq ρ r _ _
  | (a, .arr _ _) :: r, x, heap => preClose_eq ρ r _ _
  | (a, .lit _ _ _) :: r, x, heap => preClose_eq ρ r _ _
  | (a, .sld _) :: r, x, heap => preClose_eq ρ r _ _
  | (a, .mp _ _) :: r, x, heap => preClose_eq ρ r _ _
  | (a, .mpo _ _) :: r, x, heap => preClose_eq ρ r _ _
  | (a, .ch) :: r, x, heap => preClose_eq ρ r _ _

theorem closeHs_ids {e' : TypeId} {T : Ty} {hp : Nat → Chunk} {out : Out} : ∀ (hs : List (Int × Nat)) (l : List (List T.den)) (k : List (List T.den) → List Nat → Req), (closeHs e' T hs l k).run hp = some out → ∃ l', (k l' (hs.map (·.2))).run hp = some out
  | [], l, k, h => ⟨l, h⟩
  | (i, j) :: r, l, k, h => by
    simp only [closeHs, Req.run] at h
    split at h <;> try (simp [Req.run] at h; done)
    rename_i e2 T2 x hc
    split at h <;> try (simp [Req.run] at h; done)
    rename_i hT
    subst hT
    split at h <;> try (simp [Req.run] at h; done)
    obtain ⟨l', h'⟩ := closeHs_ids r _ _ h
    exact ⟨l', h'⟩

theorem closeAt_other {b i : Nat} {heap : Nat → Chunk} (h : i ∉ closeIds b heap) : closeAt b heap i = heap i := by
  rcases closeAt_cases b heap with h1 | ⟨e, e', T, l, h1, hs, o, hb, hr, hc⟩
  · rw [h1]
  · rw [hc]
    unfold closeIds at h
    rw [hb] at h
    obtain ⟨l', h'⟩ := closeHs_ids _ _ _ hr
    split at h' <;> try (simp [Req.run] at h'; done)
    simp only [Req.run, Option.some.injEq] at h'
    subst h'
    rcases updH_spec ((b, .arr2 e e' T l' []) :: (List.map (·.2) (h1 :: hs)).map fun j => (j, Chunk.none)) heap i with ⟨c, m1, _⟩ | ⟨_, m2⟩
    · exfalso
      apply h
      rcases List.mem_cons.1 m1 with m1 | m1
      · injection m1 with m1; rw [m1]; simp
      · obtain ⟨j, hj, hj2⟩ := List.mem_map.1 m1
        injection hj2 with hj2
        subst hj2
        exact List.mem_cons_of_mem _ hj
    · exact m2

theorem preClose_other {ρ : Ren} {i : Nat} : ∀ (l : List (Nat × CSh)) (heap : Nat → Chunk), i ∉ preIds ρ l heap → preCloseS ρ l heap i = heap i
  | [], _, _ => rfl
  | (a, .arr2 e e' T []) :: r, heap, h => by
    simp only [preIds, List.mem_append, not_or] at h
    exact (preClose_other r _ h.2).trans (closeAt_other h.1)
  | (a, .arr2 e e' T (k :: hs)) :: r, heap, h => preClose_other r heap h
  | (a, .box _ _) :: r, heap, h => preClose_other r heap h
  | (a, .arr _ _) :: r, heap, h => preClose_other r heap h
  | (a, .lit _ _ _) :: r, heap, h => preClose_other r heap h
  | (a, .sld _) :: r, heap, h => preClose_other r heap h
  | (a, .mp _ _) :: r, heap, h => preClose_other r heap h
  | (a, .mpo _ _) :: r, heap, h => preClose_other r heap h
  | (a, .ch) :: r, heap, h => preClose_other r heap h

/-- What did not change. -/
structure Frm (base st : St) (D : Dirt) : Prop where
  e : ∀ t, D.e t = false → st.env t = base.env t
  h : ∀ i, D.h i = false → st.heap i = base.heap i
theorem Frm.refl (st : St) (D : Dirt) : Frm st st D := ⟨fun _ _ => rfl, fun _ _ => rfl⟩

/-- As far as it is kept. -/
structure FrmS (sh : Shape) (base st : St) (D : Dirt) : Prop where
  e : ∀ t, memN t sh.keep = true → memN t (sh.env.map (·.1)) = false → D.e t = false → st.env t = base.env t
  h : ∀ i, memN i sh.keepH = true → memN i (sh.heap.map (·.1)) = false → D.h i = false → st.heap i = base.heap i
theorem Frm.toS {base st : St} {D : Dirt} {sh : Shape} (h : Frm base st D) : FrmS sh base st D := ⟨fun t _ _ => h.e t, fun t _ _ => h.h t⟩

theorem conj_mk : ∀ {l : List Prop} {q : Prop}, (∀ p ∈ l, p) → q → conj l q
  | [], _, _, h => h
  | p :: l, _, h, hq => ⟨h p (.head _), conj_mk (fun p hp => h p (List.mem_cons_of_mem _ hp)) hq⟩

theorem decSt1_ok {fix : List Nat} {sh : Shape} {s0 st : St} {D : Dirt} {x : sh.ty.den} (h : decSt1 fix sh s0 st D = some x) (hf : FrmS sh s0 st D) : entails fix sh.ann x s0 st := by
  unfold decSt1 at h
  split at h <;> try (cases h; done)
  rename_i xe hxe
  split at h <;> try (cases h; done)
  rename_i ρ0 hρ0
  split at h <;> try (cases h; done)
  rename_i ρ1 ps1 hE
  split at h <;> try (cases h; done)
  rename_i xh hxh
  split at h <;> try (cases h; done)
  rename_i ρ2 ps2 hH
  generalize hc : (ρ2.ok fix s0.next && (Nat.beq st.n s0.n && (Nat.blt 0 s0.next && (fix.all fun i => Nat.blt i s0.next)))) = c1 at h
  cases c1 with
  | false => cases h
  | true =>
  generalize hk : ((sh.keep.all fun t => !(memN t (sh.env.map (·.1))) && !(D.e t)) && (sh.keepH.all fun i => !(memN i (sh.heap.map (·.1))) && !(D.h i) && (!(memN i (preIds ρ1 sh.heap st.heap)) && match ρ2.find i with
                | some j => Nat.beq i j
                | Option.none => false))) = c2 at h
  cases c2 with
  | false => cases h
  | true =>
  simp only [Bool.and_self, cond_true, Option.some.injEq] at h
  subst h
  simp only [Bool.and_eq_true, List.all_eq_true, Bool.not_eq_true'] at hk
  unfold entails
  have e1 : entFix s0.env sh.ann.keep [] = some ρ0 := hρ0
  rw [e1]
  simp only
  have e2 : entEnv st.env (sh.ann.env (mk2 (envTy sh.env) (heapTy sh.heap) xe xh) ++ sh.ann.keep.map fun t => (t, s0.env t)) ρ0 [] = some (ρ1, ps1) := by
    show entEnv st.env (encEnv sh.env (fst2 _ _ (mk2 _ _ xe xh)) ++ _) _ _ = _
    rw [fst2_mk]
    exact hE
  rw [e2]
  simp only
  have e3 : entHeap (preClose ρ1 (sh.ann.heap (mk2 (envTy sh.env) (heapTy sh.heap) xe xh)) st.heap) (sh.ann.heap (mk2 (envTy sh.env) (heapTy sh.heap) xe xh) ++ sh.ann.keepH.map fun i => (i, s0.heap i)) ρ1 ps1 = some (ρ2, ps2) := by
    show entHeap (preClose ρ1 (encHeap sh.heap (snd2 _ _ (mk2 _ _ xe xh))) st.heap) (encHeap sh.heap (snd2 _ _ (mk2 _ _ xe xh)) ++ sh.keepH.map fun i => (i, s0.heap i)) ρ1 ps1 = some (ρ2, ps2)
    rw [snd2_mk, preClose_eq]
    exact hH
  rw [e3]
  simp only
  rw [hc, cond_true]
  refine conj_mk ?_ trivial
  -- the equations hold
  rw [entEnv_app] at hE
  split at hE <;> try (cases hE; done)
  rename_i ρa psa hEa
  have t1 : ∀ p ∈ ps1, p := keepEnv_true st.env s0.env sh.keep _ _ _ _ (fun t ht => hf.e t (memN_iff.2 ht) (hk.1 t ht).1 (hk.1 t ht).2) hE (decEnv_true st.env sh.env xe _ _ _ _ hxe hEa (by simp))
  obtain ⟨ρb, psb, hHb, t2⟩ := decHeap_true _ _ sh.heap xh _ _ _ _ hxh hH t1
  refine keepHeap_true _ s0.heap sh.keepH _ _ _ _ (fun i hi => ?_) hHb t2
  obtain ⟨⟨k0, k1⟩, k2, k3⟩ := hk.2 i hi
  refine ⟨?_, ?_⟩
  · rw [preClose_other sh.heap st.heap (fun hm => by rw [memN_iff.2 hm] at k2; cases k2)]
    exact hf.h i (memN_iff.2 hi) k0 k1
  · split at k3 <;> try (cases k3; done)
    rename_i j hj
    rw [hj, Nat.eq_of_beq_eq_true k3]

theorem promo1_env (hs : List (Nat × CSh)) (t : Nat) (s : ASh) (st : St) : (∀ u, u ≠ t → (promo1 hs t s st).env u = st.env u) ∧ (∀ i, i < st.next → (promo1 hs t s st).heap i = st.heap i) ∧ st.next ≤ (promo1 hs t s st).next := by
  have e1 : ∀ u, u ≠ t → Nat.beq u t = false := fun u hu => Bool.eq_false_iff.2 fun e => hu (Nat.eq_of_beq_eq_true e)
  have e2 : ∀ i, i < st.next → Nat.beq i st.next = false := fun i hi => Bool.eq_false_iff.2 fun e => by have := Nat.eq_of_beq_eq_true e; omega
  unfold promo1
  split
  · split
    · exact ⟨fun u hu => by simp only [e1 u hu, cond_false], fun i hi => by simp only [e2 i hi, cond_false], Nat.le_succ _⟩
    · exact ⟨fun u hu => by simp only [e1 u hu, cond_false], fun i hi => by simp only [e2 i hi, cond_false], Nat.le_succ _⟩
    · exact ⟨fun _ _ => rfl, fun _ _ => rfl, Nat.le_refl _⟩
  · exact ⟨fun _ _ => rfl, fun _ _ => rfl, Nat.le_refl _⟩

theorem promo_env (hs : List (Nat × CSh)) : ∀ (l : List (Nat × ASh)) (st : St), (∀ u, u ∉ l.map (·.1) → (promo hs l st).env u = st.env u) ∧ (∀ i, i < st.next → (promo hs l st).heap i = st.heap i)
  | [], st => ⟨fun _ _ => rfl, fun _ _ => rfl⟩
  | (t, s) :: r, st => by
    obtain ⟨h1, h2, h3⟩ := promo1_env hs t s st
    obtain ⟨k1, k2⟩ := promo_env hs r (promo1 hs t s st)
    refine ⟨fun u hu => ?_, fun i hi => ?_⟩
    · simp only [List.map_cons, List.mem_cons, not_or] at hu
      exact (k1 u hu.2).trans (h1 u hu.1)
    · exact (k2 i (Nat.lt_of_lt_of_le hi h3)).trans (h2 i hi)

theorem promo_next (hs : List (Nat × CSh)) : ∀ (l : List (Nat × ASh)) (st : St), st.next ≤ (promo hs l st).next
  | [], st => Nat.le_refl _
  | (t, s) :: r, st => Nat.le_trans (promo1_env hs t s st).2.2 (promo_next hs r _)

theorem promoB1_env (hs : List (Nat × CSh)) (a : Nat) (c : ASh) (st : St) : (promoB1 hs a c st).env = st.env ∧ (∀ i, i ≠ a → i < st.next → (promoB1 hs a c st).heap i = st.heap i) ∧ st.next ≤ (promoB1 hs a c st).next := by
  have e2 : ∀ i, i < st.next → Nat.beq i st.next = false := fun i hi => Bool.eq_false_iff.2 fun e => by have := Nat.eq_of_beq_eq_true e; omega
  unfold promoB1
  split
  · split
    · exact ⟨rfl, fun i ha hi => by simp only [e2 i hi, cond_false]; rw [show Nat.beq i a = false from Bool.eq_false_iff.2 fun e => ha (Nat.eq_of_beq_eq_true e)]; rfl, Nat.le_succ _⟩
    · exact ⟨rfl, fun _ _ _ => rfl, Nat.le_refl _⟩
  · exact ⟨rfl, fun _ _ _ => rfl, Nat.le_refl _⟩

theorem promoB_env (hs : List (Nat × CSh)) : ∀ (l : List (Nat × CSh)) (st : St), (promoB hs l st).env = st.env ∧ (∀ i, i ∉ l.map (·.1) → i < st.next → (promoB hs l st).heap i = st.heap i)
  | [], st => ⟨rfl, fun _ _ _ => rfl⟩
  | (a, s) :: r, st => by
    have step : (promoB hs r st).env = st.env ∧ (∀ i, i ∉ ((a, s) :: r).map (·.1) → i < st.next → (promoB hs r st).heap i = st.heap i) := by
      obtain ⟨k1, k2⟩ := promoB_env hs r st
      refine ⟨k1, fun i hi hn => k2 i (fun h => hi (List.mem_cons_of_mem _ h)) hn⟩
    cases s <;> try exact step
    rename_i e c
    obtain ⟨h1, h2, h3⟩ := promoB1_env hs a c st
    obtain ⟨g1, g2, g3⟩ := promoB1_env hs a c (promoB1 hs a c st)
    obtain ⟨k1, k2⟩ := promoB_env hs r (promoB1 hs a c (promoB1 hs a c st))
    refine ⟨k1.trans (g1.trans h1), fun i hi hn => ?_⟩
    simp only [List.map_cons, List.mem_cons, not_or] at hi
    exact (k2 i hi.2 (by omega)).trans ((g2 i hi.1 (by omega)).trans (h2 i hi.1 hn))

theorem promoC_ok {φ φ' : Hnd} {ow : Own} {w : World} {n : Nat} {hs : List (Nat × CSh)} (hle : PhiLe φ φ') (hn : φ' n = some (.slice Option.none 0 0)) : ∀ {s : ASh} {v v' : AV} {e : TypeId} {T : Ty} {cs : List Value}, promoC n hs s v = some (v', e, T) → v.holds φ ow w cs → v'.holds φ' ow w cs
  | .cons s r, .cons v r', v', e, T, cs, h, ⟨u, us, hcs, h1, h2⟩ => by
    have step : (match promoC n hs r r' with
      | some (x, y) => some (AV.cons v x, y)
      | Option.none => Option.none) = some (v', e, T) → v'.holds φ' ow w cs := by
      intro h
      split at h
      · rename_i x y hx
        injection h with h
        injection h with ha hb
        subst ha
        subst hb
        exact ⟨u, us, hcs, AV.holds_keep hle (Keep.refl _ _) h1, promoC_ok hle hn hx h2⟩
      · cases h
    unfold promoC at h
    split at h
    · split at h
      · injection h with h
        injection h with ha hb
        subst ha
        exact ⟨u, us, hcs, ⟨Option.none, 0, 0, hn, h1⟩, AV.holds_keep hle (Keep.refl _ _) h2⟩
      · exact step h
    · exact step h
  | .cons _ _, .bot, _, _, _, _, h, _ | .cons _ _, .raw _, _, _, _, _, h, _ | .cons _ _, .dat _ _, _, _, _, _, h, _ | .cons _ _, .isNil _, _, _, _, _, h, _ | .cons _ _, .arr _, _, _, _, _, h, _ | .cons _ _, .vw _ _ _ _, _, _, _, _, h, _ | .cons _ _, .ref _ _, _, _, _, _, h, _ | .cons _ _, .elt _ _ _ _, _, _, _, _, h, _ | .cons _ _, .spt _ _, _, _, _, _, h, _ | .cons _ _, .fn _ _, _, _, _, _, h, _ | .cons _ _, .mapv _, _, _, _, _, h, _ | .cons _ _, .chv _, _, _, _, _, h, _ | .cons _ _, .bfn _ _, _, _, _, _, h, _ | .cons _ _, .opq _, _, _, _, _, h, _ | .cons _ _, .idn _ _ _, _, _, _, _, h, _ | .cons _ _, .nil, _, _, _, _, h, _ | .cons _ _, .agg _, _, _, _, _, h, _ | .cons _ _, .tup _, _, _, _, _, h, _ => by simp [promoC] at h
  | .bot, _, _, _, _, _, h, _ | .dat _, _, _, _, _, _, h, _ | .nilv, _, _, _, _, _, h, _ | .arr _, _, _, _, _, _, h, _ | .vw _ _, _, _, _, _, _, h, _ | .ref _ _, _, _, _, _, _, h, _ | .elt _ _ _, _, _, _, _, _, h, _ | .spt _, _, _, _, _, _, h, _ | .fn _ _, _, _, _, _, _, h, _ | .mapv _, _, _, _, _, _, h, _ | .chv _, _, _, _, _, _, h, _ | .bfn _ _, _, _, _, _, _, h, _ | .opq _, _, _, _, _, _, h, _ | .idn _ _, _, _, _, _, _, h, _ | .nil, _, _, _, _, _, h, _ | .agg _, _, _, _, _, _, h, _ | .tup _, _, _, _, _, _, h, _ => by simp [promoC] at h

theorem promoS1_env (a : Nat) (T : Ty) (st : St) : (promoS1 a T st).env = st.env ∧ (∀ i, i ≠ a → (promoS1 a T st).heap i = st.heap i) := by
  unfold promoS1
  cases Nat.beq a 0
  · rw [cond_false]
    split
    · split
      · exact ⟨rfl, fun i ha => by simp only; rw [show Nat.beq i a = false from Bool.eq_false_iff.2 fun e => ha (Nat.eq_of_beq_eq_true e)]; rfl⟩
      · exact ⟨rfl, fun _ _ => rfl⟩
    · exact ⟨rfl, fun _ _ => rfl⟩
  · exact ⟨rfl, fun _ _ => rfl⟩
theorem promoS_env : ∀ (l : List (Nat × CSh)) (st : St), (promoS l st).env = st.env ∧ (∀ i, i ∉ l.map (·.1) → (promoS l st).heap i = st.heap i)
  | [], st => ⟨rfl, fun _ _ => rfl⟩
  | (a, s) :: r, st => by
    have step : (promoS r st).env = st.env ∧ (∀ i, i ∉ ((a, s) :: r).map (·.1) → (promoS r st).heap i = st.heap i) := by
      obtain ⟨k1, k2⟩ := promoS_env r st
      exact ⟨k1, fun i hi => k2 i (fun h => hi (List.mem_cons_of_mem _ h))⟩
    cases s <;> try exact step
    rename_i T
    obtain ⟨h1, h2⟩ := promoS1_env a T st
    obtain ⟨k1, k2⟩ := promoS_env r (promoS1 a T st)
    refine ⟨k1.trans h1, fun i hi => ?_⟩
    simp only [List.map_cons, List.mem_cons, not_or] at hi
    exact (k2 i hi.2).trans (h2 i hi.1)

section
variable {D0 : List Deferred} {φ0 : Hnd} {ow0 : Own} {w0 : World}

theorem promo1_ok {hs : List (Nat × CSh)} {t : Nat} {s : ASh} {st : St} {a : Act} {w : World} (h : SatF D0 φ0 ow0 w0 st a w) : SatF D0 φ0 ow0 w0 (promo1 hs t s st) a w := by
  have main : ∀ c : Chunk, st.env t = .raw (.slice Option.none 0 0) → (∀ (φ : Hnd) (ow : Own), φ st.next = some (.slice Option.none 0 0) → cH φ ow w st.next c) →
      SatF D0 φ0 ow0 w0 { env := fun u => bif Nat.beq u t then .arr st.next else st.env u, heap := fun j => bif Nat.beq j st.next then c else st.heap j, next := st.next + 1, n := st.n } a w := by
    intro c he hc
    obtain ⟨φ, ow, h1, h2, h3, h4, h5, h6, h7, h8⟩ := h
    let φ' : Hnd := fun i => if i = st.next then some (.slice Option.none 0 0) else φ i
    have hle : PhiLe φ φ' := fun i v hv => by
      show (if i = st.next then _ else φ i) = some v
      rw [if_neg (fun e => by subst e; rw [h5 st.next (Nat.le_refl _)] at hv; cases hv)]
      exact hv
    have hk : Keep ow w ow w := Keep.refl _ _
    refine ⟨φ', ow, h1, h2, fun u => ?_, fun id => ?_, fun id hid => ?_, fun c id hc => ⟨(h6 c id hc).1, Nat.lt_succ_of_lt (h6 c id hc).2⟩, Nat.succ_pos _, ⟨h8.size, h8.os, h8.tape, h8.output, h8.blk, h8.frn, h8.phi.trans hle⟩⟩
    · show (bif Nat.beq u t then AV.arr st.next else st.env u).holds φ' ow w [a.tmps.getD u undef]
      cases hb : Nat.beq u t with
      | true =>
        have := Nat.eq_of_beq_eq_true hb
        subst this
        have := h3 u
        rw [he] at this
        have : [a.tmps.getD u undef] = [Value.slice Option.none 0 0] := this
        exact ⟨Option.none, 0, 0, if_pos rfl, this⟩
      | false => exact AV.holds_keep hle hk (h3 u)
    · show cH φ' ow w id (bif Nat.beq id st.next then c else st.heap id)
      cases hb : Nat.beq id st.next with
      | true =>
        have := Nat.eq_of_beq_eq_true hb
        subst this
        exact hc φ' ow (if_pos rfl)
      | false => exact cH_keep hle hk (fun b _ h => ⟨h, rfl⟩) (h4 id)
    · show (if id = st.next then _ else φ id) = none
      have : st.next + 1 ≤ id := hid
      rw [if_neg (by omega)]
      exact h5 id (by omega)
  unfold promo1
  split
  · rename_i x1 x2 a0 he
    split
    · rename_i e T hf
      exact main _ he fun φ ow hφ => ⟨_, hφ, [], World.ownsRow_nil w 0 e T.size, by simp [Value.ownBlock], Nat.zero_le _, rfl⟩
    · rename_i e e' T k hf
      exact main _ he fun φ ow hφ => ⟨_, [], fun _ => 0, hφ, World.ownsRow_nil w 0 e 1, by simp [Value.ownBlock], Nat.zero_le _, rfl, by simp, by simp, by simp⟩
    · exact h
  · exact h

theorem promoB1_ok {hs : List (Nat × CSh)} {b : Nat} {s : ASh} {st : St} {a : Act} {w : World} (h : SatF D0 φ0 ow0 w0 st a w) : SatF D0 φ0 ow0 w0 (promoB1 hs b s st) a w := by
  unfold promoB1
  split
  · rename_i e cells hbox
    split
    · rename_i cells' e1 T hp
      obtain ⟨φ, ow, h1, h2, h3, h4, h5, h6, h7, h8⟩ := h
      let φ' : Hnd := fun i => if i = st.next then some (.slice Option.none 0 0) else φ i
      have hle : PhiLe φ φ' := fun i v hv => by
        show (if i = st.next then _ else φ i) = some v
        rw [if_neg (fun e => by subst e; rw [h5 st.next (Nat.le_refl _)] at hv; cases hv)]
        exact hv
      have hk : Keep ow w ow w := Keep.refl _ _
      refine ⟨φ', ow, h1, h2, fun u => AV.holds_keep hle hk (h3 u), fun id => ?_, fun id hid => ?_, fun c id hc => ⟨(h6 c id hc).1, Nat.lt_succ_of_lt (h6 c id hc).2⟩, Nat.succ_pos _, ⟨h8.size, h8.os, h8.tape, h8.output, h8.blk, h8.frn, h8.phi.trans hle⟩⟩
      · show cH φ' ow w id (bif Nat.beq id st.next then .arr e1 T [] else bif Nat.beq id b then .box e cells' else st.heap id)
        cases hb : Nat.beq id st.next with
        | true =>
          have := Nat.eq_of_beq_eq_true hb
          subst this
          exact ⟨_, if_pos rfl, [], World.ownsRow_nil w 0 e1 T.size, by simp [Value.ownBlock], Nat.zero_le _, rfl⟩
        | false =>
          cases hc : Nat.beq id b with
          | true =>
            have := Nat.eq_of_beq_eq_true hc
            subst this
            have hch := h4 id
            rw [hbox] at hch
            obtain ⟨g, cs, q1, q2, q3, q4⟩ := hch
            exact ⟨g, cs, hle _ _ q1, q2, q3, promoC_ok hle (if_pos rfl) hp q4⟩
          | false => exact cH_keep hle hk (fun b _ h => ⟨h, rfl⟩) (h4 id)
      · show (if id = st.next then _ else φ id) = none
        have : st.next + 1 ≤ id := hid
        rw [if_neg (by omega)]
        exact h5 id (by omega)
    · exact h
  · exact h

theorem promoB_ok {hs : List (Nat × CSh)} : ∀ (l : List (Nat × CSh)) {st : St} {a : Act} {w : World}, SatF D0 φ0 ow0 w0 st a w → SatF D0 φ0 ow0 w0 (promoB hs l st) a w
  | [], _, _, _, h => h
  | (b, s) :: r, _, _, _, h => by
    cases s <;> try exact promoB_ok r h
    exact promoB_ok r (promoB1_ok (promoB1_ok h))

theorem promoS1_ok {b : Nat} {T : Ty} {st : St} {a : Act} {w : World} (h : SatF D0 φ0 ow0 w0 st a w) : SatF D0 φ0 ow0 w0 (promoS1 b T st) a w := by
  unfold promoS1
  cases hb0 : Nat.beq b 0 with
  | true => exact h
  | false =>
    rw [cond_false]
    split
    · rename_i e T' l hbox
      split
      · rename_i hT
        subst hT
        obtain ⟨φ, ow, h1, h2, h3, h4, h5, h6, h7, h8⟩ := h
        have hk : Keep ow w (sealOw [b] ow) w := keep_seal _
        refine ⟨φ, sealOw [b] ow, h1, h2, fun u => AV.holds_keep (PhiLe.refl _) hk (h3 u), fun id => ?_, h5, fun c id hc => h6 c id (seal_some.1 hc).1, h7, ⟨h8.size, h8.os, h8.tape, h8.output, fun c hc1 hc2 => ?_, fun c hc => h8.frn c (seal_some.1 hc).1, h8.phi⟩⟩
        · show cH φ (sealOw [b] ow) w id (bif Nat.beq id b then .sld T' _ else st.heap id)
          cases hc : Nat.beq id b with
          | true =>
            have := Nat.eq_of_beq_eq_true hc
            subst this
            have hch := h4 id
            rw [hbox] at hch
            obtain ⟨v, q1, q2⟩ := hch
            exact ⟨v, q1, row_sealed q2⟩
          | false =>
            have hne : id ≠ b := fun e => by subst e; rw [Nat.beq_refl] at hc; cases hc
            exact cH_keep (PhiLe.refl _) hk (fun c _ h => ⟨seal_some.2 ⟨h, by simpa using hne⟩, rfl⟩) (h4 id)
        · obtain ⟨g1, g2⟩ := h8.blk c hc1 hc2
          refine ⟨?_, g2⟩
          rcases hc2 with hc2 | hc2
          · rw [hc2] at g1 ⊢
            exact seal_none.2 (.inl g1)
          · rw [hc2] at g1 ⊢
            refine seal_some.2 ⟨g1, fun hm => ?_⟩
            simp only [List.mem_singleton] at hm
            subst hm
            cases hb0
      · exact h
    · exact h

theorem promoS_ok : ∀ (l : List (Nat × CSh)) {st : St} {a : Act} {w : World}, SatF D0 φ0 ow0 w0 st a w → SatF D0 φ0 ow0 w0 (promoS l st) a w
  | [], _, _, _, h => h
  | (b, s) :: r, _, _, _, h => by
    cases s <;> try exact promoS_ok r h
    exact promoS_ok r (promoS1_ok h)

theorem promo_ok {hs : List (Nat × CSh)} : ∀ (l : List (Nat × ASh)) {st : St} {a : Act} {w : World}, SatF D0 φ0 ow0 w0 st a w → SatF D0 φ0 ow0 w0 (promo hs l st) a w
  | [], _, _, _, h => h
  | (t, s) :: r, _, _, _, h => promo_ok r (promo1_ok h)

/-- A state whose data were found is one of that shape. -/
theorem cut_ok {fix : List Nat} (hbase : ∀ id, id ∉ fix → φ0 id = none) {sh : Shape} {s0 st : St} {D : Dirt} {x : sh.ty.den} {a : Act} {w : World} (h : decSt fix sh s0 st D = some x) (hf : FrmS sh s0 st D) (hs : SatF D0 φ0 ow0 w0 st a w) : SatF D0 φ0 ow0 w0 (invSt sh.ann x s0) a w := by
  unfold decSt at h
  cases hc : sh.keepH.all fun i => Nat.blt i st.next with
  | false => rw [hc] at h; cases h
  | true =>
    rw [hc, cond_true] at h
    obtain ⟨k1, k2⟩ := promo_env sh.heap sh.env st
    obtain ⟨b1, b2⟩ := promoB_env sh.heap sh.heap (promo sh.heap sh.env st)
    have hn : ∀ i, memN i sh.keepH = true → i < st.next := fun i h1 => Nat.le_of_ble_eq_true (List.all_eq_true.1 hc i (memN_iff.1 h1))
    obtain ⟨c1, c2⟩ := promoS_env sh.heap (promoB sh.heap sh.heap (promo sh.heap sh.env st))
    refine entails_ok hbase (decSt1_ok h ⟨fun t h1 h2 h3 => ((congrFun (c1.trans b1) t).trans (k1 t fun hm => ?_)).trans (hf.e t h1 h2 h3), fun i h1 h2 h3 => (c2 i (fun hm => ?_)).trans ((b2 i (fun hm => ?_) (Nat.lt_of_lt_of_le (hn i h1) (promo_next _ _ _))).trans ((k2 i (hn i h1)).trans (hf.h i h1 h2 h3)))⟩) (promoS_ok sh.heap (promoB_ok sh.heap (promo_ok sh.env hs)))
    · rw [memN_iff.2 hm] at h2; cases h2
    · rw [memN_iff.2 hm] at h2; cases h2
    · rw [memN_iff.2 hm] at h2; cases h2
end

end GoSx
end
section
/- Sy, part 3: code does what its program says. -/
set_option linter.unusedVariables false
set_option linter.unusedSimpArgs false
namespace GoSx
open Go

theorem exReq_path {R : Type} {hp : Nat → Chunk} {z : R} : ∀ {r : Req} {K : Out → List Nat → Prog R}, (exReq hp r K).run = some z → ∃ out, r.run hp = some out ∧ (K out (r.touched hp)).run = some z
  | .look id k, K, h => by
    obtain ⟨out, h1, h2⟩ := exReq_path (r := k (hp id)) h
    exact ⟨out, h1, h2⟩
  | .out o, K, h => ⟨o, rfl, h⟩
  | .fail, K, h => by cases h
  | .call m k, K, h => by
    simp only [exReq, Prog.run] at h
    cases m with
    | none => cases h
    | some x =>
      obtain ⟨out, h1, h2⟩ := exReq_path (r := k x) h
      exact ⟨out, h1, h2⟩

theorem guardL_path {R : Type} {z : R} : ∀ {ps : List Prop} {d : DecL ps} {x : Prog R}, (guardL d x).run = some z → (∀ p ∈ ps, p) ∧ x.run = some z
  | _, .nil, x, h => ⟨by simp, h⟩
  | _, @DecL.cons p _ d r, x, h => by
    simp only [guardL, Prog.run] at h
    by_cases hp : p
    · rw [if_pos hp] at h
      obtain ⟨h1, h2⟩ := guardL_path h
      refine ⟨fun q hq => ?_, h2⟩
      rcases List.mem_cons.1 hq with rfl | hq
      · exact hp
      · exact h1 q hq
    · rw [if_neg hp] at h
      cases h

theorem Frm.put {base st : St} {D : Dirt} (h : Frm base st D) (d : Option Tmp) (a : AV) : Frm base (st.put d a) (D.put d) := by
  cases d with
  | none => exact h
  | some d =>
    refine ⟨fun t ht => ?_, h.h⟩
    simp only [Dirt.put, Bool.or_eq_false_iff] at ht
    simp only [St.put, ht.1, cond_false]
    exact h.e t ht.2

theorem Frm.upd {base st : St} {D : Dirt} (h : Frm base st D) (u : Upd) : Frm base (st.upd u) (D.upd (ids u)) := by
  refine ⟨fun t ht => by rw [(upd_env u st).1]; exact h.e t ht, fun i hi => ?_⟩
  simp only [Dirt.upd, Bool.or_eq_false_iff] at hi
  rcases upd_heap u st i with ⟨hm, _⟩ | ⟨_, he⟩
  · rw [memN_iff.2 hm] at hi; cases hi.1
  · rw [he]; exact h.h i hi.2

theorem Dirt.put_upd (D : Dirt) (d : Option Tmp) (l : List Nat) : (D.upd l).put d = (D.put d).upd l := by cases d <;> rfl

variable {C : XCfg}

theorem exRun_path {R : Type} {z : R} {o : Oper} {next i : Nat} {ord : Nat → Bool} {st base : St} {D : Dirt} {K : List Nat → List Nat → St → Prog R} (h : (exRun C o next i ord st K).run = some z) (hf : Frm base st D) :
    ∃ tch up st', (K tch up st').run = some z ∧ Frm base st' ((D.put o.dst).upd up) ∧ ∀ K' : List Nat → List Nat → St → Prop, K' tch up st' → vcRun C.cfg o next i ord st K' := by
  unfold exRun at h
  obtain ⟨out, h1, h2⟩ := exReq_path h
  generalize hc : (updOk next i ord ((reqOp C.P C.S C.wr o.op (evalAV st.env) (next + 64 * i)).touched st.heap) out.upd && dstOk st.n o.dst) = c at h2
  cases c with
  | false => cases h2
  | true =>
    rw [cond_true] at h2
    obtain ⟨h3, h4⟩ := guardL_path h2
    refine ⟨_, _, _, h4, ?_, fun K' hK => ?_⟩
    · rw [← Dirt.put_upd]
      exact (hf.upd out.upd).put o.dst out.res
    · have h1' : (reqOp C.cfg.P C.cfg.S C.cfg.wr o.op (evalAV st.env) (next + 64 * i)).run st.heap = some out := h1
      unfold vcRun
      simp only
      rw [h1']
      simp only
      have hc' : (updOk next i ord ((reqOp C.cfg.P C.cfg.S C.cfg.wr o.op (evalAV st.env) (next + 64 * i)).touched st.heap) out.upd && dstOk st.n o.dst) = true := hc
      rw [hc', cond_true]
      exact conj_mk h3 hK

theorem exOps_path {R : Type} {z : R} {ops : Array Oper} {bef : Option (Array Nat)} {next : Nat} {base : St} : ∀ (l : List Oper) (i : Nat) (tr : List Trc) (st : St) (D : Dirt) (K : St → Dirt → Prog R), (exOps C ops bef next l i tr st D K).run = some z → Frm base st D →
    ∃ st' D', (K st' D').run = some z ∧ Frm base st' D' ∧ ∀ K' : St → Prop, K' st' → vcOps C.cfg ops bef next l i tr st K'
  | [], i, tr, st, D, K, h, hf => by
    simp only [exOps] at h
    cases bef with
    | none => exact ⟨st, D, h, hf, fun K' hK => hK⟩
    | some b =>
      simp only at h
      cases hc : trcOk b tr.reverse with
      | false => rw [hc] at h; cases h
      | true =>
        rw [hc, cond_true] at h
        exact ⟨st, D, h, hf, fun K' hK => by simp only [vcOps, hc, cond_true]; exact hK⟩
  | o :: r, i, tr, st, D, K, h, hf => by
    have go : ∀ (rd : List Nat) (st : St), (exRun C o next i (ordOf bef i) st fun tch up st' => exOps C ops bef next r (i + 1) (⟨i, rd ++ rdSlots o, o.dst, tch, up⟩ :: tr) st' ((D.put o.dst).upd up) K).run = some z → Frm base st D →
        ∃ st' D', (K st' D').run = some z ∧ Frm base st' D' ∧ ∀ K' : St → Prop, K' st' → vcRun C.cfg o next i (ordOf bef i) st fun tch up st' => vcOps C.cfg ops bef next r (i + 1) (⟨i, rd ++ rdSlots o, o.dst, tch, up⟩ :: tr) st' K' := by
      intro rd st h hf
      obtain ⟨tch, up, st1, h1, h2, h3⟩ := exRun_path h hf
      obtain ⟨st', D', h4, h5, h6⟩ := exOps_path r _ _ _ _ _ h1 h2
      exact ⟨st', D', h4, h5, fun K' hK => h3 _ (h6 K' hK)⟩
    simp only [exOps] at h
    split at h
    · rename_i hg
      obtain ⟨st', D', h1, h2, h3⟩ := go _ _ h hf
      refine ⟨st', D', h1, h2, fun K' hK => ?_⟩
      unfold vcOps
      simp only [hg]
      exact h3 K' hK
    · rename_i j want hg
      split at h <;> try (cases h; done)
      rename_i d hd
      split at h <;> try (cases h; done)
      rotate_left
      · rename_i v hv
        cases hb : notBool v && dstOk st.n o.dst with
        | false => rw [hb] at h; cases h
        | true =>
          rw [hb, cond_true] at h
          obtain ⟨st', D', h1, h2, h3⟩ := exOps_path r _ _ _ _ _ h (hf.put o.dst (.raw undef))
          refine ⟨st', D', h1, h2, fun K' hK => ?_⟩
          unfold vcOps
          simp only [hg, hd, hv, hb, cond_true]
          exact h3 K' hK
      rename_i b hb
      simp only [Prog.run] at h
      have key : ∀ c : Bool, c = b → (bif c == want then
              exRun C o next i (ordOf bef i) (st.put (some d) (.dat .bool c)) fun tch up st' => exOps C ops bef next r (i + 1) (⟨i, [d] ++ rdSlots o, o.dst, tch, up⟩ :: tr) st' ((D.put o.dst).upd up) K
            else bif dstOk (st.put (some d) (.dat .bool c)).n o.dst then exOps C ops bef next r (i + 1) (⟨i, [d], o.dst, [], []⟩ :: tr) ((st.put (some d) (.dat .bool c)).put o.dst (.raw undef)) (D.put o.dst) K else .fail 6).run = some z →
          ∃ st' D', (K st' D').run = some z ∧ Frm base st' D' ∧ ∀ K' : St → Prop, K' st' → vcOps C.cfg ops bef next (o :: r) i tr st K' := by
        intro c hcb h
        rw [← hcb] at hb
        rw [put_same hb] at h
        cases hw : (c == want) with
        | true =>
          rw [hw, cond_true] at h
          obtain ⟨st', D', h1, h2, h3⟩ := go _ _ h hf
          refine ⟨st', D', h1, h2, fun K' hK => ?_⟩
          unfold vcOps
          simp only [hg, hd, hb]
          have := h3 K' hK
          have e : ∀ F : Bool → Prop, brB c F = F c := fun F => by cases c <;> rfl
          rw [e]
          simp only [hw, cond_true]
          rw [put_same hb]
          exact this
        | false =>
          rw [hw, cond_false] at h
          cases hdo : dstOk st.n o.dst with
          | false => rw [hdo] at h; cases h
          | true =>
            rw [hdo, cond_true] at h
            obtain ⟨st', D', h1, h2, h3⟩ := exOps_path r _ _ _ _ _ h (hf.put o.dst (.raw undef))
            refine ⟨st', D', h1, h2, fun K' hK => ?_⟩
            unfold vcOps
            simp only [hg, hd, hb]
            have := h3 K' hK
            have e : ∀ F : Bool → Prop, brB c F = F c := fun F => by cases c <;> rfl
            rw [e]
            simp only [hw, cond_false]
            rw [put_same hb]
            simp only [hdo, cond_true]
            exact this
      cases b with
      | true => exact key true rfl h
      | false => exact key false rfl h

theorem exRegion_path {R : Type} {z : R} {ops : Array Oper} {draw : Bool} {st base : St} {D : Dirt} {K : St → Dirt → Prog R} (h : (exRegion C ops draw st D K).run = some z) (hf : Frm base st D) :
    ∃ st' D', (K st' D').run = some z ∧ Frm base st' D' ∧ ∀ K' : St → Prop, K' st' → vcRegion C.cfg ops draw st K' := by
  unfold exRegion at h
  cases hc : !draw || edgesOk 0 ops.toList with
  | false => rw [hc] at h; cases h
  | true =>
    rw [hc, cond_true] at h
    obtain ⟨st', D', h1, h2, h3⟩ := exOps_path _ _ _ _ _ _ h hf
    refine ⟨_, D', h1, ⟨h2.e, h2.h⟩, fun K' hK => ?_⟩
    unfold vcRegion
    rw [hc, cond_true]
    exact h3 _ hK

section
variable {D0 : List Deferred} {φ0 : Hnd} {ow0 : Own} {w0 : World}

theorem lookAV_not : ∀ (l : List (Nat × AV)) (t : Nat) (d : AV), t ∉ l.map (·.1) → lookAV l t d = d
  | [], _, _, _ => rfl
  | (x, a) :: r, t, d, h => by
    simp only [List.map_cons, List.mem_cons, not_or] at h
    have : Nat.beq x t = false := Bool.eq_false_iff.2 fun e => h.1 (Nat.eq_of_beq_eq_true e).symm
    simp only [lookAV, this, cond_false]
    exact lookAV_not r t d h.2
theorem lookCh_not : ∀ (l : List (Nat × Chunk)) (t : Nat) (d : Chunk), t ∉ l.map (·.1) → lookCh l t d = d
  | [], _, _, _ => rfl
  | (x, a) :: r, t, d, h => by
    simp only [List.map_cons, List.mem_cons, not_or] at h
    have : Nat.beq x t = false := Bool.eq_false_iff.2 fun e => h.1 (Nat.eq_of_beq_eq_true e).symm
    simp only [lookCh, this, cond_false]
    exact lookCh_not r t d h.2
theorem encEnv_fst : ∀ (l : List (Nat × ASh)) (x : (envTy l).den), (encEnv l x).map (·.1) = l.map (·.1)
  | [], _ => rfl
  | (t, s) :: r, x => by simp only [encEnv, List.map_cons, encEnv_fst r _]
theorem encHeap_fst : ∀ (l : List (Nat × CSh)) (x : (heapTy l).den), (encHeap l x).map (·.1) = l.map (·.1)
  | [], _ => rfl
  | (t, s) :: r, x => by simp only [encHeap, List.map_cons, encHeap_fst r _]

theorem memN_false {x : Nat} {l : List Nat} (h : memN x l = false) : x ∉ l := fun hm => by rw [memN_iff.2 hm] at h; cases h

/-- Behind a cut. -/
theorem Frm.behind {base st : St} {D : Dirt} {sh : Shape} (h : Frm base st D) (x : sh.ty.den) : Frm base (invSt sh.ann x st) (D.behind sh) := by
  refine ⟨fun t ht => ?_, fun i hi => ?_⟩
  · simp only [Dirt.behind, Bool.or_eq_false_iff, Bool.not_eq_false'] at ht
    obtain ⟨⟨h1, h2⟩, h3⟩ := ht
    show lookAV (encEnv sh.env (fst2 _ _ x)) t (bif memN t sh.keep then st.env t else .bot) = _
    rw [lookAV_not _ _ _ (by rw [encEnv_fst]; exact memN_false h2), h1, cond_true]
    exact h.e t h3
  · simp only [Dirt.behind, Bool.or_eq_false_iff, Bool.not_eq_false'] at hi
    obtain ⟨⟨h1, h2⟩, h3⟩ := hi
    show lookCh (encHeap sh.heap (snd2 _ _ x)) i (bif memN i sh.keepH then st.heap i else .none) = _
    rw [lookCh_not _ _ _ (by rw [encHeap_fst]; exact memN_false h2), h1, cond_true]
    exact h.h i h3
theorem Frm.to_start {st st' : St} {D' : Dirt} {sh : Shape} {x : sh.ty.den} (h : Frm (invSt sh.ann x st) st' D') {base : St} {D : Dirt} (hD : Frm base (invSt sh.ann x st) D) : Frm base st' (D.plus D') := by
  refine ⟨fun t ht => ?_, fun i hi => ?_⟩
  · simp only [Dirt.plus, Bool.or_eq_false_iff] at ht
    exact (h.e t ht.2).trans (hD.e t ht.1)
  · simp only [Dirt.plus, Bool.or_eq_false_iff] at hi
    exact (h.h i hi.2).trans (hD.h i hi.1)

theorem retO_some {X Y : Type} {inj : X → Y} {m : Option X} {n : Nat} {st : St} {D : Dirt} {z : Y} (h : (retO inj m n st D).run = some z) : ∃ x, m = some x ∧ z = inj x := by
  cases m with
  | none => cases h
  | some x => injection h with h; exact ⟨x, rfl, h.symm⟩

/-- What is answered is injected. -/
def InR {R : Type} (K : Kont R) : Prop := ∀ (Y : Type) (inj : R → Y) (z : Y) e st' D', (K Y inj e st' D').run = some z → ∃ r, z = inj r

theorem cutK_range {R : Type} {n : Nat} {fix : List Nat} {sh : Shape} {s0 : St} {D : Dirt} {K : Kont R} (hK : InR K) : InR (cutK n fix sh s0 D K) := by
  intro Y inj z e st' D' h
  cases e with
  | normal => obtain ⟨x, _, hz⟩ := retO_some h; exact ⟨_, hz⟩
  | exit => obtain ⟨r, hr⟩ := hK _ _ _ _ _ _ h; exact ⟨_, hr⟩
  | goto => obtain ⟨r, hr⟩ := hK _ _ _ _ _ _ h; exact ⟨_, hr⟩
  | ret => obtain ⟨r, hr⟩ := hK _ _ _ _ _ _ h; exact ⟨_, hr⟩
  | panic => obtain ⟨r, hr⟩ := hK _ _ _ _ _ _ h; exact ⟨_, hr⟩
  | outgrown => obtain ⟨r, hr⟩ := hK _ _ _ _ _ _ h; exact ⟨_, hr⟩

theorem joinO_cases {X R : Type} {m : Option (X ⊕ R)} {k : X → Option R} {z : R} (h : joinO m k = some z) : (∃ x, m = some (.inl x) ∧ k x = some z) ∨ m = some (.inr z) := by
  unfold joinO at h
  split at h
  · exact .inl ⟨_, rfl, h⟩
  · injection h with h; subst h; exact .inr rfl
  · cases h

theorem iterO_cases {X R : Type} {b : X → Option (X ⊕ R)} {n : Nat} {x : X} {z : R} (h : iterO b (n + 1) x = some z) : (∃ y, b x = some (.inl y) ∧ iterO b n y = some z) ∨ b x = some (.inr z) := by
  unfold iterO at h
  split at h
  · exact .inl ⟨_, by assumption, h⟩
  · injection h with h; subst h; exact .inr (by assumption)
  · cases h

theorem iterO_range {X R Y : Type} {inj : R → Y} {b : X → Option (X ⊕ Y)} (hb : ∀ x z, b x = some z → ∃ r : X ⊕ R, z = smap inj r) : ∀ (n : Nat) (x : X) (z : Y), iterO b n x = some z → ∃ r, z = inj r
  | 0, _, _, h => by cases h
  | n + 1, x, z, h => by
    unfold iterO at h
    split at h
    · exact iterO_range hb n _ z h
    · rename_i r hr
      injection h with h
      subst h
      obtain ⟨q, hq⟩ := hb _ _ hr
      cases q with
      | inl y => cases hq
      | inr y => injection hq with hq; exact ⟨y, hq⟩
    · cases h

theorem exCode_range : ∀ (c : Code) {R : Type} {st : St} {D : Dirt} {K : Kont R} {Y : Type} {inj : R → Y} {z : Y}, (exCode C c st D K Y inj).run = some z → InR K → ∃ r, z = inj r := by
  intro c
  induction c with
  | skip => intro R st D K Y inj z h hK; exact hK _ _ _ _ _ _ h
  | label l => intro R st D K Y inj z h hK; exact hK _ _ _ _ _ _ h
  | exit id => intro R st D K Y inj z h hK; exact hK _ _ _ _ _ _ h
  | ret => intro R st D K Y inj z h hK; exact hK _ _ _ _ _ _ h
  | region id ops draw =>
    intro R st D K Y inj z h hK
    obtain ⟨st', D', h1, _, _⟩ := exRegion_path h (Frm.refl st D)
    exact hK _ _ _ _ _ _ h1
  | seq x y ihx ihy =>
    intro R st D K Y inj z h hK
    simp only [exCode] at h
    split at h
    · refine ihx h fun Y inj z e st' D' h => ?_
      cases e with
      | normal => exact ihy h hK
      | exit => exact hK _ _ _ _ _ _ h
      | goto => exact hK _ _ _ _ _ _ h
      | ret => exact hK _ _ _ _ _ _ h
      | panic => exact hK _ _ _ _ _ _ h
      | outgrown => exact hK _ _ _ _ _ _ h
    · rcases joinO_cases h with ⟨q, _, h2⟩ | h2
      · exact ihy h2 hK
      · obtain ⟨r, hr⟩ := ihx h2 (cutK_range hK)
        cases r with
        | inl y => cases hr
        | inr y => injection hr with hr; exact ⟨y, hr⟩
  | cond c x y ihx ihy =>
    intro R st D K Y inj z h hK
    simp only [exCode] at h
    split at h
    · simp only [Prog.run] at h
      rename_i v hv
      cases v with
      | true => exact ihx h hK
      | false => exact ihy h hK
    · cases h
  | block id x ih =>
    intro R st D K Y inj z h hK
    simp only [exCode] at h
    refine ih h fun Y inj z e st' D' h => ?_
    cases e with
    | exit id' =>
      simp only at h
      cases hz : Nat.beq id' id <;> rw [hz] at h <;> exact hK _ _ _ _ _ _ h
    | normal => exact hK _ _ _ _ _ _ h
    | goto => exact hK _ _ _ _ _ _ h
    | ret => exact hK _ _ _ _ _ _ h
    | panic => exact hK _ _ _ _ _ _ h
    | outgrown => exact hK _ _ _ _ _ _ h
  | scope x ih =>
    intro R st D K Y inj z h hK
    simp only [exCode] at h
    refine ih h fun Y inj z e st' D' h => ?_
    cases e with
    | goto => cases h
    | normal => exact hK _ _ _ _ _ _ h
    | exit => exact hK _ _ _ _ _ _ h
    | ret => exact hK _ _ _ _ _ _ h
    | panic => exact hK _ _ _ _ _ _ h
    | outgrown => exact hK _ _ _ _ _ _ h
  | loop x ih =>
    intro R st D K Y inj z h hK
    simp only [exCode] at h
    split at h
    · split at h
      · exact iterO_range (fun x z hz => ih hz (cutK_range hK)) _ _ _ h
      · cases h
    · cases h
  | _ => intro R st D K Y inj z h; cases h

theorem smap_inj {X R Y : Type} {f : R → Y} (hf : Function.Injective f) : Function.Injective (smap (X := X) f) := by
  intro a b h
  cases a <;> cases b <;> simp only [smap] at h
  · injection h with h; rw [h]
  · cases h
  · cases h
  · injection h with h; rw [hf h]

/-- What holds at the end of what stands within a cut. -/
def cutQ {X R : Type} (D0 : List Deferred) (φ0 : Hnd) (ow0 : Own) (w0 : World) (S : X → St) (Q : R → Exit → Act → World → Prop) : X ⊕ R → Exit → Act → World → Prop
  | .inl x, .normal, a, w => SatF D0 φ0 ow0 w0 (S x) a w
  | .inl _, _, _, _ => False
  | .inr _, .normal, _, _ => False
  | .inr r, e, a, w => Q r e a w

def KOk {R : Type} (D0 : List Deferred) (φ0 : Hnd) (ow0 : Own) (w0 : World) (base : St) (K : Kont R) (Q : R → Exit → Act → World → Prop) : Prop :=
  ∀ (Y : Type) (inj : R → Y), Function.Injective inj → ∀ (r : R) e st' D', (K Y inj e st' D').run = some (inj r) → Frm base st' D' → ∀ a' w', SatF D0 φ0 ow0 w0 st' a' w' → Q r e a' w'

theorem cutK_ok {R : Type} {n : Nat} {fix : List Nat} (hbase : ∀ id, id ∉ fix → φ0 id = none) {sh : Shape} {s0 b0 base : St} {D : Dirt} {K : Kont R} {Q : R → Exit → Act → World → Prop} (hR : InR K) (hK : KOk D0 φ0 ow0 w0 base K Q)
    (hb : ∀ st' D', Frm b0 st' D' → FrmS sh s0 st' D') (hB : ∀ st' D', Frm b0 st' D' → Frm base st' (D.plus D')) : KOk D0 φ0 ow0 w0 b0 (cutK n fix sh s0 D K) (cutQ D0 φ0 ow0 w0 (fun x => invSt sh.ann x s0) Q) := by
  intro Y inj hi rb e st' D' h hf a' w' hs
  have other : ∀ e, e ≠ .normal → (K Y (fun r => inj (.inr r)) e st' (D.plus D')).run = some (inj rb) → cutQ D0 φ0 ow0 w0 (fun x => invSt sh.ann x s0) Q rb e a' w' := by
    intro e he h
    obtain ⟨r, hr⟩ := hR _ _ _ _ _ _ h
    have := hi hr
    subst this
    have hq := hK _ _ (fun a b hab => by have := hi hab; injection this) r e st' _ h (hB _ _ hf) a' w' hs
    cases e <;> first | exact absurd rfl he | exact hq
  cases e with
  | normal =>
    obtain ⟨x, hx, hz⟩ := retO_some h
    have := hi hz
    subst this
    exact cut_ok hbase hx (hb _ _ hf) hs
  | exit => exact other _ (by simp) h
  | goto => exact other _ (by simp) h
  | ret => exact other _ (by simp) h
  | panic => exact other _ (by simp) h
  | outgrown => exact other _ (by simp) h

/-- A shape's start leaves what is kept. -/
theorem Frm.of_start {sh : Shape} {x : sh.ty.den} {st st' : St} {D' : Dirt} (h : Frm (invSt sh.ann x st) st' D') : FrmS sh st st' D' := by
  refine ⟨fun t h1 h2 h3 => (h.e t h3).trans ?_, fun i h1 h2 h3 => (h.h i h3).trans ?_⟩
  · show lookAV (encEnv sh.env (fst2 _ _ x)) t (bif memN t sh.keep then st.env t else .bot) = _
    rw [lookAV_not _ _ _ (by rw [encEnv_fst]; exact memN_false h2), h1, cond_true]
  · show lookCh (encHeap sh.heap (snd2 _ _ x)) i (bif memN i sh.keepH then st.heap i else .none) = _
    rw [lookCh_not _ _ _ (by rw [encHeap_fst]; exact memN_false h2), h1, cond_true]

theorem frm_no {base st st' : St} {D D' : Dirt} (h : Frm st st' D') (hf : Frm base st D) : Frm base st' (D.plus D') := by
  refine ⟨fun t ht => ?_, fun i hi => ?_⟩
  · simp only [Dirt.plus, Bool.or_eq_false_iff] at ht
    exact (h.e t ht.2).trans (hf.e t ht.1)
  · simp only [Dirt.plus, Bool.or_eq_false_iff] at hi
    exact (h.h i hi.2).trans (hf.h i hi.1)

theorem exCode_ok (hS : ∀ f, SummOK C.P f (C.S f)) (hm : C.P.follows .mixedOrders = true) (hbase : ∀ id, id ∉ C.fix → φ0 id = none) : ∀ (c : Code) {R : Type} {st base : St} {D : Dirt} {K : Kont R} {Y : Type} {inj : R → Y} {r : R}, Function.Injective inj → (exCode C c st D K Y inj).run = some (inj r) → Frm base st D →
    ∀ {Q : R → Exit → Act → World → Prop}, InR K → KOk D0 φ0 ow0 w0 base K Q → ∀ {a : Act} {w : World}, SatF D0 φ0 ow0 w0 st a w → c.wp C.P (Q r) a w := by
  intro c
  induction c with
  | skip => intro R st base D K Y inj r hi h hf Q hR hK a w hs; exact wp_skip (hK _ _ hi _ _ _ _ h hf _ _ hs)
  | label l => intro R st base D K Y inj r hi h hf Q hR hK a w hs; exact wp_label (hK _ _ hi _ _ _ _ h hf _ _ hs)
  | exit id => intro R st base D K Y inj r hi h hf Q hR hK a w hs; exact wp_exit (hK _ _ hi _ _ _ _ h hf _ _ hs)
  | ret => intro R st base D K Y inj r hi h hf Q hR hK a w hs; exact wp_ret (hK _ _ hi _ _ _ _ h hf _ _ hs)
  | region id ops draw =>
    intro R st base D K Y inj r hi h hf Q hR hK a w hs
    obtain ⟨st', D', h1, h2, h3⟩ := exRegion_path h hf
    exact region_ok (C := C.cfg) hS hm (h3 (· = st') rfl) hs fun st2 h2' a' w' hs' => by
      subst h2'
      exact hK _ _ hi _ _ _ _ h1 h2 _ _ hs'
  | seq x y ihx ihy =>
    intro R st base D K Y inj r hi h hf Q hR hK a w hs
    simp only [exCode] at h
    refine wp_seq ?_
    split at h
    · refine wp_mono (ihx hi h hf (Q := fun r e a w => match e with
        | .normal => y.wp C.P (Q r) a w
        | e => Q r e a w) ?_ ?_ hs) fun e a' w' hq => ?_
      · intro Y inj z e st' D' h
        cases e with
        | normal => exact exCode_range y h hR
        | exit => exact hR _ _ _ _ _ _ h
        | goto => exact hR _ _ _ _ _ _ h
        | ret => exact hR _ _ _ _ _ _ h
        | panic => exact hR _ _ _ _ _ _ h
        | outgrown => exact hR _ _ _ _ _ _ h
      · intro Y inj hi r e st' D' hk hf' a' w' hs'
        cases e with
        | normal => exact ihy hi hk hf' hR hK hs'
        | exit => exact hK _ _ hi _ _ _ _ hk hf' _ _ hs'
        | goto => exact hK _ _ hi _ _ _ _ hk hf' _ _ hs'
        | ret => exact hK _ _ hi _ _ _ _ hk hf' _ _ hs'
        | panic => exact hK _ _ hi _ _ _ _ hk hf' _ _ hs'
        | outgrown => exact hK _ _ hi _ _ _ _ hk hf' _ _ hs'
      · cases e <;> exact hq
    · rename_i sh hsh
      have hQ := cutK_ok (Q := Q) (n := firstReg y) (fix := C.fix) (s0 := st) (sh := sh) (b0 := st) hbase hR hK (fun st' D' h => h.toS) (fun st' D' h => frm_no h hf)
      have body : ∀ rb : sh.ty.den ⊕ R, (exCode C x st Dirt.no (cutK (firstReg y) C.fix sh st D K) (sh.ty.den ⊕ Y) (smap inj)).run = some (smap inj rb) → x.wp C.P (cutQ D0 φ0 ow0 w0 (fun x => invSt sh.ann x st) Q rb) a w :=
        fun rb hz => ihx (smap_inj hi) hz (Frm.refl st _) (cutK_range hR) hQ hs
      rcases joinO_cases h with ⟨q, h1, h2⟩ | h2
      · refine wp_mono (body (.inl q) h1) fun e a' w' hq => ?_
        cases e with
        | normal => exact ihy hi h2 (hf.behind q) hR hK hq
        | exit => exact hq.elim
        | goto => exact hq.elim
        | ret => exact hq.elim
        | panic => exact hq.elim
        | outgrown => exact hq.elim
      · refine wp_mono (body (.inr r) h2) fun e a' w' hq => ?_
        cases e with
        | normal => exact hq.elim
        | exit => exact hq
        | goto => exact hq
        | ret => exact hq
        | panic => exact hq
        | outgrown => exact hq
  | cond c x y ihx ihy =>
    intro R st base D K Y inj r hi h hf Q hR hK a w hs
    simp only [exCode] at h
    have hev : (evalAV st.env c).holds hs.choose hs.choose_spec.choose w [a.eval c] := evalAV_holds hs.choose_spec.choose_spec.2.2.1 c
    split at h
    · rename_i v hv
      rw [hv] at hev
      have hb := bool_holds hev
      simp only [Prog.run] at h
      cases v with
      | true =>
        have h' : (exCode C x st D K Y inj).run = some (inj r) := by
          simp only [cond_true] at h
          cases c with
          | tmp t => simp only at h; rw [put_same hv] at h; exact h
          | _ => exact h
        exact wp_cond hb (ihx hi h' hf hR hK hs)
      | false =>
        have h' : (exCode C y st D K Y inj).run = some (inj r) := by
          simp only [cond_false] at h
          cases c with
          | tmp t => simp only at h; rw [put_same hv] at h; exact h
          | _ => exact h
        exact wp_cond hb (ihy hi h' hf hR hK hs)
    · cases h
  | block id x ih =>
    intro R st base D K Y inj r hi h hf Q hR hK a w hs
    simp only [exCode] at h
    refine wp_block (wp_mono (ih hi h hf (Q := fun r e a w => match e with
      | .exit id' => bif Nat.beq id' id then Q r .normal a w else Q r (.exit id') a w
      | e => Q r e a w) ?_ ?_ hs) fun e a' w' hq => ?_)
    · intro Y inj z e st' D' h
      cases e with
      | exit id' =>
        simp only at h
        cases hz : Nat.beq id' id <;> rw [hz] at h <;> exact hR _ _ _ _ _ _ h
      | normal => exact hR _ _ _ _ _ _ h
      | goto => exact hR _ _ _ _ _ _ h
      | ret => exact hR _ _ _ _ _ _ h
      | panic => exact hR _ _ _ _ _ _ h
      | outgrown => exact hR _ _ _ _ _ _ h
    · intro Y inj hi r e st' D' hk hf' a' w' hs'
      cases e with
      | exit id' =>
        simp only at hk ⊢
        cases hz : Nat.beq id' id with
        | true => rw [hz] at hk; exact hK _ _ hi _ _ _ _ hk hf' _ _ hs'
        | false => rw [hz] at hk; exact hK _ _ hi _ _ _ _ hk hf' _ _ hs'
      | normal => exact hK _ _ hi _ _ _ _ hk hf' _ _ hs'
      | goto => exact hK _ _ hi _ _ _ _ hk hf' _ _ hs'
      | ret => exact hK _ _ hi _ _ _ _ hk hf' _ _ hs'
      | panic => exact hK _ _ hi _ _ _ _ hk hf' _ _ hs'
      | outgrown => exact hK _ _ hi _ _ _ _ hk hf' _ _ hs'
    · cases e with
      | exit id' =>
        simp only at hq
        simp only [Exit.inBlock]
        cases hz : Nat.beq id' id with
        | true =>
          rw [hz] at hq
          rw [if_pos (Nat.eq_of_beq_eq_true hz)]
          exact hq
        | false =>
          rw [hz] at hq
          rw [if_neg (fun e => by rw [e, Nat.beq_refl] at hz; cases hz)]
          exact hq
      | normal => exact hq
      | goto => exact hq
      | ret => exact hq
      | panic => exact hq
      | outgrown => exact hq
  | scope x ih =>
    intro R st base D K Y inj r hi h hf Q hR hK a w hs
    simp only [exCode] at h
    refine wp_scope_straight (wp_mono (ih hi h hf (Q := fun r e a w => match e with
      | .goto _ => False
      | e => Q r e a w) ?_ ?_ hs) fun e a' w' hq => ?_)
    · intro Y inj z e st' D' h
      cases e with
      | goto => cases h
      | normal => exact hR _ _ _ _ _ _ h
      | exit => exact hR _ _ _ _ _ _ h
      | ret => exact hR _ _ _ _ _ _ h
      | panic => exact hR _ _ _ _ _ _ h
      | outgrown => exact hR _ _ _ _ _ _ h
    · intro Y inj hi r e st' D' hk hf' a' w' hs'
      cases e with
      | goto => cases hk
      | normal => exact hK _ _ hi _ _ _ _ hk hf' _ _ hs'
      | exit => exact hK _ _ hi _ _ _ _ hk hf' _ _ hs'
      | ret => exact hK _ _ hi _ _ _ _ hk hf' _ _ hs'
      | panic => exact hK _ _ hi _ _ _ _ hk hf' _ _ hs'
      | outgrown => exact hK _ _ hi _ _ _ _ hk hf' _ _ hs'
    · cases e with
      | goto => exact hq.elim
      | normal => exact hq
      | exit => exact hq
      | ret => exact hq
      | panic => exact hq
      | outgrown => exact hq
  | loop x ih =>
    intro R st base D K Y inj r hi h hf Q hR hK a w hs
    simp only [exCode] at h
    split at h <;> try (cases h; done)
    rename_i L hL
    split at h <;> try (cases h; done)
    rename_i x0 hx0
    simp only [Prog.run] at h
    have hstart := cut_ok hbase hx0 (Frm.refl st _).toS hs
    refine wp_loop_ghost (fun n a w => ∃ x1 : L.sh.ty.den, iterO (fun x1 => (exCode C x (invSt L.sh.ann x1 st) Dirt.no (cutK (firstReg x) C.fix L.sh st (D.behind L.sh) K) (L.sh.ty.den ⊕ Y) (smap inj)).run) n x1 = some (inj r) ∧ SatF D0 φ0 ow0 w0 (invSt L.sh.ann x1 st) a w) (L.fuel x0) ⟨x0, h, hstart⟩ ?_
    rintro n a' w' ⟨x1, hx1, hs1⟩
    cases n with
    | zero => cases hx1
    | succ n =>
      have hQ := cutK_ok (Q := Q) (n := firstReg x) (fix := C.fix) (s0 := st) (sh := L.sh) (b0 := invSt L.sh.ann x1 st) hbase hR hK (fun st' D' h => h.of_start) (fun st' D' h => frm_no h (hf.behind x1))
      have body : ∀ rb : L.sh.ty.den ⊕ R, (exCode C x (invSt L.sh.ann x1 st) Dirt.no (cutK (firstReg x) C.fix L.sh st (D.behind L.sh) K) (L.sh.ty.den ⊕ Y) (smap inj)).run = some (smap inj rb) → x.wp C.P (cutQ D0 φ0 ow0 w0 (fun x => invSt L.sh.ann x st) Q rb) a' w' :=
        fun rb hz => ih (smap_inj hi) hz (Frm.refl _ _) (cutK_range hR) hQ hs1
      rcases iterO_cases hx1 with ⟨y, hy, hx1⟩ | hz
      · refine wp_mono (body (.inl y) hy) fun e a'' w'' hq => ?_
        cases e with
        | normal => exact ⟨n, Nat.lt_succ_self n, y, hx1, hq⟩
        | exit => exact hq.elim
        | goto => exact hq.elim
        | ret => exact hq.elim
        | panic => exact hq.elim
        | outgrown => exact hq.elim
      · refine wp_mono (body (.inr r) hz) fun e a'' w'' hq => ?_
        cases e with
        | normal => exact hq.elim
        | exit => exact hq
        | goto => exact hq
        | ret => exact hq
        | panic => exact hq
        | outgrown => exact hq
  | _ => intro R st base D K Y inj r hi h; cases h

end
end GoSx
end
section
/- Sx, part 22: what a function is told to do, and its summary. -/
set_option linter.unusedVariables false
set_option linter.unusedSimpArgs false
namespace GoSx
open Go

@[reducible] def objsTy : List (TypeId × APat) → Ty
  | [] => .unit
  | (_, p) :: r => .pair p.ty (objsTy r)
def objsSize : List (TypeId × APat) → Nat
  | [] => 0
  | (_, p) :: r => p.size + objsSize r

/-- args, and the objects that they lead to; what comes back: res, and objects that are new. -/
structure FSig where
  args : APat
  objs : List (TypeId × APat)
  res : APat
  news : List (TypeId × APat)

/-- What comes back, all of it. -/
@[reducible] def FSig.oty (S : FSig) : Ty := .pair S.res.ty (.pair (objsTy S.objs) (objsTy S.news))

def findN : List (Nat × Nat) → Nat → Option Nat
  | [], _ => Option.none
  | (x, y) :: r, n => bif Nat.beq x n then some y else findN r n

/-- The objects, one behind the other: chunk and cells of each. -/
def rdObjs : (l : List (TypeId × APat)) → (n c : Nat) → List (Nat × Nat) → ((objsTy l).den → It → List (Nat × AV) → Req) → Req
  | [], _, _, _, k => k () It.nil []
  | (e, p) :: r, n, c, on, k => match findN on n with
    | some id => .look id fun
      | .box e' cells => if e' = e then rdIn p c cells fun x it => rdObjs r (n + 1) (c + p.size) (on ++ it.objs) fun y it' og => k (x, y) (It.app it it') ((id, cells) :: og) else .fail
      | _ => .fail
    | Option.none => .fail

def ownIds (it : It) : List Nat := (it.own.map (·.2)).flatten

def sameObjs (k : Nat) (on : List (Nat × Nat)) : Bool := on.all fun p => Nat.blt p.1 k && match findN on p.1 with
  | some id => Nat.beq id p.2
  | Option.none => false

/-- Data without memory of its own. -/
def Ty.flat : Ty → Bool
  | .int _ => true
  | .bool => true
  | .str => true
  | .unit => true
  | .pair a b => a.flat && b.flat
  | _ => false
def Knd.flat : Knd → Bool
  | .mp _ V => V.flat
  | .ch => true
def APat.flat : APat → Bool
  | .nil => true
  | .val T r => T.flat && r.flat
  | .lend _ r => r.flat
  | .own _ T r => T.flat && r.flat
  | .own2 _ _ T r => T.flat && r.flat
  | .lendh _ r => r.flat
  | .own2h _ _ T _ r => T.flat && r.flat
  | .skip r => r.flat
  | .obj _ r => r.flat
  | .clo _ c r => c.flat && r.flat
  | .agg q r => q.flat && r.flat
  | .ownk k r => k.flat && r.flat
def allFlat : List (TypeId × APat) → Bool
  | [] => true
  | (_, p) :: r => p.flat && allFlat r

def FSig.flat (S : FSig) : Bool := S.res.flat && allFlat S.objs && allFlat S.news

/-- The objects' boxes, on the way back. -/
def backObjs (o : Nat) (ob : Nat → Nat) : (l : List (TypeId × APat)) → Nat → List (Nat × AV) → (objsTy l).den → Upd
  | (e, p) :: r, c, (id, g) :: og, x => (id, .box e (p.back o ob c g x.1)) :: (p.heapO o ob c x.1 ++ backObjs o ob r (c + p.size) og x.2)
  | _, _, _, _ => []
/-- Those that are new: with numbers from id on. -/
def backNews (o : Nat) (ob : Nat → Nat) : (l : List (TypeId × APat)) → Nat → Nat → (objsTy l).den → Upd
  | [], _, _, _ => []
  | (e, p) :: r, c, id, x => (id, .box e (p.back o ob c .bot x.1)) :: (p.heapO o ob c x.1 ++ backNews o ob r (c + p.size) (id + 1) x.2)

/-- What a call is worth: one value is itself, others are a tuple. -/
def resAV : AV → AV
  | .cons a .nil => a
  | .cons a b => .tup (.cons a b)
  | .nil => .tup .nil
  | _ => .bot

def obOf (og : List (Nat × AV)) (rows : List (Nat × Nat)) (k nx : Nat) : Nat → Nat := fun n => bif Nat.blt n 1000 then (bif Nat.blt n k then (og.map (·.1)).getD n 0 else nx + 48 + (n - k)) else (findN rows (n - 1000)).getD 0

def lentsObjs : List (TypeId × APat) → Nat → List Nat
  | [], _ => []
  | (_, p) :: r, c => p.lents c ++ lentsObjs r (c + p.size)
def refsObjs : List (TypeId × APat) → List Nat
  | [] => []
  | (_, p) :: r => p.refs ++ refsObjs r

/-- Where the numbers of the arguments, of the objects, and of the new ones, begin. -/
def FSig.c1 (S : FSig) : Nat := 16 + S.args.size
def FSig.c2 (S : FSig) : Nat := S.c1 + objsSize S.objs

/-- What is to come back as it was. -/
def skipsObjs : List (TypeId × APat) → Nat → List Nat
  | [], _ => []
  | (_, p) :: r, c => p.skips c ++ skipsObjs r (c + p.size)

def FSig.fits (S : FSig) : Bool := Nat.ble S.res.size 16 && Nat.ble (S.c2 + objsSize S.news) 48 && Nat.ble (S.objs.length + 1) 16 && Nat.ble S.news.length 16 && (S.res.skips 0).isEmpty && (skipsObjs S.news S.c2).isEmpty && S.res.refs.isEmpty && (refsObjs S.news).isEmpty

/-- A call: m tells what comes back. -/
def FSig.summ (S : FSig) (m : S.args.ty.den → (objsTy S.objs).den → Option S.oty.den) : Summ := fun av nx =>
  rdIn S.args 16 av fun xa ita => rdObjs S.objs 0 S.c1 ita.objs fun xo ito og =>
    let it := It.app ita ito
    let X := og.map (·.1) ++ ownIds it
    let ob := obOf og it.rows S.objs.length nx
    if nodupN X && (!(meetN X (it.lent ++ ids it.sls)) && (sameObjs S.objs.length it.objs && (S.fits && ((it.lent.isEmpty || S.flat) && (refsObjs S.objs).all fun k => (findN it.rows k).isSome)))) then
      .call (m xa xo) fun y => .out ⟨[], resAV (S.res.back nx ob 0 .bot y.1),
        S.res.heapO nx ob 0 y.1 ++ backObjs nx ob S.objs S.c1 og y.2.1 ++ backNews nx ob S.news S.c2 (nx + 48) y.2.2 ++ (ownIds it).map (fun j => (j, .none)) ++ it.sls⟩
    else .fail

/-! ### What is to be shown -/
def inObjs : (l : List (TypeId × APat)) → (n c : Nat) → (objsTy l).den → List (Nat × Chunk)
  | [], _, _, _ => []
  | (e, p) :: r, n, c, x => (n + 1, .box e (p.av true c x.1)) :: (p.heap c x.1 ++ inObjs r (n + 1) (c + p.size) x.2)

def FSig.init (S : FSig) (xa : S.args.ty.den) (xo : (objsTy S.objs).den) (n : Nat) : St where
  env := envOf (S.args.av false 16 xa)
  heap := fun id => lookCh (S.args.heap 16 xa ++ inObjs S.objs 0 S.c1 xo) id .none
  next := 64
  n := n

def retTmps (P : Program) (env : Nat → AV) (heap : Nat → Chunk) : List ResultVar → Option AV
  | [] => some .nil
  | .tmp t :: r => (retTmps P env heap r).map fun l => .cons (env t) l
  | .cell a t :: r => match env a with
    | .ref id 0 => match (reqLoad P t (.ref id 0)).run heap with
      | some o => (retTmps P env heap r).map fun l => .cons o.res l
      | Option.none => Option.none
    | _ => Option.none

/-- The objects, at the end. -/
def outObjs : (l : List (TypeId × APat)) → (ids : List Nat) → (c : Nat) → ((objsTy l).den → It → Req) → Req
  | [], _, _, k => k () It.nil
  | (e, p) :: r, id :: is, c, k => .look id fun
    | .box e' cells => if e' = e then rdOut p c cells fun x it => outObjs r is (c + p.size) fun y it' => k (x, y) (It.app it it') else .fail
    | _ => .fail
  | _, _, _, _ => .fail

def upTo : Nat → Nat → List Nat
  | 0, _ => []
  | n + 1, k => k :: upTo n (k + 1)
def newIds (on : List (Nat × Nat)) : Nat → Nat → Option (List Nat)
  | 0, _ => some []
  | m + 1, n => match findN on n with
    | some id => (newIds on m (n + 1)).map (id :: ·)
    | Option.none => Option.none

/-- Objects that were there keep their chunks; new ones have those that the results tell. -/
def objsOk (k : Nat) (new : List Nat) (on : List (Nat × Nat)) : Bool := on.all fun p => bif Nat.blt p.1 k then Nat.beq p.2 (p.1 + 1) else match new[p.1 - k]? with
  | some id => Nat.beq id p.2
  | Option.none => false

/-- Pointers to objects among cells. -/
def objRefs : APat → AV → List (Nat × Nat)
  | .obj n r, .cons (.ref id 0) b => (n, id) :: objRefs r b
  | .obj _ r, .cons _ b => objRefs r b
  | .val _ r, .cons _ b => objRefs r b
  | .lend _ r, .cons _ b => objRefs r b
  | .own _ _ r, .cons _ b => objRefs r b
  | .own2 _ _ _ r, .cons _ b => objRefs r b
  | .lendh _ r, .cons _ b => objRefs r b
  | .own2h _ _ _ _ r, .cons _ b => objRefs r b
  | .skip r, .cons _ b => objRefs r b
  | .clo _ _ r, .cons _ b => objRefs r b
  | .agg _ r, .cons _ b => objRefs r b
  | .ownk _ r, .cons _ b => objRefs r b
  | _, _ => []
/-- The chunks of objects that are new, one behind the other: each is told by what stands ahead of it. -/
def newsReq : (l : List (TypeId × APat)) → Nat → List (Nat × Nat) → (List Nat → Req) → Req
  | [], _, _, k => k []
  | (_, p) :: r, n, on, k => match findN on n with
    | some id => .look id fun
      | .box _ cells => newsReq r (n + 1) (on ++ objRefs p cells) fun l => k (id :: l)
      | _ => .fail
    | Option.none => .fail
theorem newsReq_path {hp : Nat → Chunk} {out : Out} : ∀ {l : List (TypeId × APat)} {n : Nat} {on : List (Nat × Nat)} {k : List Nat → Req}, (newsReq l n on k).run hp = some out → ∃ new, new.length = l.length ∧ (k new).run hp = some out
  | [], _, _, _, h => ⟨[], rfl, h⟩
  | (_, p) :: r, n, on, k, h => by
    simp only [newsReq] at h
    split at h <;> try (simp [Req.run] at h; done)
    simp only [Req.run] at h
    split at h <;> try (simp [Req.run] at h; done)
    obtain ⟨new, h1, h2⟩ := newsReq_path h
    exact ⟨_, by simp [h1], h2⟩

def FSig.postReq (S : FSig) (l : AV) : Req :=
  rdOut S.res 0 l fun yr itr => newsReq S.news S.objs.length itr.objs fun new => outObjs S.objs (upTo S.objs.length 1) S.c1 fun yo ito => outObjs S.news new S.c2 fun yn itn =>
      let it := It.app itr (It.app ito itn)
      let X := upTo S.objs.length 1 ++ new ++ ownIds it
      if nodupN X && (!(memN 0 X || memN 0 (ids it.sls)) && (!(meetN X (ids it.sls)) && objsOk S.objs.length new it.objs)) then
        .out ⟨[], .dat S.oty (yr, yo, yn), []⟩
      else .fail

def FSig.kont (S : FSig) (P : Program) (fn : Func) : Kont S.oty.den := fun Y inj e st _ =>
  match e with
  | .normal | .ret => match retTmps P st.env st.heap fn.results.toList with
    | some l => exReq st.heap (S.postReq l) fun o _ => match datD S.oty o.res with
      | some y => .ret (inj y)
      | Option.none => .fail 20
    | Option.none => .fail 21
  | _ => .fail 22

/-- What keeps its handle: the objects' boxes, and what is to come back as it was. -/
def FSig.fix (S : FSig) : List Nat := upTo S.objs.length 1 ++ (skipsObjs S.objs S.c1 ++ (S.args.lents 16 ++ lentsObjs S.objs S.c1))

/-- A function's program. -/
def FSig.prog (S : FSig) (C : XCfg) (fn : Func) (xa : S.args.ty.den) (xo : (objsTy S.objs).den) : Prog S.oty.den :=
  match fn.body with
  | some c => exCode { C with fix := S.fix } c (S.init xa xo fn.ntmps) Dirt.no (S.kont C.P fn) S.oty.den fun y => y
  | Option.none => .fail 23

end GoSx
end
section
/- Sx, part 23: objects, on the way in and out. -/
set_option linter.unusedVariables false
set_option linter.unusedSimpArgs false
namespace GoSx
open Go

section
variable {φ : Hnd} {ow : Own} {w : World} {hp : Nat → Chunk} {nx : Nat}

theorem findN_mem : ∀ {l : List (Nat × Nat)} {n id : Nat}, findN l n = some id → (n, id) ∈ l
  | (x, y) :: r, n, id, h => by
    unfold findN at h
    cases hx : Nat.beq x n with
    | false => rw [hx] at h; exact List.mem_cons_of_mem _ (findN_mem h)
    | true =>
      rw [hx] at h
      injection h with h
      rw [Nat.eq_of_beq_eq_true hx, h]
      simp

/-- The objects' chunks are boxes; number n of them is chunk og[n]. -/
def boxesH (hp : Nat → Chunk) : List (TypeId × APat) → List (Nat × AV) → Prop
  | [], og => og = []
  | (e, _) :: r, og => ∃ id cells og', og = (id, cells) :: og' ∧ hp id = .box e cells ∧ boxesH hp r og'

/-- What was left alone in the objects. -/
def backsH (φ : Hnd) (ow : Own) (w : World) (vs : Nat → Value) : List (TypeId × APat) → Nat → List (Nat × AV) → Prop
  | [], _, _ => True
  | (_, p) :: r, c, og => backH φ ow w vs p c (og.headD (0, .bot)).2 ∧ backsH φ ow w vs r (c + p.size) og.tail

theorem backsH_keep {φ' : Hnd} {ow' : Own} {w' : World} {vs : Nat → Value} (hp : PhiLe φ φ') (hk : Keep ow w ow' w') : ∀ (l : List (TypeId × APat)) (c : Nat) (og : List (Nat × AV)), backsH φ ow w vs l c og → backsH φ' ow' w' vs l c og
  | [], _, _, _ => trivial
  | (_, p) :: r, c, og, h => ⟨backH_keep hp hk p c _ h.1, backsH_keep hp hk r _ _ h.2⟩

structure ObjsOK (hp : Nat → Chunk) (φ : Hnd) (ow : Own) (w : World) (l : List (TypeId × APat)) (n c : Nat) (on : List (Nat × Nat)) (x : (objsTy l).den) (it : It) (og : List (Nat × AV)) (hv : Nat → Option Value) : Prop where
  sld : SldOK φ (sealOw (ids it.sls) ow) w it.sls
  own : ∀ t d, (t, d) ∈ it.own → c ≤ t ∧ t < c + objsSize l ∧ ∃ v, hv t = some v
  hvlt : ∀ t v, hv t = some v → c ≤ t ∧ t < c + objsSize l
  sk : ∀ t ∈ skipsObjs l c, ∃ v, hv t = some v
  len : og.length = l.length
  find : ∀ k id cells, og[k]? = some (id, cells) → (n + k, id) ∈ on ++ it.objs
  box : boxesH hp l og
  orig : ∀ vs : Nat → Value, (∀ t v, hv t = some v → vs t = v) → backsH φ ow w vs l c og
  lh : ∀ t id, (t, id) ∈ it.rows → t ∈ lentsObjs l c ∧ ∃ v, hv t = some v ∧ φ id = some v
  tgt : ∀ (φ' : Hnd) (ow' : Own), (∀ t v, hv t = some v → φ' t = some v) → Keep (sealOw (it.lent ++ ids it.sls) ow) w ow' w → (∀ t d, (t, d) ∈ it.own → ∀ g i, i ∈ d → ow g = some i → ow' g = some t) →
    (∀ m id, (m, id) ∈ it.objs → φ' (m + 1) = φ id) → (∀ k id cells, og[k]? = some (id, cells) → φ' (n + k + 1) = φ id ∧ ∀ g, ow g = some id → ow' g = some (n + k + 1)) → ∀ j ch, (j, ch) ∈ inObjs l n c x → cH φ' ow' w j ch

theorem rdObjs_ok (H : Hyp hp nx φ ow w) {out : Out} : ∀ (l : List (TypeId × APat)) (n c : Nat) (on : List (Nat × Nat)) (k : (objsTy l).den → It → List (Nat × AV) → Req), (rdObjs l n c on k).run hp = some out →
    ∃ x it og hv, (k x it og).run hp = some out ∧ ObjsOK hp φ ow w l n c on x it og hv
  | [], n, c, on, k, hr =>
    ⟨(), It.nil, [], fun _ => none, hr, fun p hp => (by cases hp), fun t d h => (by cases h), fun t v h => (by cases h), fun t h => (by cases h), rfl, fun k id cells h => (by simp at h), rfl, fun _ _ => trivial, fun t id h => (by cases h), fun φ' ow' _ _ _ _ _ j ch h => (by cases h)⟩
  | (e, p) :: r, n, c, on, k, hr => by
    simp only [rdObjs] at hr
    split at hr <;> try (simp [Req.run] at hr; done)
    rename_i id hid
    simp only [Req.run] at hr
    have hch := H.chunk id
    split at hr <;> try (simp [Req.run] at hr; done)
    rename_i e' cells hc
    rw [hc] at hch
    split at hr <;> try (simp [Req.run] at hr; done)
    rename_i he
    subst he
    obtain ⟨g, cs, hφ, hog, hg, hcells⟩ := hch
    obtain ⟨x, it, hv, hr1, k1, k2, k3, ks, k4, kl, k5⟩ := rdIn_ok H (box := true) p c cells _ cs.toList hr hcells
    obtain ⟨y, it', og, hv', hr2, m1, m2, m3, ms, ml, mf, mb, m4, mh, m5⟩ := rdObjs_ok H r (n + 1) (c + p.size) (on ++ it.objs) _ hr1
    refine ⟨(x, y), It.app it it', (id, cells) :: og, fun t => if t < c + p.size then hv t else hv' t, hr2, SldOK.app k1 m1, fun t d h => ?_, fun t v h => ?_, fun t ht => ?_, by simp [ml], fun q id' cells' h => ?_, ⟨id, cells, og, rfl, hc, mb⟩, fun vs hvs => ⟨k4 vs fun t v h => ?_, m4 vs fun t v h => ?_⟩, fun t id h => ?_, fun φ' ow' g1 g2 g3 g4 g5 => ?_⟩
    · simp only [It.app, List.mem_append] at h
      simp only [objsSize]
      rcases h with h | h
      · have := k2 t d h
        rw [if_pos (by omega)]
        exact ⟨by omega, by omega, this.2.2⟩
      · have := m2 t d h
        rw [if_neg (by omega)]
        exact ⟨by omega, by omega, this.2.2⟩
    · simp only [objsSize]
      by_cases e : t < c + p.size
      · rw [if_pos e] at h
        have := k3 t v h
        omega
      · rw [if_neg e] at h
        have := m3 t v h
        omega
    · simp only [skipsObjs, List.mem_append] at ht
      rcases ht with ht | ht
      · obtain ⟨v, hv1⟩ := ks rfl t ht
        have := k3 t v hv1
        exact ⟨v, by rw [if_pos (by omega)]; exact hv1⟩
      · obtain ⟨v, hv1⟩ := ms t ht
        have := m3 t v hv1
        exact ⟨v, by rw [if_neg (by omega)]; exact hv1⟩
    · cases q with
      | zero =>
        simp only [List.getElem?_cons_zero, Option.some.injEq, Prod.mk.injEq] at h
        obtain ⟨rfl, rfl⟩ := h
        exact List.mem_append_left _ (findN_mem hid)
      | succ q =>
        have := mf q id' cells' (by simpa using h)
        rw [show n + (q + 1) = n + 1 + q from by omega]
        simp only [It.app, List.mem_append] at this ⊢
        rcases this with (h | h) | h
        · exact .inl h
        · exact .inr (.inl h)
        · exact .inr (.inr h)
    · have := k3 t v h
      exact hvs t v (by rw [if_pos (by omega)]; exact h)
    · have := m3 t v h
      exact hvs t v (by rw [if_neg (by omega)]; exact h)
    · simp only [It.app, List.mem_append] at h
      simp only [lentsObjs, List.mem_append]
      rcases h with h | h
      · obtain ⟨b0, v', b1, b2⟩ := kl t id h
        have := k3 t v' b1
        exact ⟨.inl b0, v', by rw [if_pos (by omega)]; exact b1, b2⟩
      · obtain ⟨b0, v', b1, b2⟩ := mh t id h
        have := m3 t v' b1
        exact ⟨.inr b0, v', by rw [if_neg (by omega)]; exact b1, b2⟩
    · obtain ⟨q1, q2⟩ := k5 φ' ow' (fun t v h => by have := k3 t v h; exact g1 t v (by rw [if_pos (by omega)]; exact h)) (keep_of_seal g2 (by simp [It.app, ids_app]; intro i hi; rcases hi with hi | hi <;> simp [hi]))
        (fun t d h => g3 t d (by simp [It.app, h])) (fun n id h => g4 n id (by simp [It.app, h]))
      have q4 := m5 φ' ow' (fun t v h => by have := m3 t v h; exact g1 t v (by rw [if_neg (by omega)]; exact h)) (keep_of_seal g2 (by simp [It.app, ids_app]; intro i hi; rcases hi with hi | hi <;> simp [hi]))
        (fun t d h => g3 t d (by simp [It.app, h])) (fun n id h => g4 n id (by simp [It.app, h])) (fun q id' cells' h => by
          have := g5 (q + 1) id' cells' (by simpa using h)
          rw [show n + 1 + q + 1 = n + (q + 1) + 1 from by omega]
          exact this)
      intro j ch h
      simp only [inObjs, List.mem_cons, List.mem_append] at h
      rcases h with h | h | h
      · injection h with e1 e2
        subst e1; subst e2
        obtain ⟨p1, p2⟩ := g5 0 id cells rfl
        exact ⟨g, cs, by rw [Nat.add_zero] at p1; rw [p1]; exact hφ, p2 g hog, hg, q1⟩
      · exact q2 j ch h
      · exact q4 j ch h

/-! ### At the end -/
def tysObjs : List (TypeId × APat) → List Ty
  | [] => []
  | (_, p) :: r => p.tys ++ tysObjs r

/-- The objects' chunks at the end, and their cells. -/
structure EndOK (hp : Nat → Chunk) (φ : Hnd) (ow : Own) (w : World) (l : List (TypeId × APat)) (is : List Nat) (c : Nat) (x : (objsTy l).den) (it : It) (hv : Nat → Option Value) : Prop where
  sld : SldOK φ (sealOw (ids it.sls) ow) w it.sls
  own : ∀ t d, (t, d) ∈ it.own → c ≤ t ∧ t < c + objsSize l ∧ ∃ v, hv t = some v
  len : l.length ≤ is.length
  tgt : ∀ (vs : Nat → Value) (o : Nat) (ob : Nat → Nat) (φ' : Hnd) (ow' : Own), (∀ t ∈ skipsObjs l c, ∀ v, φ t = some v → v = vs t) → (∀ T ∈ tysObjs l, ∀ cs x, Ty.rep (sealOw (ids it.sls) ow) w T cs x → Ty.rep ow' w T cs x) → (∀ t d, (t, d) ∈ it.own → φ' (o + t) = hv t ∧ ∀ b i, i ∈ d → ow b = some i → ow' b = some (o + t)) →
    (∀ n id, (n, id) ∈ it.objs → φ' (ob n) = φ id) → (∀ k ∈ refsObjs l, ∀ h, φ k = some h → φ' (ob (1000 + k)) = some h) →
    (∀ (og : List (Nat × AV)), og.length = l.length → backsH φ' ow' w vs l c og → (∀ (k : Nat) (id' : Nat) (cells : AV) (id : Nat), og[k]? = some (id', cells) → is[k]? = some id → φ' id' = φ id ∧ ∀ b, ow b = some id → ow' b = some id') → ∀ q ∈ backObjs o ob l c og x, cH φ' ow' w q.1 q.2) ∧
    (∀ (m : Nat), backsH φ' ow' w vs l c (l.map fun _ => (0, .bot)) → (∀ (k : Nat) (id : Nat), k < l.length → is[k]? = some id → φ' (m + k) = φ id ∧ ∀ b, ow b = some id → ow' b = some (m + k)) → ∀ q ∈ backNews o ob l c m x, cH φ' ow' w q.1 q.2)

theorem outObjs_ok (H : Hyp hp nx φ ow w) {out : Out} : ∀ (l : List (TypeId × APat)) (is : List Nat) (c : Nat) (k : (objsTy l).den → It → Req), (outObjs l is c k).run hp = some out →
    ∃ x it hv, (k x it).run hp = some out ∧ EndOK hp φ ow w l is c x it hv
  | [], is, c, k, hr =>
    ⟨(), It.nil, fun _ => none, (by cases is <;> exact hr), fun p hp => (by cases hp), fun t d h => (by cases h), Nat.zero_le _, fun vs o ob φ' ow' _ _ _ _ _ => ⟨fun og _ _ _ q hq => (by cases og <;> cases hq), fun m _ _ q hq => (by cases hq)⟩⟩
  | (e, p) :: r, [], c, k, hr => by simp [outObjs, Req.run] at hr
  | (e, p) :: r, i :: is, c, k, hr => by
    simp only [outObjs, Req.run] at hr
    have hch := H.chunk i
    split at hr <;> try (simp [Req.run] at hr; done)
    rename_i e' cells hc
    rw [hc] at hch
    split at hr <;> try (simp [Req.run] at hr; done)
    rename_i he
    subst he
    obtain ⟨g, cs, hφ, hog, hg, hcells⟩ := hch
    obtain ⟨x, it, hv, hr1, k1, k2, k5⟩ := rdOut_ok H p c cells _ cs.toList hr hcells
    obtain ⟨y, it', hv', hr2, m1, m2, ml, m5⟩ := outObjs_ok H r is (c + p.size) _ hr1
    refine ⟨(x, y), It.app it it', fun t => if t < c + p.size then hv t else hv' t, hr2, SldOK.app k1 m1, fun t d h => ?_, by simp only [List.length_cons]; omega, fun vs o ob φ' ow' g1 g2 g3 g4 gr => ?_⟩
    · simp only [It.app, List.mem_append] at h
      simp only [objsSize]
      rcases h with h | h
      · have := k2 t d h
        rw [if_pos (by omega)]
        exact ⟨by omega, by omega, this.2.2⟩
      · have := m2 t d h
        rw [if_neg (by omega)]
        exact ⟨by omega, by omega, this.2.2⟩
    · have A := m5 vs o ob φ' ow' (fun t ht => g1 t (List.mem_append_right _ ht)) (fun T hT cs x h => g2 T (List.mem_append_right _ hT) cs x (rep_mono (by simp [It.app, ids_app]; intro i hi; simp [hi]) h)) (fun t d h => by
          have h3 := g3 t d (by simp [It.app, h])
          have h4 := (m2 t d h).1
          rw [if_neg (by omega)] at h3
          exact h3) (fun n id h => g4 n id (by simp [It.app, h])) (fun k hk => gr k (List.mem_append_right _ hk))
      have B := fun gg => k5 vs o ob gg φ' ow' (fun t ht => g1 t (List.mem_append_left _ ht)) (fun T hT cs x h => g2 T (List.mem_append_left _ hT) cs x (rep_mono (by simp [It.app, ids_app]; intro i hi; simp [hi]) h)) (fun t d h => by
          have h3 := g3 t d (by simp [It.app, h])
          have h4 := (k2 t d h).2.1
          rw [if_pos (by omega)] at h3
          exact h3) (fun n id h => g4 n id (by simp [It.app, h])) (fun k hk => gr k (List.mem_append_left _ hk))
      refine ⟨fun og hol hb hbox q hq => ?_, fun m hb hbox q hq => ?_⟩
      · cases og with
        | nil => simp at hol
        | cons og0 og =>
          obtain ⟨id', gg⟩ := og0
          obtain ⟨q1, q2⟩ := B gg hb.1
          simp only [backObjs, List.mem_cons, List.mem_append] at hq
          rcases hq with rfl | hq | hq
          · obtain ⟨p1, p2⟩ := hbox 0 id' gg i rfl rfl
            exact ⟨g, cs, by rw [p1]; exact hφ, p2 g hog, hg, q1⟩
          · exact q2 q.1 q.2 hq
          · exact A.1 og (by simpa using hol) hb.2 (fun k id2 cells2 id3 h1 h2 => hbox (k + 1) id2 cells2 id3 (by simpa using h1) (by simpa using h2)) q hq
      · obtain ⟨q1, q2⟩ := B .bot hb.1
        simp only [backNews, List.mem_cons, List.mem_append] at hq
        rcases hq with rfl | hq | hq
        · obtain ⟨p1, p2⟩ := hbox 0 i (by simp) rfl
          exact ⟨g, cs, by rw [Nat.add_zero] at p1; rw [p1]; exact hφ, p2 g hog, hg, q1⟩
        · exact q2 q.1 q.2 hq
        · exact A.2 (m + 1) hb.2 (fun k id hk h => by
            have := hbox (k + 1) id (by simp; omega) (by simpa using h)
            rw [show m + 1 + k = m + (k + 1) from by omega]
            exact this) q hq

end
end GoSx
end
section
/- Sx, part 24: a function whose condition holds does what its summary says: the way in. -/
set_option linter.unusedVariables false
set_option linter.unusedSimpArgs false
namespace GoSx
open Go

/-- Which place i has, counted from k on. -/
def posOf : List Nat → Nat → Nat → Option Nat
  | [], _, _ => Option.none
  | x :: r, i, k => if x = i then some k else posOf r i (k + 1)
theorem posOf_none : ∀ {l : List Nat} {i k : Nat}, i ∉ l → posOf l i k = Option.none
  | [], _, _, _ => rfl
  | x :: r, i, k, h => by
    simp only [List.mem_cons, not_or] at h
    unfold posOf
    rw [if_neg (Ne.symm h.1)]
    exact posOf_none h.2
theorem posOf_at : ∀ {l : List Nat} {i k m : Nat}, l.Nodup → l[m]? = some i → posOf l i k = some (k + m)
  | [], _, _, _, _, h => by simp at h
  | x :: r, i, k, 0, _, h => by
    simp only [List.getElem?_cons_zero, Option.some.injEq] at h
    unfold posOf
    rw [if_pos h, Nat.add_zero]
  | x :: r, i, k, m + 1, hn, h => by
    rw [List.nodup_cons] at hn
    have h' : r[m]? = some i := by simpa using h
    unfold posOf
    rw [if_neg (by intro e; subst e; exact hn.1 (List.mem_of_getElem? h')), posOf_at hn.2 h']
    congr 1
    omega
theorem posOf_some : ∀ {l : List Nat} {i k q : Nat}, posOf l i k = some q → k ≤ q ∧ l[q - k]? = some i
  | [], _, _, _, h => by cases h
  | x :: r, i, k, q, h => by
    unfold posOf at h
    split at h
    · rename_i e
      injection h with h
      subst h; subst e
      exact ⟨Nat.le_refl _, by simp⟩
    · obtain ⟨h1, h2⟩ := posOf_some h
      refine ⟨by omega, ?_⟩
      rw [show q - k = (q - (k + 1)) + 1 from by omega]
      simpa using h2

/-- Into which number chunk i goes. -/
def ownNo : List (Nat × List Nat) → Nat → Option Nat
  | [], _ => Option.none
  | (t, d) :: r, i => if i ∈ d then some t else ownNo r i
theorem ownNo_none : ∀ {l : List (Nat × List Nat)} {i : Nat}, i ∉ (l.map (·.2)).flatten → ownNo l i = Option.none
  | [], _, _ => rfl
  | (t, d) :: r, i, h => by
    simp only [List.map_cons, List.flatten_cons, List.mem_append, not_or] at h
    unfold ownNo
    rw [if_neg h.1]
    exact ownNo_none h.2
theorem ownNo_at : ∀ {l : List (Nat × List Nat)} {t i : Nat} {d : List Nat}, (l.map (·.2)).flatten.Nodup → (t, d) ∈ l → i ∈ d → ownNo l i = some t
  | (t', d') :: r, t, i, d, hn, h, hi => by
    simp only [List.map_cons, List.flatten_cons, List.nodup_append] at hn
    obtain ⟨_, hn2, hn3⟩ := hn
    unfold ownNo
    rcases List.mem_cons.1 h with h | h
    · injection h with e1 e2
      subst e1; subst e2
      rw [if_pos hi]
    · rw [if_neg]
      · exact ownNo_at hn2 h hi
      · intro h2
        exact hn3 i h2 i (List.mem_flatten.2 ⟨d, List.mem_map.2 ⟨(t, d), h, rfl⟩, hi⟩) rfl
theorem ownNo_some : ∀ {l : List (Nat × List Nat)} {i t : Nat}, ownNo l i = some t → ∃ d, (t, d) ∈ l ∧ i ∈ d
  | (t', d') :: r, i, t, h => by
    unfold ownNo at h
    split at h
    · rename_i hi
      injection h with h
      subst h
      exact ⟨d', by simp, hi⟩
    · obtain ⟨d, h1, h2⟩ := ownNo_some h
      exact ⟨d, List.mem_cons_of_mem _ h1, h2⟩

/-- How many values. -/
def APat.count : APat → Nat
  | .nil => 0
  | .val _ r => r.count + 1
  | .lend _ r => r.count + 1
  | .own _ _ r => r.count + 1
  | .own2 _ _ _ r => r.count + 1
  | .lendh _ r => r.count + 1
  | .own2h _ _ _ _ r => r.count + 1
  | .skip r => r.count + 1
  | .obj _ r => r.count + 1
  | .clo _ _ r => r.count + 1
  | .agg _ r => r.count + 1
  | .ownk _ r => r.count + 1
theorem av_len {φ : Hnd} {ow : Own} {w : World} {box : Bool} : ∀ {p : APat} {c : Nat} {x : p.ty.den} {vals : List Value}, (p.av box c x).holds φ ow w vals → vals.length = p.count
  | .nil, _, _, _, h => by rw [show _ = _ from h]; rfl
  | .val _ r, _, _, _, ⟨v, rs, e, _, h⟩ => by rw [e, List.length_cons, av_len h]; rfl
  | .lend _ r, _, _, _, ⟨v, rs, e, _, h⟩ => by rw [e, List.length_cons, av_len h]; rfl
  | .own _ _ r, _, _, _, ⟨v, rs, e, _, h⟩ => by rw [e, List.length_cons, av_len h]; rfl
  | .own2 _ _ _ r, _, _, _, ⟨v, rs, e, _, h⟩ => by rw [e, List.length_cons, av_len h]; rfl
  | .lendh _ r, _, _, _, ⟨v, rs, e, _, h⟩ => by rw [e, List.length_cons, av_len h]; rfl
  | .own2h _ _ _ _ r, _, _, _, ⟨v, rs, e, _, h⟩ => by rw [e, List.length_cons, av_len h]; rfl
  | .skip r, _, _, _, ⟨v, rs, e, _, h⟩ => by rw [e, List.length_cons, av_len h]; rfl
  | .obj _ r, _, _, _, ⟨v, rs, e, _, h⟩ => by rw [e, List.length_cons, av_len h]; rfl
  | .clo _ _ r, _, _, _, ⟨v, rs, e, _, h⟩ => by rw [e, List.length_cons, av_len h]; rfl
  | .agg _ r, _, _, _, ⟨v, rs, e, _, h⟩ => by rw [e, List.length_cons, av_len h]; rfl
  | .ownk _ r, _, _, _, ⟨v, rs, e, _, h⟩ => by rw [e, List.length_cons, av_len h]; rfl

/-- The frame at the start. -/
theorem envOf_holds {φ : Hnd} {ow : Own} {w : World} : ∀ {l : AV} {vals : List Value} (t : Nat), l.holds φ ow w vals → (envOf l t).holds φ ow w [vals.getD t undef]
  | .cons a b, _, 0, ⟨v, r, e, h, _⟩ => by subst e; exact h
  | .cons a b, _, t + 1, ⟨v, r, e, _, h⟩ => by subst e; simpa [envOf] using envOf_holds t h
  | .bot, _, _, _ | .raw _, _, _, _ | .dat _ _, _, _, _ | .isNil _, _, _, _ | .arr _, _, _, _ | .vw _ _ _ _, _, _, _ | .ref _ _, _, _, _ | .elt _ _ _ _, _, _, _ | .spt _ _, _, _, _ | .fn _ _, _, _, _ | .mapv _, _, _, _ | .chv _, _, _, _ | .bfn _ _, _, _, _ | .opq _, _, _, _ | .idn _ _ _, _, _, _ | .nil, _, _, _ | .agg _, _, _, _ | .tup _, _, _, _ => by simp [envOf, AV.holds]

section
variable {φ : Hnd} {ow : Own} {w : World} {hp : Nat → Chunk} {nx : Nat}

/-- Whose memory is what, within the function. -/
def inOw (ow : Own) (og : List Nat) (own : List (Nat × List Nat)) (S : List Nat) : Own := fun c => match ow c with
  | Option.none => Option.none
  | some i => match posOf og i 1 with
    | some q => some q
    | Option.none => match ownNo own i with
      | some t => some t
      | Option.none => if i ∈ S then Option.none else some 0

/-- The state at the start. -/
theorem init_ok (H : Hyp hp nx φ ow w) {S : FSig} {xa : S.args.ty.den} {xo : (objsTy S.objs).den} {ita ito : It} {og : List (Nat × AV)} {hva hvo : Nat → Option Value} {av : AV} {vals : Array Value} {n : Nat}
    (hA : InOK φ ow w false S.args 16 av vals.toList xa ita hva) (hO : ObjsOK hp φ ow w S.objs 0 S.c1 ita.objs xo ito og hvo)
    (hX : (og.map (·.1) ++ ownIds (It.app ita ito)).Nodup) (hmeet : ∀ i ∈ og.map (·.1) ++ ownIds (It.app ita ito), i ∉ (It.app ita ito).lent ++ ids (It.app ita ito).sls)
    (hsame : sameObjs S.objs.length (It.app ita ito).objs = true) (hfits : S.fits = true) (hn : S.args.count ≤ n) :
    ∃ φi : Hnd, (∀ t, hva t ≠ none → φi t = hva t) ∧ (∀ t, hvo t ≠ none → φi t = hvo t) ∧ (∀ k id cells, og[k]? = some (id, cells) → φi (k + 1) = φ id) ∧
      SatF [] (fun id => if id ∈ S.fix then φi id else none) (inOw ow (og.map (·.1)) (It.app ita ito).own ((It.app ita ito).lent ++ ids (It.app ita ito).sls)) w (S.init xa xo n) { tmps := vals ++ Array.replicate (n - vals.size) undef, defers := [] } w := by
  obtain ⟨a1, a2, a3, a4, a5, al, a6⟩ := hA
  obtain ⟨o1, o2, o3, o4, o5, o6, o7, o8, ol, o9⟩ := hO
  simp only [FSig.fits, Bool.and_eq_true] at hfits
  obtain ⟨⟨⟨⟨⟨⟨⟨f1, f2⟩, f3⟩, f4⟩, _⟩, _⟩, _⟩, _⟩ := hfits
  have f1 := Nat.le_of_ble_eq_true f1
  have f2 := Nat.le_of_ble_eq_true f2
  have f3 := Nat.le_of_ble_eq_true f3
  have hc1 : S.c1 = 16 + S.args.size := rfl
  have hc2 : S.c2 = S.c1 + objsSize S.objs := rfl
  rw [List.nodup_append] at hX
  obtain ⟨x1, x2, x3⟩ := hX
  let φi : Hnd := fun t => if 1 ≤ t ∧ t ≤ S.objs.length then ((og[t - 1]?).bind fun p => φ p.1) else if t < S.c1 then hva t else hvo t
  have ha : ∀ t, hva t ≠ none → φi t = hva t := by
    intro t ht
    obtain ⟨v, hv⟩ := Option.ne_none_iff_exists'.1 ht
    have := a3 t v hv
    show (if 1 ≤ t ∧ t ≤ S.objs.length then ((og[t - 1]?).bind fun p => φ p.1) else if t < S.c1 then hva t else hvo t) = hva t
    rw [if_neg (by omega), if_pos (by omega)]
  have ho : ∀ t, hvo t ≠ none → φi t = hvo t := by
    intro t ht
    obtain ⟨v, hv⟩ := Option.ne_none_iff_exists'.1 ht
    have := o3 t v hv
    show (if 1 ≤ t ∧ t ≤ S.objs.length then ((og[t - 1]?).bind fun p => φ p.1) else if t < S.c1 then hva t else hvo t) = hvo t
    rw [if_neg (by omega), if_neg (by omega)]
  have hb : ∀ k id cells, og[k]? = some (id, cells) → φi (k + 1) = φ id := by
    intro k id cells h
    have hk : k < og.length := (List.getElem?_eq_some_iff.1 h).1
    show (if 1 ≤ k + 1 ∧ k + 1 ≤ S.objs.length then ((og[k + 1 - 1]?).bind fun p => φ p.1) else if k + 1 < S.c1 then hva (k + 1) else hvo (k + 1)) = φ id
    rw [if_pos (by omega), Nat.add_sub_cancel, h]
    rfl
  -- the owner
  have F1 : Keep (sealOw ((It.app ita ito).lent ++ ids (It.app ita ito).sls) ow) w (inOw ow (og.map (·.1)) (It.app ita ito).own ((It.app ita ito).lent ++ ids (It.app ita ito).sls)) w := by
    refine ⟨Nat.le_refl _, fun c _ hc => ⟨?_, rfl⟩⟩
    unfold inOw
    rcases seal_none.1 hc with h | ⟨i, hi, h⟩
    · rw [h]
    · rw [h]
      simp only
      have n1 : i ∉ og.map (·.1) := fun hm => hmeet i (List.mem_append_left _ hm) hi
      have n2 : i ∉ ownIds (It.app ita ito) := fun hm => hmeet i (List.mem_append_right _ hm) hi
      rw [posOf_none n1, ownNo_none n2]
      simp only
      rw [if_pos hi]
  have F2 : ∀ t d, (t, d) ∈ (It.app ita ito).own → ∀ g i, i ∈ d → ow g = some i → inOw ow (og.map (·.1)) (It.app ita ito).own ((It.app ita ito).lent ++ ids (It.app ita ito).sls) g = some t := by
    intro t d hm g i hi hg
    have hin : i ∈ ownIds (It.app ita ito) := List.mem_flatten.2 ⟨d, List.mem_map.2 ⟨(t, d), hm, rfl⟩, hi⟩
    unfold inOw
    rw [hg]
    simp only
    rw [posOf_none (fun h => x3 i h i hin rfl), ownNo_at x2 hm hi]
  have F3 : ∀ k id cells, og[k]? = some (id, cells) → ∀ g, ow g = some id → inOw ow (og.map (·.1)) (It.app ita ito).own ((It.app ita ito).lent ++ ids (It.app ita ito).sls) g = some (k + 1) := by
    intro k id cells h g hg
    unfold inOw
    rw [hg]
    simp only
    rw [posOf_at x1 (m := k) (by rw [List.getElem?_map, h]; rfl), Nat.add_comm]
  have F4 : ∀ m id, (m, id) ∈ (It.app ita ito).objs → φi (m + 1) = φ id := by
    intro m id hm
    simp only [sameObjs, List.all_eq_true, Bool.and_eq_true] at hsame
    obtain ⟨s1, s2⟩ := hsame _ hm
    have s1 : m < S.objs.length := Nat.le_of_ble_eq_true s1
    have hk : m < og.length := by omega
    have hf := o6 m og[m].1 og[m].2 (List.getElem?_eq_getElem hk)
    rw [Nat.zero_add] at hf
    obtain ⟨_, s4⟩ := hsame _ hf
    simp only at s2 s4
    cases hfn : findN (It.app ita ito).objs m with
    | none => rw [hfn] at s2; cases s2
    | some id' =>
      rw [hfn] at s2 s4
      have e1 := Nat.eq_of_beq_eq_true s2
      have e2 := Nat.eq_of_beq_eq_true s4
      rw [hb m og[m].1 og[m].2 (List.getElem?_eq_getElem hk), ← e2, e1]
  obtain ⟨A1, A2⟩ := a6 φi _ (fun t v h => by rw [ha t (by rw [h]; simp), h]) (keep_of_seal F1 (by simp [It.app, ids_app]; intro i hi; rcases hi with hi | hi <;> simp [hi])) (fun t d h => F2 t d (by simp [It.app, h])) (fun m id h => F4 m id (by simp [It.app, h]))
  have B := o9 φi _ (fun t v h => by rw [ho t (by rw [h]; simp), h]) (keep_of_seal F1 (by simp [It.app, ids_app]; intro i hi; rcases hi with hi | hi <;> simp [hi])) (fun t d h => F2 t d (by simp [It.app, h])) (fun m id h => F4 m id (by simp [It.app, h]))
    (fun k id cells h => by rw [Nat.zero_add]; exact ⟨hb k id cells h, F3 k id cells h⟩)
  have hlen : vals.size = S.args.count := by rw [← Array.length_toList]; exact av_len A1
  refine ⟨φi, ha, ho, hb, φi, inOw ow (og.map (·.1)) (It.app ita ito).own ((It.app ita ito).lent ++ ids (It.app ita ito).sls), ?_, rfl, ?_, ?_, ?_, ?_, ?_, ?_⟩
  · show (vals ++ Array.replicate (n - vals.size) undef).size = n
    simp
    omega
  · intro t
    have := envOf_holds t A1
    have e : (vals ++ Array.replicate (n - vals.size) undef).getD t undef = vals.toList.getD t undef := by
      simp only [Array.getD_eq_getD_getElem?, List.getD_eq_getElem?_getD, Array.getElem?_toList]
      rcases Nat.lt_or_ge t vals.size with h | h
      · rw [Array.getElem?_append_left h]
      · rw [Array.getElem?_append_right h, Array.getElem?_eq_none h, Array.getElem?_replicate]
        split <;> rfl
    show (envOf (S.args.av false 16 xa) t).holds φi _ w [(vals ++ Array.replicate (n - vals.size) undef).getD t undef]
    rw [e]
    exact this
  · intro id
    show cH φi _ w id (lookCh _ id .none)
    rcases lookCh_spec (S.args.heap 16 xa ++ inObjs S.objs 0 S.c1 xo) id .none with ⟨ch, h1, h2⟩ | h1
    · rw [h2]
      rcases List.mem_append.1 h1 with h1 | h1
      · exact A2 id ch h1
      · exact B id ch h1
    · rw [h1]; trivial
  · intro id hid
    change 64 ≤ id at hid
    show (if 1 ≤ id ∧ id ≤ S.objs.length then ((og[id - 1]?).bind fun p => φ p.1) else if id < S.c1 then hva id else hvo id) = none
    rw [if_neg (by omega), if_neg (by omega)]
    cases h : hvo id with
    | none => rfl
    | some v => have := o3 id v h; omega
  · intro c id hc
    show c < w.heap.size ∧ id < 64
    unfold inOw at hc
    cases hoc : ow c with
    | none => rw [hoc] at hc; cases hc
    | some i =>
      refine ⟨(H.own c i hoc).1, ?_⟩
      rw [hoc] at hc
      simp only at hc
      cases hp1 : posOf (og.map (·.1)) i 1 with
      | some q =>
        rw [hp1] at hc
        injection hc with hc
        subst hc
        obtain ⟨_, h2⟩ := posOf_some hp1
        have := (List.getElem?_eq_some_iff.1 h2).1
        simp only [List.length_map] at this
        omega
      | none =>
        rw [hp1] at hc
        simp only at hc
        cases hp2 : ownNo (It.app ita ito).own i with
        | some t =>
          rw [hp2] at hc
          injection hc with hc
          subst hc
          obtain ⟨d, h1, _⟩ := ownNo_some hp2
          simp only [It.app, List.mem_append] at h1
          rcases h1 with h1 | h1
          · have := a2 t d h1; omega
          · have := o2 t d h1; omega
        | none =>
          rw [hp2] at hc
          simp only at hc
          split at hc
          · cases hc
          · injection hc with hc; omega
  · show 0 < 64
    omega
  · refine ⟨Nat.le_refl _, rfl, rfl, rfl, fun b _ _ => ⟨rfl, rfl⟩, fun b hb => ⟨?_, hb⟩, fun id v h => ?_⟩
    · unfold inOw at hb
      cases hoc : ow b with
      | none => rw [hoc] at hb; cases hb
      | some i => exact (H.own b i hoc).1
    · split at h
      · exact h
      · cases h

end
end GoSx
end
section
/- Sx, part 25: what comes back. -/
set_option linter.unusedVariables false
set_option linter.unusedSimpArgs false
namespace GoSx
open Go

section
variable {φ : Hnd} {ow : Own} {w : World} {P : Program}

theorem nil_of_holds {b : AV} (h : b.holds φ ow w []) : b = .nil := by
  cases b
  case nil => rfl
  case cons => obtain ⟨v, r, e, _⟩ := h; cases e
  all_goals
    have := AV.holds_length h rfl
    cases this

theorem resAV_holds {l : AV} {vals : List Value} (h : l.holds φ ow w vals) : (resAV l).holds φ ow w [if h : vals.toArray.size = 1 then vals.toArray[0] else .tuple vals.toArray] := by
  cases l
  case nil =>
    have : vals = [] := h
    subst this
    exact ⟨#[], rfl, rfl⟩
  case cons a b =>
    obtain ⟨v, r, rfl, h1, h2⟩ := h
    cases r with
    | nil =>
      have := nil_of_holds h2
      subst this
      simpa [resAV] using h1
    | cons v2 r =>
      have hb : b ≠ .nil := by
        intro e
        subst e
        cases h2
      have : resAV (.cons a b) = .tup (.cons a b) := by
        cases b <;> first | rfl | exact absurd rfl hb
      rw [this, dif_neg (by simp)]
      exact ⟨_, rfl, by simp; exact ⟨v, _, rfl, h1, h2⟩⟩
  all_goals exact rfl

theorem results_run {env : Nat → AV} {hp : Nat → Chunk} {nx : Nat} (H : Hyp hp nx φ ow w) {tmps : Array Value} (henv : ∀ t, (env t).holds φ ow w [tmps.getD t undef]) : ∀ (rs : List ResultVar) (l : AV), retTmps P env hp rs = some l →
    ∃ vals : List Value, l.holds φ ow w vals ∧ (rs.mapM fun
      | .tmp t => pure (tmps.getD t undef)
      | .cell a t => do loadVar t (← asAddr (tmps.getD a undef)) : Sem (List Value)).run P w = .ok vals w
  | [], l, h => by
    simp only [retTmps, Option.some.injEq] at h
    subst h
    exact ⟨[], rfl, by simp⟩
  | .tmp t :: r, l, h => by
    simp only [retTmps, Option.map_eq_some_iff] at h
    obtain ⟨l', h1, rfl⟩ := h
    obtain ⟨vals, h2, h3⟩ := results_run H henv r l' h1
    exact ⟨_ :: vals, ⟨_, _, rfl, henv t, h2⟩, by simp only [List.mapM_cons, Sem.run_bind, Sem.run_pure, Result.andThen_ok, h3]⟩
  | .cell a t :: r, l, h => by
    simp only [retTmps] at h
    split at h <;> try (cases h; done)
    rename_i id e
    split at h <;> try (cases h; done)
    rename_i o ho
    simp only [Option.map_eq_some_iff] at h
    obtain ⟨l', h1, rfl⟩ := h
    obtain ⟨vals, h2, h3⟩ := results_run H henv r l' h1
    have ha := henv a
    rw [e] at ha
    obtain ⟨_, _, u, q1, q2⟩ := load_ok (P := P) H ho ha
    obtain ⟨g, _, m2⟩ := ha
    injection m2 with m2
    rw [m2] at q1
    have has : (asAddr (Value.pointer (some ⟨g, 0, none⟩))).run P w = .ok ⟨g, 0, none⟩ w := rfl
    have q1' : (loadVar t ⟨g, 0, none⟩).run P w = .ok u w := by simpa [Instr.loadAt, Instr.sureAddr] using q1
    exact ⟨u :: vals, ⟨_, _, rfl, q2, h2⟩, by simp only [List.mapM_cons, Sem.run_bind, Sem.run_pure, Result.andThen_ok, h3, m2, has, q1']⟩

theorem upTo_get : ∀ (n k m : Nat), (upTo n k)[m]? = if m < n then some (k + m) else none
  | 0, k, m => by simp [upTo]
  | n + 1, k, 0 => by simp [upTo]
  | n + 1, k, m + 1 => by
    simp only [upTo, List.getElem?_cons_succ, upTo_get n (k + 1) m]
    split <;> rename_i h
    · rw [if_pos (by omega)]; congr 1; omega
    · rw [if_neg (by omega)]
theorem upTo_len : ∀ (n k : Nat), (upTo n k).length = n
  | 0, _ => rfl
  | n + 1, k => by simp [upTo, upTo_len n]
theorem upTo_mem {n k i : Nat} : i ∈ upTo n k ↔ k ≤ i ∧ i < k + n := by
  rw [List.mem_iff_getElem?]
  constructor
  · rintro ⟨m, h⟩
    rw [upTo_get] at h
    split at h
    · injection h with h; omega
    · cases h
  · rintro ⟨h1, h2⟩
    refine ⟨i - k, ?_⟩
    rw [upTo_get, if_pos (by omega)]
    congr 1
    omega

theorem newIds_len {on : List (Nat × Nat)} : ∀ {m n : Nat} {l : List Nat}, newIds on m n = some l → l.length = m
  | 0, _, _, h => by simp only [newIds, Option.some.injEq] at h; subst h; rfl
  | m + 1, n, l, h => by
    simp only [newIds] at h
    split at h <;> try (cases h; done)
    simp only [Option.map_eq_some_iff] at h
    obtain ⟨l', h1, rfl⟩ := h
    simp [newIds_len h1]

theorem backObjs_ids {o : Nat} {ob : Nat → Nat} : ∀ (l : List (TypeId × APat)) (c : Nat) (og : List (Nat × AV)) (x : (objsTy l).den), og.length = l.length → ∀ i ∈ og.map (·.1), i ∈ ids (backObjs o ob l c og x)
  | [], _, og, _, h, i, hi => by
    cases og with
    | nil => cases hi
    | cons => simp at h
  | (e, p) :: r, c, [], x, h, i, hi => by cases hi
  | (e, p) :: r, c, (id, g) :: og, x, h, i, hi => by
    simp only [backObjs, ids, List.map_cons, List.mem_cons, List.map_append, List.mem_append]
    rcases List.mem_cons.1 hi with rfl | hi
    · exact .inl rfl
    · have := backObjs_ids (o := o) (ob := ob) r (c + p.size) og x.2 (by simpa using h) i hi
      exact .inr (.inr this)

/-- What rests on flat types hangs on no owner. -/
theorem flat_rep {ow' : Own} {w' : World} : ∀ {T : Ty} {cs : List Value} {x : T.den}, T.flat = true → T.rep ow w cs x → T.rep ow' w' cs x
  | .int _, _, _, _, h => h
  | .bool, _, _, _, h => h
  | .str, _, _, _, h => h
  | .unit, _, _, _, h => h
  | .pair a b, _, _, hf, ⟨c1, c2, e, h1, h2⟩ => by
    simp only [Ty.flat, Bool.and_eq_true] at hf
    exact ⟨c1, c2, e, flat_rep hf.1 h1, flat_rep hf.2 h2⟩
  | .sl _, _, _, hf, _ => by cases hf
  | .ptr _, _, _, hf, _ => by cases hf
  | .mapT _ _, _, _, hf, _ => by cases hf

theorem flat_tys : ∀ {p : APat}, p.flat = true → ∀ T ∈ p.tys, T.flat = true
  | .nil, _, T, hT => by cases hT
  | .val T0 r, h, T, hT => by
    simp only [APat.flat, Bool.and_eq_true] at h
    rcases List.mem_cons.1 hT with rfl | hT
    · exact h.1
    · exact flat_tys h.2 T hT
  | .lend T0 r, h, T, hT => flat_tys (p := r) h T hT
  | .own e T0 r, h, T, hT => by
    simp only [APat.flat, Bool.and_eq_true] at h
    rcases List.mem_cons.1 hT with rfl | hT
    · exact h.1
    · exact flat_tys h.2 T hT
  | .own2 e e' T0 r, h, T, hT => by
    simp only [APat.flat, Bool.and_eq_true] at h
    rcases List.mem_cons.1 hT with rfl | hT
    · exact h.1
    · exact flat_tys h.2 T hT
  | .lendh T0 r, h, T, hT => flat_tys (p := r) h T hT
  | .own2h e e' T0 k r, h, T, hT => by
    simp only [APat.flat, Bool.and_eq_true] at h
    rcases List.mem_cons.1 hT with rfl | hT
    · exact h.1
    · exact flat_tys h.2 T hT
  | .skip r, h, T, hT => flat_tys (p := r) h T hT
  | .obj n r, h, T, hT => flat_tys (p := r) h T hT
  | .clo _ q r, h, T, hT => by
    simp only [APat.flat, Bool.and_eq_true] at h
    rcases List.mem_append.1 hT with hT | hT
    · exact flat_tys h.1 T hT
    · exact flat_tys h.2 T hT
  | .agg q r, h, T, hT => by
    simp only [APat.flat, Bool.and_eq_true] at h
    rcases List.mem_append.1 hT with hT | hT
    · exact flat_tys h.1 T hT
    · exact flat_tys h.2 T hT
  | .ownk k r, h, T, hT => by
    simp only [APat.flat, Bool.and_eq_true] at h
    rcases List.mem_append.1 hT with hT | hT
    · cases k <;> simp [Knd.tys] at hT
      subst hT
      exact h.1
    · exact flat_tys h.2 T hT
theorem flat_tysObjs : ∀ {l : List (TypeId × APat)}, allFlat l = true → ∀ T ∈ tysObjs l, T.flat = true
  | [], _, T, hT => by cases hT
  | (e, p) :: r, h, T, hT => by
    simp only [allFlat, Bool.and_eq_true] at h
    rcases List.mem_append.1 hT with hT | hT
    · exact flat_tys h.1 T hT
    · exact flat_tysObjs h.2 T hT

end
end GoSx
end
section
/- Sx, part 26: a function whose condition holds does what its summary says. -/
set_option linter.unusedVariables false
set_option linter.unusedSimpArgs false
namespace GoSx
open Go

section
variable {φ : Hnd} {ow : Own} {w : World} {hp : Nat → Chunk} {nx : Nat}

theorem backsH_bot {vs : Nat → Value} : ∀ (l : List (TypeId × APat)) (c : Nat), backsH φ ow w vs l c (l.map fun _ => (0, .bot))
  | [], _ => trivial
  | (e, p) :: r, c => ⟨backH_bot p c, backsH_bot r (c + p.size)⟩

/-- Is a block left to whom it was? -/
def kept (ow : Own) (X : List Nat) (c : Nat) : Bool := match ow c with
  | Option.none => true
  | some i => !(memN i X)

def tgtNo (og new : List Nat) (own : List (Nat × List Nat)) (nx : Nat) (i : Nat) : Option Nat :=
  if 1 ≤ i ∧ i ≤ og.length then og[i - 1]? else match posOf new i 0 with
    | some q => some (nx + 48 + q)
    | Option.none => (ownNo own i).map fun t => nx + t

def outOw (ow owE : Own) (n : Nat) (X og new : List Nat) (own : List (Nat × List Nat)) (nx : Nat) : Own := fun c =>
  if c < n ∧ kept ow X c = true then ow c else (owE c).bind (tgtNo og new own nx)

def outPhi (φ φE : Hnd) (hv : Nat → Option Value) (new : List Nat) (nx : Nat) : Hnd := fun t =>
  if nx ≤ t ∧ t < nx + 48 then hv (t - nx) else if nx + 48 ≤ t ∧ t < nx + 64 then (new[t - (nx + 48)]?).bind φE else φ t

end

/-- What a function's summary wants of its run. -/
def RunsBy (P : Program) (S : FSig) (f : FuncId) (fn : Func) (m : S.args.ty.den → (objsTy S.objs).den → Option S.oty.den) : Prop :=
  ∀ xa xo y, m xa xo = some y → ∀ (φb : Hnd) (owb : Own) (vs : Array Value) (w : World), (∀ id, id ∉ S.fix → φb id = none) → SatF [] φb owb w (S.init xa xo fn.ntmps) { tmps := vs ++ Array.replicate (fn.ntmps - vs.size) undef, defers := [] } w →
    ∀ (G : Act → World → Prop), (∀ st' l o a' w', SatF [] φb owb w st' a' w' → retTmps P st'.env st'.heap fn.results.toList = some l → (S.postReq l).run st'.heap = some o → datD S.oty o.res = some y → G a' w') →
    ∀ R : Ending → World → Prop, (∀ a' w', G a' w' → a'.defers = [] ∧ ∃ v, (results fn a'.tmps).run P w' = .ok v w' ∧ R (.returned v) w') → Calls P f vs w R

theorem sig_core {P : Program} {S : FSig} {f : FuncId} {fn : Func} {m : S.args.ty.den → (objsTy S.objs).den → Option S.oty.den} (hcall : ∀ vs w, (callFunc f vs).run P w = .ok (.enter f vs) w) (hn : S.args.count ≤ fn.ntmps) (hrun : RunsBy P S f fn m) : SummOK P f (S.summ m) := by
  intro av nx hp out φ ow w vs H hav hr hobl
  refine ⟨hcall vs w, ?_⟩
  unfold FSig.summ at hr
  obtain ⟨xa, ita, hva, hr1, hA⟩ := rdIn_ok H (box := false) S.args 16 av _ vs.toList hr hav
  obtain ⟨xo, ito, og, hvo, hr2, hO⟩ := rdObjs_ok H S.objs 0 S.c1 ita.objs _ hr1
  simp only at hr2
  split at hr2 <;> try (simp [Req.run] at hr2; done)
  rename_i hcond
  simp only [Bool.and_eq_true, Bool.not_eq_true', Bool.or_eq_true] at hcond
  obtain ⟨c1, c2, c3, c4, c5, c6⟩ := hcond
  cases hmy : m xa xo with
  | none => rw [hmy] at hr2; simp [Req.run] at hr2
  | some y =>
  rw [hmy] at hr2
  simp only [Req.run, Option.some.injEq] at hr2
  subst hr2
  have hX := nodupN_iff.1 c1
  have hmeet : ∀ i ∈ og.map (·.1) ++ ownIds (It.app ita ito), i ∉ (It.app ita ito).lent ++ ids (It.app ita ito).sls := fun i hi => meetN_no c2 hi
  obtain ⟨φi, ha, ho, hb, hsat⟩ := init_ok H hA hO hX hmeet c3 c4 hn
  let G : Act → World → Prop := fun a w' => a.defers = [] ∧ ∃ v, (results fn a.tmps).run P w' = .ok v w' ∧ ∃ v', Ending.returned v = .returned v' ∧
      Post ⟨[], resAV (S.res.back nx (obOf og (It.app ita ito).rows S.objs.length nx) 0 .bot y.1),
        S.res.heapO nx (obOf og (It.app ita ito).rows S.objs.length nx) 0 y.1 ++ backObjs nx (obOf og (It.app ita ito).rows S.objs.length nx) S.objs S.c1 og y.2.1 ++ backNews nx (obOf og (It.app ita ito).rows S.objs.length nx) S.news S.c2 (nx + 48) y.2.2 ++ (ownIds (It.app ita ito)).map (fun j => (j, .none)) ++ (It.app ita ito).sls⟩ nx φ ow w v' w'
  refine hrun xa xo y hmy _ _ vs w (fun id h => if_neg h) hsat G ?_ _ (fun a' w' hg => hg)
  intro st' l o a' w' hs' hret hpr hdat
  obtain ⟨φE, owE, hsz, hdf, henv, hheap, hfresh, hown, hnx, hfr⟩ := hs'
  have H' : Hyp st'.heap st'.next φE owE w' := ⟨hheap, fun id h _ => hfresh id h, fun b id h => ⟨(hown b id h).1, .inl (hown b id h).2⟩⟩
  obtain ⟨vals, hl, hres⟩ := results_run (P := P) (w := w') H' henv fn.results.toList l hret
  unfold FSig.postReq at hpr
  obtain ⟨yr, itr, hvr, hp1, hR⟩ := rdOut_ok H' S.res 0 l _ vals hpr hl
  obtain ⟨new, hnl, hp1⟩ := newsReq_path hp1
  obtain ⟨yo, itO, hvO, hp2, hEO⟩ := outObjs_ok H' S.objs _ S.c1 _ hp1
  obtain ⟨yn, itN, hvN, hp3, hEN⟩ := outObjs_ok H' S.news new S.c2 _ hp2
  simp only at hp3
  split at hp3 <;> try (simp [Req.run] at hp3; done)
  rename_i dcond
  simp only [Bool.and_eq_true, Bool.not_eq_true', Bool.or_eq_false_iff] at dcond
  obtain ⟨d1, ⟨d2, d2'⟩, d3, d4⟩ := dcond
  simp only [Req.run, Option.some.injEq] at hp3
  subst hp3
  have hy := datD_some hdat
  injection hy with _ hy
  subst hy
  obtain ⟨a1, a2, a3, _, a5, al, a6⟩ := hA
  obtain ⟨o1, o2, o3, o4, o5, o6, o7, o8, ol, o9⟩ := hO
  simp only [FSig.fits, Bool.and_eq_true] at c4
  obtain ⟨⟨⟨⟨⟨⟨⟨f1, f2⟩, f3⟩, f4⟩, f5⟩, f6⟩, f7⟩, f8⟩ := c4
  have f1 := Nat.le_of_ble_eq_true f1
  have f2 := Nat.le_of_ble_eq_true f2
  have f3 := Nat.le_of_ble_eq_true f3
  have f4 := Nat.le_of_ble_eq_true f4
  have f5 : S.res.skips 0 = [] := List.isEmpty_iff.1 f5
  have f6 : skipsObjs S.news S.c2 = [] := List.isEmpty_iff.1 f6
  have f7 : S.res.refs = [] := List.isEmpty_iff.1 f7
  have f8 : refsObjs S.news = [] := List.isEmpty_iff.1 f8
  have hc1 : S.c1 = 16 + S.args.size := rfl
  have hc2 : S.c2 = S.c1 + objsSize S.objs := rfl
  have hXE := nodupN_iff.1 d1
  rw [List.nodup_append, List.nodup_append] at hXE
  obtain ⟨⟨x1, x2, x3⟩, x4, x5⟩ := hXE
  have h0X : 0 ∉ upTo S.objs.length 1 ++ new ++ ownIds (It.app itr (It.app itO itN)) := fun h => by rw [memN_iff.2 h] at d2; cases d2
  have h0S : 0 ∉ ids (It.app itr (It.app itO itN)).sls := fun h => by rw [memN_iff.2 h] at d2'; cases d2'
  have hmE : ∀ i ∈ upTo S.objs.length 1 ++ new ++ ownIds (It.app itr (It.app itO itN)), i ∉ ids (It.app itr (It.app itO itN)).sls := fun i hi => meetN_no d3 hi
  -- handles, owners
  let hvE : Nat → Option Value := fun s => if s < 16 then hvr s else if s < S.c2 then hvO s else hvN s
  let X := og.map (·.1) ++ ownIds (It.app ita ito) ++ ids (It.app ita ito).sls
  let ow2 := outOw ow owE w.heap.size X (og.map (·.1)) new (It.app itr (It.app itO itN)).own nx
  let φ2 := outPhi φ φE hvE new nx
  have kept_iff : ∀ b, kept ow X b = true ↔ ∀ i, ow b = some i → i ∉ X := by
    intro b
    unfold kept
    cases hb : ow b with
    | none => simp
    | some i =>
      simp only [Bool.not_eq_true', Option.some.injEq, forall_eq']
      constructor
      · intro h hm'
        rw [memN_iff.2 hm'] at h
        cases h
      · intro h
        cases hm' : memN i X with
        | false => rfl
        | true => exact absurd (memN_iff.1 hm') h
  have keptE : ∀ b, b < w.heap.size → kept ow X b = true → (owE b = none ∨ owE b = some 0) ∧ w'.heap[b]? = w.heap[b]? ∧ (owE b = none → ow b = none ∨ ∃ i ∈ (It.app ita ito).lent, ow b = some i) := by
    intro b hb' hk
    have hk := (kept_iff b).1 hk
    have h0 : inOw ow (og.map (·.1)) (It.app ita ito).own ((It.app ita ito).lent ++ ids (It.app ita ito).sls) b = none ∧ (ow b = none ∨ ∃ i ∈ (It.app ita ito).lent, ow b = some i) ∨ inOw ow (og.map (·.1)) (It.app ita ito).own ((It.app ita ito).lent ++ ids (It.app ita ito).sls) b = some 0 := by
      unfold inOw
      cases hob : ow b with
      | none => exact .inl ⟨rfl, .inl rfl⟩
      | some i =>
        have hi := hk i hob
        simp only [X, List.mem_append, not_or] at hi
        simp only
        rw [posOf_none hi.1.1, ownNo_none hi.1.2]
        simp only
        by_cases hl : i ∈ (It.app ita ito).lent
        · rw [if_pos (List.mem_append_left _ hl)]
          exact .inl ⟨rfl, .inr ⟨i, hl, rfl⟩⟩
        · rw [if_neg (by simp only [List.mem_append, not_or]; exact ⟨hl, hi.2⟩)]
          exact .inr rfl
    rcases h0 with ⟨h0, h1⟩ | h0
    · obtain ⟨g1, g2⟩ := hfr.blk b hb' (.inl h0)
      exact ⟨.inl (by rw [g1]; exact h0), g2, fun _ => h1⟩
    · obtain ⟨g1, g2⟩ := hfr.blk b hb' (.inr h0)
      exact ⟨.inr (by rw [g1]; exact h0), g2, fun h => (by rw [g1, h0] at h; cases h)⟩
  have N : ∀ b i, owE b = some i → i ≠ 0 → ow2 b = tgtNo (og.map (·.1)) new (It.app itr (It.app itO itN)).own nx i := by
    intro b i hbi hi
    show (if b < w.heap.size ∧ kept ow X b = true then ow b else (owE b).bind (tgtNo _ _ _ nx)) = _
    rw [if_neg, hbi]
    · rfl
    · rintro ⟨h1, h2⟩
      rcases (keptE b h1 h2).1 with h | h
      · rw [hbi] at h; cases h
      · rw [hbi] at h; injection h with h; exact hi h
  have K2 : PhiLe φ φ2 := by
    intro id v hv
    have hw : ¬ (nx ≤ id ∧ id < nx + 64) := fun h => by rw [H.fresh id h.1 h.2] at hv; cases hv
    show (if nx ≤ id ∧ id < nx + 48 then hvE (id - nx) else if nx + 48 ≤ id ∧ id < nx + 64 then (new[id - (nx + 48)]?).bind φE else φ id) = some v
    rw [if_neg (by omega), if_neg (by omega)]
    exact hv
  have K1 : Keep ow w ow2 w' := by
    refine ⟨hfr.size, fun b hb' hn' => ?_⟩
    have hk : kept ow X b = true := by unfold kept; rw [hn']
    refine ⟨?_, (keptE b hb' hk).2.1⟩
    show (if b < w.heap.size ∧ kept ow X b = true then ow b else (owE b).bind (tgtNo _ _ _ nx)) = none
    rw [if_pos ⟨hb', hk⟩]
    exact hn'
  have hogφ : ∀ k id cells, og[k]? = some (id, cells) → (∃ v, φ id = some v) ∧ φE (k + 1) = φ id := by
    intro k id cells h
    have hbx : ∃ v, φ id = some v := by
      have : ∀ (l : List (TypeId × APat)) (og : List (Nat × AV)) (k : Nat), boxesH hp l og → og[k]? = some (id, cells) → ∃ e, hp id = .box e cells := by
        intro l
        induction l with
        | nil => intro og k h1 h2; rw [show _ = _ from h1] at h2; simp at h2
        | cons a l ih =>
          intro og k h1 h2
          obtain ⟨id', cells', og', rfl, h3, h4⟩ := h1
          cases k with
          | zero =>
            simp only [List.getElem?_cons_zero, Option.some.injEq, Prod.mk.injEq] at h2
            obtain ⟨rfl, rfl⟩ := h2
            exact ⟨_, h3⟩
          | succ k => exact ih og' k h4 (by simpa using h2)
      obtain ⟨e, he⟩ := this S.objs og k o7 h
      have := H.chunk id
      rw [he] at this
      obtain ⟨g, cs, h1, _⟩ := this
      exact ⟨_, h1⟩
    refine ⟨hbx, ?_⟩
    obtain ⟨v, hv'⟩ := hbx
    have hi := hb k id cells h
    have hk : k < og.length := (List.getElem?_eq_some_iff.1 h).1
    have hfix : k + 1 ∈ S.fix := List.mem_append_left _ (upTo_mem.2 ⟨by omega, by omega⟩)
    rw [hv', hfr.phi (k + 1) v (by rw [if_pos hfix, hi, hv'])]
  have φ2og : ∀ k id cells, og[k]? = some (id, cells) → φ2 id = φE (k + 1) := by
    intro k id cells h
    obtain ⟨⟨v, hv'⟩, h2⟩ := hogφ k id cells h
    rw [K2 id v hv', h2, hv']
  have φ2new : ∀ k, k < 16 → φ2 (nx + 48 + k) = (new[k]?).bind φE := by
    intro k hk
    show (if nx ≤ nx + 48 + k ∧ nx + 48 + k < nx + 48 then hvE (nx + 48 + k - nx) else if nx + 48 ≤ nx + 48 + k ∧ nx + 48 + k < nx + 64 then (new[nx + 48 + k - (nx + 48)]?).bind φE else φ (nx + 48 + k)) = _
    rw [if_neg (by omega), if_pos (by omega), Nat.add_sub_cancel_left]
  have φ2own : ∀ t, t < 48 → φ2 (nx + t) = hvE t := by
    intro t ht
    show (if nx ≤ nx + t ∧ nx + t < nx + 48 then hvE (nx + t - nx) else if nx + 48 ≤ nx + t ∧ nx + t < nx + 64 then (new[nx + t - (nx + 48)]?).bind φE else φ (nx + t)) = _
    rw [if_pos (by omega), Nat.add_sub_cancel_left]
  have T1 : ∀ T, ((It.app ita ito).lent = [] ∨ T.flat = true) → ∀ cs x, Ty.rep (sealOw (ids (It.app itr (It.app itO itN)).sls) owE) w' T cs x → Ty.rep ow2 w' T cs x := by
    rintro T (hT | hT) cs x h
    · refine Ty.rep_keep ⟨Nat.le_refl _, fun b hb' hn' => ⟨?_, rfl⟩⟩ h
      show (if b < w.heap.size ∧ kept ow X b = true then ow b else (owE b).bind (tgtNo _ _ _ nx)) = none
      split
      · rename_i hk
        obtain ⟨k1, _, k3⟩ := keptE b hk.1 hk.2
        rcases k1 with k1 | k1
        · rcases k3 k1 with h | ⟨i, hi, _⟩
          · exact h
          · rw [hT] at hi; cases hi
        · rcases seal_none.1 hn' with h | ⟨i, hi, h⟩
          · rw [k1] at h; cases h
          · rw [k1] at h; injection h with h; subst h; exact absurd hi h0S
      · rcases seal_none.1 hn' with h | ⟨i, hi, h⟩
        · rw [h]; rfl
        · rw [h]
          have n1 : i ∉ upTo S.objs.length 1 := fun hm' => hmE i (List.mem_append_left _ (List.mem_append_left _ hm')) hi
          have n2 : i ∉ new := fun hm' => hmE i (List.mem_append_left _ (List.mem_append_right _ hm')) hi
          have n3 : i ∉ ownIds (It.app itr (It.app itO itN)) := fun hm' => hmE i (List.mem_append_right _ hm') hi
          show tgtNo _ _ _ nx i = none
          unfold tgtNo
          rw [if_neg (fun hh => n1 (upTo_mem.2 ⟨hh.1, by have := hh.2; simp only [List.length_map] at this; omega⟩)), posOf_none n2, ownNo_none n3]
          rfl
    · exact flat_rep hT h
  have T2 : ∀ t d, (t, d) ∈ (It.app itr (It.app itO itN)).own → ∀ b i, i ∈ d → owE b = some i → ow2 b = some (nx + t) := by
    intro t d hm' b i hi hbi
    have hin : i ∈ ownIds (It.app itr (It.app itO itN)) := List.mem_flatten.2 ⟨d, List.mem_map.2 ⟨(t, d), hm', rfl⟩, hi⟩
    have hi0 : i ≠ 0 := fun e => by subst e; exact h0X (List.mem_append_right _ hin)
    rw [N b i hbi hi0]
    unfold tgtNo
    rw [if_neg, posOf_none (fun h => x5 i (List.mem_append_right _ h) i hin rfl), ownNo_at x4 hm' hi]
    · rfl
    · intro hh
      have := hh.2
      simp only [List.length_map] at this
      exact x5 i (List.mem_append_left _ (upTo_mem.2 ⟨hh.1, by omega⟩)) i hin rfl
  have T3 : ∀ n id, (n, id) ∈ (It.app itr (It.app itO itN)).objs → φ2 (obOf og (It.app ita ito).rows S.objs.length nx n) = φE id := by
    intro n id hm'
    simp only [objsOk, List.all_eq_true] at d4
    have h := d4 _ hm'
    simp only at h
    unfold obOf
    cases hn' : Nat.blt n S.objs.length with
    | true =>
      rw [hn', cond_true] at h
      have hid := Nat.eq_of_beq_eq_true h
      have hlt : n < S.objs.length := Nat.le_of_ble_eq_true hn'
      have hlt' : n < og.length := by omega
      subst hid
      rw [show Nat.blt n 1000 = true from Nat.ble_eq_true_of_le (by omega), cond_true, cond_true]
      have : (og.map (·.1)).getD n 0 = og[n].1 := by simp [hlt']
      rw [this]
      exact φ2og n og[n].1 og[n].2 (List.getElem?_eq_getElem hlt')
    | false =>
      rw [hn', cond_false] at h
      rw [cond_false]
      cases hg : new[n - S.objs.length]? with
      | none => rw [hg] at h; cases h
      | some i =>
        rw [hg] at h
        have hid := Nat.eq_of_beq_eq_true h
        subst hid
        have := (List.getElem?_eq_some_iff.1 hg).1
        rw [show Nat.blt n 1000 = true from Nat.ble_eq_true_of_le (by omega), cond_true]
        rw [φ2new _ (by omega), hg]
        rfl
  have T7 : ∀ k ∈ refsObjs S.objs, ∀ h, φE k = some h → φ2 (obOf og (It.app ita ito).rows S.objs.length nx (1000 + k)) = some h := by
    intro k hk h hh
    have h1 := List.all_eq_true.1 c6 k hk
    cases hfn : findN (It.app ita ito).rows k with
    | none => rw [hfn] at h1; cases h1
    | some id =>
      have e : obOf og (It.app ita ito).rows S.objs.length nx (1000 + k) = id := by
        unfold obOf
        rw [show Nat.blt (1000 + k) 1000 = false from by
          cases hb : Nat.blt (1000 + k) 1000 with
          | false => rfl
          | true => have := Nat.le_of_ble_eq_true hb; omega]
        rw [cond_false, Nat.add_sub_cancel_left, hfn]
        rfl
      rw [e]
      have hm := findN_mem hfn
      simp only [It.app, List.mem_append] at hm
      have key : k ∈ S.fix ∧ ∃ v, φi k = some v ∧ φ id = some v := by
        rcases hm with hm | hm
        · obtain ⟨b0, v, b1, b2⟩ := al k id hm
          exact ⟨by unfold FSig.fix; simp [b0], v, by rw [ha k (by rw [b1]; simp), b1], b2⟩
        · obtain ⟨b0, v, b1, b2⟩ := ol k id hm
          exact ⟨by unfold FSig.fix; simp [b0], v, by rw [ho k (by rw [b1]; simp), b1], b2⟩
      obtain ⟨hfix, v, b1, b2⟩ := key
      have h2 := hfr.phi k v (by rw [if_pos hfix, b1])
      rw [hh] at h2
      injection h2 with h2
      subst h2
      exact K2 id h b2
  let vsq : Nat → Value := fun t => (hvo t).getD undef
  have T6 : ∀ t ∈ skipsObjs S.objs S.c1, ∀ v, φE t = some v → v = vsq t := by
    intro t ht v hv'
    obtain ⟨u, hu⟩ := o4 t ht
    have h1 := ho t (by rw [hu]; simp)
    rw [hu] at h1
    have hfix : t ∈ S.fix := List.mem_append_right _ (List.mem_append_left _ ht)
    have h2 := hfr.phi t u (by rw [if_pos hfix, h1])
    rw [hv'] at h2
    injection h2 with h2
    subst h2
    show v = (hvo t).getD undef
    rw [hu]
    rfl
  have hflat : ∀ T, T ∈ S.res.tys ∨ T ∈ tysObjs S.objs ∨ T ∈ tysObjs S.news → ((It.app ita ito).lent = [] ∨ T.flat = true) := by
    intro T hT
    rcases c5 with h | h
    · exact .inl (List.isEmpty_iff.1 h)
    · right
      simp only [FSig.flat, Bool.and_eq_true] at h
      rcases hT with hT | hT | hT
      · exact flat_tys h.1.1 T hT
      · exact flat_tysObjs h.1.2 T hT
      · exact flat_tysObjs h.2 T hT
  have hbacks : backsH φ2 ow2 w' vsq S.objs S.c1 og := backsH_keep K2 K1 _ _ _ (o8 vsq fun t v h => by show (hvo t).getD undef = v; rw [h]; rfl)
  have rm : ∀ {u : Upd} {T : Ty} {cs : List Value} {x : T.den}, (∀ i ∈ ids u, i ∈ ids (It.app itr (It.app itO itN)).sls) → Ty.rep (sealOw (ids u) owE) w' T cs x → Ty.rep (sealOw (ids (It.app itr (It.app itO itN)).sls) owE) w' T cs x := fun h hr => rep_mono h hr
  -- the results
  have R := hR.tgt vsq nx (obOf og (It.app ita ito).rows S.objs.length nx) .bot φ2 ow2 (fun t ht => by rw [f5] at ht; cases ht) (fun T hT cs x h => T1 T (hflat T (.inl hT)) cs x (rm (by simp [It.app, ids_app]; intro i hi; simp [hi]) h))
    (fun t d h => by
      have ht := hR.own t d h
      refine ⟨?_, fun b i hi hbi => T2 t d (by simp [It.app, h]) b i hi hbi⟩
      rw [φ2own t (by omega)]
      show (if t < 16 then hvr t else _) = hvr t
      rw [if_pos (by omega)]) (fun n id h => T3 n id (by simp [It.app, h])) (fun k hk => by rw [f7] at hk; cases hk) (backH_bot _ _)
  have RO := hEO.tgt vsq nx (obOf og (It.app ita ito).rows S.objs.length nx) φ2 ow2 T6 (fun T hT cs x h => T1 T (hflat T (.inr (.inl hT))) cs x (rm (by simp [It.app, ids_app]; intro i hi; simp [hi]) h))
    (fun t d h => by
      have ht := hEO.own t d h
      refine ⟨?_, fun b i hi hbi => T2 t d (by simp [It.app, h]) b i hi hbi⟩
      rw [φ2own t (by omega)]
      show (if t < 16 then hvr t else if t < S.c2 then hvO t else hvN t) = hvO t
      rw [if_neg (by omega), if_pos (by omega)]) (fun n id h => T3 n id (by simp [It.app, h])) T7
  have RN := hEN.tgt vsq nx (obOf og (It.app ita ito).rows S.objs.length nx) φ2 ow2 (fun t ht => by rw [f6] at ht; cases ht) (fun T hT cs x h => T1 T (hflat T (.inr (.inr hT))) cs x (rm (by simp [It.app, ids_app]; intro i hi; simp [hi]) h))
    (fun t d h => by
      have ht := hEN.own t d h
      refine ⟨?_, fun b i hi hbi => T2 t d (by simp [It.app, h]) b i hi hbi⟩
      rw [φ2own t (by omega)]
      show (if t < 16 then hvr t else if t < S.c2 then hvO t else hvN t) = hvN t
      rw [if_neg (by omega), if_neg (by omega)]) (fun n id h => T3 n id (by simp [It.app, h])) (fun k hk => by rw [f8] at hk; cases hk)
  have RO1 := RO.1 og o5 hbacks (fun k id' cells id h1 h2 => by
    rw [upTo_get] at h2
    split at h2 <;> try (cases h2; done)
    injection h2 with h2
    have e1 : id = k + 1 := by omega
    subst e1
    have hk : k < og.length := (List.getElem?_eq_some_iff.1 h1).1
    refine ⟨φ2og k id' cells h1, fun b hbi => ?_⟩
    rw [N b _ hbi (by omega)]
    unfold tgtNo
    rw [if_pos ⟨by omega, by simp only [List.length_map]; omega⟩, Nat.add_sub_cancel, List.getElem?_map, h1]
    rfl)
  have RN1 := RN.2 (nx + 48) (backsH_bot _ _) (fun k id hk h => by
    refine ⟨by rw [φ2new k (by omega), h]; rfl, fun b hbi => ?_⟩
    have hin : id ∈ new := List.mem_of_getElem? h
    have hid0 : id ≠ 0 := fun e => by subst e; exact h0X (List.mem_append_left _ (List.mem_append_right _ hin))
    rw [N b _ hbi hid0]
    unfold tgtNo
    rw [if_neg, posOf_at x2 h]
    · simp
    · intro hh
      have := hh.2
      simp only [List.length_map] at this
      exact x3 id (upTo_mem.2 ⟨hh.1, by omega⟩) id hin rfl)
  refine ⟨hdf, _, ?_, _, rfl, φ2, ow2, ?_, resAV_holds R.1, ?_⟩
  · simp only [results, Array.mapM_eq_mapM_toList, Sem.run_bind, Sem.run_map]
    erw [hres]
    rfl
  · have hin : ∀ i, i ∈ X → i ∈ ids (S.res.heapO nx (obOf og (It.app ita ito).rows S.objs.length nx) 0 yr ++ backObjs nx (obOf og (It.app ita ito).rows S.objs.length nx) S.objs S.c1 og yo ++ backNews nx (obOf og (It.app ita ito).rows S.objs.length nx) S.news S.c2 (nx + 48) yn ++ (ownIds (It.app ita ito)).map (fun j => (j, .none)) ++ (It.app ita ito).sls) := by
      intro i hi
      simp only [ids_app, List.mem_append]
      simp only [X, List.mem_append] at hi
      rcases hi with (hi | hi) | hi
      · exact .inl (.inl (.inl (.inr (backObjs_ids S.objs S.c1 og _ o5 i hi))))
      · refine .inl (.inr ?_)
        simp only [ids, List.map_map]
        exact List.mem_map.2 ⟨i, hi, rfl⟩
      · exact .inr hi
    refine ⟨hfr.size, hfr.os, hfr.tape, hfr.output, fun b hb' hno => ?_, fun b i hbi => ?_, K2, fun id hid => ?_⟩
    · have hk : kept ow X b = true := (kept_iff b).2 fun i hi hx => hno i hi (hin i hx)
      refine ⟨?_, (keptE b hb' hk).2.1⟩
      show (if b < w.heap.size ∧ kept ow X b = true then ow b else (owE b).bind (tgtNo _ _ _ nx)) = ow b
      rw [if_pos ⟨hb', hk⟩]
    · change (if b < w.heap.size ∧ kept ow X b = true then ow b else (owE b).bind (tgtNo (og.map (·.1)) new (It.app itr (It.app itO itN)).own nx)) = some i at hbi
      have hsz' := hfr.size
      split at hbi
      · rename_i hk
        exact ⟨by omega, .inr ⟨hk.1, hbi⟩⟩
      · obtain ⟨j, hj, ht⟩ := Option.bind_eq_some_iff.1 hbi
        refine ⟨(hown b j hj).1, .inl ?_⟩
        unfold tgtNo at ht
        split at ht
        · left
          refine hin i ?_
          simp only [X, List.mem_append]
          exact .inl (.inl (List.mem_of_getElem? ht))
        · right
          split at ht
          · rename_i q hq
            injection ht with ht
            obtain ⟨_, hq2⟩ := posOf_some hq
            have := (List.getElem?_eq_some_iff.1 hq2).1
            omega
          · simp only [Option.map_eq_some_iff] at ht
            obtain ⟨t, ht1, ht2⟩ := ht
            obtain ⟨d, hd1, _⟩ := ownNo_some ht1
            simp only [It.app, List.mem_append] at hd1
            rcases hd1 with hd1 | hd1 | hd1
            · have := hR.own t d hd1; omega
            · have := hEO.own t d hd1; omega
            · have := hEN.own t d hd1; omega
    · show (if nx ≤ id ∧ id < nx + 48 then hvE (id - nx) else if nx + 48 ≤ id ∧ id < nx + 64 then (new[id - (nx + 48)]?).bind φE else φ id) = φ id
      rw [if_neg (by omega), if_neg (by omega)]
  · intro q hq
    simp only [List.mem_append] at hq
    rcases hq with (((hq | hq) | hq) | hq) | hq
    · exact R.2 q.1 q.2 hq
    · exact RO1 q hq
    · exact RN1 q hq
    · obtain ⟨j, _, rfl⟩ := List.mem_map.1 hq
      trivial
    · have hs : SldOK φ (sealOw (ids (It.app ita ito).sls) ow) w (It.app ita ito).sls := SldOK.app a1 o1
      refine SldOK.post (S := ids (It.app ita ito).sls) (fun i hi => hi) K2 ⟨hfr.size, fun b hb' hn' => ?_⟩ hs q hq
      rcases seal_none.1 hn' with h | ⟨i, hi, h⟩
      · exact K1.blk b hb' h
      · have hni : i ∉ og.map (·.1) ++ ownIds (It.app ita ito) := fun hx => hmeet i hx (List.mem_append_right _ hi)
        simp only [List.mem_append, not_or] at hni
        have h0 : inOw ow (og.map (·.1)) (It.app ita ito).own ((It.app ita ito).lent ++ ids (It.app ita ito).sls) b = none := by
          unfold inOw
          rw [h]
          simp only
          rw [posOf_none hni.1, ownNo_none hni.2]
          simp only
          rw [if_pos (List.mem_append_right _ hi)]
        obtain ⟨g1, g2⟩ := hfr.blk b hb' (.inl h0)
        refine ⟨?_, g2⟩
        show (if b < w.heap.size ∧ kept ow X b = true then ow b else (owE b).bind (tgtNo _ _ _ nx)) = none
        rw [if_neg, g1, h0]
        · rfl
        · rintro ⟨_, hk⟩
          exact (kept_iff b).1 hk i h (by simp only [X, List.mem_append]; exact .inr hi)

theorem sig_ok' {C : XCfg} {S : FSig} {f : FuncId} {fn : Func} {m : S.args.ty.den → (objsTy S.objs).den → Option S.oty.den} (hS : ∀ g, SummOK C.P g (C.S g)) (hm : C.P.follows .mixedOrders = true) (hf : C.P.funcs[f]? = some fn)
    (hcall : ∀ vs w, (callFunc f vs).run C.P w = .ok (.enter f vs) w) (hn : S.args.count ≤ fn.ntmps) (hvc : ∀ xa xo y, m xa xo = some y → (S.prog C fn xa xo).run = some y ∨ ∃ c, fn.body = some c ∧ vcCode (XCfg.cfg { C with fix := S.fix }) c (S.init xa xo fn.ntmps) fun e st => (S.kont C.P fn S.oty.den (fun y => y) e st Dirt.no).run = some y) : SummOK C.P f (S.summ m) := by
  refine sig_core hcall hn ?_
  intro xa xo y hmy φb owb vs w hbase hsat G hG R hGR
  have hv := hvc xa xo y hmy
  unfold FSig.prog at hv
  cases hbody : fn.body with
  | none =>
    rw [hbody] at hv
    rcases hv with hv | ⟨c, hc, _⟩
    · cases hv
    · cases hc
  | some c =>
  rw [hbody] at hv
  simp only at hv
  refine calls_of_wp hf hbody ?_
  have hR : InR (S.kont C.P fn) := by
    intro Y inj z e st' D' h
    have key : ∀ l, (exReq st'.heap (S.postReq l) fun o _ => match datD S.oty o.res with
      | some y => Prog.ret (inj y)
      | Option.none => .fail 20).run = some z → ∃ r, z = inj r := by
      intro l h
      obtain ⟨o, _, h2⟩ := exReq_path h
      split at h2
      · injection h2 with h2; exact ⟨_, h2.symm⟩
      · cases h2
    cases e with
    | normal =>
      simp only [FSig.kont] at h
      split at h
      · exact key _ h
      · cases h
    | ret =>
      simp only [FSig.kont] at h
      split at h
      · exact key _ h
      · cases h
    | _ => cases h
  have final : KOk [] φb owb w (S.init xa xo fn.ntmps) (S.kont C.P fn) (fun y' e a w' => match e with
    | .normal | .ret => y' = y → G a w'
    | _ => False) := by
    intro Y inj hinj y' e st' D' hpost hfrm a' w' hs'
    have fin : ∀ l, (exReq st'.heap (S.postReq l) fun o _ => match datD S.oty o.res with
        | some y => Prog.ret (inj y)
        | Option.none => .fail 20).run = some (inj y') → retTmps C.P st'.env st'.heap fn.results.toList = some l → y' = y → G a' w' := by
      intro l h hret hyy
      subst hyy
      obtain ⟨o, h1, h2⟩ := exReq_path h
      split at h2
      · rename_i z hz
        injection h2 with h2
        have := hinj h2
        subst this
        exact hG st' l o a' w' hs' hret h1 hz
      · cases h2
    cases e with
    | normal =>
      simp only [FSig.kont] at hpost
      split at hpost
      · rename_i l hret; exact fin l hpost hret
      · cases hpost
    | ret =>
      simp only [FSig.kont] at hpost
      split at hpost
      · rename_i l hret; exact fin l hpost hret
      · cases hpost
    | _ => cases hpost
  have fin2 : c.wp C.P (fun e a w' => match e with
    | .normal | .ret => y = y → G a w'
    | _ => False) { tmps := vs ++ Array.replicate (fn.ntmps - vs.size) undef, defers := [] } w := by
    rcases hv with hv | ⟨c', hc', hv⟩
    · exact exCode_ok (C := { C with fix := S.fix }) hS hm (hbase) c (fun a b h => h) hv (Frm.refl _ _) hR final hsat
    · injection hc' with hc'
      subst hc'
      exact code_ok (C := XCfg.cfg { C with fix := S.fix }) hS hm (hbase) c hv hsat fun e st' hk a' w' hs' => final S.oty.den (fun y => y) (fun a b h => h) y e st' ⟨fun _ => true, fun _ => true⟩ (by cases e <;> exact hk) ⟨fun t ht => (by cases ht), fun i hi => (by cases hi)⟩ a' w' hs'
  exact wp_mono fin2 (fun e a' w' hq => by cases e <;> first | exact hGR _ _ (hq rfl) | exact hq.elim)

theorem sig_ok {C : XCfg} {S : FSig} {f : FuncId} {fn : Func} {m : S.args.ty.den → (objsTy S.objs).den → Option S.oty.den} (hS : ∀ g, SummOK C.P g (C.S g)) (hm : C.P.follows .mixedOrders = true) (hf : C.P.funcs[f]? = some fn)
    (hcall : ∀ vs w, (callFunc f vs).run C.P w = .ok (.enter f vs) w) (hn : S.args.count ≤ fn.ntmps) (hvc : ∀ xa xo y, m xa xo = some y → (S.prog C fn xa xo).run = some y) : SummOK C.P f (S.summ m) :=
  sig_ok' hS hm hf hcall hn fun xa xo y h => .inl (hvc xa xo y h)

end GoSx
end
section
/- Sy, part 4: tables of what functions do. -/
set_option linter.unusedVariables false
namespace GoSx
open Go

abbrev int : Ty := .int .i64
abbrev ints : Ty := .sl (.int .i64)
abbrev pair2 : Ty := .pair int (.pair int .unit)
abbrev pair3 : Ty := .pair int (.pair int (.pair int .unit))
abbrev latchT : Ty := .pair int (.pair int (.pair .bool (.pair int (.pair int .unit))))
abbrev outT : Ty := .pair int (.pair int (.pair int .unit))
abbrev cellT : Ty := .pair .str (.pair int (.pair int (.pair int .unit)))
abbrev framesT : Ty := .pair int (.pair (.sl pair2) (.pair (.sl pair3) (.pair (.sl latchT) (.pair (.sl outT) (.pair int (.pair .bool (.pair int .unit)))))))
abbrev actT : Ty := .pair int (.pair int (.pair ints .unit))

def mkC (P : Program) (S : FuncId → Summ) (md : Md) (L : Nat → Option LoopS) (J : Nat → Option Shape) : XCfg := { P := P, S := S, wr := md, fix := [], loops := L, joins := J }
def noS : FuncId → Summ := fun _ _ _ => .fail
def addS (S : FuncId → Summ) (f : FuncId) (T : Summ) : FuncId → Summ := fun g => bif Nat.beq g f then T else S g

theorem noS_ok {P : Program} : ∀ g, SummOK P g (noS g) := fun g av nx hp out φ ow w vs H h hr => by cases hr
theorem addS_ok {P : Program} {S : FuncId → Summ} {f : FuncId} {T : Summ} (h : ∀ g, SummOK P g (S g)) (hT : SummOK P f T) : ∀ g, SummOK P g (addS S f T g) := by
  intro g
  unfold addS
  cases hb : Nat.beq g f with
  | true => rw [Nat.eq_of_beq_eq_true hb]; exact hT
  | false => exact h g

theorem call_of {P : Program} {f : FuncId} {fn : Func} (hf : P.funcs[f]? = some fn) (hb : fn.body.isNone = false) (hn : (fn.name == "runtime.NumGoroutine") = false) : ∀ vs w, (callFunc f vs).run P w = .ok (.enter f vs) w := by
  intro vs w
  have h1 : fn.name ≠ "runtime.NumGoroutine" := fun e => by rw [e] at hn; simp at hn
  have h2 : fn.body ≠ none := fun e => by rw [e] at hb; simp at hb
  simp [callFunc, hf, h1, h2]

/-- One function more. -/
theorem fn_ok {P : Program} {S0 : FuncId → Summ} (h : ∀ g, SummOK P g (S0 g)) (hm : P.follows .mixedOrders = true) {f : FuncId} {fn : Func} (hf : P.funcs[f]? = some fn) (hb : fn.body.isNone = false) (hn : (fn.name == "runtime.NumGoroutine") = false)
    {S : FSig} (hc : Nat.ble S.args.count fn.ntmps = true) {md : Md} {L : Nat → Option LoopS} {J : Nat → Option Shape} {m : S.args.ty.den → (objsTy S.objs).den → Option S.oty.den} (he : ∀ xa xo, (S.prog (mkC P S0 md L J) fn xa xo).run = m xa xo) : ∀ g, SummOK P g (addS S0 f (S.summ m) g) :=
  addS_ok h (sig_ok (C := mkC P S0 md L J) h hm hf (call_of hf hb hn) (Nat.le_of_ble_eq_true hc) fun xa xo y hy => (he xa xo).trans hy)

/-- Elements of a row of numbers. -/
abbrev getI (l : List Int) (i : Int) : Int := get (.int .i64) l i
abbrev getL (l : List (List Int)) (i : Int) : List Int := get (.sl (.int .i64)) l i
abbrev getLL (l : List (List (List Int))) (i : Int) : List (List Int) := get (.sl (.sl (.int .i64))) l i
abbrev getB (l : List Bool) (i : Int) : Bool := get .bool l i

theorem summ_at {P : Program} {T : FuncId → Summ} (h : ∀ g, SummOK P g (T g)) (f : FuncId) {S : Summ} (e : T f = S) : SummOK P f S := e ▸ h f
/-- One function more, walked over a table of its own. -/
theorem fn_ok2 {P : Program} {S0 S1 : FuncId → Summ} (h : ∀ g, SummOK P g (S0 g)) (h1 : ∀ g, SummOK P g (S1 g)) (hm : P.follows .mixedOrders = true) {f : FuncId} {fn : Func} (hf : P.funcs[f]? = some fn) (hb : fn.body.isNone = false) (hn : (fn.name == "runtime.NumGoroutine") = false)
    {S : FSig} (hc : Nat.ble S.args.count fn.ntmps = true) {md : Md} {L : Nat → Option LoopS} {J : Nat → Option Shape} {m : S.args.ty.den → (objsTy S.objs).den → Option S.oty.den} (he : ∀ xa xo, (S.prog (mkC P S1 md L J) fn xa xo).run = m xa xo) : ∀ g, SummOK P g (addS S0 f (S.summ m) g) :=
  addS_ok h (sig_ok (C := mkC P S1 md L J) h1 hm hf (call_of hf hb hn) (Nat.le_of_ble_eq_true hc) fun xa xo y hy => (he xa xo).trans hy)

/-- The condition of a function that asks whether a row is nil. -/
def FSig.vcond (S : FSig) (C : XCfg) (fn : Func) (xa : S.args.ty.den) (xo : (objsTy S.objs).den) (y : S.oty.den) : Prop := match fn.body with
  | some c => vcCode (XCfg.cfg { C with fix := S.fix }) c (S.init xa xo fn.ntmps) fun e st => (S.kont C.P fn S.oty.den (fun y => y) e st Dirt.no).run = some y
  | Option.none => False
theorem fn_ok_vc {P : Program} {S0 : FuncId → Summ} (h : ∀ g, SummOK P g (S0 g)) (hm : P.follows .mixedOrders = true) {f : FuncId} {fn : Func} (hf : P.funcs[f]? = some fn) (hb : fn.body.isNone = false) (hn : (fn.name == "runtime.NumGoroutine") = false)
    {S : FSig} (hc : Nat.ble S.args.count fn.ntmps = true) {md : Md} {L : Nat → Option LoopS} {J : Nat → Option Shape} {m : S.args.ty.den → (objsTy S.objs).den → Option S.oty.den} (he : ∀ xa xo y, m xa xo = some y → S.vcond (mkC P S0 md L J) fn xa xo y) : ∀ g, SummOK P g (addS S0 f (S.summ m) g) :=
  addS_ok h (sig_ok' (C := mkC P S0 md L J) h hm hf (call_of hf hb hn) (Nat.le_of_ble_eq_true hc) fun xa xo y hy => .inr (by
    have := he xa xo y hy
    unfold FSig.vcond at this
    cases hc : fn.body with
    | none => rw [hc] at this; exact this.elim
    | some c => rw [hc] at this; exact ⟨c, rfl, this⟩))

theorem gd_some {p : Prop} [d : Decidable p] {R : Type} {k : Option R} {r : R} : gd p k = some r ↔ p ∧ k = some r := by
  unfold gd
  by_cases h : p
  · rw [if_pos h]; simp [h]
  · rw [if_neg h]; simp [h]

end GoSx
end
section
/- Sy, part 7: functions that turn a row of ours in its place. -/
set_option linter.unusedVariables false
set_option linter.unusedSimpArgs false
namespace GoSx
open Go

structure RSig where
  e : TypeId
  T : Ty
  rest : APat

@[reducible] def RSig.aty (R : RSig) : Ty := .pair (.sl R.T) R.rest.ty
@[reducible] def RSig.oty (R : RSig) : Ty := .sl R.T

def noIt (it : It) : Bool := it.own.isEmpty && (it.lent.isEmpty && (it.sls.isEmpty && (it.objs.isEmpty && it.rows.isEmpty)))
theorem noIt_eq : ∀ {it : It}, noIt it = true → it = It.nil
  | ⟨[], [], [], [], []⟩, _ => rfl
  | ⟨_ :: _, _, _, _, _⟩, h => by simp [noIt] at h
  | ⟨[], _ :: _, _, _, _⟩, h => by simp [noIt] at h
  | ⟨[], [], _ :: _, _, _⟩, h => by simp [noIt] at h
  | ⟨[], [], [], _ :: _, _⟩, h => by simp [noIt] at h
  | ⟨[], [], [], [], _ :: _⟩, h => by simp [noIt] at h

/-- A call: the row's elements, turned. -/
def RSig.summ (R : RSig) (m : R.aty.den → Option R.oty.den) : Summ := fun av nx => match av with
  | .cons (.arr id) b => .look id fun
    | .arr e T l => if h : T = R.T then (if e = R.e ∧ R.T.flat = true ∧ R.rest.size ≤ 32 then rdIn R.rest 16 b fun x it => bif noIt it then .call (m (coeT (congrArg Ty.sl h) l, x)) fun y => .out ⟨[], .tup .nil, [(id, .arr e R.T y)]⟩ else .fail else .fail) else .fail
    | _ => .fail
  | _ => .fail

def RSig.init (R : RSig) (x : R.aty.den) (n : Nat) : St where
  env := envOf (.cons (.arr 1) (R.rest.av false 16 x.2))
  heap := fun id => lookCh ((1, .arr R.e R.T x.1) :: R.rest.heap 16 x.2) id .none
  next := 64
  n := n

def rowD (e : TypeId) (T : Ty) (c : Chunk) : Option (List T.den) := match c with
  | .arr e' T' l => if h : T' = T then (bif Nat.beq e' e then some (coeT (congrArg Ty.sl h) l) else Option.none) else Option.none
  | _ => Option.none
theorem rowD_some {e : TypeId} {T : Ty} {c : Chunk} {l : List T.den} (h : rowD e T c = some l) : c = .arr e T l := by
  unfold rowD at h
  split at h
  · rename_i e' T' l'
    split at h
    · rename_i hT
      subst hT
      cases hb : Nat.beq e' e with
      | false => rw [hb] at h; cases h
      | true =>
        rw [hb] at h
        injection h with h
        subst h
        rw [Nat.eq_of_beq_eq_true hb]
        rfl
    · cases h
  · cases h

def RSig.kont (R : RSig) (fn : Func) : Kont R.oty.den := fun Y inj e st _ =>
  match e with
  | .normal | .ret => match fn.results.toList, rowD R.e R.T (st.heap 1) with
    | [], some y => .ret (inj y)
    | _, _ => .fail 20
  | _ => .fail 22

def RSig.prog (R : RSig) (C : XCfg) (fn : Func) (x : R.aty.den) : Prog R.oty.den :=
  match fn.body with
  | some c => exCode { C with fix := [1] } c (R.init x fn.ntmps) Dirt.no (R.kont fn) R.oty.den fun y => y
  | Option.none => .fail 23

theorem row_ok {C : XCfg} {R : RSig} {f : FuncId} {fn : Func} {m : R.aty.den → Option R.oty.den} (hS : ∀ g, SummOK C.P g (C.S g)) (hm : C.P.follows .mixedOrders = true) (hf : C.P.funcs[f]? = some fn)
    (hcall : ∀ vs w, (callFunc f vs).run C.P w = .ok (.enter f vs) w) (hn : R.rest.count + 1 ≤ fn.ntmps) (hvc : ∀ x y, m x = some y → (R.prog C fn x).run = some y) : SummOK C.P f (R.summ m) := by
  intro av nx hp out φ ow w vs H hav hr hobl
  refine ⟨hcall vs w, ?_⟩
  unfold RSig.summ at hr
  split at hr <;> try (simp [Req.run] at hr; done)
  rename_i id b
  simp only [Req.run] at hr
  split at hr <;> try (simp [Req.run] at hr; done)
  rename_i e T l hch
  split at hr <;> try (simp [Req.run] at hr; done)
  rename_i hT
  subst hT
  split at hr <;> try (simp [Req.run] at hr; done)
  rename_i hcond
  obtain ⟨rfl, hflat, hsz⟩ := hcond
  obtain ⟨v0, rest, hvs, ⟨A0, n0, c0, hφ, hv0⟩, hrest⟩ := hav
  injection hv0 with hv0 _
  obtain ⟨x, it, hva, hr1, hA⟩ := rdIn_ok H (box := false) R.rest 16 b _ rest hr hrest
  cases hno : noIt it with
  | false => rw [hno] at hr1; simp [Req.run] at hr1
  | true =>
  rw [hno, cond_true] at hr1
  have hit := noIt_eq hno
  subst hit
  cases hmy : m (coeT (congrArg Ty.sl rfl) l, x) with
  | none => rw [hmy] at hr1; simp [Req.run] at hr1
  | some y =>
  rw [hmy] at hr1
  simp only [Req.run, Option.some.injEq] at hr1
  subst hr1
  have hv := hvc _ y hmy
  unfold RSig.prog at hv
  cases hbody : fn.body with
  | none => rw [hbody] at hv; cases hv
  | some c =>
  rw [hbody] at hv
  simp only at hv
  have hcH := H.chunk id
  rw [hch] at hcH
  obtain ⟨v1, hφ1, hrow⟩ := hcH
  rw [hφ] at hφ1
  injection hφ1 with hφ1
  subst hφ1
  subst hv0
  obtain ⟨a1, a2, a3, a4, a5, al, a6⟩ := hA
  let owi : Own := fun c => match ow c with
    | Option.none => Option.none
    | some i => if i = id then some 1 else some 0
  let φi : Hnd := fun t => if t = 1 then some (.slice A0 n0 c0) else hva t
  have h1ne : ∀ t v, hva t = some v → t ≠ 1 := fun t v h => by have := a3 t v h; omega
  have F1 : Keep ow w owi w := ⟨Nat.le_refl _, fun b _ hb => ⟨by show (match ow b with | Option.none => Option.none | some i => if i = id then some 1 else some 0) = Option.none; rw [hb], rfl⟩⟩
  obtain ⟨A1, A2⟩ := a6 φi owi (fun t v h => by show (if t = 1 then _ else hva t) = some v; rw [if_neg (h1ne t v h)]; exact h) (by rw [show sealOw (It.nil.lent ++ ids It.nil.sls) ow = ow from seal_nil]; exact F1) (fun t d h => by cases h) (fun n i h => by cases h)
  have hA1 : (AV.cons (.arr 1) (R.rest.av false 16 x)).holds φi owi w vs.toList := ⟨_, rest, hvs, ⟨A0, n0, c0, if_pos rfl, rfl⟩, A1⟩
  have hlen : vs.size = R.rest.count + 1 := by
    rw [← Array.length_toList, hvs, List.length_cons, av_len A1]
  have hrow1 : rowH owi w 1 (.slice A0 n0 c0) R.e R.T l := by
    obtain ⟨xs, r1, r2, r3, r4⟩ := hrow
    refine ⟨xs, r1, fun g hg => ?_, r3, Rows.mono (fun cs x => flat_rep hflat) r4⟩
    show (match ow g with | Option.none => Option.none | some i => if i = id then some 1 else some 0) = some 1
    rw [r2 g hg]
    exact if_pos rfl
  have hsat : SatF [] (fun t => if t ∈ [1] then φi t else none) owi w (R.init (coeT (congrArg Ty.sl rfl) l, x) fn.ntmps) { tmps := vs ++ Array.replicate (fn.ntmps - vs.size) undef, defers := [] } w := by
    refine ⟨φi, owi, ?_, rfl, ?_, ?_, ?_, ?_, ?_, ?_⟩
    · show (vs ++ Array.replicate (fn.ntmps - vs.size) undef).size = fn.ntmps
      simp
      omega
    · intro t
      have := envOf_holds t hA1
      have e : (vs ++ Array.replicate (fn.ntmps - vs.size) undef).getD t undef = vs.toList.getD t undef := by
        simp only [Array.getD_eq_getD_getElem?, List.getD_eq_getElem?_getD, Array.getElem?_toList]
        rcases Nat.lt_or_ge t vs.size with h | h
        · rw [Array.getElem?_append_left h]
        · rw [Array.getElem?_append_right h, Array.getElem?_eq_none h, Array.getElem?_replicate]
          split <;> rfl
      rw [e]
      exact this
    · intro i
      show cH φi owi w i (lookCh _ i .none)
      rcases lookCh_spec ((1, Chunk.arr R.e R.T l) :: R.rest.heap 16 x) i .none with ⟨ch, h1, h2⟩ | h1
      · rw [show lookCh ((1, Chunk.arr R.e R.T (coeT (congrArg Ty.sl rfl) l)) :: R.rest.heap 16 x) i .none = ch from h2]
        rcases List.mem_cons.1 h1 with h1 | h1
        · injection h1 with e1 e2
          subst e1; subst e2
          exact ⟨_, if_pos rfl, hrow1⟩
        · exact A2 i ch h1
      · rw [show lookCh ((1, Chunk.arr R.e R.T (coeT (congrArg Ty.sl rfl) l)) :: R.rest.heap 16 x) i .none = .none from h1]; trivial
    · intro i hi
      change 64 ≤ i at hi
      show (if i = 1 then _ else hva i) = none
      rw [if_neg (by omega)]
      cases h : hva i with
      | none => rfl
      | some v => have := a3 i v h; omega
    · intro c i hc
      change (match ow c with | Option.none => Option.none | some i => if i = id then some 1 else some 0) = some i at hc
      show c < w.heap.size ∧ i < 64
      cases hoc : ow c with
      | none => rw [hoc] at hc; cases hc
      | some j =>
        refine ⟨(H.own c j hoc).1, ?_⟩
        rw [hoc] at hc
        simp only at hc
        split at hc <;> (injection hc with hc; omega)
    · show 0 < 64
      omega
    · refine ⟨Nat.le_refl _, rfl, rfl, rfl, fun b _ _ => ⟨rfl, rfl⟩, fun b hb => ⟨?_, hb⟩, fun i v h => ?_⟩
      · change (match ow b with | Option.none => Option.none | some i => if i = id then some 1 else some 0) = some 0 at hb
        cases hoc : ow b with
        | none => rw [hoc] at hb; cases hb
        | some i => exact (H.own b i hoc).1
      · split at h
        · exact h
        · cases h
  refine calls_of_wp hf hbody ?_
  let G : R.oty.den → Act → World → Prop := fun y a w' => a.defers = [] ∧ ∃ v, (results fn a.tmps).run C.P w' = .ok v w' ∧ ∃ v', Ending.returned v = .returned v' ∧
      Post ⟨[], .tup .nil, [(id, .arr R.e R.T y)]⟩ nx φ ow w v' w'
  have hR : InR (R.kont fn) := by
    intro Y inj z e st' D' h
    cases e with
    | normal =>
      simp only [RSig.kont] at h
      split at h
      · injection h with h; exact ⟨_, h.symm⟩
      · cases h
    | ret =>
      simp only [RSig.kont] at h
      split at h
      · injection h with h; exact ⟨_, h.symm⟩
      · cases h
    | _ => cases h
  have final : KOk [] (fun t => if t ∈ [1] then φi t else none) owi w (R.init (coeT (congrArg Ty.sl rfl) l, x) fn.ntmps) (R.kont fn) (fun y e a w' => match e with
    | .normal | .ret => G y a w'
    | _ => False) := by
    clear hv hmy
    intro Y inj hinj y e st' D' hpost hfrm a' w' hs'
    have key : fn.results.toList = [] → rowD R.e R.T (st'.heap 1) = some y → G y a' w' := by
      intro hres hrd
      obtain ⟨φE, owE, hsz', hdf, henv, hheap, hfresh, hown, hnx, hfr⟩ := hs'
      have hc1 := hheap 1
      rw [rowD_some hrd] at hc1
      obtain ⟨vE, hφE, hrowE⟩ := hc1
      have hφ1 : φE 1 = some (.slice A0 n0 c0) := hfr.phi 1 _ (by simp [φi])
      rw [hφ1] at hφE
      injection hφE with hφE
      subst hφE
      have hres' : fn.results = #[] := by rw [← Array.toArray_toList (xs := fn.results), hres]
      have hsz2 := hfr.size
      let ow' : Own := fun c => if c < w.heap.size then ow c else Option.none
      have E : Ext [id] nx φ ow w φ ow' w' := by
        refine ⟨hfr.size, hfr.os, hfr.tape, hfr.output, fun b hb hno => ⟨if_pos hb, ?_⟩, fun b i hbi => ?_, PhiLe.refl _, fun i _ => rfl⟩
        · refine (hfr.blk b hb ?_).2
          show (match ow b with | Option.none => Option.none | some i => if i = id then some 1 else some 0) = Option.none ∨ (match ow b with | Option.none => Option.none | some i => if i = id then some 1 else some 0) = some 0
          cases hoc : ow b with
          | none => exact .inl rfl
          | some i =>
            right
            simp only
            rw [if_neg]
            intro e
            subst e
            exact hno i hoc (by simp)
        · change (if b < w.heap.size then ow b else Option.none) = some i at hbi
          split at hbi
          · rename_i hb
            exact ⟨by omega, .inr ⟨hb, hbi⟩⟩
          · cases hbi
      refine ⟨hdf, .tuple #[], ?_, _, rfl, φ, ow', E, ⟨#[], rfl, rfl⟩, ?_⟩
      · simp [results, hres']
      · intro q hq
        simp only [List.mem_singleton] at hq
        subst hq
        obtain ⟨xs, r1, r2, r3, r4⟩ := hrowE
        obtain ⟨xs0, q1, q2, _, _⟩ := hrow
        refine ⟨_, hφ, xs, r1, fun g hg => ?_, r3, Rows.mono (fun cs x => flat_rep hflat) r4⟩
        have := q2 g hg
        show (if g < w.heap.size then ow g else Option.none) = some id
        rw [if_pos (H.own g id this).1]
        exact this
    cases e with
    | normal =>
      simp only [RSig.kont] at hpost
      split at hpost
      · rename_i y' h1 h2
        injection hpost with hpost
        have := hinj hpost
        subst this
        exact key h1 h2
      · cases hpost
    | ret =>
      simp only [RSig.kont] at hpost
      split at hpost
      · rename_i y' h1 h2
        injection hpost with hpost
        have := hinj hpost
        subst this
        exact key h1 h2
      · cases hpost
    | _ => cases hpost
  have fin2 : c.wp C.P (fun e a w' => match e with
    | .normal | .ret => G y a w'
    | _ => False) { tmps := vs ++ Array.replicate (fn.ntmps - vs.size) undef, defers := [] } w :=
    exCode_ok (C := { C with fix := [1] }) hS hm (fun t h => if_neg h) c (fun a b h => h) hv (Frm.refl _ _) hR final hsat
  exact wp_mono fin2 (fun e a' w' hq => by cases e <;> first | exact hq | exact hq.elim)

/-- One function more. -/
theorem row_fn_ok {P : Program} {S0 : FuncId → Summ} (h : ∀ g, SummOK P g (S0 g)) (hm : P.follows .mixedOrders = true) {f : FuncId} {fn : Func} (hf : P.funcs[f]? = some fn) (hb : fn.body.isNone = false) (hn : (fn.name == "runtime.NumGoroutine") = false)
    {R : RSig} (hc : Nat.ble (R.rest.count + 1) fn.ntmps = true) {md : Md} {L : Nat → Option LoopS} {J : Nat → Option Shape} {m : R.aty.den → Option R.oty.den} (he : ∀ x, (R.prog (mkC P S0 md L J) fn x).run = m x) : ∀ g, SummOK P g (addS S0 f (R.summ m) g) :=
  addS_ok h (row_ok (C := mkC P S0 md L J) h hm hf (call_of hf hb hn) (Nat.le_of_ble_eq_true hc) fun x y hy => (he x).trans hy)

end GoSx
end
section
/- Sy, part 8: rows that come back shorter: slices.Compact and slices.Delete, by the shelf's contracts. -/
set_option linter.unusedVariables false
set_option linter.unusedSimpArgs false
namespace GoSx
open Go Go.Proofs

/-- Of equal neighbours one stays. -/
def dedup : List Int → List Int
  | [] => []
  | [x] => [x]
  | x :: y :: r => if x = y then dedup (y :: r) else x :: dedup (y :: r)
def compactM (l : List Int) : Option (List Int) := some (dedup l)
def deleteM (l : List Int) (i j : Int) : Option (List Int) := some (l.take i.toNat ++ l.drop j.toNat)

theorem dedup_le : ∀ l : List Int, (dedup l).length ≤ l.length
  | [] => Nat.le_refl _
  | [x] => Nat.le_refl _
  | x :: y :: r => by
    unfold dedup
    split
    · exact Nat.le_trans (dedup_le (y :: r)) (by simp)
    · simp only [List.length_cons]
      have := dedup_le (y :: r)
      simp only [List.length_cons] at this
      omega
theorem dedup_mem : ∀ {l : List Int} {x : Int}, x ∈ dedup l → x ∈ l
  | [], _, h => h
  | [x], _, h => h
  | x :: y :: r, z, h => by
    unfold dedup at h
    split at h
    · exact List.mem_cons_of_mem _ (dedup_mem h)
    · rcases List.mem_cons.1 h with h | h
      · exact h ▸ List.mem_cons_self ..
      · exact List.mem_cons_of_mem _ (dedup_mem h)

/-- What the shelf says of Compact is this. -/
theorem keeps_cons (x : Int) (l : List Int) (j : Nat) (hj : 0 < j) : Go.Lib.keeps (x :: l).toArray (j + 1) = Go.Lib.keeps l.toArray j := by
  unfold Go.Lib.keeps
  have e1 : (x :: l).toArray[j + 1]! = l.toArray[j]! := by simp
  have e2 : (x :: l).toArray[j + 1 - 1]! = l.toArray[j - 1]! := by
    obtain ⟨k, rfl⟩ : ∃ k, j = k + 1 := ⟨j - 1, by omega⟩
    simp
  rw [e1, e2]
  have hj0 : j ≠ 0 := by omega
  simp [hj0]
theorem compact_dedup : ∀ l : List Int, Go.Lib.compact l = dedup l
  | [] => rfl
  | [x] => by simp [Go.Lib.compact, Go.Lib.compactUpTo, dedup, Go.Lib.keeps, List.range_succ_eq_map]
  | x :: y :: r => by
    have ih := compact_dedup (y :: r)
    unfold Go.Lib.compact Go.Lib.compactUpTo at ih ⊢
    unfold dedup
    rw [← ih]
    have hr : List.range (x :: y :: r).length = 0 :: 1 :: (List.range r.length).map (fun i => i + 1 + 1) := by
      rw [List.length_cons, List.length_cons, List.range_succ_eq_map, List.range_succ_eq_map, List.map_cons, List.map_map]
      rfl
    have hr1 : List.range (y :: r).length = 0 :: (List.range r.length).map (fun i => i + 1) := by
      rw [List.length_cons, List.range_succ_eq_map]
    have k0 : Go.Lib.keeps (x :: y :: r).toArray 0 = true := Go.Lib.keeps_lt_one _ 0 (by omega)
    have k0' : Go.Lib.keeps (y :: r).toArray 0 = true := Go.Lib.keeps_lt_one _ 0 (by omega)
    have k1 : Go.Lib.keeps (x :: y :: r).toArray 1 = decide (y ≠ x) := by simp [Go.Lib.keeps]
    have htail : (((List.range r.length).map (fun i => i + 1 + 1)).filter (Go.Lib.keeps (x :: y :: r).toArray)).map ((x :: y :: r).toArray[·]!) = (((List.range r.length).map (fun i => i + 1)).filter (Go.Lib.keeps (y :: r).toArray)).map ((y :: r).toArray[·]!) := by
      rw [List.filter_map, List.filter_map, List.map_map, List.map_map]
      have : (Go.Lib.keeps (x :: y :: r).toArray ∘ fun i => i + 1 + 1) = (Go.Lib.keeps (y :: r).toArray ∘ fun i => i + 1) := by
        funext i
        exact keeps_cons x (y :: r) (i + 1) (by omega)
      rw [this]
      apply List.map_congr_left
      intro a _
      simp only [Function.comp]
      simp
    rw [hr, hr1]
    rw [List.filter_cons, k0, List.filter_cons, k1, List.filter_cons, k0']
    simp only [if_true, List.map_cons]
    by_cases hxy : x = y
    · subst hxy
      simp only [ne_eq, not_true_eq_false, decide_false, if_true, Bool.false_eq_true, if_false]
      rw [htail]
      simp
    · have hyx : ¬ y = x := fun e => hxy e.symm
      simp only [ne_eq, hyx, not_false_eq_true, decide_true, if_true, hxy, if_false, List.map_cons]
      rw [htail]
      simp

/-- A row of numbers in cells. -/
theorem rows_ints {ow : Own} {w : World} : ∀ {l : List Int} {xs : List Value}, Rows (Ty.rep ow w int) xs l → xs = l.map (Value.int .i64) ∧ ∀ x ∈ l, IntKind.i64.has x
  | [], xs, h => ⟨h, fun x hx => by cases hx⟩
  | a :: l, xs, h => by
    obtain ⟨c, r, rfl, ⟨rfl, h1⟩, h2⟩ := h
    obtain ⟨rfl, h3⟩ := rows_ints h2
    exact ⟨rfl, fun x hx => (List.mem_cons.1 hx).elim (fun e => e ▸ h1) (h3 x)⟩
theorem ints_rows {ow : Own} {w : World} : ∀ {l : List Int}, (∀ x ∈ l, IntKind.i64.has x) → Rows (Ty.rep ow w int) (l.map (Value.int .i64)) l
  | [], _ => rfl
  | a :: l, h => ⟨[.int .i64 a], _, rfl, ⟨rfl, h a (List.mem_cons_self ..)⟩, ints_rows fun x hx => h x (List.mem_cons_of_mem _ hx)⟩

theorem holds_own {w : World} {g c : Nat} {cur : Array Value} {e : TypeId} {l : List Int} (hg : w.heap[g]? = some (.cells cur e (0, 0))) (ht : cur.toList.take l.length = l.map (Value.int .i64)) : Go.Sort.Holds (Value.int .i64) w g 0 l.toArray := by
  intro j hj
  have hj' : j < l.length := by simpa using hj
  have hc : cur[j]? = some (.int .i64 l[j]) := by
    rw [← Array.getElem?_toList, ← List.getElem?_take_of_lt hj', ht, List.getElem?_map, List.getElem?_eq_getElem hj']
    rfl
  refine ⟨?_, ?_⟩
  · unfold World.cell?
    rw [hg]
    simp [hc, hj']
  · unfold World.frozen?
    rw [hg]
    simp

theorem cut_post {hp : Nat → Chunk} {nx : Nat} {φ : Hnd} {ow : Own} {w : World} (H : Hyp hp nx φ ow w) {id g c q : Nat} {e : TypeId} {l l' z : List Int} {cur : Array Value} (hφ : φ id = some (.slice (some ⟨g, 0, none⟩) l.length c)) (how : ow g = some id)
    (hg : w.heap[g]? = some (.cells cur e (0, 0))) (hcap : l.length ≤ c) (hmax : c ≤ maxLen) (hsz : cur.size = c * 1) (ht : cur.toList.take l.length = l.map (Value.int .i64)) (hlim : l.length ≤ lim) (hl : l'.length + z.length = l.length) (hin : ∀ x ∈ l', IntKind.i64.has x) :
    Post ⟨[], .arr nx, [(nx, .arr e int l'), (id, .none)]⟩ nx φ ow w (.slice (some ⟨g, 0, none⟩) l'.length c) (Go.Sort.putRow (Value.int .i64) (Go.Sort.ahead w q) g 0 (l' ++ z).toArray) := by
  have hne : id ≠ nx := by
    intro e
    rw [e, H.fresh nx (Nat.le_refl _) (by omega)] at hφ
    cases hφ
  have hheap : ∀ b, b ≠ g → (Go.Sort.putRow (Value.int .i64) (Go.Sort.ahead w q) g 0 (l' ++ z).toArray).heap[b]? = w.heap[b]? := by
    intro b hb
    show (w.heap.modify g _)[b]? = _
    rw [Array.getElem?_modify, if_neg (fun e => hb e.symm)]
  have hgg : (Go.Sort.putRow (Value.int .i64) (Go.Sort.ahead w q) g 0 (l' ++ z).toArray).heap[g]? = some (.cells (Go.Sort.putCells (Value.int .i64) 0 (l' ++ z).toArray cur) e (0, 0)) := by
    show (w.heap.modify g _)[g]? = _
    rw [Array.getElem?_modify, if_pos rfl, hg]
    rfl
  have hsize : (Go.Sort.putRow (Value.int .i64) (Go.Sort.ahead w q) g 0 (l' ++ z).toArray).heap.size = w.heap.size := by
    show (w.heap.modify g _).size = _
    exact Array.size_modify
  have hgs : g < w.heap.size := (H.own g id how).1
  let φ' : Hnd := fun t => if t = nx then some (.slice (some ⟨g, 0, none⟩) l'.length c) else φ t
  let ow' : Own := fun b => if ow b = some id then some nx else ow b
  refine ⟨φ', ow', ⟨?_, rfl, rfl, rfl, ?_, ?_, ?_, ?_⟩, ?_, ?_⟩
  · rw [hsize]; exact Nat.le_refl _
  · intro b hb hno
    have hbi : ow b ≠ some id := fun e => hno id e (by simp [ids])
    refine ⟨if_neg hbi, hheap b fun e => hbi (by rw [e]; exact how)⟩
  · intro b i hbi
    change (if ow b = some id then some nx else ow b) = some i at hbi
    rw [hsize]
    split at hbi
    · rename_i h1
      injection hbi with hbi
      exact ⟨(H.own b id h1).1, .inl (.inl (by simp [ids, hbi]))⟩
    · exact ⟨(H.own b i hbi).1, .inr ⟨(H.own b i hbi).1, hbi⟩⟩
  · intro t v hv
    show (if t = nx then _ else φ t) = some v
    rw [if_neg]
    · exact hv
    · intro e
      rw [e, H.fresh nx (Nat.le_refl _) (by omega)] at hv
      cases hv
  · intro t ht
    show (if t = nx then _ else φ t) = φ t
    rw [if_neg]
    omega
  · exact ⟨_, _, _, if_pos rfl, rfl⟩
  · intro p hp
    simp only [List.mem_cons, List.not_mem_nil, or_false] at hp
    rcases hp with rfl | rfl
    · refine ⟨_, if_pos rfl, l'.map (Value.int .i64), ⟨?_, .inr ⟨g, c, _, rfl, Nat.zero_le _, hgg, by omega, hmax, ?_, ?_⟩⟩, ?_, by omega, ints_rows hin⟩
      · simp [Ty.size]
      · simp only [Go.Sort.putCells, Array.size_mapIdx]; exact hsz
      · apply List.ext_getElem?
        intro j
        have hs1 : int.size = 1 := rfl
        rw [hs1, Nat.mul_one]
        by_cases hj : j < l'.length
        · rw [List.getElem?_take_of_lt hj, Array.getElem?_toList]
          have hjc : j < cur.size := by omega
          simp only [Go.Sort.putCells, Array.getElem?_mapIdx, Array.getElem?_eq_getElem hjc, Option.map_some]
          rw [if_pos ⟨Nat.zero_le _, by simp; omega⟩]
          simp [hj, List.getElem?_append_left]
        · rw [List.getElem?_eq_none (by simp; omega), List.getElem?_eq_none (by simp; omega)]
      · intro g' hg'
        injection hg' with hg'
        subst hg'
        show (if ow g = some id then some nx else ow g) = some nx
        rw [if_pos how]
    · trivial

/-- An empty row of no block. -/
theorem nil_post {hp : Nat → Chunk} {nx : Nat} {φ : Hnd} {ow : Own} {w : World} (H : Hyp hp nx φ ow w) {id : Nat} {e : TypeId} (hφ : φ id = some (.slice none 0 0)) :
    Post ⟨[], .arr nx, [(nx, .arr e int []), (id, .none)]⟩ nx φ ow w (.slice none 0 0) w := by
  let φ' : Hnd := fun t => if t = nx then some (.slice none 0 0) else φ t
  refine ⟨φ', ow, ⟨Nat.le_refl _, rfl, rfl, rfl, fun b hb hno => ⟨rfl, rfl⟩, fun b i hbi => ⟨(H.own b i hbi).1, .inr ⟨(H.own b i hbi).1, hbi⟩⟩, ?_, ?_⟩, ⟨_, _, _, if_pos rfl, rfl⟩, ?_⟩
  · intro t v hv
    show (if t = nx then _ else φ t) = some v
    rw [if_neg]
    · exact hv
    · intro e
      rw [e, H.fresh nx (Nat.le_refl _) (by omega)] at hv
      cases hv
  · intro t ht
    show (if t = nx then _ else φ t) = φ t
    rw [if_neg]
    omega
  · intro p hp
    simp only [List.mem_cons, List.not_mem_nil, or_false] at hp
    rcases hp with rfl | rfl
    · exact ⟨_, if_pos rfl, [], ⟨rfl, .inl ⟨rfl, rfl⟩⟩, (fun g' hg' => by cases hg'), Nat.zero_le _, rfl⟩
    · trivial

def compactS (e : TypeId) : Summ := fun av nx => match av with
  | .cons (.arr id) .nil => .look id fun
    | .arr e' T l => if h : T = int then (if e' = e then .call (compactM (coeT (congrArg Ty.sl h) l)) fun y => .out ⟨[], .arr nx, [(nx, .arr e int y), (id, .none)]⟩ else .fail) else .fail
    | _ => .fail
  | _ => .fail

theorem compactS_ok {P : Program} {ρ : Go.Shelf.Ren} (L : Lays2.n20 P ρ) {e : TypeId} {f : FuncId} (hf : ρ.f 20 = f) (hcall : ∀ vs w, (callFunc f vs).run P w = .ok (.enter f vs) w) : SummOK P f (compactS e) := by
  subst hf
  intro av nx hp out φ ow w vs H hav hr hobl
  refine ⟨hcall vs w, ?_⟩
  unfold compactS at hr
  split at hr <;> try (simp [Req.run] at hr; done)
  rename_i id
  simp only [Req.run] at hr
  split at hr <;> try (simp [Req.run] at hr; done)
  rename_i e' T l hch
  split at hr <;> try (simp [Req.run] at hr; done)
  rename_i hT
  subst hT
  split at hr <;> try (simp [Req.run] at hr; done)
  rename_i he
  subst he
  simp only [Req.run, compactM, Option.some.injEq, coeT_rfl] at hr
  subst hr
  obtain ⟨v0, rest, hvs, ⟨A0, n0, c0, hφ, hv0⟩, hrest⟩ := hav
  injection hv0 with hv0 _
  subst hv0
  have hrest' : rest = [] := hrest
  subst hrest'
  have hcH := H.chunk id
  rw [hch] at hcH
  obtain ⟨v1, hφ1, xs, hown, howb, hlim, hrows⟩ := hcH
  rw [hφ] at hφ1
  injection hφ1 with hφ1
  subst hφ1
  obtain ⟨rfl, hin⟩ := rows_ints hrows
  have hvs' : vs = #[.slice A0 n0 c0] := by rw [← Array.toArray_toList (xs := vs), hvs]
  subst hvs'
  rcases hown.2 with ⟨h1, h2⟩ | ⟨g, cap, cur, h1, _, hg, hcap, hmax, hsz, ht⟩
  · injection h1 with ha hn hc
    subst ha; subst hn; subst hc
    have hl : l = [] := List.length_eq_zero_iff.1 h2
    subst hl
    refine (Any.slices_Compact_int_empty L none 0 w).mono ?_
    rintro e w' ⟨rfl, rfl⟩
    exact ⟨_, rfl, nil_post H hφ⟩
  · injection h1 with ha hn hc
    subst ha; subst hn; subst hc
    have hs1 : int.size = 1 := rfl
    rw [hs1, Nat.mul_one] at ht
    have hH := holds_own (c := c0) hg ht
    have hlim2 : l.length ≤ 9223372036854775807 := Nat.le_trans hlim (by decide)
    refine (Any.slices_Compact_int L g 0 c0 l w hH hlim2 hcap).mono ?_
    rintro e w' ⟨rfl, q, rfl⟩
    rw [compact_dedup]
    refine ⟨_, rfl, cut_post H hφ (howb g rfl) hg hcap hmax hsz ht hlim ?_ fun x hx => hin x (dedup_mem hx)⟩
    have := dedup_le l
    simp
    omega

/-- A function that is told by the closure that it is given second. -/
def hasClo (g : FuncId) : AV → Bool
  | .cons _ (.cons (.fn f _) _) => Nat.beq f g
  | _ => false
def altS (g : FuncId) (A B : Summ) : Summ := fun av nx => bif hasClo g av then A av nx else B av nx
theorem altS_ok {P : Program} {f g : FuncId} {A B : Summ} (hA : SummOK P f A) (hB : SummOK P f B) : SummOK P f (altS g A B) := by
  intro av nx hp out φ ow w vs H hav hr hobl
  unfold altS at hr
  cases h : hasClo g av with
  | true => rw [h] at hr; exact hA av nx hp out φ ow w vs H hav hr hobl
  | false => rw [h] at hr; exact hB av nx hp out φ ow w vs H hav hr hobl

def deleteS (e : TypeId) : Summ := fun av nx => match av with
  | .cons (.arr id) (.cons (.dat (.int .i64) i) (.cons (.dat (.int .i64) j) .nil)) => .look id fun
    | .arr e' T l => if h : T = int then (if e' = e then .call (deleteM (coeT (congrArg Ty.sl h) l) i j) fun y => .out ⟨[0 ≤ i, i ≤ j, j ≤ nI (coeT (congrArg Ty.sl h) l).length, 0 < nI (coeT (congrArg Ty.sl h) l).length], .arr nx, [(nx, .arr e int y), (id, .none)]⟩ else .fail) else .fail
    | _ => .fail
  | _ => .fail

theorem delete_post {P : Program} {ρ : Go.Shelf.Ren} (L : Lays2.n23 P ρ) {hp : Nat → Chunk} {nx : Nat} {φ : Hnd} {ow : Own} {w : World} (H : Hyp hp nx φ ow w) {id n0 c0 : Nat} {A0 : Option Addr} {e : TypeId} {l : List Int} (hφ : φ id = some (.slice A0 n0 c0)) (hrow : rowH ow w id (.slice A0 n0 c0) e int l) {i j : Int}
    (h0i : 0 ≤ i) (hij : i ≤ j) (hjl : j ≤ (l.length : Int)) (hl0 : (0 : Int) < (l.length : Int)) :
    Calls P (ρ.f 23) #[.slice A0 n0 c0, .int .i64 i, .int .i64 j] w (fun r w' => ∃ v, r = .returned v ∧ Post ⟨[], .arr nx, [(nx, .arr e int (l.take i.toNat ++ l.drop j.toNat)), (id, .none)]⟩ nx φ ow w v w') := by
  obtain ⟨xs, hown, howb, hlim, hrows⟩ := hrow
  obtain ⟨rfl, hin⟩ := rows_ints hrows
  rcases hown.2 with ⟨h1, h2⟩ | ⟨g, cap, cur, h1, _, hg, hcap, hmax, hsz, ht⟩
  · have h2' : (l.length : Int) = 0 := by exact_mod_cast h2
    omega
  · injection h1 with ha hn hc
    subst ha; subst hn; subst hc
    have hs1 : int.size = 1 := rfl
    rw [hs1, Nat.mul_one] at ht
    have hH := holds_own (c := c0) hg ht
    have hmax2 : c0 ≤ 9223372036854775807 := Nat.le_trans hmax (by decide)
    have e1 : i = ((i.toNat : Nat) : Int) := (Int.toNat_of_nonneg h0i).symm
    have e2 : j = ((j.toNat : Nat) : Int) := (Int.toNat_of_nonneg (by omega)).symm
    have hc := Any.slices_Delete_int L g 0 c0 i.toNat j.toNat l w hH hcap hmax2 (by omega) (by omega)
    rw [← e1, ← e2] at hc
    refine hc.mono ?_
    rintro e w' ⟨rfl, q, rfl⟩
    have hlen : (l.take i.toNat ++ l.drop j.toNat).length = l.length - (j.toNat - i.toNat) := by simp; omega
    rw [← hlen]
    refine ⟨_, rfl, cut_post H hφ (howb g rfl) hg hcap hmax hsz ht hlim ?_ fun x hx => hin x ?_⟩
    · rw [hlen, List.length_replicate]
      omega
    · rcases List.mem_append.1 hx with h | h
      · exact List.mem_of_mem_take h
      · exact List.mem_of_mem_drop h

theorem deleteS_ok {P : Program} {ρ : Go.Shelf.Ren} (L : Lays2.n23 P ρ) {e : TypeId} {f : FuncId} (hf : ρ.f 23 = f) (hcall : ∀ vs w, (callFunc f vs).run P w = .ok (.enter f vs) w) : SummOK P f (deleteS e) := by
  subst hf
  intro av nx hp out φ ow w vs H hav hr hobl
  refine ⟨hcall vs w, ?_⟩
  unfold deleteS at hr
  split at hr <;> try (simp [Req.run] at hr; done)
  rename_i id i j
  simp only [Req.run] at hr
  split at hr <;> try (simp [Req.run] at hr; done)
  rename_i e' T l hch
  split at hr <;> try (simp [Req.run] at hr; done)
  rename_i hT
  subst hT
  split at hr <;> try (simp [Req.run] at hr; done)
  rename_i he
  subst he
  simp only [Req.run, deleteM, Option.some.injEq, coeT_rfl] at hr
  subst hr
  have h0i : 0 ≤ i := hobl _ (by simp)
  have hij : i ≤ j := hobl _ (by simp)
  have hjl : j ≤ (l.length : Int) := hobl _ (by simp [nI])
  have hl0 : (0 : Int) < (l.length : Int) := hobl _ (by simp [nI])
  obtain ⟨v0, rest, hvs, ⟨A0, n0, c0, hφ, hv0⟩, v1, rest1, hr1, hi, v2, rest2, hr2, hj, hrest⟩ := hav
  injection hv0 with hv0 _
  subst hv0
  have hrest' : rest2 = [] := hrest
  obtain ⟨_, _, hi1, _⟩ := hi
  obtain ⟨_, _, hj1, _⟩ := hj
  injection hi1 with hi1 _
  injection hj1 with hj1 _
  subst hi1; subst hj1; subst hrest'; subst hr2; subst hr1
  have hcH := H.chunk id
  rw [hch] at hcH
  obtain ⟨v1, hφ1, hrow⟩ := hcH
  rw [hφ] at hφ1
  injection hφ1 with hφ1
  subst hφ1
  have hvs' : vs = #[.slice A0 n0 c0, .int .i64 i, .int .i64 j] := by rw [← Array.toArray_toList (xs := vs), hvs]
  subst hvs'
  exact delete_post L H hφ hrow h0i hij hjl hl0

end GoSx
end
section
/- Sz, part A: a function that takes a number into a map and sends it over a channel. -/
set_option linter.unusedVariables false
set_option linter.unusedSimpArgs false
namespace GoSx
open Go

abbrev nodeT : Ty := .pair int (.pair int (.pair int (.pair int (.pair int (.pair int (.pair int .unit))))))
abbrev pinT : Ty := .pair .str (.pair int .unit)
abbrev propT : Ty := .pair int (.pair .str (.pair int .unit))

/-- What it takes, and what it answers. -/
def takeM (L : List (Int × Bool)) (cap n x : Int) : Option (Bool × List (Int × Bool) × Int) :=
  gd (inK .i64 (-x)) <| bif @mapGet _ _ (Ty.int .i64).eqD false L (-x) then some (false, L, n) else bif @mapGet _ _ (Ty.int .i64).eqD false L x then some (true, L, n) else
    gd (n < cap) <| gd (L.length < lim) <| some (true, @mapSet _ _ (Ty.int .i64).eqD true L x, n + 1)

def takeS : Summ := fun av _ => match av with
  | .cons (.ref o 0) (.cons (.dat T x) .nil) => if hT : T = .int .i64 then .look o fun
    | .box _ (.cons _ (.cons _ (.cons (.mapv m) (.cons (.chv c) .nil)))) => bif Nat.beq m c then .fail else .look m fun
      | .mp K V L => if hK : K = .int .i64 then (if hV : V = .bool then .look c fun
        | .ch cap n => .call (takeM (coeM hK hV L) cap n (coeT hT x)) fun y => .out ⟨[], .dat .bool y.1, [(m, .mp (.int .i64) .bool y.2.1), (c, .ch cap y.2.2)]⟩
        | _ => .fail else .fail) else .fail
      | _ => .fail
    | _ => .fail else .fail
  | _ => .fail

theorem wrap_of_has {n : Int} (h : inK .i64 n) : IntKind.i64.wrap n = n := by
  obtain ⟨h1, h2⟩ := (show _ from h)
  revert h1 h2
  unfold IntKind.wrap IntKind.min IntKind.max
  simp only [IntKind.signed, IntKind.bits]
  simp
  intro h1 h2
  (try split) <;> omega

/-- The walks of the three ways through it. -/
structure TakeW (P : Program) (f : FuncId) (t : TypeId) : Prop where
  no : ∀ (g gm : Nat) (x : Int) (w : World), w.cell? ⟨g, 2, none⟩ = some (.map (some gm)) → (Instr.lookup t (.map (some gm)) (.int .i64 (IntKind.i64.wrap (-x))) false).run P w = .ok (.bool true) w →
    Calls P f #[.pointer (some ⟨g, 0, none⟩), .int .i64 x] w (fun e w' => ∃ v, e = .returned v ∧ v = .bool false ∧ w' = w)
  yes : ∀ (g gm : Nat) (x : Int) (w : World), w.cell? ⟨g, 2, none⟩ = some (.map (some gm)) → (Instr.lookup t (.map (some gm)) (.int .i64 (IntKind.i64.wrap (-x))) false).run P w = .ok (.bool false) w →
    (Instr.lookup t (.map (some gm)) (.int .i64 x) false).run P w = .ok (.bool true) w →
    Calls P f #[.pointer (some ⟨g, 0, none⟩), .int .i64 x] w (fun e w' => ∃ v, e = .returned v ∧ v = .bool true ∧ w' = w)
  new : ∀ (g gm gc : Nat) (x : Int) (w w1 : World), w.cell? ⟨g, 2, none⟩ = some (.map (some gm)) → (Instr.lookup t (.map (some gm)) (.int .i64 (IntKind.i64.wrap (-x))) false).run P w = .ok (.bool false) w →
    (Instr.lookup t (.map (some gm)) (.int .i64 x) false).run P w = .ok (.bool false) w → (Instr.mapUpdate t (.map (some gm)) (.int .i64 x) (.bool true)).run P w = .ok () w1 → w1.cell? ⟨g, 3, none⟩ = some (.chan (some gc)) →
    ∀ (cap s r : Nat) (buf : Array Value) (tm : Bool), w1.heap[gc]? = some (.chan cap buf false s r tm) → buf.size < cap →
    Calls P f #[.pointer (some ⟨g, 0, none⟩), .int .i64 x] w (fun e w' => ∃ v, e = .returned v ∧ v = .bool true ∧ w' = w1.setChan gc cap (buf.push (.int .i64 x)) false (s + 1) r tm)

theorem takeS_ok {P : Program} {f : FuncId} {t : TypeId} (W : TakeW P f t) (hk : mapKinds P t = some (.int .i64, .bool)) (hcall : ∀ vs w, (callFunc f vs).run P w = .ok (.enter f vs) w) : SummOK P f takeS := by
  intro av nx hp out φ ow w vs H hav hr hobl
  refine ⟨hcall vs w, ?_⟩
  unfold takeS at hr
  split at hr <;> try (simp [Req.run] at hr; done)
  rename_i o T x
  split at hr <;> try (simp [Req.run] at hr; done)
  rename_i hT
  subst hT
  simp only [Req.run] at hr
  have hco := H.chunk o
  split at hr <;> try (simp [Req.run] at hr; done)
  rename_i e a1 a2 m c ho
  rw [ho] at hco
  cases hmc : Nat.beq m c with
  | true => rw [hmc] at hr; simp [Req.run] at hr
  | false =>
  rw [hmc, cond_false] at hr
  have hne : m ≠ c := fun h => by subst h; rw [Nat.beq_refl] at hmc; cases hmc
  simp only [Req.run] at hr
  have hcm := H.chunk m
  split at hr <;> try (simp [Req.run] at hr; done)
  rename_i K V L hm
  rw [hm] at hcm
  split at hr <;> try (simp [Req.run] at hr; done)
  rename_i hK
  subst hK
  split at hr <;> try (simp [Req.run] at hr; done)
  rename_i hV
  subst hV
  simp only [Req.run] at hr
  have hcc := H.chunk c
  split at hr <;> try (simp [Req.run] at hr; done)
  rename_i cap n hc
  rw [hc] at hcc
  try simp only [Req.run] at hr
  have hcoeM : (coeM rfl rfl L : List ((Ty.int .i64).den × Ty.bool.den)) = L := rfl
  have hr2 : (Req.call (takeM L cap n x) fun y => Req.out ⟨[], .dat .bool y.1, [(m, .mp (.int .i64) .bool y.2.1), (c, .ch cap y.2.2)]⟩).run hp = some out := hr
  cases hy : takeM L cap n x with
  | none => rw [hy] at hr2; simp [Req.run] at hr2
  | some y =>
  rw [hy] at hr2
  simp only [Req.run, Option.some.injEq] at hr2
  subst hr2
  -- the values
  obtain ⟨v0, rest, hvs, ⟨g, hφo, hv0⟩, v1, rest1, hr1, ⟨_, _, hx⟩, hrest⟩ := hav
  injection hv0 with hv0 _
  have hr1' : rest1 = [] := hrest
  subst hr1'
  obtain ⟨hv1, hxin⟩ : v1 = .int .i64 x ∧ IntKind.i64.has x := by
    obtain ⟨h1, h2⟩ := hx
    injection h1 with h1
    exact ⟨h1, h2⟩
  subst hv0; subst hv1; subst hr1
  have hvs' : vs = #[.pointer (some ⟨g, 0, none⟩), .int .i64 x] := by rw [← Array.toArray_toList (xs := vs), hvs]
  subst hvs'
  obtain ⟨g', cs, hφ', hog, hg, hcells⟩ := hco
  rw [hφo] at hφ'
  injection hφ' with hφ'; injection hφ' with hφ'; injection hφ' with hφ'; injection hφ' with hφ' _ _
  subst hφ'
  obtain ⟨u0, r0, e0, _, u1, r1, e1, _, u2, r2, e2, ⟨gm, hφm, hu2⟩, u3, r3, e3, ⟨gc, hφc, hu3⟩, e4⟩ := hcells
  injection hu2 with hu2 _
  injection hu3 with hu3 _
  have e4' : r3 = [] := e4
  subst e4'; subst e3; subst e2; subst e1; subst hu2; subst hu3
  have hcs : cs = #[u0, u1, .map (some gm), .chan (some gc)] := by rw [← Array.toArray_toList (xs := cs), e0]
  subst hcs
  obtain ⟨gm', es, clock, hφm', hom, hgm, hleaf, hents⟩ := hcm
  rw [hφm] at hφm'
  injection hφm' with hφm'; injection hφm' with hφm'; injection hφm' with hφm'
  subst hφm'
  obtain ⟨gc', cp, sq, rq, buf, hφc', hoc, hgc, hcap, hbuf⟩ := hcc
  rw [hφc] at hφc'
  injection hφc' with hφc'; injection hφc' with hφc'; injection hφc' with hφc'
  subst hφc'
  have hom' : o ≠ m := fun h => by subst h; rw [ho] at hm; cases hm
  have hoc' : o ≠ c := fun h => by subst h; rw [ho] at hc; cases hc
  have cell2 : w.cell? ⟨g, 2, none⟩ = some (.map (some gm)) := by unfold World.cell?; rw [hg]; simp
  have look : ∀ z : Int, (Instr.lookup t (.map (some gm)) (.int .i64 z) false).run P w = .ok (.bool (@mapGet _ _ (Ty.int .i64).eqD false L z)) w := by
    intro z
    obtain ⟨_, u, h1, h2⟩ := ans_ok (φ := φ) (hp := hp) (ok := false) (n := z) (out := ⟨[], .dat .bool (@mapGet _ _ (Ty.int .i64).eqD Ty.bool.dflt L z), []⟩) hk hgm hents rfl
    rw [bool_holds h2] at h1
    exact h1
  unfold takeM gd at hy
  split at hy <;> try (cases hy; done)
  rename_i hin
  have hwrap : IntKind.i64.wrap (-x) = -x := wrap_of_has hin
  have keepAll : ∀ (b : Bool), Post ⟨[], .dat .bool b, [(m, .mp (.int .i64) .bool L), (c, .ch cap n)]⟩ nx φ ow w (.bool b) w := by
    intro b
    refine ⟨φ, ow, ⟨Nat.le_refl _, rfl, rfl, rfl, fun b hb h => ⟨rfl, rfl⟩, fun b i h => ⟨(H.own b i h).1, .inr ⟨(H.own b i h).1, h⟩⟩, PhiLe.refl _, fun _ _ => rfl⟩, ⟨rfl, rfl, rfl⟩, ?_⟩
    intro p hp
    simp only [List.mem_cons, List.not_mem_nil, or_false] at hp
    rcases hp with rfl | rfl
    · exact ⟨gm, es, clock, hφm, hom, hgm, hleaf, hents⟩
    · exact ⟨gc, cp, sq, rq, buf, hφc, hoc, hgc, hcap, hbuf⟩
  cases h1 : @mapGet _ _ (Ty.int .i64).eqD false L (-x) with
  | true =>
    rw [h1] at hy
    injection hy with hy
    subst hy
    refine Calls.mono (W.no g gm x w cell2 (by rw [hwrap, look, h1])) ?_
    rintro e' w' ⟨v, he, rfl, rfl⟩
    exact ⟨_, he, keepAll false⟩
  | false =>
  rw [h1, cond_false] at hy
  cases h2 : @mapGet _ _ (Ty.int .i64).eqD false L x with
  | true =>
    rw [h2] at hy
    injection hy with hy
    subst hy
    refine Calls.mono (W.yes g gm x w cell2 (by rw [hwrap, look, h1]) (by rw [look, h2])) ?_
    rintro e' w' ⟨v, he, rfl, rfl⟩
    exact ⟨_, he, keepAll true⟩
  | false =>
  rw [h2, cond_false] at hy
  split at hy <;> try (cases hy; done)
  rename_i hroom
  split at hy <;> try (cases hy; done)
  rename_i hlen
  injection hy with hy
  subst hy
  obtain ⟨w1, hup, φ', ow', E1, _, hupd⟩ := mapSet_ok (P := P) (vm := .map (some gm)) (vi := .int .i64 x) (vx := .bool true) (t := t) (m := .mapv m) (ix := .dat (.int .i64) x) (x := .dat .bool true) H (out := ⟨[L.length < lim], .raw undef, [(m, .mp (.int .i64) .bool (@mapSet _ _ (Ty.int .i64).eqD true L x))]⟩)
    (by unfold reqMapSet; rw [hk]; simp only [keyAV, if_true, Req.run, hm]; rfl) ⟨gm, hφm, rfl⟩ ⟨rfl, rfl, rfl, hxin⟩ ⟨rfl, rfl, rfl⟩
  have hgcs : gc < w.heap.size := (H.own gc c hoc).1
  have hgs : g < w.heap.size := (H.own g o hog).1
  have notX : ∀ {b i : Nat}, ow b = some i → i ≠ m → ∀ id, ow b = some id → id ∉ [m] := by
    intro b i h1 h2 id h3 h4
    rw [h1] at h3
    injection h3 with h3
    subst h3
    exact h2 (List.mem_singleton.1 h4)
  have bgc := E1.blk gc hgcs (notX hoc (Ne.symm hne))
  have bg := E1.blk g hgs (notX hog hom')
  have cell3 : w1.cell? ⟨g, 3, none⟩ = some (.chan (some gc)) := by unfold World.cell?; rw [bg.2, hg]; simp
  have hroom' : buf.size < cp := by omega
  refine Calls.mono (W.new g gm gc x w w1 cell2 (by rw [hwrap, look, h1]) (by rw [look, h2]) hup cell3 cp sq rq buf false (bgc.2.trans hgc) hroom') ?_
  rintro e' w' ⟨v, he, rfl, rfl⟩
  refine ⟨_, he, φ', ow', ⟨?_, ?_, ?_, ?_, fun b hb hno => ?_, fun b i hbi => ?_, E1.phi, E1.phiN⟩, ⟨rfl, rfl, rfl⟩, ?_⟩
  · simpa [World.setChan] using E1.size
  · exact E1.os
  · exact E1.tape
  · exact E1.output
  · obtain ⟨q1, q2⟩ := E1.blk b hb (fun id hid hmem => hno id hid (by simp only [ids, List.map_cons, List.map_nil, List.mem_cons, List.mem_singleton, List.not_mem_nil, or_false] at hmem ⊢; exact .inl hmem))
    refine ⟨q1, ?_⟩
    have hbc : b ≠ gc := fun h => by subst h; exact hno c hoc (by simp [ids])
    simp only [World.setChan]
    rw [Array.getElem?_setIfInBounds_ne (Ne.symm hbc)]
    exact q2
  · obtain ⟨q1, q2⟩ := E1.ownN b i hbi
    refine ⟨by simpa [World.setChan] using q1, ?_⟩
    rcases q2 with (q2 | q2) | q2
    · exact .inl (.inl (by simp [ids] at q2 ⊢; exact .inl q2))
    · exact .inl (.inr q2)
    · exact .inr q2
  · have hgc1 : gc < w1.heap.size := Nat.lt_of_lt_of_le hgcs E1.size
    have hoc1 : ow' gc = some c := bgc.1.trans hoc
    intro p hp
    simp only [List.mem_cons, List.not_mem_nil, or_false] at hp
    rcases hp with rfl | rfl
    · have hm1 := hupd (m, .mp (.int .i64) .bool (@mapSet _ _ (Ty.int .i64).eqD true L x)) (by simp)
      refine cH_keep (PhiLe.refl φ') ⟨by simp [World.setChan], fun b hb hn => ⟨hn, ?_⟩⟩ (fun b hb hob => ⟨hob, ?_⟩) hm1
      · have : b ≠ gc := fun h => by subst h; rw [hoc1] at hn; cases hn
        simp only [World.setChan]
        rw [Array.getElem?_setIfInBounds_ne (Ne.symm this)]
      · have : b ≠ gc := fun h => by subst h; rw [hoc1] at hob; injection hob with hob; exact hne hob.symm
        simp only [World.setChan]
        rw [Array.getElem?_setIfInBounds_ne (Ne.symm this)]
    · refine ⟨gc, cp, sq + 1, rq, buf.push (.int .i64 x), E1.phi _ _ hφc, hoc1, ?_, hcap, ?_⟩
      · simp [World.setChan, hgc1]
      · simp only [Array.size_push]; omega

end GoSx
end
section
/- Sz, part B: a range over a function whose body is never entered. -/
set_option linter.unusedVariables false
set_option linter.unusedSimpArgs false
namespace GoSx
open Go

section
variable {P : Program}

/-- The mark that a range over a function leaves. -/
@[reducible] def markOf (D : Nat) : Deferred := { target := .collected D, args := #[] }

theorem wp_rangeFunc0 {g : Operand} {ps : Array Tmp} {assign body : Code} {Q : Exit → Act → World → Prop} {a : Act} {w : World} {gf : FuncId} {lb : Array Value} (hg : a.eval g = .func (.func gf) #[] lb)
    (h : ∀ fn, (callFunc gf (#[.func (.yield (w.heap.size + 1)) #[] #[]] ++ lb)).run P ((w.alloc (.deferred (some []))).alloc (.loop { state := .ready, pending := none, fn, tmps := a.tmps, params := ps, assign, body, defers := w.heap.size })) = .ok (.enter gf (#[.func (.yield (w.heap.size + 1)) #[] #[]] ++ lb)) ((w.alloc (.deferred (some []))).alloc (.loop { state := .ready, pending := none, fn, tmps := a.tmps, params := ps, assign, body, defers := w.heap.size })) ∧ Calls P gf (#[.func (.yield (w.heap.size + 1)) #[] #[]] ++ lb) ((w.alloc (.deferred (some []))).alloc (.loop { state := .ready, pending := none, fn, tmps := a.tmps, params := ps, assign, body, defers := w.heap.size }))
      fun e w3 => ∃ v, e = .returned v ∧ w3.heap[w.heap.size + 1]? = some (.loop { state := .ready, pending := none, fn, tmps := a.tmps, params := ps, assign, body, defers := w.heap.size }) ∧
        Q .normal { a with defers := markOf w.heap.size :: a.defers } (w3.putObj (w.heap.size + 1) (.loop { state := .exhausted, pending := none, fn, tmps := a.tmps, params := ps, assign, body, defers := w.heap.size }))) :
    (Code.rangeFunc g ps assign body).wp P Q a w := by
  intro b0 k cs
  let b : Frame := { b0 with roundOf := none }
  have hb : ∀ a todo, b0.at a todo = b.atR a todo := fun a todo => rfl
  obtain ⟨eg, hcalls⟩ := h b.fn
  obtain ⟨e, w3, fr, ⟨v, rfl, hl, hq⟩, hsteps, hfn, hleave⟩ := hcalls (b.atR { a with defers := markOf w.heap.size :: a.defers } (.inRangeFunc (w.heap.size + 1) :: k) :: cs)
  have hres : (resolve a.eval (rangeCall g (w.heap.size + 1)) 0).run P ((w.alloc (.deferred (some []))).alloc (.loop { state := .ready, pending := none, fn := b.fn, tmps := a.tmps, params := ps, assign, body, defers := w.heap.size })) = .ok { target := .fn (.func gf) lb, args := #[.func (.yield (w.heap.size + 1)) #[] #[]] } ((w.alloc (.deferred (some []))).alloc (.loop { state := .ready, pending := none, fn := b.fn, tmps := a.tmps, params := ps, assign, body, defers := w.heap.size })) := by
    simp only [resolve, hg]
    simp [go_sem]
  have henter := stepR_rangeFunc (P := P) (b := b) (a := a) (k := k) (cs := cs) (w := w) (g := g) (ps := ps) (assign := assign) (body := body) (mark := [markOf w.heap.size]) (f := gf) (args := #[.func (.yield (w.heap.size + 1)) #[] #[]] ++ lb) (run_enterLoop_outer b.fn a.tmps ps assign body) hres (by simp only [invoke]; exact eg)
  have hend := stepR_endRangeFunc (P := P) (b := b) (a := { a with defers := markOf w.heap.size :: a.defers }) (k := k) (cs := cs) (run_endLoop hl (by simp))
  have hback := step_leave_returned (c := b.atR { a with defers := markOf w.heap.size :: a.defers } (.inRangeFunc (w.heap.size + 1) :: k)) (cs := cs) hleave
  rw [finish_atR_inRangeFunc] at hback
  refine ⟨.normal, _, _, hq, ?_⟩
  rw [hb]
  refine Steps.head henter (Steps.trans hsteps (Steps.head hback (Steps.one ?_)))
  rw [hend]
  rfl

theorem calls_of_mark {f : FuncId} {fn : Func} {c : Code} {args : Array Value} {w : World} {R : Ending → World → Prop}
    (hf : P.funcs[f]? = some fn) (hb : fn.body = some c)
    (h : c.wp P (fun e a w => (e = .ret ∨ e = .normal) ∧ ∃ D, a.defers = [markOf D] ∧ w.heap[D]? = some (.deferred (some [])) ∧ ∃ v, (results fn a.tmps).run P (w.putObj D (.deferred none)) = .ok v (w.putObj D (.deferred none)) ∧ R (.returned v) (w.putObj D (.deferred none)))
      { tmps := args ++ Array.replicate (fn.ntmps - args.size) undef, defers := [] } w) :
    Calls P f args w R := by
  intro cs
  let b : Frame := { (default : Frame) with fn := f, kind := .normal }
  have henter : Frame.enter P f args .normal =
      b.at { tmps := args ++ Array.replicate (fn.ntmps - args.size) undef, defers := [] } [.code c] := by
    simp [Frame.enter, Frame.at, hf, hb, b]
  obtain ⟨e, a', w', ⟨he, D, hd, hD, v, hres, hR⟩, hs⟩ := h b [] cs
  have fin : ∀ todo, Steps P (lone (b.at { tmps := args ++ Array.replicate (fn.ntmps - args.size) undef, defers := [] } [.code c]) cs w) (lone { b.at a' todo with mode := .returning } cs w') → ∃ e w' fr, R e w' ∧ Comes P (lone (Frame.enter P f args .normal) cs w) (lone fr cs w') e ∧ fr.fn = f ∧ fr.leaving P w' e := by
    intro todo hs
    rw [← henter] at hs
    refine ⟨.returned v, _, { b.at a' todo with mode := .returning, defers := [] ++ [] }, hR, Steps.trans hs (.one ?_), rfl, rfl, rfl, rfl, fn, hf, hres⟩
    exact step_collected (fr := { b.at a' todo with mode := .returning }) (by simp) (d := markOf D) (ds := []) hd rfl (run_takeDeferred hD)
  rcases he with rfl | rfl
  · obtain ⟨todo, hs⟩ := hs
    exact fin todo hs
  · exact fin [] (Steps.trans hs (.one step_end))
end

section
variable {φ0 : Hnd} {ow0 : Own} {w0 : World}

/-- Between the range and the end. -/
structure Mid (φ0 : Hnd) (ow0 : Own) (w0 : World) (ow1 : Own) (w1 : World) (D : Nat) : Prop where
  size : w0.heap.size ≤ w1.heap.size
  os : w1.os = w0.os
  tape : w1.tape = w0.tape
  output : w1.output = w0.output
  blk : ∀ b, b < w0.heap.size → (ow0 b = Option.none ∨ ow0 b = some 0) → ow1 b = ow0 b ∧ w1.heap[b]? = w0.heap[b]?
  frn : ∀ b, ow1 b = some 0 → b = D ∨ b = D + 1 ∨ (b < w0.heap.size ∧ ow0 b = some 0)
  new : w0.heap.size ≤ D
  own : ow1 D = some 0
  own2 : ow1 (D + 1) = some 0
  lt2 : D + 1 < w1.heap.size
  obj : w1.heap[D]? = some (.deferred (some []))

theorem range_sat {C : Cfg} (hS : ∀ f, SummOK C.P f (C.S f)) {D0 : List Deferred} {st : St} {a : Act} {w : World} (hsat : SatF D0 φ0 ow0 w0 st a w) {t : Tmp} {gf : FuncId} {caps : AV} (ht : st.env t = .fn gf caps) {res : AV} {upd : Upd}
    (hr : (C.S gf (.cons (.opq st.next) caps) (st.next + 64)).run st.heap = some ⟨[], res, upd⟩) (h0 : ∀ i ∈ ids upd, 0 < i ∧ (i < st.next ∨ st.next + 64 ≤ i ∧ i < st.next + 128)) (h00 : st.heap 0 = .none) {ps : Array Tmp} {assign body : Code} {Q : Exit → Act → World → Prop}
    (hQ : ∀ ow1 w1, Mid φ0 ow0 w0 ow1 w1 w.heap.size → SatF (markOf w.heap.size :: D0) φ0 ow1 w1 { st.upd upd with next := st.next + 128 } { a with defers := markOf w.heap.size :: a.defers } w1 → Q .normal { a with defers := markOf w.heap.size :: a.defers } w1) :
    (Code.rangeFunc (.tmp t) ps assign body).wp C.P Q a w := by
  obtain ⟨φ, ow, hn, hdf, henv, hheap, hfresh, hown, hnx, hfr⟩ := hsat
  have hfn := henv t
  rw [ht] at hfn
  obtain ⟨lb, hv, hcaps⟩ := hfn
  have hev : a.eval (.tmp t) = .func (.func gf) #[] lb := by
    injection hv
  refine wp_rangeFunc0 hev (fun fn => ?_)
  generalize hrec : (⟨.ready, none, fn, a.tmps, ps, assign, body, w.heap.size⟩ : Loop) = rec
  have hst : rec.state = .ready := by rw [← hrec]
  generalize hex : Obj.loop { state := .exhausted, pending := none, fn, tmps := a.tmps, params := ps, assign, body, defers := w.heap.size } = oex
  generalize hW : (w.alloc (.deferred (some []))).alloc (.loop rec) = W1
  have hsz : W1.heap.size = w.heap.size + 2 := by rw [← hW]; simp
  have hold : ∀ b, b < w.heap.size → W1.heap[b]? = w.heap[b]? := by
    intro b hb
    rw [← hW]
    simp only [World.alloc]
    rw [Array.getElem?_push, Array.getElem?_push, if_neg (by simp; omega), if_neg (by omega)]
  have hD1 : W1.heap[w.heap.size]? = some (.deferred (some [])) := by
    rw [← hW]
    simp only [World.alloc]
    rw [Array.getElem?_push, if_neg (by simp), Array.getElem?_push, if_pos rfl]
  have hL1 : W1.heap[w.heap.size + 1]? = some (.loop rec) := by
    rw [← hW]
    simp only [World.alloc]
    rw [Array.getElem?_push, if_pos (by simp)]
  have hwos : W1.os = w.os ∧ W1.tape = w.tape ∧ W1.output = w.output := by rw [← hW]; exact ⟨rfl, rfl, rfl⟩
  let yv : Value := .func (.yield (w.heap.size + 1)) #[] #[]
  let ow1 : Own := fun b => if b = w.heap.size ∨ b = w.heap.size + 1 then some 0 else ow b
  have how : ∀ b, b < w.heap.size → ow1 b = ow b := fun b hb => if_neg (by omega)
  have H0 : Hyp st.heap st.next φ ow w := ⟨hheap, fun id h _ => hfresh id h, fun b id h => ⟨(hown b id h).1, .inl (hown b id h).2⟩⟩
  have hk : Keep ow w ow1 W1 := ⟨by omega, fun b hb h => ⟨(how b hb).trans h, hold b hb⟩⟩
  have hle := newPhi_le H0 yv
  have H1 : Hyp st.heap (st.next + 64) (newPhi φ st.next yv) ow1 W1 := by
    refine ⟨fun id => cH_keep hle hk (fun b hb ho => ⟨(how b hb).trans ho, hold b hb⟩) (hheap id), fun id h1 h2 => ?_, fun b id h => ?_⟩
    · unfold newPhi
      rw [if_neg (by omega)]
      exact hfresh id (by omega)
    · simp only [ow1] at h
      split at h
      · rename_i hb
        injection h with h
        exact ⟨by omega, .inl (by omega)⟩
      · exact ⟨by have := (hown b id h).1; omega, .inl (by have := (hown b id h).2; omega)⟩
  have hav : (AV.cons (.opq st.next) caps).holds (newPhi φ st.next yv) ow1 W1 (#[yv] ++ lb).toList := by
    refine ⟨yv, lb.toList, by simp, ⟨yv, newPhi_self _, rfl, rfl⟩, AV.holds_keep hle hk hcaps⟩
  obtain ⟨hc, hcalls⟩ := hS gf _ (st.next + 64) st.heap _ (newPhi φ st.next yv) ow1 W1 (#[yv] ++ lb) H1 hav hr (by intro p hp; cases hp)
  refine ⟨hc, Calls.mono hcalls ?_⟩
  rintro e w3 ⟨v, rfl, φ2, ow2, E, hres, hupd⟩
  change Ext (ids upd) (st.next + 64) _ ow1 W1 φ2 ow2 w3 at E
  have not0 : 0 ∉ ids upd := fun h => by have := (h0 0 h).1; omega
  have mine : ∀ b, (b = w.heap.size ∨ b = w.heap.size + 1) → ow2 b = some 0 ∧ w3.heap[b]? = W1.heap[b]? := by
    intro b hb
    have h1 : ow1 b = some 0 := if_pos hb
    obtain ⟨q1, q2⟩ := E.blk b (by omega) (fun id hid hm => by rw [h1] at hid; injection hid with hid; subst hid; exact not0 hm)
    exact ⟨q1.trans h1, q2⟩
  refine ⟨v, rfl, (mine _ (.inr rfl)).2.trans hL1, ?_⟩
  generalize hw4 : w3.putObj (w.heap.size + 1) oex = w4
  have hsz4 : w4.heap.size = w3.heap.size := by rw [← hw4]; simp [World.putObj]
  have hold4 : ∀ b, b ≠ w.heap.size + 1 → w4.heap[b]? = w3.heap[b]? := fun b hb => by rw [← hw4]; exact World.putObj_heap_other hb
  have hos4 : w4.os = w3.os ∧ w4.tape = w3.tape ∧ w4.output = w3.output := by rw [← hw4]; exact ⟨rfl, rfl, rfl⟩
  have k34 : Keep ow2 w3 ow2 w4 := by
    refine ⟨by omega, fun b hb h => ⟨h, hold4 b fun e => ?_⟩⟩
    rw [e, (mine _ (.inr rfl)).1] at h
    cases h
  have kAll : Keep ow w ow2 w4 := (hk.trans E.keep).trans k34
  have to4 : ∀ {id : Nat} {c : Chunk}, id ≠ 0 → cH φ2 ow2 w3 id c → cH φ2 ow2 w4 id c := by
    intro id c hid h
    refine cH_keep (PhiLe.refl _) k34 (fun b hb ho => ⟨ho, hold4 b fun e => ?_⟩) h
    rw [e, (mine _ (.inr rfl)).1] at ho
    injection ho with ho
    exact hid ho.symm
  have hown2 : ∀ c id, ow2 c = some id → c < w4.heap.size ∧ id < st.next + 128 := by
    intro c id h
    obtain ⟨q1, q2⟩ := E.ownN c id h
    refine ⟨by omega, ?_⟩
    rcases q2 with (q2 | q2) | q2
    · have := h0 id q2; omega
    · omega
    · have q3 := q2.2
      simp only [ow1] at q3
      split at q3
      · injection q3 with q3; omega
      · have := (hown c id q3).2; omega
  refine hQ ow2 w4 ⟨?_, ?_, ?_, ?_, ?_, ?_, hfr.size, (mine _ (.inl rfl)).1, (mine _ (.inr rfl)).1, (hown2 _ 0 (mine _ (.inr rfl)).1).1, ?_⟩ ⟨φ2, ow2, ?_, ?_, ?_, ?_, ?_, hown2, ?_, ?_⟩
  · have := E.size; have := hfr.size; omega
  · exact hos4.1.trans (E.os.trans (hwos.1.trans hfr.os))
  · exact hos4.2.1.trans (E.tape.trans (hwos.2.1.trans hfr.tape))
  · exact hos4.2.2.trans (E.output.trans (hwos.2.2.trans hfr.output))
  · intro b hb hbo
    have hbw := Nat.lt_of_lt_of_le hb hfr.size
    obtain ⟨q1, q2⟩ := hfr.blk b hb hbo
    obtain ⟨q3, q4⟩ := E.blk b (by omega) (fun id hid hm => by
      rw [how b hbw, q1] at hid
      rcases hbo with hbo | hbo
      · rw [hbo] at hid; cases hid
      · rw [hbo] at hid; injection hid with hid; subst hid; exact not0 hm)
    exact ⟨(q3.trans (how b hbw)).trans q1, (hold4 b (by omega)).trans (q4.trans ((hold b hbw).trans q2))⟩
  · intro b hb
    obtain ⟨_, q⟩ := E.ownN b 0 hb
    rcases q with (q | q) | q
    · exact absurd q not0
    · omega
    · have q3 := q.2
      simp only [ow1] at q3
      split at q3
      · rename_i hx; exact hx.elim .inl (fun h => .inr (.inl h))
      · exact .inr (.inr (hfr.frn b q3))
  · exact (hold4 _ (by omega)).trans ((mine _ (.inl rfl)).2.trans hD1)
  · rw [(upd_env upd st).2.2]; exact hn
  · rw [hdf]
  · intro t
    show ((st.upd upd).env t).holds φ2 ow2 w4 _
    rw [(upd_env upd st).1]
    exact AV.holds_keep (hle.trans E.phi) kAll (henv t)
  · intro id
    show cH φ2 ow2 w4 id ((st.upd upd).heap id)
    rcases upd_heap upd st id with ⟨h1, c, h2, h3⟩ | ⟨h1, h2⟩
    · rw [h3]; exact to4 (by have := (h0 id h1).1; omega) (hupd _ h2)
    · rw [h2]
      by_cases hid : id = 0
      · subst hid; rw [h00]; trivial
      · exact to4 hid (E.chunk h1 (H1.chunk id))
  · intro id hid
    have hid : st.next + 128 ≤ id := hid
    rw [E.phiN id (by omega)]
    unfold newPhi
    rw [if_neg (by omega)]
    exact hfresh id (by omega)
  · show 0 < st.next + 128
    omega
  · exact ⟨Nat.le_refl _, rfl, rfl, rfl, fun b _ _ => ⟨rfl, rfl⟩, fun b hb => ⟨(hown2 b 0 hb).1, hb⟩, (hfr.phi.trans hle).trans E.phi⟩

/-- The mark is taken; nothing else changes. -/
theorem mark_sat {ow1 : Own} {w1 : World} {D : Nat} (hm : Mid φ0 ow0 w0 ow1 w1 D) {st : St} {a : Act} {w : World} {D1 : List Deferred} (hsat : SatF D1 φ0 ow1 w1 st a w) (h00 : st.heap 0 = .none) :
    w.heap[D]? = some (.deferred (some [])) ∧ SatF [] φ0 ow0 w0 st { a with defers := [] } (w.putObj D (.deferred none)) := by
  obtain ⟨φ, ow, hn, hdf, henv, hheap, hfresh, hown, hnx, hfr⟩ := hsat
  have hDs : D < w1.heap.size := (Array.getElem?_eq_some_iff.1 hm.obj).1
  obtain ⟨q1, q2⟩ := hfr.blk D hDs (.inr hm.own)
  have hobj := q2.trans hm.obj
  refine ⟨hobj, ?_⟩
  let ow' : Own := fun b => if b = D ∨ b = D + 1 then none else ow b
  generalize hw' : w.putObj D (.deferred none) = w'
  have hsz : w'.heap.size = w.heap.size := by rw [← hw']; simp [World.putObj]
  have hold : ∀ b, b ≠ D → w'.heap[b]? = w.heap[b]? := fun b hb => by rw [← hw']; exact World.putObj_heap_other hb
  have hD0 : ow D = some 0 := q1.trans hm.own
  have hk : Keep ow w ow' w' := by
    refine ⟨by omega, fun b hb h => ?_⟩
    have hbD : b ≠ D := fun e => by rw [e, hD0] at h; cases h
    refine ⟨?_, hold b hbD⟩
    simp only [ow']
    split
    · rfl
    · exact h
  have hown' : ∀ c id, ow' c = some id → ow c = some id ∧ c ≠ D ∧ c ≠ D + 1 := by
    intro c id h
    simp only [ow'] at h
    split at h
    · cases h
    · rename_i hx; exact ⟨h, fun e => hx (.inl e), fun e => hx (.inr e)⟩
  refine ⟨φ, ow', hn, rfl, fun t => AV.holds_keep (PhiLe.refl _) hk (henv t), fun id => ?_, hfresh, fun c id h => ⟨by have := (hown c id (hown' c id h).1).1; omega, (hown c id (hown' c id h).1).2⟩, hnx, ?_⟩
  · by_cases hid : id = 0
    · subst hid; rw [h00]; trivial
    · refine cH_keep (PhiLe.refl _) hk (fun b hb ho => ?_) (hheap id)
      have hbD : b ≠ D := fun e => by rw [e, hD0] at ho; injection ho with ho; exact hid ho.symm
      refine ⟨?_, hold b hbD⟩
      by_cases hb1 : b = D + 1
      · exfalso
        obtain ⟨t1, _⟩ := hfr.blk (D + 1) hm.lt2 (.inr hm.own2)
        rw [hb1, t1, hm.own2] at ho
        injection ho with ho
        exact hid ho.symm
      · show (if b = D ∨ b = D + 1 then none else ow b) = some id
        rw [if_neg (by omega)]
        exact ho
  · refine ⟨?_, ?_, ?_, ?_, fun b hb hbo => ?_, fun b hb => ?_, hfr.phi⟩
    · have := hm.size; have := hfr.size; omega
    · rw [← hw']; exact hfr.os.trans hm.os
    · rw [← hw']; exact hfr.tape.trans hm.tape
    · rw [← hw']; exact hfr.output.trans hm.output
    · obtain ⟨r1, r2⟩ := hm.blk b hb hbo
      have hbD : b < D := Nat.lt_of_lt_of_le hb hm.new
      obtain ⟨r3, r4⟩ := hfr.blk b (by have := hm.size; omega) (by rw [r1]; exact hbo)
      refine ⟨?_, (hold b (by omega)).trans (r4.trans r2)⟩
      show (if b = D ∨ b = D + 1 then none else ow b) = ow0 b
      rw [if_neg (by omega)]
      exact r3.trans r1
    · obtain ⟨r1, r2, r3⟩ := hown' b 0 hb
      obtain ⟨r4, r5⟩ := hfr.frn b r1
      rcases hm.frn b r5 with h | h | h
      · exact absurd h r2
      · exact absurd h r3
      · exact h
end

/-- A function that is told by a closure, wherever that stands. -/
def anyClo (g : FuncId) : AV → Bool
  | .cons (.fn f _) r => Nat.beq f g || anyClo g r
  | .cons _ r => anyClo g r
  | _ => false
def altA (g : FuncId) (A B : Summ) : Summ := fun av nx => bif anyClo g av then A av nx else B av nx
theorem altA_ok {P : Program} {f g : FuncId} {A B : Summ} (hA : SummOK P f A) (hB : SummOK P f B) : SummOK P f (altA g A B) := by
  intro av nx hp out φ ow w vs H hav hr hobl
  unfold altA at hr
  cases h : anyClo g av with
  | true => rw [h] at hr; exact hA av nx hp out φ ow w vs H hav hr hobl
  | false => rw [h] at hr; exact hB av nx hp out φ ow w vs H hav hr hobl

/-! ### Regions that ask nothing -/
def regOps (C : Cfg) (next : Nat) : List Oper → Nat → St → Option St
  | [], _, st => some st
  | o :: r, i, st => match o.guard with
    | some _ => none
    | none => match (reqOp C.P C.S C.wr o.op (evalAV st.env) (next + 64 * i)).run st.heap with
      | some out => match out.obls with
        | [] => bif updOk next i (fun k => Nat.blt k i) ((reqOp C.P C.S C.wr o.op (evalAV st.env) (next + 64 * i)).touched st.heap) out.upd && dstOk st.n o.dst then regOps C next r (i + 1) ((st.upd out.upd).put o.dst out.res) else none
        | _ => none
      | none => none
def regSt (C : Cfg) (ops : Array Oper) (st : St) : Option St := (regOps C st.next ops.toList 0 st).map fun st' => { st' with next := st.next + 64 * ops.size }

theorem regOps_vc {C : Cfg} {ops : Array Oper} {next : Nat} {K : St → Prop} : ∀ (l : List Oper) (i : Nat) (tr : List Trc) (st st' : St), regOps C next l i st = some st' → K st' → vcOps C ops none next l i tr st K
  | [], i, tr, st, st', h, hK => by
    injection h with h
    subst h
    exact hK
  | o :: r, i, tr, st, st', h, hK => by
    unfold regOps at h
    cases hg : o.guard with
    | some g => rw [hg] at h; cases h
    | none =>
    rw [hg] at h
    simp only at h
    unfold vcOps
    rw [hg]
    simp only
    unfold vcRun
    simp only
    cases ho : (reqOp C.P C.S C.wr o.op (evalAV st.env) (next + 64 * i)).run st.heap with
    | none => rw [ho] at h; cases h
    | some out =>
    rw [ho] at h
    simp only at h ⊢
    cases hob : out.obls with
    | cons p ps => rw [hob] at h; cases h
    | nil =>
    rw [hob] at h
    simp only at h
    cases hb : (updOk next i (fun k => Nat.blt k i) ((reqOp C.P C.S C.wr o.op (evalAV st.env) (next + 64 * i)).touched st.heap) out.upd && dstOk st.n o.dst) with
    | false => rw [hb] at h; cases h
    | true =>
    rw [hb, cond_true] at h
    have hb' : (updOk next i (ordOf none i) ((reqOp C.P C.S C.wr o.op (evalAV st.env) (next + 64 * i)).touched st.heap) out.upd && dstOk st.n o.dst) = true := hb
    rw [hb', cond_true]
    exact regOps_vc r (i + 1) _ _ st' h hK

theorem regSt_vc {C : Cfg} {id : Nat} {ops : Array Oper} {st st' : St} {K : Exit → St → Prop} (h : regSt C ops st = some st') (hK : K .normal st') : vcCode C (.region id ops false) st K := by
  unfold regSt at h
  cases h1 : regOps C st.next ops.toList 0 st with
  | none => rw [h1] at h; cases h
  | some s =>
    rw [h1] at h
    injection h with h
    subst h
    exact regOps_vc _ _ _ _ _ h1 hK


/-- The end of a function, number 0 untouched. -/
def FSig.kont0 (S : FSig) (P : Program) (fn : Func) : Kont S.oty.den := fun Y inj e st D => match st.heap 0 with
  | .none => S.kont P fn Y inj e st D
  | _ => .fail 24

theorem kont_path {S : FSig} {P : Program} {fn : Func} {Y : Type} {inj : S.oty.den → Y} {z : Y} {e : Exit} {st : St} {D : Dirt} (h : (S.kont0 P fn Y inj e st D).run = some z) :
    st.heap 0 = .none ∧ (e = .ret ∨ e = .normal) ∧ ∃ l o y, z = inj y ∧ retTmps P st.env st.heap fn.results.toList = some l ∧ (S.postReq l).run st.heap = some o ∧ datD S.oty o.res = some y := by
  unfold FSig.kont0 at h
  split at h <;> try (cases h; done)
  rename_i h0
  have key : ∀ l, (exReq st.heap (S.postReq l) fun o _ => match datD S.oty o.res with
      | some y => Prog.ret (inj y)
      | Option.none => .fail 20).run = some z → retTmps P st.env st.heap fn.results.toList = some l → ∃ l o y, z = inj y ∧ retTmps P st.env st.heap fn.results.toList = some l ∧ (S.postReq l).run st.heap = some o ∧ datD S.oty o.res = some y := by
    intro l h hret
    obtain ⟨o, h1, h2⟩ := exReq_path h
    split at h2
    · rename_i y hy
      injection h2 with h2
      exact ⟨l, o, y, h2.symm, hret, h1, hy⟩
    · cases h2
  refine ⟨h0, ?_⟩
  cases e with
  | normal =>
    simp only [FSig.kont] at h
    split at h
    · rename_i l hret; exact ⟨.inr rfl, key l h hret⟩
    · cases h
  | ret =>
    simp only [FSig.kont] at h
    split at h
    · rename_i l hret; exact ⟨.inl rfl, key l h hret⟩
    · cases h
  | _ => cases h

/-- The last part of a function that ranged over another one. -/
theorem tail_ok {C : XCfg} {S : FSig} {fn : Func} (hS : ∀ g, SummOK C.P g (C.S g)) (hm : C.P.follows .mixedOrders = true) {φ0 : Hnd} {ow0 ow1 : Own} {w0 w1 : World} {D : Nat} (hbase : ∀ id, id ∉ C.fix → φ0 id = none) {c : Code} {st : St} {y : S.oty.den}
    (hv : (exCode C c st Dirt.no (S.kont0 C.P fn) S.oty.den fun y => y).run = some y) (hmid : Mid φ0 ow0 w0 ow1 w1 D) {a : Act} (hsat : SatF [markOf D] φ0 ow1 w1 st a w1)
    {G : Act → World → Prop} (hG : ∀ st' l o a' w', SatF [] φ0 ow0 w0 st' a' w' → retTmps C.P st'.env st'.heap fn.results.toList = some l → (S.postReq l).run st'.heap = some o → datD S.oty o.res = some y → G a' w')
    {R : Ending → World → Prop} (hGR : ∀ a' w', G a' w' → a'.defers = [] ∧ ∃ v, (results fn a'.tmps).run C.P w' = .ok v w' ∧ R (.returned v) w') :
    c.wp C.P (fun e a w => (e = .ret ∨ e = .normal) ∧ ∃ D, a.defers = [markOf D] ∧ w.heap[D]? = some (.deferred (some [])) ∧ ∃ v, (results fn a.tmps).run C.P (w.putObj D (.deferred none)) = .ok v (w.putObj D (.deferred none)) ∧ R (.returned v) (w.putObj D (.deferred none))) a w1 := by
  have hR : InR (S.kont0 C.P fn) := by
    intro Y inj z e st' D' h
    obtain ⟨_, _, l, o, y, hz, _⟩ := kont_path h
    exact ⟨y, hz⟩
  have hK : KOk [markOf D] φ0 ow1 w1 st (S.kont0 C.P fn) (fun y' e a w => y' = y → (e = .ret ∨ e = .normal) ∧ ∃ D, a.defers = [markOf D] ∧ w.heap[D]? = some (.deferred (some [])) ∧ ∃ v, (results fn a.tmps).run C.P (w.putObj D (.deferred none)) = .ok v (w.putObj D (.deferred none)) ∧ R (.returned v) (w.putObj D (.deferred none))) := by
    intro Y inj hinj y' e st' D' hpost hfrm a' w' hs' hyy
    subst hyy
    obtain ⟨h00, he, l, o, y2, hz, hret, hp, hd⟩ := kont_path hpost
    have := hinj hz
    subst this
    obtain ⟨hobj, hs2⟩ := mark_sat hmid hs' h00
    have hg := hG st' l o _ _ hs2 hret hp hd
    obtain ⟨_, v, hv, hr⟩ := hGR _ _ hg
    obtain ⟨_, _, _, hdf, _⟩ := hs'
    exact ⟨he, D, hdf, hobj, v, hv, hr⟩
  exact wp_mono (exCode_ok hS hm hbase c (fun a b h => h) hv (Frm.refl _ _) hR hK hsat) (fun e a w h => h rfl)

end GoSx
end
section
/- Sy, part 5: arguments that came in, read as data. -/
set_option linter.unusedVariables false
set_option linter.unusedSimpArgs false
namespace GoSx
open Go

/-- Types of data that we open: T is t's. -/
def okFields (ok : TypeId → Ty → Bool) (P : Program) : List Field → Nat → Ty → Bool
  | [], _, .unit => true
  | f :: r, off, .pair a b => ok f.type a && (Nat.beq f.offset off && (Nat.beq (P.cellsOf f.type) a.size && okFields ok P r (off + a.size) b))
  | _, _, _ => false
def okArr (ok : Ty → Bool) (k : Nat) : Nat → Ty → Bool
  | 0, .unit => true
  | m + 1, .pair a b => ok a && (Nat.beq k a.size && okArr ok k m b)
  | _, _ => false
def okTy (P : Program) : Nat → TypeId → Ty → Bool
  | 0, _, _ => false
  | n + 1, t, T => match P.underlying t, T with
    | some (.int k), .int k' => decide (k' = k)
    | some .bool, .bool => true
    | some .string, .str => true
    | some (.slice e), .sl T' => okTy P n e T' && (Nat.ble 1 (P.bytesOf e) && (Nat.beq (P.cellsOf e) T'.size && Nat.ble 1 T'.size))
    | some (.struct fs), T => Nat.beq (P.cellsOf t) T.size && okFields (okTy P n) P fs.toList 0 T
    | some (.array m e), T => Nat.beq (P.cellsOf t) T.size && okArr (okTy P n e) (P.cellsOf e) m T
    | _, _ => false

section
variable {H : Type} {enc : TypeId × Value → H} {P : Program} {w : World}

def ow0 : Own := fun _ => none

theorem fields_rep {ok : TypeId → Ty → Bool} {fuel : Nat} (hok : ∀ t T cs d ps, ok t T = true → DataW.trod enc P w 0 (fun _ => true) true fuel t cs = some (d, ps) → (∀ x ∈ d.weights P t, x ≤ reachBytes) → ∃ x : T.den, T.rep ow0 w cs x) :
    ∀ (fs : List Field) (off : Nat) (T : Ty) (cs : List Value) (xs : List (DataW H × List MemPlace)), okFields ok P fs off T = true → cs.length = off + T.size →
      (fs.mapM fun f => DataW.trod enc P w 0 (fun _ => true) true fuel f.type ((cs.drop f.offset).take (P.cellsOf f.type))) = some xs →
      (∀ x ∈ DataW.weightsEach P (fs.map (·.type)) (xs.map (·.1)), x ≤ reachBytes) → ∃ x : T.den, T.rep ow0 w (cs.drop off) x
  | [], off, T, cs, xs, hk, hl, hm, hw => by
    cases T <;> simp [okFields] at hk
    refine ⟨(), ?_⟩
    show cs.drop off = []
    rw [List.drop_eq_nil_iff]
    simp [Ty.size] at hl
    omega
  | f :: r, off, T, cs, xs, hk, hl, hm, hw => by
    cases T <;> simp only [okFields, Bool.and_eq_true] at hk <;> try (cases hk; done)
    rename_i a b
    obtain ⟨h1, h2, h3, h5⟩ := hk
    have h2 := Nat.eq_of_beq_eq_true h2
    have h3 := Nat.eq_of_beq_eq_true h3
    simp only [List.mapM_cons, Option.pure_def, Option.bind_eq_bind] at hm
    obtain ⟨y, hy, hm⟩ := Option.bind_eq_some_iff.1 hm
    obtain ⟨ys, hys, hm⟩ := Option.bind_eq_some_iff.1 hm
    injection hm with hm
    subst hm
    simp only [List.map_cons, DataW.weightsEach, List.mem_append] at hw
    simp only [Ty.size] at hl
    obtain ⟨x1, hx1⟩ := hok f.type a _ y.1 y.2 h1 hy (fun x hx => hw x (.inl hx))
    obtain ⟨x2, hx2⟩ := fields_rep hok r (off + a.size) b cs ys h5 (by omega) hys (fun x hx => hw x (.inr hx))
    refine ⟨(x1, x2), _, _, ?_, hx1, hx2⟩
    rw [h2, h3]
    have : cs.drop (off + a.size) = (cs.drop off).drop a.size := by rw [List.drop_drop]
    rw [this, List.take_append_drop]

theorem arr_rep {ok : Ty → Bool} {k : Nat} {good : List Value → Prop} (hok : ∀ T cs, ok T = true → good cs → ∃ x : T.den, T.rep ow0 w cs x) : ∀ (m : Nat) (T : Ty) (off : Nat) (cs : List Value), okArr ok k m T = true → cs.length = (off + m) * k →
    (∀ i, i < m → good ((cs.drop ((off + i) * k)).take k)) → ∃ x : T.den, T.rep ow0 w (cs.drop (off * k)) x
  | 0, T, off, cs, hk, hl, hg => by
    cases T <;> simp [okArr] at hk
    refine ⟨(), ?_⟩
    show cs.drop (off * k) = []
    rw [List.drop_eq_nil_iff]
    simp at hl
    omega
  | m + 1, T, off, cs, hk, hl, hg => by
    cases T <;> simp only [okArr, Bool.and_eq_true] at hk <;> try (cases hk; done)
    rename_i a b
    obtain ⟨h1, h2, h3⟩ := hk
    have h2 := Nat.eq_of_beq_eq_true h2
    obtain ⟨x1, hx1⟩ := hok a _ h1 (hg 0 (by omega))
    obtain ⟨x2, hx2⟩ := arr_rep hok m b (off + 1) cs h3 (by rw [hl]; congr 1; omega) (fun i hi => by rw [show off + 1 + i = off + (i + 1) by omega]; exact hg (i + 1) (by omega))
    refine ⟨(x1, x2), _, _, ?_, hx1, hx2⟩
    have : cs.drop ((off + 1) * k) = (cs.drop (off * k)).drop k := by rw [List.drop_drop, Nat.succ_mul]
    rw [this, Nat.add_zero, List.take_append_drop]

theorem weights_all {e : TypeId} : ∀ (l : List (DataW H)) (d : DataW H), d ∈ l → ∀ x ∈ d.weights P e, x ∈ DataW.weightsAll P e l
  | [], _, h, _, _ => by cases h
  | a :: l, d, h, x, hx => by
    simp only [DataW.weightsAll, List.mem_append]
    rcases List.mem_cons.1 h with rfl | h
    · exact .inl hx
    · exact .inr (weights_all l d h x hx)

theorem open_rep : ∀ (n : Nat) (fuel : Nat) (t : TypeId) (T : Ty) (cs : List Value) (d : DataW H) (ps : List MemPlace), okTy P n t T = true → DataW.trod enc P w 0 (fun _ => true) true fuel t cs = some (d, ps) → (∀ x ∈ d.weights P t, x ≤ reachBytes) → ∃ x : T.den, T.rep ow0 w cs x
  | 0, _, _, _, _, _, _, h, _, _ => by cases h
  | n + 1, 0, _, _, _, _, _, _, h, _ => by simp [DataW.trod] at h
  | n + 1, fuel + 1, t, T0, cs, d, ps, hk, hd, hw => by
    unfold okTy at hk
    unfold DataW.trod at hd
    split at hk
    · rename_i k k' hu
      have hk := of_decide_eq_true hk
      subst hk
      rw [hu] at hd
      match cs, hd with
      | [.int k2 m], hd =>
        simp only at hd
        split at hd <;> try (cases hd; done)
        rename_i hc
        obtain ⟨rfl, hc⟩ := hc
        simp only [Lit.wf, Bool.and_eq_true, decide_eq_true_eq] at hc
        exact ⟨m, rfl, hc⟩
    · rename_i hu
      rw [hu] at hd
      match cs, hd with
      | [.bool b], hd => exact ⟨b, rfl⟩
    · rename_i hu
      rw [hu] at hd
      match cs, hd with
      | [.string s], hd =>
        simp only at hd
        split at hd <;> try (cases hd; done)
        injection hd with hd
        injection hd with hd _
        subst hd
        refine ⟨s, rfl, ?_⟩
        have := hw s.data.toList.length (by unfold DataW.weights; exact List.mem_singleton.2 rfl)
        have h2 := reachBytes_lt
        have h3 : s.data.toList.length = s.size := by rw [Array.length_toList]; rfl
        unfold lim
        omega
    · rename_i e T' hu
      simp only [Bool.and_eq_true] at hk
      obtain ⟨h1, h2, h3, h4⟩ := hk
      have h2 := Nat.le_of_ble_eq_true h2
      have h3 := Nat.eq_of_beq_eq_true h3
      have h4 := Nat.le_of_ble_eq_true h4
      rw [hu] at hd
      match cs, hd with
      | [.slice none 0 0], hd => exact ⟨[], none, 0, rfl, Nat.le_refl _, Nat.zero_le _, Nat.zero_le _, .inl rfl⟩
      | [.slice (some a) len cap], hd =>
        simp only at hd
        split at hd <;> try (cases hd; done)
        rename_i hc
        obtain ⟨hb, hle, hcap⟩ := hc
        obtain ⟨elems, hel, hd⟩ := Option.bind_eq_some_iff.1 hd
        simp only [if_true, Option.map_eq_some_iff] at hd
        obtain ⟨rest, hrest, hd⟩ := hd
        injection hd with hd _
        subst hd
        have hlen := mapM_some_length hel
        have hrl := mapM_some_length hrest
        simp only [List.length_range] at hlen hrl
        simp only [DataW.weights, hu] at hw
        have hlim : len ≤ lim := by
          have := hw _ (List.mem_cons_self ..)
          simp only [List.length_map, hlen, hrl] at this
          have h5 := reachBytes_lt
          have : len * 1 ≤ (len + (cap - len)) * P.bytesOf e := Nat.mul_le_mul (by omega) h2
          unfold lim
          omega
        have each : ∀ i, i < len → ∃ (ci : List Value) (x : T'.den), w.cells? 0 (a.add (i * P.cellsOf e)) (P.cellsOf e) = some ci ∧ T'.rep ow0 w ci x := by
          intro i hi
          have hg := mapM_some_get hel i i (by simp [hi])
          have hlt : i < elems.length := by omega
          rw [List.getElem?_eq_getElem hlt] at hg
          obtain ⟨ci, hci, hy⟩ := Option.bind_eq_some_iff.1 hg
          obtain ⟨x, hx⟩ := open_rep n fuel e T' ci elems[i].1 elems[i].2 h1 hy (fun x hx => hw x (List.mem_cons_of_mem _ (List.mem_append_left _ (weights_all _ _ (List.mem_map.2 ⟨elems[i], List.getElem_mem hlt, rfl⟩) x hx))))
          exact ⟨ci, x, hci, hx⟩
        rcases Nat.eq_zero_or_pos len with h0 | h0
        · subst h0
          exact ⟨[], some a, cap, rfl, Nat.zero_le _, Nat.zero_le _, hcap, .inl rfl⟩
        have hsp : a.spot = none := by
          obtain ⟨ci, x, hci, hx⟩ := each 0 h0
          obtain ⟨_, c2, c3⟩ := World.cells?_some hci
          have h5 := c3 0 (by omega)
          have h6 : 0 < ci.length := by omega
          rw [List.getElem?_eq_getElem h6] at h5
          simp only [Nat.zero_mul, Addr.add, if_true] at h5
          cases hs : a.spot with
          | none => rfl
          | some sp =>
            exfalso
            simp only [World.cell?, hs] at h5
            split at h5 <;> simp at h5
        obtain ⟨g, o, sp⟩ := a
        simp only at hsp
        subst hsp
        -- the rows up to m
        have rows : ∀ m, m ≤ len → ∃ (xs : List Value) (l : List T'.den), l.length = m ∧ Rows (T'.rep ow0 w) xs l ∧ xs.length = m * P.cellsOf e ∧ readsAt w g o xs := by
          intro m
          induction m with
          | zero => exact fun _ => ⟨[], [], rfl, rfl, by simp, by intro k v h; simp at h⟩
          | succ m ih =>
            intro hm
            obtain ⟨xs, l, r1, r2, r3, r4⟩ := ih (by omega)
            obtain ⟨ci, x, hci, hx⟩ := each m (by omega)
            obtain ⟨_, c2, c3⟩ := World.cells?_some hci
            refine ⟨xs ++ ci, l ++ [x], by simp [r1], Rows.app r2 (Rows.one hx), by rw [List.length_append, r3, c2, Nat.succ_mul], fun k v hv => ?_⟩
            rcases Nat.lt_or_ge k xs.length with hk | hk
            · rw [List.getElem?_append_left hk] at hv
              exact r4 k v hv
            · rw [List.getElem?_append_right hk] at hv
              have hki : k - xs.length < P.cellsOf e := by
                have := (List.getElem?_eq_some_iff.1 hv).1
                omega
              have := c3 (k - xs.length) hki
              rw [hv, add_lit, add_lit] at this
              rw [← this]
              congr 2
              rw [r3] at hk ⊢
              omega
        obtain ⟨xs, l, r1, r2, r3, r4⟩ := rows len (Nat.le_refl _)
        have hx0 : 0 < xs.length := by rw [r3, h3]; exact Nat.mul_pos h0 h4
        have hc0 := r4 0 xs[0] (List.getElem?_eq_getElem hx0)
        exact ⟨l, _, cap, by rw [r1], by rw [r1]; exact hle, by rw [r1]; exact hlim, hcap, .inr ⟨g, o, xs, rfl, rfl, World.block_lt_of_cell? w _ hc0, r4, r2⟩⟩
    · rename_i fs hu
      rw [hu] at hd
      simp only [Bool.and_eq_true] at hk
      obtain ⟨h1, h2⟩ := hk
      have h1 := Nat.eq_of_beq_eq_true h1
      simp only at hd
      split at hd <;> try (cases hd; done)
      rename_i hl
      simp only [Option.map_eq_some_iff] at hd
      obtain ⟨xs, hxs, hd⟩ := hd
      injection hd with hd _
      subst hd
      simp only [DataW.weights, hu] at hw
      obtain ⟨x, hx⟩ := fields_rep (fun t T cs d ps => open_rep n fuel t T cs d ps) fs.toList 0 _ cs xs h2 (by rw [hl, h1]; omega) hxs hw
      exact ⟨x, by simpa using hx⟩
    · rename_i m e hu
      rw [hu] at hd
      simp only [Bool.and_eq_true] at hk
      obtain ⟨h1, h2⟩ := hk
      have h1 := Nat.eq_of_beq_eq_true h1
      simp only at hd
      split at hd <;> try (cases hd; done)
      rename_i hl
      simp only [Option.map_eq_some_iff] at hd
      obtain ⟨xs, hxs, hd⟩ := hd
      injection hd with hd _
      subst hd
      simp only [DataW.weights, hu] at hw
      have hlen := mapM_some_length hxs
      simp only [List.length_range] at hlen
      have each : ∀ i, i < m → ∃ d ps, DataW.trod enc P w 0 (fun _ => true) true fuel e ((cs.drop ((0 + i) * P.cellsOf e)).take (P.cellsOf e)) = some (d, ps) ∧ ∀ x ∈ d.weights P e, x ≤ reachBytes := by
        intro i hi
        have hg := mapM_some_get hxs i i (by simp [hi])
        have hlt : i < xs.length := by omega
        rw [List.getElem?_eq_getElem hlt] at hg
        refine ⟨xs[i].1, xs[i].2, by rw [Nat.zero_add]; exact hg, fun x hx => hw x ?_⟩
        exact weights_all _ _ (List.mem_map.2 ⟨xs[i], List.getElem_mem hlt, rfl⟩) x hx
      have hsz : ∀ (k m : Nat) (T : Ty), okArr (okTy P n e) k m T = true → T.size = m * k := by
        intro k m
        induction m with
        | zero => intro T h; cases T <;> simp [okArr] at h; simp [Ty.size]
        | succ m ih =>
          intro T h
          cases T <;> simp only [okArr, Bool.and_eq_true] at h <;> try (cases h; done)
          obtain ⟨_, h2, h3⟩ := h
          have h2 := Nat.eq_of_beq_eq_true h2
          simp only [Ty.size]
          rw [ih _ h3, ← h2, Nat.succ_mul, Nat.add_comm]
      obtain ⟨x, hx⟩ := arr_rep (good := fun cs => ∃ d ps, DataW.trod enc P w 0 (fun _ => true) true fuel e cs = some (d, ps) ∧ ∀ x ∈ d.weights P e, x ≤ reachBytes) (fun T cs hT hg => by
        obtain ⟨d, ps, g1, g2⟩ := hg
        exact open_rep n fuel e T cs d ps hT g1 g2) m _ 0 cs h2 (by rw [hl, h1, hsz _ _ _ h2, Nat.zero_add]) each
      exact ⟨x, by simpa using hx⟩
    · cases hk

/-- Structs within structs: cells, one behind the other. -/
@[reducible] def Ty.flt : Ty → Ty → Ty
  | .pair a b, R => a.flt (b.flt R)
  | .unit, R => R
  | .int k, R => .pair (.int k) R
  | .bool, R => .pair .bool R
  | .str, R => .pair .str R
  | .sl t, R => .pair (.sl t) R
  | .ptr t, R => .pair (.ptr t) R
  | .mapT K V, R => .pair (.mapT K V) R
def fltD : (T R : Ty) → T.den → R.den → (T.flt R).den
  | .pair a b, R, x, y => fltD a (b.flt R) x.1 (fltD b R x.2 y)
  | .unit, _, _, y => y
  | .int _, _, x, y => (x, y)
  | .bool, _, x, y => (x, y)
  | .str, _, x, y => (x, y)
  | .sl _, _, x, y => (x, y)
  | .ptr _, _, x, y => (x, y)
  | .mapT _ _, _, x, y => (x, y)
theorem flt_rep {ow : Own} {w : World} : ∀ {T R : Ty} {cs ds : List Value} {x : T.den} {y : R.den}, T.rep ow w cs x → R.rep ow w ds y → (T.flt R).rep ow w (cs ++ ds) (fltD T R x y)
  | .pair a b, R, cs, ds, x, y, ⟨c1, c2, e, h1, h2⟩, h => by
    subst e
    rw [List.append_assoc]
    exact flt_rep (T := a) h1 (flt_rep (T := b) h2 h)
  | .unit, _, cs, _, _, _, h1, h => by
    have h1 : cs = [] := h1
    subst h1
    exact h
  | .int _, _, _, _, _, _, h1, h => ⟨_, _, rfl, h1, h⟩
  | .bool, _, _, _, _, _, h1, h => ⟨_, _, rfl, h1, h⟩
  | .str, _, _, _, _, _, h1, h => ⟨_, _, rfl, h1, h⟩
  | .sl _, _, _, _, _, _, h1, h => ⟨_, _, rfl, h1, h⟩
  | .ptr _, _, _, _, _, _, h1, h => ⟨_, _, rfl, h1, h⟩
  | .mapT _ _, _, _, _, _, _, h1, h => ⟨_, _, rfl, h1, h⟩
end
end GoSx
end
section
/- Sy, part 6: a law's row, out of what its function does. -/
set_option linter.unusedVariables false
set_option linter.unusedSimpArgs false
namespace GoSx
open Go Go.RowKit Go.WideShapes Go.ChangeShapes

abbrev aigN : Ty := .pair int (.pair (.sl pair2) .unit)
abbrev circN : Ty := .pair aigN (.pair (.sl pair3) (.pair (.sl latchT) (.pair (.sl outT) .unit)))

/-- What comes in: data, each one value. -/
@[reducible] def parTy : Ty → Ty
  | .pair a b => (Ty.pair a b).flt .unit
  | T => T
def parAV : (T : Ty) → (parTy T).den → AV
  | .pair a b, x => .agg (splitT ((Ty.pair a b).flt .unit) x)
  | .unit, x => .dat .unit x
  | .int k, x => .dat (.int k) x
  | .bool, x => .dat .bool x
  | .str, x => .dat .str x
  | .sl t, x => .dat (.sl t) x
  | .ptr t, x => .dat (.ptr t) x
  | .mapT K V, x => .dat (.mapT K V) x
@[reducible] def inTy : List Ty → Ty
  | [] => .unit
  | T :: r => .pair (parTy T) (inTy r)
def inAV : (l : List Ty) → (inTy l).den → AV
  | [], _ => .nil
  | T :: r, x => .cons (parAV T x.1) (inAV r x.2)

/-- What data of a type are: numbers within their kind, rows that fit. -/
def Ty.fit : (T : Ty) → T.den → Prop
  | .int k, x => k.has x
  | .bool, _ => True
  | .str, s => s.size ≤ lim
  | .sl t, l => l.length ≤ lim ∧ ∀ x ∈ l, t.fit x
  | .ptr t, x => t.fit x
  | .mapT _ _, _ => True
  | .unit, _ => True
  | .pair a b, x => a.fit x.1 ∧ b.fit x.2
theorem Rows.each {α : Type} {R : List Value → α → Prop} : ∀ {l : List α} {xs : List Value}, Rows R xs l → ∀ x ∈ l, ∃ cs, R cs x
  | [], _, _, _, h => by cases h
  | a :: l, _, ⟨c, r, e, h1, h2⟩, x, hx => by
    rcases List.mem_cons.1 hx with rfl | hx
    · exact ⟨c, h1⟩
    · exact Rows.each h2 x hx
theorem Ty.rep_fit {ow : Nat → Option Nat} {w : World} : ∀ {T : Ty} {cs : List Value} {x : T.den}, T.rep ow w cs x → T.fit x
  | .int _, _, _, h => h.2
  | .bool, _, _, _ => trivial
  | .str, _, _, h => h.2
  | .sl t, _, l, ⟨_, _, _, _, hl, _, h⟩ => by
    refine ⟨hl, fun x hx => ?_⟩
    rcases h with rfl | ⟨_, _, _, _, _, _, _, hr⟩
    · cases hx
    · obtain ⟨cs, hc⟩ := Rows.each hr x hx
      exact Ty.rep_fit hc
  | .ptr t, _, _, ⟨_, _, _, _, _, cs', _, h⟩ => Ty.rep_fit (T := t) h
  | .mapT _ _, _, _, _ => trivial
  | .unit, _, _, _ => trivial
  | .pair a b, _, _, ⟨_, _, _, h1, h2⟩ => ⟨Ty.rep_fit h1, Ty.rep_fit h2⟩
def inFit : (l : List Ty) → (inTy l).den → Prop
  | [], _ => True
  | T :: r, x => (parTy T).fit x.1 ∧ inFit r x.2

/-- One value: data, or a struct. -/
def okPar (P : Program) (t : TypeId) (T : Ty) : Bool := T.leaf || match P.underlying t, T with
  | some (.struct _), .pair _ _ => true
  | _, _ => false
/-- Types of parameters. -/
def okPars (P : Program) : List TypeId → List Ty → Bool
  | [], [] => true
  | t :: ts, T :: r => okTy P 12 t T && (okPar P t T && (P.readableRec t && (decide (t < P.types.size) && okPars P ts r)))
  | _, _ => false

section
variable {H : Type} {enc : TypeId × Value → H} {P : Program} {w : World}

theorem fields_not_leaf {ok : TypeId → Ty → Bool} : ∀ (fs : List Field) (off : Nat) (T : Ty), okFields ok P fs off T = true → T.leaf = false
  | [], _, T, h => by cases T <;> first | rfl | (simp [okFields] at h; done)
  | _ :: _, _, T, h => by cases T <;> first | rfl | (simp [okFields] at h; done)

theorem arr_not_leaf {ok : Ty → Bool} {k : Nat} : ∀ (m : Nat) (T : Ty), okArr ok k m T = true → T.leaf = false
  | 0, T, h => by cases T <;> first | rfl | (simp [okArr] at h; done)
  | _ + 1, T, h => by cases T <;> first | rfl | (simp [okArr] at h; done)

theorem one_value {t : TypeId} {T : Ty} {v : Value} {base : Nat} (hk : okTy P 12 t T = true) (hl : T.leaf = true) (hv : Value.okWide P w .any base t v) : v.cells.toList = [v] := by
  unfold okTy at hk
  unfold Value.okWide at hv
  split at hk <;> rename_i hu
  · rw [hu] at hv
    cases v <;> first | rfl | (simp [Cell.okWide, Cell.ok, hu] at hv; done)
  · rw [hu] at hv
    cases v <;> first | rfl | (simp [Cell.okWide, Cell.ok, hu] at hv; done)
  · rw [hu] at hv
    cases v <;> first | rfl | (simp [Cell.okWide, Cell.ok, hu] at hv; done)
  · rw [hu] at hv
    cases v <;> first | rfl | (simp [Cell.okWide, Cell.ok, hu] at hv; done)
  · exfalso
    simp only [Bool.and_eq_true] at hk
    have := fields_not_leaf _ _ _ hk.2
    rw [hl] at this
    cases this
  · exfalso
    simp only [Bool.and_eq_true] at hk
    have := arr_not_leaf _ _ hk.2
    rw [hl] at this
    cases this
  · cases hk

theorem par_rep {t : TypeId} {T : Ty} {v : Value} {base : Nat} (hk : okTy P 12 t T = true) (hp : okPar P t T = true) (hv : Value.okWide P w .any base t v) {x : T.den} (hx : T.rep ow0 w v.cells.toList x) : ∃ y : (parTy T).den, (parAV T y).holds (fun _ => none) ow0 w [v] ∧ (parTy T).fit y := by
  cases hl : T.leaf with
  | true =>
    rw [one_value hk hl hv] at hx
    cases T <;> first | (cases hl; done) | exact ⟨x, ⟨rfl, hl, hx⟩, Ty.rep_fit hx⟩
  | false =>
    unfold okPar at hp
    rw [hl, Bool.false_or] at hp
    split at hp <;> try (cases hp; done)
    rename_i fs a b hu
    unfold Value.okWide at hv
    rw [hu] at hv
    obtain ⟨cs, rfl, _⟩ := hv
    have h0 : (Ty.unit).rep ow0 w [] () := rfl
    have hf := flt_rep hx h0
    rw [List.append_nil] at hf
    exact ⟨_, ⟨cs, rfl, splitT_holds hf⟩, Ty.rep_fit hf⟩

theorem open_pars : ∀ (ts : List TypeId) (Ts : List Ty) (vs : List Value) (ds : List (DataW H)) (ps : List MemPlace), okPars P ts Ts = true → DataW.TrodAll enc P w 0 (fun _ => true) true ts vs ds ps →
    (∀ (j : Nat) t v, ts[j]? = some t → vs[j]? = some v → ∃ base, Value.okWide P w .any base t v) → (∀ x ∈ DataW.weightsEach P ts ds, x ≤ reachBytes) → ∃ x : (inTy Ts).den, (inAV Ts x).holds (fun _ => none) ow0 w vs ∧ inFit Ts x
  | [], [], vs, ds, ps, hk, h, hv, hw => by
    cases vs <;> cases ds <;> simp [DataW.TrodAll] at h
    exact ⟨(), rfl, trivial⟩
  | t :: ts, T :: Ts, vs, ds, ps, hk, h, hv, hw => by
    simp only [okPars, Bool.and_eq_true] at hk
    obtain ⟨h1, h2, h3, h4, h5⟩ := hk
    cases vs <;> cases ds <;> simp only [DataW.TrodAll] at h <;> try (exact h.elim)
    rename_i v vs d ds
    obtain ⟨p, q, ⟨fuel, hf⟩, hq, _⟩ := h
    simp only [DataW.weightsEach, List.mem_append] at hw
    obtain ⟨base, hv0⟩ := hv 0 t v rfl rfl
    obtain ⟨x, hx⟩ := open_rep 12 fuel t T _ d p h1 hf (fun x hx => hw x (.inl hx))
    obtain ⟨y, hy, hyf⟩ := open_pars ts Ts vs ds q h5 hq (fun j t v a b => hv (j + 1) t v (by simpa using a) (by simpa using b)) (fun x hx => hw x (.inr hx))
    obtain ⟨z, hz, hzf⟩ := par_rep h1 h2 hv0 hx
    exact ⟨(z, y), ⟨v, vs, rfl, hz, hy⟩, hzf, hyf⟩
  | [], _ :: _, _, _, _, hk, _, _, _ => by cases hk
  | _ :: _, [], _, _, _, hk, _, _, _ => by cases hk

theorem stay_pars (hl : laidOutB P = true) {W' : World} (hb : Below w.heap.size w W') : ∀ (ts : List TypeId) (Ts : List Ty) (vs : List Value) (ds : List (DataW H)) (ps : List MemPlace), okPars P ts Ts = true → DataW.TrodAll enc P w 0 (fun _ => true) true ts vs ds ps →
    (∀ x ∈ ps, x.block < w.heap.size) → ∀ sp : Nat → Bool, (∀ x ∈ ps, sp x.block = true) → DataW.TrodAll enc P W' 0 sp true ts vs ds ps
  | [], [], vs, ds, ps, hk, h, hlt, sp, hsp => by
    cases vs <;> cases ds <;> simp [DataW.TrodAll] at h
    subst h
    rfl
  | t :: ts, T :: Ts, vs, ds, ps, hk, h, hlt, sp, hsp => by
    simp only [okPars, Bool.and_eq_true] at hk
    obtain ⟨h1, h2, h3, h4, h5⟩ := hk
    cases vs <;> cases ds <;> simp only [DataW.TrodAll] at h <;> try (exact h.elim)
    rename_i v vs d ds
    obtain ⟨p, q, hp, hq, rfl⟩ := h
    exact ⟨p, q, WideElems.Trod_stays hl h3 (of_decide_eq_true h4) hp (fun x hx => hb.same (hlt x (List.mem_append_left _ hx))) (fun x hx => hsp x (List.mem_append_left _ hx)),
      stay_pars hl hb ts Ts vs ds q h5 hq (fun x hx => hlt x (List.mem_append_right _ hx)) sp (fun x hx => hsp x (List.mem_append_right _ hx)), rfl⟩
  | [], _ :: _, _, _, _, hk, _, _, _, _ => by cases hk
  | _ :: _, [], _, _, _, hk, _, _, _, _ => by cases hk

/-- A call from outside. -/
theorem law_calls {f : FuncId} {T : Summ} (hT : SummOK P f T) {Ts : List Ty} (x : (inTy Ts).den) {vs : Array Value} (hx : (inAV Ts x).holds (fun _ => none) ow0 w vs.toList) {o : Out} (hr : (T (inAV Ts x) 64).run (fun _ => .none) = some o) (ho : o.obls = []) {b : Bool} (hb : o.res = .dat .bool b) :
    Calls P f vs w fun e w' => e = .returned (.bool b) ∧ Below w.heap.size w w' := by
  have hyp : Hyp (fun _ => Chunk.none) 64 (fun _ => none) ow0 w := ⟨fun _ => trivial, fun _ _ _ => rfl, fun b id h => (by cases h)⟩
  refine Calls.mono (hT _ 64 _ o _ _ w vs hyp hx hr (by rw [ho]; simp)).2 fun e w' he => ?_
  obtain ⟨v, rfl, φ', ow', hext, hres, _⟩ := he
  rw [hb] at hres
  have hv := bool_holds hres
  refine ⟨by rw [hv], hext.os, hext.tape, hext.output, hext.size, fun k hk => (hext.blk k hk (fun id h => (by cases h))).2⟩

theorem post_law {f : Func} {s : ChangeSpec} {fresh handsOn again : Bool} {W' : World} {args : Array Value} {ds gs : List (DataW H)} {before : List MemPlace} {Ts : List Ty} {tb : TypeId} (hl : laidOutB P = true) (hs : s.vars = []) (hfn : s.fn H (ds ++ []) = { results := [.lit (.bool true)], args := ds })
    (hW : DataW.Whole enc P f.params.toList s.vars false w args.toList ds gs before) (hk : okPars P f.params.toList Ts = true) (hb : Below w.heap.size w W') (hrt : f.resultTypes = #[tb]) (hub : P.underlying tb = some .bool) :
    s.post enc P f false fresh handsOn again w args (.bool true) W' := by
  have hlt := hW.lt
  obtain ⟨p, q, hA, hV, rfl, hfz, _⟩ := id hW
  rw [hs] at hV
  obtain ⟨rfl, rfl⟩ := trodVars_none hV
  rw [List.append_nil] at hlt hfz hW
  have hargs : ∀ sp : Nat → Bool, (∀ x ∈ p, sp x.block = true) → DataW.TrodAll enc P W' 0 sp true f.params.toList args.toList ds p := stay_pars hl hb _ Ts _ _ _ hk hA hlt
  have hres : ∀ (b : Nat) (sp : Nat → Bool) (hd : Bool), DataW.TrodAll enc P W' b sp hd f.resultTypes.toList ((Value.bool true).resultList f.resultTypes.size) [.lit (.bool true)] [] := by
    intro b sp hd
    rw [hrt]
    exact ⟨[], [], ⟨1, by simp [DataW.trod, hub, Value.cells]⟩, rfl, rfl⟩
  refine ⟨ds, [], p, [], p, [], hW, by rw [hfn]; exact hres _ _ _, by rw [hfn]; exact hargs _ (fun x hx => by simpa using hlt x hx), by rw [hfn, hs]; rfl, World.keptBut_mono (fun x hx => ⟨hx, .inr (.inl hx)⟩) (hb.frame (· ∈ p)), fun _ => ?_⟩
  refine ⟨fun j t r h1 h2 => ?_, [.lit (.bool true)] ++ ds, [], [] ++ p, ⟨[] ++ p, [], trodAll_append (hargs _ (fun _ _ => rfl)) (hres _ _ _), by rw [hs]; rfl, by simp, ?_, fun h => by cases h⟩, ?_⟩
  · rw [hrt] at h1 h2
    cases j with
    | zero =>
      simp only [List.getElem?_toArray, List.getElem?_cons_zero, Option.some.injEq] at h1
      subst h1
      have h2 : r = .bool true := by
        have : ((Value.bool true).resultList 1)[0]? = some r := h2
        simpa [Value.resultList] using this.symm
      subst h2
      simp [Value.okWide, hub, Cell.okWide, Cell.ok]
    | succ j => simp at h1
  · intro b off hp
    have hp : MemPlace.cell b off ∈ p := by simpa using hp
    rw [hb.frozen (hlt _ hp)]
    exact hfz b off hp
  · intro x hx _
    simpa using hx

/-- A law's function, lifted. -/
theorem law_lifted {C : Checked} {os : Os} {f : FuncId} {fn : Func} {s : ChangeSpec} {T : Summ} {Ts : List Ty} {tb : TypeId} {fresh handsOn again : Bool} (own : ownKnob C.prog.godebug = none) (started : os.Started) (noInit : C.prog.inits.idxOf? f = none) (hfn : C.prog.funcs[f]? = some fn)
    (witness : ∃ (w : World) (tape : Tape) (i : Input), w.os = os ∧ (w.forCall tape i).Shaped C.prog ∧ i.vars = [] ∧ Input.okWide C.prog (w.forCall tape i) .any w.heap.size f i ∧
      s.pre6 enc C.prog fn [] false (w.forCall tape i).memory i.args ∧ Assume.holds {} C.prog (lone (Frame.enter C.prog f i.args .normal) [] (w.forCall tape i)))
    (hl : laidOutB C.prog = true) (hs : s.vars = []) (hspec : ∀ ds : List (DataW H), ds.length = fn.params.size → s.fn H ds = { results := [.lit (.bool true)], args := ds }) (hk : okPars C.prog fn.params.toList Ts = true) (hrt : fn.resultTypes = #[tb]) (hub : C.prog.underlying tb = some .bool)
    (hT : SummOK C.prog f T) (hrun : ∀ x : (inTy Ts).den, inFit Ts x → ∃ o, (T (inAV Ts x) 64).run (fun _ => .none) = some o ∧ o.obls = [] ∧ o.res = .dat .bool true) :
    ReturnsInHanded {} C os f .any (s.pre6 enc C.prog fn [] false) (s.post enc C.prog fn false fresh handsOn again) := by
  refine returnsInHanded_of_change_shaped own started noInit hfn witness ?_
  intro W base args ds gs before hval hW _ hwt _ _
  obtain ⟨p, q, hA, hV, rfl, hfz, hnd⟩ := id hW
  rw [hs] at hV
  obtain ⟨rfl, rfl⟩ := trodVars_none hV
  have hwt' : ∀ x ∈ DataW.weightsEach C.prog fn.params.toList ds, x ≤ reachBytes := by
    rw [ChangeSpec.plain, hs] at hwt
    simpa [List.all_eq_true, DataSpec.varTypes] using hwt
  obtain ⟨x, hx, hxf⟩ := open_pars fn.params.toList Ts args.toList ds p hk hA (fun j t v h1 h2 => ⟨base, hval j t v (by simpa using h1) (by simpa using h2)⟩) hwt'
  obtain ⟨o, h1, h2, h3⟩ := hrun x hxf
  refine (law_calls hT x hx h1 h2 h3).mono fun e W' ⟨he, hb⟩ => ⟨_, he, ?_⟩
  have hlen : ds.length = fn.params.size := by
    have := trodAll_length hA
    rw [this.2]; simp
  exact post_law hl hs (by rw [List.append_nil]; exact hspec ds hlen) hW hk hb hrt hub
end
end GoSx
end
