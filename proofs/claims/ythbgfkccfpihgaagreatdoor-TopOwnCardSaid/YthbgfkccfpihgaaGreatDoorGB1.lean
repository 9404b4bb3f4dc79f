/- The texts MSatA, MSatB, MSatC, MSatD, MTopA, MTopC, MTopB, MCertA, MCertB, MCertC, MTopR, MCertD, MCertE, MTopD, MTopE, MTopF, MTopG, WSatA, WSatB, WSatC, WSatD, WTopA, WTopC, one behind the other. -/
import Derived.Test.YthbgfkccfpihgaaGreatDoorGA4
import Derived.Test.YthbgfkccfpihgaaGreatDoorProg
set_option linter.unusedVariables false
set_option linter.unusedSimpArgs false
section
namespace AL
open Go
abbrev LN := List (Int × Int × Int × Int × Int × Int × Int × Unit)
abbrev LC := List (ByteArray × Int × Int × Int × Unit)
abbrev LQ := List (Int × ByteArray × Int × Unit)
abbrev LP := List (ByteArray × Int × Unit)
abbrev LT := List (Int × Int × Bool × Int × Int × Unit)
abbrev L3 := List (Int × Int × Int × Unit)
abbrev L2 := List (Int × Int × Unit)
abbrev LLI := List (List Int)
abbrev LI := List Int
abbrev NET := LN × LP × LC × LQ × LP
abbrev CIR := Int × L2 × L3 × LT × L3
def size (x : Int) : Option ((Int × Unit) × Unit × Unit) :=
gd (inK .i64 (0 - x)) <|
some ((max2 x (0 - x), ()), (), ())
def at_ (x : Int) : Option ((Int × Unit) × Unit × Unit) :=
bif decide (x < 0) then
gd (inK .i64 (-2 * x)) <|
gd (inK .i64 (-2 * x + 1)) <|
some ((-2 * x + 1, ()), (), ())
else
gd (inK .i64 (2 * x)) <|
some ((2 * x, ()), (), ())
def value (x : Int) (is : LI) : Option ((Int × Unit) × ((LI × Unit) × Unit) × Unit) :=
bif decide (x < 0) then
gd (inK .i64 (0 - x)) <|
gd (0 <= 0 - x) <|
gd (0 - x < nI is.length) <|
gd (inK .i64 (0 - AE is (0 - x))) <|
some ((0 - AE is (0 - x), ()), ((is, ()), ()), ())
else
gd (0 <= x) <|
gd (x < nI is.length) <|
some ((AE is x, ()), ((is, ()), ()), ())
def R9 (x : Int) (y : Int) (is : LI) (depth : LI) (why : LI) (row : LI) (begin : LI) : Option (Unit × ((LI × LI × LI × LI × LI × Unit) × Unit) × Unit) :=
AD (size x) fun y0 =>
gd (0 <= y0.1.1) <|
gd (y0.1.1 < nI is.length) <|
bif decide (x < 0) then
gd (0 <= y0.1.1) <|
gd (y0.1.1 < nI (is.set y0.1.1.toNat 1).length) <|
gd (0 <= y0.1.1) <|
gd (y0.1.1 < nI depth.length) <|
gd (0 <= y0.1.1) <|
gd (y0.1.1 < nI why.length) <|
gd ((row.length + [x].length) * 8 <= lim) <|
gd (row.length + [x].length <= lim) <|
some ((), (((is.set y0.1.1.toNat 1).set y0.1.1.toNat (-1), depth.set y0.1.1.toNat (nI begin.length), why.set y0.1.1.toNat y, row ++ [x], begin, ()), ()), ())
else
gd (0 <= y0.1.1) <|
gd (y0.1.1 < nI depth.length) <|
gd (0 <= y0.1.1) <|
gd (y0.1.1 < nI why.length) <|
gd ((row.length + [x].length) * 8 <= lim) <|
gd (row.length + [x].length <= lim) <|
some ((), ((is.set y0.1.1.toNat 1, depth.set y0.1.1.toNat (nI begin.length), why.set y0.1.1.toNat y, row ++ [x], begin, ()), ()), ())
def AIq (nn : Nat)  (level : Int) (is : LI) (old : LI) (cold : Int) (row : LI) (begin : LI) (done : Int) : Option (Unit × ((LI × LI × Int × LI × LI × Int × Unit) × Unit) × Unit) :=
bif decide (level >= nI begin.length) then
some ((), ((is, old, cold, row, begin, done, ()), ()), ())
else
gd (0 <= level) <|
gd (level < nI begin.length) <|
gd (0 <= AE begin level) <|
gd (AE begin level <= nI row.length) <|
gd (nI row.length <= nI row.length) <|
gd (nI row.length - AE begin level <= nI lim) <|
AQ (X := Int × (Int × Int) × LI × LI) (fun y0 =>
bif decide (y0.1 < nI row.length - AE begin level) then
gd (0 <= y0.1) <|
gd (y0.1 < nI row.length - AE begin level) <|
AD (size (AE row (AE begin level + y0.1))) fun y1 =>
gd (0 <= y1.1.1) <|
gd (y1.1.1 < nI y0.2.2.1.length) <|
gd (0 <= y1.1.1) <|
gd (y1.1.1 < nI y0.2.2.2.length) <|
gd (0 <= y1.1.1) <|
gd (y1.1.1 < nI y0.2.2.1.length) <|
gd (inK .i64 (y0.1 + 1)) <|
some (Sum.inl (y0.1 + 1, (min2 y0.2.1.1 y1.1.1, y0.2.1.2), y0.2.2.1.set y1.1.1.toNat 0, y0.2.2.2.set y1.1.1.toNat (AE y0.2.2.1 y1.1.1)))
else
gd (0 <= AE begin level) <|
gd (AE begin level <= nI row.length) <|
gd (0 <= level) <|
gd (level <= nI begin.length) <|
some (Sum.inr ((), ((y0.2.2.1, y0.2.2.2, y0.2.1.1, List.take (Int.toNat (AE begin level)) row, List.take level.toNat begin, AE begin level, ()), ()), ()))) (nn) (0, (cold, done), is, old)
def back (level : Int) (is : LI) (old : LI) (cold : Int) (row : LI) (begin : LI) (done : Int) : Option (Unit × ((LI × LI × Int × LI × LI × Int × Unit) × Unit) × Unit) := AIq AK level is old cold row begin done
def keep (c : LI) (all : LLI) (ix : Int) (watch : LLI) : Option ((Int × Unit) × ((LLI × Int × LLI × Unit) × Unit) × Unit) :=
gd ((all.length + 1) * 24 <= lim) <|
gd (all.length + 1 <= lim) <|
gd (inK .i64 (nI (all ++ [c]).length - 1)) <|
gd (0 < nI c.length) <|
AD (at_ (AE c 0)) fun y0 =>
gd (0 < nI c.length) <|
AD (at_ (AE c 0)) fun y1 =>
gd (0 <= y1.1.1) <|
gd (y1.1.1 < nI watch.length) <|
gd ((List.length (Ao watch y1.1.1) + [nI (all ++ [c]).length - 1].length) * 8 <= lim) <|
gd (List.length (Ao watch y1.1.1) + [nI (all ++ [c]).length - 1].length <= lim) <|
gd (0 <= y0.1.1) <|
gd (y0.1.1 < nI watch.length) <|
gd (y1.1.1 = y0.1.1) <|
gd (1 < nI c.length) <|
AD (at_ (AE c 1)) fun y2 =>
gd (1 < nI c.length) <|
AD (at_ (AE c 1)) fun y3 =>
gd (0 <= y3.1.1) <|
gd (y3.1.1 < nI (watch.set y0.1.1.toNat (Ao watch y1.1.1 ++ [nI (all ++ [c]).length - 1])).length) <|
gd ((List.length (Ao (watch.set y0.1.1.toNat (Ao watch y1.1.1 ++ [nI (all ++ [c]).length - 1])) y3.1.1) + [nI (all ++ [c]).length - 1].length) * 8 <= lim) <|
gd (List.length (Ao (watch.set y0.1.1.toNat (Ao watch y1.1.1 ++ [nI (all ++ [c]).length - 1])) y3.1.1) + [nI (all ++ [c]).length - 1].length <= lim) <|
gd (0 <= y2.1.1) <|
gd (y2.1.1 < nI (watch.set y0.1.1.toNat (Ao watch y1.1.1 ++ [nI (all ++ [c]).length - 1])).length) <|
gd (y3.1.1 = y2.1.1) <|
some ((nI (all ++ [c]).length - 1, ()), ((all ++ [c], nI all.length, (watch.set y0.1.1.toNat (Ao watch y1.1.1 ++ [nI (all ++ [c]).length - 1])).set y2.1.1.toNat (Ao (watch.set y0.1.1.toNat (Ao watch y1.1.1 ++ [nI (all ++ [c]).length - 1])) y3.1.1 ++ [nI (all ++ [c]).length - 1]), ()), ()), ())
end AL
end
section
namespace AL
open Go
def forget (answer : Int) (core : LI) (model : List Bool) : Option (Unit × ((Int × LI × List Bool × Unit) × Unit) × Unit) :=
some ((), ((0, [], [], ()), ()), ())
def AJp (x : Int) (vars : Int) : Option ((Bool × Unit) × (Unit × (Int × Unit) × Unit) × Unit) :=
bif x == 0 then
some ((true, ()), ((), (vars, ()), ()), ())
else
gd (inK .i64 (0 - vars)) <|
bif bif false then true else decide (x < 0 - vars) then
some ((true, ()), ((), (vars, ()), ()), ())
else
some ((bif false then true else decide (x > vars), ()), ((), (vars, ()), ()), ())
def HM (nn : Nat)  (s : LI) (vars : Int) : Option ((Int × Unit) × (Unit × (Int × Unit) × Unit) × Unit) :=
AQ (X := Int × Int) (fun y0 =>
bif decide (y0.1 < nI s.length) then
gd (0 <= y0.1) <|
gd (y0.1 < nI s.length) <|
AD (AJp (AE s y0.1) y0.2) fun y1 =>
bif y1.1.1 then
some (Sum.inr ((y0.1, ()), ((), (y1.2.1.2.1.1, ()), ()), ()))
else
gd (inK .i64 (y0.1 + 1)) <|
some (Sum.inl (y0.1 + 1, y1.2.1.2.1.1))
else
some (Sum.inr ((-1, ()), ((), (y0.2, ()), ()), ()))) (nn) (0, vars)
def IQ (s : LI) (vars : Int) : Option ((Int × Unit) × (Unit × (Int × Unit) × Unit) × Unit) := HM AK s vars
def Dn (s : LI) (vars : Int) : Option ((Bool × Unit) × (Unit × (Int × Unit) × Unit) × Unit) :=
AD (IQ s vars) fun y0 =>
some ((decide (y0.1.1 >= 0), ()), ((), (y0.2.1.2.1.1, ()), ()), ())
def own (l : LI) (vars : Int) : Option ((Bool × Unit) × ((Int × Unit) × Unit) × Unit) :=
AD (Dn l vars) fun y0 =>
some ((!y0.1.1, ()), ((y0.2.1.2.1.1, ()), ()), ())
def Z8 (nn : Nat)  (s : LI) (v : Int) : Option ((Int × Unit) × Unit × Unit) :=
AQ (X := Int) (fun y0 =>
bif decide (y0 < nI s.length) then
gd (0 <= y0) <|
gd (y0 < nI s.length) <|
bif v == AE s y0 then
some (Sum.inr ((y0, ()), (), ()))
else
gd (inK .i64 (y0 + 1)) <|
some (Sum.inl (y0 + 1))
else
some (Sum.inr ((-1, ()), (), ()))) (nn) 0
def ADv (s : LI) (v : Int) : Option ((Int × Unit) × Unit × Unit) := Z8 AK s v
def EX (s : LI) (v : Int) : Option ((Bool × Unit) × Unit × Unit) :=
AD (ADv s v) fun y0 =>
some ((decide (y0.1.1 >= 0), ()), (), ())
def AIr (nn : Nat)  (vars : Int) (is : LI) (old : LI) (hot : LI) (warm : LI) (cold : Int) : Option ((Int × Unit) × ((Int × LI × LI × LI × LI × Int × Unit) × Unit) × Unit) :=
AQ (X := Int × Int) (fun y0 =>
bif decide (y0.2 < nI warm.length) then
gd (0 <= y0.2) <|
gd (y0.2 < nI warm.length) <|
gd (0 <= AE warm y0.2) <|
gd (AE warm y0.2 < nI is.length) <|
bif AE is (AE warm y0.2) == 0 then
bif y0.1 == 0 then
gd (inK .i64 (y0.2 + 1)) <|
some (Sum.inl (AE warm y0.2, y0.2 + 1))
else
gd (0 <= AE warm y0.2) <|
gd (AE warm y0.2 < nI hot.length) <|
gd (0 <= y0.1) <|
gd (y0.1 < nI hot.length) <|
bif bif false then true else decide (AE hot (AE warm y0.2) > AE hot y0.1) then
gd (inK .i64 (y0.2 + 1)) <|
some (Sum.inl (AE warm y0.2, y0.2 + 1))
else
gd (0 <= AE warm y0.2) <|
gd (AE warm y0.2 < nI hot.length) <|
gd (0 <= y0.1) <|
gd (y0.1 < nI hot.length) <|
bif AE hot (AE warm y0.2) == AE hot y0.1 then
bif bif true then bif false then true else bif true then decide (AE warm y0.2 < y0.1) else false else false then
gd (inK .i64 (y0.2 + 1)) <|
some (Sum.inl (AE warm y0.2, y0.2 + 1))
else
gd (inK .i64 (y0.2 + 1)) <|
some (Sum.inl (y0.1, y0.2 + 1))
else
gd (inK .i64 (y0.2 + 1)) <|
some (Sum.inl (y0.1, y0.2 + 1))
else
gd (inK .i64 (y0.2 + 1)) <|
some (Sum.inl (y0.1, y0.2 + 1))
else
AQ (X := Int × Int × LI × LI × LI × LI × Int) (fun y1 =>
bif y1.1 == 0 then
bif bif true then decide (y1.2.2.2.2.2.2 <= y1.2.1) else false then
gd (0 <= y1.2.2.2.2.2.2) <|
gd (y1.2.2.2.2.2.2 < nI y1.2.2.1.length) <|
bif AE y1.2.2.1 y1.2.2.2.2.2.2 == 0 then
gd (0 <= y1.2.2.2.2.2.2) <|
gd (y1.2.2.2.2.2.2 < nI y1.2.2.2.2.1.length) <|
bif bif true then AE y1.2.2.2.2.1 y1.2.2.2.2.2.2 == 0 else false then
gd (inK .i64 (y1.2.2.2.2.2.2 + 1)) <|
some (Sum.inl (y1.2.2.2.2.2.2, y1.2.1, y1.2.2.1, y1.2.2.2.1, y1.2.2.2.2.1, y1.2.2.2.2.2.1, y1.2.2.2.2.2.2 + 1))
else
gd (inK .i64 (y1.2.2.2.2.2.2 + 1)) <|
some (Sum.inl (y1.1, y1.2.1, y1.2.2.1, y1.2.2.2.1, y1.2.2.2.2.1, y1.2.2.2.2.2.1, y1.2.2.2.2.2.2 + 1))
else
gd (inK .i64 (y1.2.2.2.2.2.2 + 1)) <|
some (Sum.inl (y1.1, y1.2.1, y1.2.2.1, y1.2.2.2.1, y1.2.2.2.2.1, y1.2.2.2.2.2.1, y1.2.2.2.2.2.2 + 1))
else
bif decide (y1.1 > 0) then
gd (0 <= y1.1) <|
gd (y1.1 < nI y1.2.2.2.1.length) <|
bif bif true then AE y1.2.2.2.1 y1.1 == 1 else false then
some (Sum.inr (Sum.inr ((y1.1, ()), ((y1.2.1, y1.2.2.1, y1.2.2.2.1, y1.2.2.2.2.1, y1.2.2.2.2.2.1, y1.2.2.2.2.2.2, ()), ()), ())))
else
gd (inK .i64 (0 - y1.1)) <|
some (Sum.inr (Sum.inr ((0 - y1.1, ()), ((y1.2.1, y1.2.2.1, y1.2.2.2.1, y1.2.2.2.2.1, y1.2.2.2.2.2.1, y1.2.2.2.2.2.2, ()), ()), ())))
else
gd (inK .i64 (0 - y1.1)) <|
some (Sum.inr (Sum.inr ((0 - y1.1, ()), ((y1.2.1, y1.2.2.1, y1.2.2.2.1, y1.2.2.2.2.1, y1.2.2.2.2.2.1, y1.2.2.2.2.2.2, ()), ()), ())))
else
bif decide (y1.1 > 0) then
gd (0 <= y1.1) <|
gd (y1.1 < nI y1.2.2.2.1.length) <|
bif bif true then AE y1.2.2.2.1 y1.1 == 1 else false then
some (Sum.inr (Sum.inr ((y1.1, ()), ((y1.2.1, y1.2.2.1, y1.2.2.2.1, y1.2.2.2.2.1, y1.2.2.2.2.2.1, y1.2.2.2.2.2.2, ()), ()), ())))
else
gd (inK .i64 (0 - y1.1)) <|
some (Sum.inr (Sum.inr ((0 - y1.1, ()), ((y1.2.1, y1.2.2.1, y1.2.2.2.1, y1.2.2.2.2.1, y1.2.2.2.2.2.1, y1.2.2.2.2.2.2, ()), ()), ())))
else
gd (inK .i64 (0 - y1.1)) <|
some (Sum.inr (Sum.inr ((0 - y1.1, ()), ((y1.2.1, y1.2.2.1, y1.2.2.2.1, y1.2.2.2.2.1, y1.2.2.2.2.2.1, y1.2.2.2.2.2.2, ()), ()), ())))) (nn) (y0.1, vars, is, old, hot, warm, cold)) (nn) (0, 0)
def pick (vars : Int) (is : LI) (old : LI) (hot : LI) (warm : LI) (cold : Int) : Option ((Int × Unit) × ((Int × LI × LI × LI × LI × Int × Unit) × Unit) × Unit) := AIr AK vars is old hot warm cold
def Ev (s : LI) : Option ((LI × Unit) × Unit × Unit) :=
gd ((([] : LI).length + s.length) * 8 <= lim) <|
gd (([] : LI).length + s.length <= lim) <|
some ((s, ()), (), ())
end AL
end
section
namespace AL
open Go
def more (l : LI) (n : Int) : Option ((LI × Unit) × Unit × Unit) :=
gd (inK .i64 (n - nI l.length)) <|
gd (0 <= n - nI l.length) <|
gd ((l.length + Int.toNat (n - nI l.length)) * 8 <= lim) <|
gd (l.length + Int.toNat (n - nI l.length) <= lim) <|
some ((l ++ List.replicate (Int.toNat (n - nI l.length)) 0, ()), (), ())
def grow (n : Int) (vars : Int) (watch : LLI) (is : LI) (depth : LI) (why : LI) (old : LI) (hot : LI) : Option (Unit × ((Int × LLI × LI × LI × LI × LI × LI × Unit) × Unit) × Unit) :=
gd (inK .i64 (n + 1)) <|
AD (more is (n + 1)) fun y0 =>
gd (inK .i64 (n + 1)) <|
AD (more depth (n + 1)) fun y1 =>
gd (inK .i64 (n + 1)) <|
AD (more why (n + 1)) fun y2 =>
gd (inK .i64 (n + 1)) <|
AD (more old (n + 1)) fun y3 =>
gd (inK .i64 (n + 1)) <|
AD (more hot (n + 1)) fun y4 =>
gd (inK .i64 (2 * n)) <|
gd (inK .i64 (2 * n + 2)) <|
gd (inK .i64 (2 * n + 2 - nI watch.length)) <|
gd (0 <= 2 * n + 2 - nI watch.length) <|
gd ((watch.length + Int.toNat (2 * n + 2 - nI watch.length)) * 24 <= lim) <|
gd (watch.length + Int.toNat (2 * n + 2 - nI watch.length) <= lim) <|
some ((), ((n, watch ++ List.replicate (Int.toNat (2 * n + 2 - nI watch.length)) [], y0.1.1, y1.1.1, y2.1.1, y3.1.1, y4.1.1, ()), ()), ())
def New (n : Int) : Option (Unit × Unit × (Int × LLI × LLI × LI × LI × LI × LI × LI × LI × Int × LI × LI × Int × Bool × LLI × Int × LI × List Bool × Unit) × Unit) :=
AD (grow (min2 (max2 n 0) 1048576) 0 [] [] [] [] [] []) fun y0 =>
some ((), (), (y0.2.1.1.1, [], y0.2.1.1.2.1, y0.2.1.1.2.2.1, y0.2.1.1.2.2.2.1, y0.2.1.1.2.2.2.2.1, y0.2.1.1.2.2.2.2.2.1, y0.2.1.1.2.2.2.2.2.2.1, [], 1, [], [], 0, false, [], 0, [], [], ()), ())
def AKm (nn : Nat)  (c : LI) (vars : Int) (all : LLI) (watch : LLI) (is : LI) (depth : LI) (why : LI) (old : LI) (cold : Int) (row : LI) (begin : LI) (done : Int) (empty : Bool) (answer : Int) (core : LI) (model : List Bool) : Option (Unit × ((Int × LLI × LLI × LI × LI × LI × LI × Int × LI × LI × Int × Bool × Int × LI × List Bool × Unit) × Unit) × Unit) :=
AD (forget answer core model) fun y0 =>
AD (own c vars) fun y1 =>
bif !y1.1.1 then
some ((), ((y1.2.1.1.1, all, watch, is, depth, why, old, cold, row, begin, done, empty, y0.2.1.1.1, y0.2.1.1.2.1, y0.2.1.1.2.2.1, ()), ()), ())
else
AD (back 0 is old cold row begin done) fun y2 =>
AQ (X := Int × (Int × Int × Int × Bool × Int) × LI) (fun y3 =>
bif decide (y3.1 < nI c.length) then
gd (0 <= y3.1) <|
gd (y3.1 < nI c.length) <|
AD (value (AE c y3.1) y2.2.1.1.1) fun y4 =>
bif y4.1.1 == 1 then
some (Sum.inr ((), ((y3.2.1.1, all, watch, y2.2.1.1.1, depth, why, y2.2.1.1.2.1, y3.2.1.2.1, y2.2.1.1.2.2.2.1, y2.2.1.1.2.2.2.2.1, y3.2.1.2.2.1, y3.2.1.2.2.2.1, y3.2.1.2.2.2.2, y0.2.1.1.2.1, y0.2.1.1.2.2.1, ()), ()), ()))
else
gd (inK .i64 (0 - AE c y3.1)) <|
AD (EX c (0 - AE c y3.1)) fun y5 =>
bif bif false then true else y5.1.1 then
some (Sum.inr ((), ((y3.2.1.1, all, watch, y2.2.1.1.1, depth, why, y2.2.1.1.2.1, y3.2.1.2.1, y2.2.1.1.2.2.2.1, y2.2.1.1.2.2.2.2.1, y3.2.1.2.2.1, y3.2.1.2.2.2.1, y3.2.1.2.2.2.2, y0.2.1.1.2.1, y0.2.1.1.2.2.1, ()), ()), ()))
else
AD (value (AE c y3.1) y2.2.1.1.1) fun y6 =>
bif y6.1.1 == 0 then
AD (EX y3.2.2 (AE c y3.1)) fun y7 =>
bif bif true then !y7.1.1 else false then
gd ((y3.2.2.length + [AE c y3.1].length) * 8 <= lim) <|
gd (y3.2.2.length + [AE c y3.1].length <= lim) <|
gd (inK .i64 (y3.1 + 1)) <|
some (Sum.inl (y3.1 + 1, (y3.2.1.1, y3.2.1.2.1, y3.2.1.2.2.1, y3.2.1.2.2.2.1, y3.2.1.2.2.2.2), y3.2.2 ++ [AE c y3.1]))
else
gd (inK .i64 (y3.1 + 1)) <|
some (Sum.inl (y3.1 + 1, (y3.2.1.1, y3.2.1.2.1, y3.2.1.2.2.1, y3.2.1.2.2.2.1, y3.2.1.2.2.2.2), y3.2.2))
else
gd (inK .i64 (y3.1 + 1)) <|
some (Sum.inl (y3.1 + 1, (y3.2.1.1, y3.2.1.2.1, y3.2.1.2.2.1, y3.2.1.2.2.2.1, y3.2.1.2.2.2.2), y3.2.2))
else
bif nI y3.2.2.length == 0 then
some (Sum.inr ((), ((y3.2.1.1, all, watch, y2.2.1.1.1, depth, why, y2.2.1.1.2.1, y3.2.1.2.1, y2.2.1.1.2.2.2.1, y2.2.1.1.2.2.2.2.1, y3.2.1.2.2.1, true, y3.2.1.2.2.2.2, y0.2.1.1.2.1, y0.2.1.1.2.2.1, ()), ()), ()))
else
bif nI y3.2.2.length == 1 then
gd (0 < nI y3.2.2.length) <|
AD (R9 (AE y3.2.2 0) (-1) y2.2.1.1.1 depth why y2.2.1.1.2.2.2.1 y2.2.1.1.2.2.2.2.1) fun y4 =>
some (Sum.inr ((), ((y3.2.1.1, all, watch, y4.2.1.1.1, y4.2.1.1.2.1, y4.2.1.1.2.2.1, y2.2.1.1.2.1, y3.2.1.2.1, y4.2.1.1.2.2.2.1, y2.2.1.1.2.2.2.2.1, y3.2.1.2.2.1, y3.2.1.2.2.2.1, y3.2.1.2.2.2.2, y0.2.1.1.2.1, y0.2.1.1.2.2.1, ()), ()), ()))
else
AD (keep y3.2.2 all 0 watch) fun y4 =>
some (Sum.inr ((), ((y3.2.1.1, y4.2.1.1.1.set y4.2.1.1.2.1.toNat y3.2.2, y4.2.1.1.2.2.1, y2.2.1.1.1, depth, why, y2.2.1.1.2.1, y3.2.1.2.1, y2.2.1.1.2.2.2.1, y2.2.1.1.2.2.2.2.1, y3.2.1.2.2.1, y3.2.1.2.2.2.1, y3.2.1.2.2.2.2, y0.2.1.1.2.1, y0.2.1.1.2.2.1, ()), ()), ()))) (nn) (0, (y1.2.1.1.1, y2.2.1.1.2.2.1, y2.2.1.1.2.2.2.2.2.1, empty, y0.2.1.1.1), [])
def Add (c : LI) (vars : Int) (all : LLI) (watch : LLI) (is : LI) (depth : LI) (why : LI) (old : LI) (cold : Int) (row : LI) (begin : LI) (done : Int) (empty : Bool) (answer : Int) (core : LI) (model : List Bool) : Option (Unit × ((Int × LLI × LLI × LI × LI × LI × LI × Int × LI × LI × Int × Bool × Int × LI × List Bool × Unit) × Unit) × Unit) := AKm AK c vars all watch is depth why old cold row begin done empty answer core model
def Core (core : LI) : Option ((LI × Unit) × ((LI × Unit) × Unit) × Unit) :=
AD (Ev core) fun y0 =>
some ((y0.1.1, ()), ((core, ()), ()), ())
def ADw (nn : Nat)  (proof : LLI) (answer : Int) : Option ((LLI × Unit) × ((LLI × Int × Unit) × Unit) × Unit) :=
bif answer != 2 then
some (([], ()), ((proof, answer, ()), ()), ())
else
AQ (X := Int × LLI) (fun y0 =>
bif decide (y0.1 < nI proof.length) then
gd (0 <= y0.1) <|
gd (y0.1 < nI proof.length) <|
AD (Ev (Ao proof y0.1)) fun y1 =>
gd ((y0.2.length + [y1.1.1].length) * 24 <= lim) <|
gd (y0.2.length + [y1.1.1].length <= lim) <|
gd (inK .i64 (y0.1 + 1)) <|
some (Sum.inl (y0.1 + 1, y0.2 ++ [y1.1.1]))
else
some (Sum.inr ((y0.2, ()), ((proof, answer, ()), ()), ()))) (nn) (0, [])
def Proof (proof : LLI) (answer : Int) : Option ((LLI × Unit) × ((LLI × Int × Unit) × Unit) × Unit) := ADw AK proof answer
def ADx (nn : Nat)  (x : Int) (all : LLI) (why : LI) (row : LI) (begin : LI) : Option ((LI × Unit) × ((LLI × LI × LI × LI × Unit) × Unit) × Unit) :=
AD (size x) fun y0 =>
gd (inK .i64 (nI row.length - 1)) <|
AQ (X := Int × LLI × LI × LI × List (Int × Bool)) (fun y1 =>
bif decide (y1.1 >= 0) then
bif bif true then decide (nI begin.length > 0) else false then
gd (0 < nI begin.length) <|
bif bif true then decide (y1.1 >= AE begin 0) else false then
gd (0 <= y1.1) <|
gd (y1.1 < nI row.length) <|
AD (size (AE row y1.1)) fun y2 =>
bif !Ad Ty.bool.Bl y1.2.2.2.2 y2.1.1 then
gd (inK .i64 (y1.1 - 1)) <|
some (Sum.inl (y1.1 - 1, y1.2.1, y1.2.2.1, y1.2.2.1, y1.2.2.2.2))
else
AD (size (AE row y1.1)) fun y3 =>
gd (0 <= y3.1.1) <|
gd (y3.1.1 < nI why.length) <|
bif AE why y3.1.1 == -1 then
gd ((y1.2.2.1.length + [AE row y1.1].length) * 8 <= lim) <|
gd (y1.2.2.1.length + [AE row y1.1].length <= lim) <|
gd (inK .i64 (y1.1 - 1)) <|
some (Sum.inl (y1.1 - 1, y1.2.1, y1.2.2.1 ++ [AE row y1.1], y1.2.2.1 ++ [AE row y1.1], y1.2.2.2.2))
else
AD (size (AE row y1.1)) fun y4 =>
gd (0 <= y4.1.1) <|
gd (y4.1.1 < nI why.length) <|
gd (0 <= AE why y4.1.1) <|
gd (AE why y4.1.1 < nI y1.2.1.length) <|
AQ (X := Int × List (Int × Bool)) (fun y5 =>
bif decide (y5.1 < nI (List.length (Ao y1.2.1 (AE why y4.1.1)))) then
gd (0 <= y5.1) <|
gd (y5.1 < nI (List.length (Ao y1.2.1 (AE why y4.1.1)))) <|
AD (size (AE (Ao y1.2.1 (AE why y4.1.1)) y5.1)) fun y6 =>
gd (y5.2.length < lim) <|
gd (inK .i64 (y5.1 + 1)) <|
some (Sum.inl (y5.1 + 1, A4 true y5.2 y6.1.1))
else
gd (inK .i64 (y1.1 - 1)) <|
some (Sum.inr (Sum.inl (y1.1 - 1, y1.2.1.set (Int.toNat (AE why y4.1.1)) (Ao y1.2.1 (AE why y4.1.1)), y1.2.2.1, y1.2.2.1, y5.2)))) (nn) (0, y1.2.2.2.2)
else
some (Sum.inr ((y1.2.2.1, ()), ((y1.2.1, why, row, begin, ()), ()), ()))
else
some (Sum.inr ((y1.2.2.1, ()), ((y1.2.1, why, row, begin, ()), ()), ()))
else
some (Sum.inr ((y1.2.2.1, ()), ((y1.2.1, why, row, begin, ()), ()), ()))) (nn) (nI row.length - 1, all, [x], [x], A4 true [] y0.1.1)
def AIs (x : Int) (all : LLI) (why : LI) (row : LI) (begin : LI) : Option ((LI × Unit) × ((LLI × LI × LI × LI × Unit) × Unit) × Unit) := ADx AK x all why row begin
def ADy (nn : Nat)  (n : Int) (all : LLI) (is : LI) (depth : LI) (why : LI) (hot : LI) (warm : LI) (row : LI) (begin : LI) : Option ((LI × Int × Unit) × ((LLI × LI × LI × LI × LI × LI × LI × LI × Unit) × Unit) × Unit) :=
gd (0 <= n) <|
gd (n < nI all.length) <|
AQ (X := (Int × Int) × (LI × LI × LI × LI × LI) × (LLI × Int) × LI × LI × LI × LI × List (Int × Bool) × LI) (fun y0 =>
AQ (X := (Int × Int) × (LI × LI × LI × LI × LI) × LI × LI × List (Int × Bool) × LI × LI) (fun y1 =>
bif decide (y1.1.1 < nI y0.2.2.2.1.length) then
gd (0 <= y1.1.1) <|
gd (y1.1.1 < nI y0.2.2.2.1.length) <|
AD (size (AE y0.2.2.2.1 y1.1.1)) fun y2 =>
bif Ad Ty.bool.Bl y1.2.2.2.2.1 y2.1.1 then
gd (inK .i64 (y1.1.1 + 1)) <|
some (Sum.inl ((y1.1.1 + 1, y1.1.2), (y1.2.1.1, y1.2.1.2.1, y1.2.1.2.2.1, y1.2.1.2.2.2.1, y1.2.1.2.2.2.2), y1.2.2.1, y1.2.2.2.1, y1.2.2.2.2.1, y1.2.2.2.2.2.1, y1.2.2.2.2.2.1))
else
AD (value (AE y0.2.2.2.1 y1.1.1) y1.2.1.1) fun y3 =>
bif bif false then true else y3.1.1 != -1 then
gd (inK .i64 (y1.1.1 + 1)) <|
some (Sum.inl ((y1.1.1 + 1, y1.1.2), (y1.2.1.1, y1.2.1.2.1, y1.2.1.2.2.1, y1.2.1.2.2.2.1, y1.2.1.2.2.2.2), y1.2.2.1, y1.2.2.2.1, y1.2.2.2.2.1, y1.2.2.2.2.2.1, y1.2.2.2.2.2.1))
else
gd (0 <= y2.1.1) <|
gd (y2.1.1 < nI y1.2.1.2.1.length) <|
bif bif false then true else AE y1.2.1.2.1 y2.1.1 == 0 then
gd (inK .i64 (y1.1.1 + 1)) <|
some (Sum.inl ((y1.1.1 + 1, y1.1.2), (y1.2.1.1, y1.2.1.2.1, y1.2.1.2.2.1, y1.2.1.2.2.2.1, y1.2.1.2.2.2.2), y1.2.2.1, y1.2.2.2.1, y1.2.2.2.2.1, y1.2.2.2.2.2.1, y1.2.2.2.2.2.1))
else
gd (y1.2.2.2.2.1.length < lim) <|
gd (0 <= y2.1.1) <|
gd (y2.1.1 < nI y1.2.2.1.length) <|
bif AE y1.2.2.1 y2.1.1 == 0 then
gd ((y1.2.2.2.1.length + [y2.1.1].length) * 8 <= lim) <|
gd (y1.2.2.2.1.length + [y2.1.1].length <= lim) <|
gd (0 <= y2.1.1) <|
gd (y2.1.1 < nI y1.2.2.1.length) <|
gd (inK .i64 (AE y1.2.2.1 y2.1.1 + 1)) <|
gd (0 <= y2.1.1) <|
gd (y2.1.1 < nI y1.2.2.1.length) <|
gd (0 <= y2.1.1) <|
gd (y2.1.1 < nI y1.2.1.2.1.length) <|
bif AE y1.2.1.2.1 y2.1.1 == nI y1.2.1.2.2.2.2.length then
gd (inK .i64 (y1.1.2 + 1)) <|
gd (inK .i64 (y1.1.1 + 1)) <|
some (Sum.inl ((y1.1.1 + 1, y1.1.2 + 1), (y1.2.1.1, y1.2.1.2.1, y1.2.1.2.2.1, y1.2.1.2.2.2.1, y1.2.1.2.2.2.2), y1.2.2.1.set y2.1.1.toNat (AE y1.2.2.1 y2.1.1 + 1), y1.2.2.2.1 ++ [y2.1.1], A4 true y1.2.2.2.2.1 y2.1.1, y1.2.2.2.2.2.1, y1.2.2.2.2.2.1))
else
gd ((y1.2.2.2.2.2.1.length + [AE y0.2.2.2.1 y1.1.1].length) * 8 <= lim) <|
gd (y1.2.2.2.2.2.1.length + [AE y0.2.2.2.1 y1.1.1].length <= lim) <|
gd (inK .i64 (y1.1.1 + 1)) <|
some (Sum.inl ((y1.1.1 + 1, y1.1.2), (y1.2.1.1, y1.2.1.2.1, y1.2.1.2.2.1, y1.2.1.2.2.2.1, y1.2.1.2.2.2.2), y1.2.2.1.set y2.1.1.toNat (AE y1.2.2.1 y2.1.1 + 1), y1.2.2.2.1 ++ [y2.1.1], A4 true y1.2.2.2.2.1 y2.1.1, y1.2.2.2.2.2.1 ++ [AE y0.2.2.2.1 y1.1.1], y1.2.2.2.2.2.1 ++ [AE y0.2.2.2.1 y1.1.1]))
else
gd (0 <= y2.1.1) <|
gd (y2.1.1 < nI y1.2.2.1.length) <|
gd (inK .i64 (AE y1.2.2.1 y2.1.1 + 1)) <|
gd (0 <= y2.1.1) <|
gd (y2.1.1 < nI y1.2.2.1.length) <|
gd (0 <= y2.1.1) <|
gd (y2.1.1 < nI y1.2.1.2.1.length) <|
bif AE y1.2.1.2.1 y2.1.1 == nI y1.2.1.2.2.2.2.length then
gd (inK .i64 (y1.1.2 + 1)) <|
gd (inK .i64 (y1.1.1 + 1)) <|
some (Sum.inl ((y1.1.1 + 1, y1.1.2 + 1), (y1.2.1.1, y1.2.1.2.1, y1.2.1.2.2.1, y1.2.1.2.2.2.1, y1.2.1.2.2.2.2), y1.2.2.1.set y2.1.1.toNat (AE y1.2.2.1 y2.1.1 + 1), y1.2.2.2.1, A4 true y1.2.2.2.2.1 y2.1.1, y1.2.2.2.2.2.1, y1.2.2.2.2.2.1))
else
gd ((y1.2.2.2.2.2.1.length + [AE y0.2.2.2.1 y1.1.1].length) * 8 <= lim) <|
gd (y1.2.2.2.2.2.1.length + [AE y0.2.2.2.1 y1.1.1].length <= lim) <|
gd (inK .i64 (y1.1.1 + 1)) <|
some (Sum.inl ((y1.1.1 + 1, y1.1.2), (y1.2.1.1, y1.2.1.2.1, y1.2.1.2.2.1, y1.2.1.2.2.2.1, y1.2.1.2.2.2.2), y1.2.2.1.set y2.1.1.toNat (AE y1.2.2.1 y2.1.1 + 1), y1.2.2.2.1, A4 true y1.2.2.2.2.1 y2.1.1, y1.2.2.2.2.2.1 ++ [AE y0.2.2.2.1 y1.1.1], y1.2.2.2.2.2.1 ++ [AE y0.2.2.2.1 y1.1.1]))
else
gd (inK .i64 (y0.1.2 - 1)) <|
AQ (X := Int) (fun y2 =>
gd (0 <= y2) <|
gd (y2 < nI y1.2.1.2.2.2.1.length) <|
AD (size (AE y1.2.1.2.2.2.1 y2)) fun y3 =>
bif !Ad Ty.bool.Bl y1.2.2.2.2.1 y3.1.1 then
gd (inK .i64 (y2 - 1)) <|
some (Sum.inl (y2 - 1))
else
gd (0 <= y2) <|
gd (y2 < nI y1.2.1.2.2.2.1.length) <|
gd (inK .i64 (y1.1.2 - 1)) <|
bif y1.1.2 - 1 == 0 then
gd (inK .i64 (0 - AE y1.2.1.2.2.2.1 y2)) <|
gd (0 < nI y1.2.2.2.2.2.1.length) <|
AQ (X := (Int × Int) × LI) (fun y4 =>
bif decide (y4.1.2 < nI y4.2.length) then
gd (0 <= y4.1.2) <|
gd (y4.1.2 < nI y4.2.length) <|
AD (size (AE y4.2 y4.1.2)) fun y5 =>
gd (0 <= y5.1.1) <|
gd (y5.1.1 < nI y1.2.1.2.1.length) <|
bif decide (AE y1.2.1.2.1 y5.1.1 > y4.1.1) then
gd (0 <= y4.1.2) <|
gd (y4.1.2 < nI y4.2.length) <|
gd (1 < nI y4.2.length) <|
gd (1 < nI y4.2.length) <|
gd (0 <= y4.1.2) <|
gd (y4.1.2 < nI (y4.2.set 1 (AE y4.2 y4.1.2)).length) <|
gd (inK .i64 (y4.1.2 + 1)) <|
some (Sum.inl ((AE y1.2.1.2.1 y5.1.1, y4.1.2 + 1), (y4.2.set 1 (AE y4.2 y4.1.2)).set y4.1.2.toNat (AE y4.2 1)))
else
gd (inK .i64 (y4.1.2 + 1)) <|
some (Sum.inl ((y4.1.1, y4.1.2 + 1), y4.2))
else
some (Sum.inr (Sum.inr (Sum.inr (Sum.inr ((y4.2, y4.1.1, ()), ((y0.2.2.1.1.set y0.2.2.1.2.toNat y0.2.2.2.1, y1.2.1.1, y1.2.1.2.1, y1.2.1.2.2.1, y1.2.2.1, y1.2.2.2.1, y1.2.1.2.2.2.1, y1.2.1.2.2.2.2, ()), ()), ())))))) (nn) ((0, 1), y1.2.2.2.2.2.1.set 0 (0 - AE y1.2.1.2.2.2.1 y2))
else
AD (size (AE y1.2.1.2.2.2.1 y2)) fun y4 =>
gd (0 <= y4.1.1) <|
gd (y4.1.1 < nI y1.2.1.2.2.1.length) <|
gd (0 <= AE y1.2.1.2.2.1 y4.1.1) <|
gd (AE y1.2.1.2.2.1 y4.1.1 < nI y0.2.2.1.1.length) <|
some (Sum.inr (Sum.inr (Sum.inl ((y1.1.2 - 1, y2), (y1.2.1.1, y1.2.1.2.1, y1.2.1.2.2.1, y1.2.1.2.2.2.1, y1.2.1.2.2.2.2), (y0.2.2.1.1.set y0.2.2.1.2.toNat y0.2.2.2.1, AE y1.2.1.2.2.1 y4.1.1), Ao (y0.2.2.1.1.set y0.2.2.1.2.toNat y0.2.2.2.1) (AE y1.2.1.2.2.1 y4.1.1), Ao (y0.2.2.1.1.set y0.2.2.1.2.toNat y0.2.2.2.1) (AE y1.2.1.2.2.1 y4.1.1), y1.2.2.1, y1.2.2.2.1, y1.2.2.2.2.1, y1.2.2.2.2.2.1))))) (nn) (y0.1.2 - 1)) (nn) ((0, y0.1.1), (y0.2.1.1, y0.2.1.2.1, y0.2.1.2.2.1, y0.2.1.2.2.2.1, y0.2.1.2.2.2.2), y0.2.2.2.2.2.1, y0.2.2.2.2.2.2.1, y0.2.2.2.2.2.2.2.1, y0.2.2.2.2.2.2.2.2, y0.2.2.2.2.2.2.2.2)) (nn) ((0, nI row.length), (is, depth, why, row, begin), (all, n), Ao all n, Ao all n, hot, warm, [], [0])
def AIt (n : Int) (all : LLI) (is : LI) (depth : LI) (why : LI) (hot : LI) (warm : LI) (row : LI) (begin : LI) : Option ((LI × Int × Unit) × ((LLI × LI × LI × LI × LI × LI × LI × LI × Unit) × Unit) × Unit) := ADy AK n all is depth why hot warm row begin
def AIu (nn : Nat)  (all : LLI) (watch : LLI) (is : LI) (depth : LI) (why : LI) (row : LI) (begin : LI) (done : Int) : Option ((Int × Unit) × ((LLI × LLI × LI × LI × LI × LI × LI × Int × Unit) × Unit) × Unit) :=
AQ (X := (LI × Int) × LLI × LLI × LI × LI × LI × LI) (fun y0 =>
bif decide (y0.1.2 < nI y0.2.2.2.2.2.2.length) then
gd (0 <= y0.1.2) <|
gd (y0.1.2 < nI y0.2.2.2.2.2.2.length) <|
gd (inK .i64 (0 - AE y0.2.2.2.2.2.2 y0.1.2)) <|
gd (inK .i64 (y0.1.2 + 1)) <|
AD (at_ (0 - AE y0.2.2.2.2.2.2 y0.1.2)) fun y1 =>
gd (0 <= y1.1.1) <|
gd (y1.1.1 < nI y0.2.2.1.length) <|
L0 (X := (Int × Int × Int) × (LI × Int) × LLI × (LLI × Int) × LI × LI × LI × LI × LI) (
AQ (X := (Int × Int) × (LI × Int) × LLI × (LLI × Int) × LI × LI × LI × LI × LI) (fun y2 =>
bif decide (y2.1.2 < nI (List.length (Ao y0.2.2.1 y1.1.1))) then
gd (0 <= y2.1.2) <|
gd (y2.1.2 < nI y2.2.2.2.2.1.length) <|
gd (0 <= AE y2.2.2.2.2.1 y2.1.2) <|
gd (AE y2.2.2.2.2.1 y2.1.2 < nI y2.2.2.1.length) <|
L0 (X := LI) (
gd (0 < nI (List.length (Ao y2.2.2.1 (AE y2.2.2.2.2.1 y2.1.2)))) <|
bif AE (Ao y2.2.2.1 (AE y2.2.2.2.2.1 y2.1.2)) 0 == 0 - AE y0.2.2.2.2.2.2 y0.1.2 then
gd (1 < nI (List.length (Ao y2.2.2.1 (AE y2.2.2.2.2.1 y2.1.2)))) <|
gd (0 < nI (List.length (Ao y2.2.2.1 (AE y2.2.2.2.2.1 y2.1.2)))) <|
gd (0 < nI (List.length (Ao y2.2.2.1 (AE y2.2.2.2.2.1 y2.1.2)))) <|
gd (1 < nI (List.set (Ao y2.2.2.1 (AE y2.2.2.2.2.1 y2.1.2)) 0 (AE (Ao y2.2.2.1 (AE y2.2.2.2.2.1 y2.1.2)) 1)).length) <|
some (Sum.inl ((List.set (Ao y2.2.2.1 (AE y2.2.2.2.2.1 y2.1.2)) 0 (AE (Ao y2.2.2.1 (AE y2.2.2.2.2.1 y2.1.2)) 1)).set 1 (AE (Ao y2.2.2.1 (AE y2.2.2.2.2.1 y2.1.2)) 0)))
else
some (Sum.inl (Ao y2.2.2.1 (AE y2.2.2.2.2.1 y2.1.2)))) fun y3 =>
gd (0 < nI y3.length) <|
AD (value (AE y3 0) y2.2.2.2.2.2.1) fun y4 =>
bif y4.1.1 == 1 then
gd (0 <= y2.1.1) <|
gd (y2.1.1 < nI y2.2.2.2.2.1.length) <|
gd (inK .i64 (y2.1.1 + 1)) <|
gd (inK .i64 (y2.1.2 + 1)) <|
some (Sum.inl ((y2.1.1 + 1, y2.1.2 + 1), (y2.2.1.1, y2.2.1.2), y2.2.2.1.set (Int.toNat (AE y2.2.2.2.2.1 y2.1.2)) y3, (y2.2.2.2.1.1, y2.2.2.2.1.2), y2.2.2.2.2.1.set y2.1.1.toNat (AE y2.2.2.2.2.1 y2.1.2), y2.2.2.2.2.2.1, y2.2.2.2.2.2.2.1, y2.2.2.2.2.2.2.2.1, y2.2.2.2.2.2.2.2.2))
else
L0 (X := Int × LI × Int) (
AQ (X := Int × LI × Int) (fun y5 =>
bif decide (y5.1 < nI y3.length) then
gd (0 <= y5.1) <|
gd (y5.1 < nI y3.length) <|
AD (value (AE y3 y5.1) y2.2.2.2.2.2.1) fun y6 =>
bif y6.1.1 != -1 then
gd (0 <= y5.1) <|
gd (y5.1 < nI y3.length) <|
gd (1 < nI y3.length) <|
gd (1 < nI y3.length) <|
gd (0 <= y5.1) <|
gd (y5.1 < nI (y3.set 1 (AE y3 y5.1)).length) <|
gd (1 < nI ((y3.set 1 (AE y3 y5.1)).set y5.1.toNat (AE y3 1)).length) <|
AD (at_ (AE ((y3.set 1 (AE y3 y5.1)).set y5.1.toNat (AE y3 1)) 1)) fun y7 =>
gd (1 < nI ((y3.set 1 (AE y3 y5.1)).set y5.1.toNat (AE y3 1)).length) <|
AD (at_ (AE ((y3.set 1 (AE y3 y5.1)).set y5.1.toNat (AE y3 1)) 1)) fun y8 =>
gd (0 <= y8.1.1) <|
gd (y8.1.1 < nI y2.2.2.2.1.1.length) <|
gd (y2.2.2.2.1.2 ≠ y8.1.1) <|
gd ((List.length (Ao y2.2.2.2.1.1 y8.1.1) + [AE y2.2.2.2.2.1 y2.1.2].length) * 8 <= lim) <|
gd (List.length (Ao y2.2.2.2.1.1 y8.1.1) + [AE y2.2.2.2.2.1 y2.1.2].length <= lim) <|
gd (0 <= y7.1.1) <|
gd (y7.1.1 < nI y2.2.2.2.1.1.length) <|
gd (y8.1.1 = y7.1.1) <|
gd (y2.2.2.2.1.2 ≠ y7.1.1) <|
gd (inK .i64 (y2.1.2 + 1)) <|
some (Sum.inr (Sum.inr (Sum.inl ((y2.1.1, y2.1.2 + 1), (y5.2.1, y5.2.2), y2.2.2.1.set (Int.toNat (AE y2.2.2.2.2.1 y2.1.2)) ((y3.set 1 (AE y3 y5.1)).set y5.1.toNat (AE y3 1)), (y2.2.2.2.1.1.set y7.1.1.toNat (Ao y2.2.2.2.1.1 y8.1.1 ++ [AE y2.2.2.2.2.1 y2.1.2]), y2.2.2.2.1.2), y2.2.2.2.2.1, y2.2.2.2.2.2.1, y2.2.2.2.2.2.2.1, y2.2.2.2.2.2.2.2.1, y2.2.2.2.2.2.2.2.2))))
else
gd (inK .i64 (y5.1 + 1)) <|
some (Sum.inl (y5.1 + 1, y5.2.1, y5.2.2))
else
some (Sum.inr (Sum.inl (y5.1, y5.2.1, y5.2.2)))) (nn) (2, y2.2.1.1, y2.2.1.2)) fun y5 =>
gd (0 <= y2.1.1) <|
gd (y2.1.1 < nI y2.2.2.2.2.1.length) <|
gd (inK .i64 (y2.1.1 + 1)) <|
gd (0 < nI y3.length) <|
AD (value (AE y3 0) y2.2.2.2.2.2.1) fun y6 =>
bif y6.1.1 == -1 then
gd (0 <= y2.1.1 + 1) <|
gd (y2.1.1 + 1 <= nI (y2.2.2.2.2.1.set y2.1.1.toNat (AE y2.2.2.2.2.1 y2.1.2)).length) <|
gd (nI (y2.2.2.2.2.1.set y2.1.1.toNat (AE y2.2.2.2.2.1 y2.1.2)).length <= nI (y2.2.2.2.2.1.set y2.1.1.toNat (AE y2.2.2.2.2.1 y2.1.2)).length) <|
gd (inK .i64 (y2.1.2 + 1)) <|
gd (0 <= y2.1.2 + 1) <|
gd (y2.1.2 + 1 <= nI (y2.2.2.2.2.1.set y2.1.1.toNat (AE y2.2.2.2.2.1 y2.1.2)).length) <|
gd (nI (y2.2.2.2.2.1.set y2.1.1.toNat (AE y2.2.2.2.2.1 y2.1.2)).length <= nI (y2.2.2.2.2.1.set y2.1.1.toNat (AE y2.2.2.2.2.1 y2.1.2)).length) <|
gd ((List.drop (Int.toNat (y2.1.2 + 1)) (List.take (nI (y2.2.2.2.2.1.set y2.1.1.toNat (AE y2.2.2.2.2.1 y2.1.2)).length).toNat (y2.2.2.2.2.1.set y2.1.1.toNat (AE y2.2.2.2.2.1 y2.1.2)))).length <= lim) <|
gd (inK .i64 (y2.1.1 + 1 + nI ((List.drop (Int.toNat (y2.1.2 + 1)) (List.take (nI (y2.2.2.2.2.1.set y2.1.1.toNat (AE y2.2.2.2.2.1 y2.1.2)).length).toNat (y2.2.2.2.2.1.set y2.1.1.toNat (AE y2.2.2.2.2.1 y2.1.2)))).length.min (((some (nI (y2.2.2.2.2.1.set y2.1.1.toNat (AE y2.2.2.2.2.1 y2.1.2)).length)).getD (nI (y2.2.2.2.2.1.set y2.1.1.toNat (AE y2.2.2.2.2.1 y2.1.2)).length)).toNat - Int.toNat (y2.1.1 + 1))))) <|
AD (at_ (0 - AE y0.2.2.2.2.2.2 y0.1.2)) fun y7 =>
gd (0 <= y2.1.1 + 1 + nI ((List.drop (Int.toNat (y2.1.2 + 1)) (List.take (nI (y2.2.2.2.2.1.set y2.1.1.toNat (AE y2.2.2.2.2.1 y2.1.2)).length).toNat (y2.2.2.2.2.1.set y2.1.1.toNat (AE y2.2.2.2.2.1 y2.1.2)))).length.min (((some (nI (y2.2.2.2.2.1.set y2.1.1.toNat (AE y2.2.2.2.2.1 y2.1.2)).length)).getD (nI (y2.2.2.2.2.1.set y2.1.1.toNat (AE y2.2.2.2.2.1 y2.1.2)).length)).toNat - Int.toNat (y2.1.1 + 1)))) <|
gd (y2.1.1 + 1 + nI ((List.drop (Int.toNat (y2.1.2 + 1)) (List.take (nI (y2.2.2.2.2.1.set y2.1.1.toNat (AE y2.2.2.2.2.1 y2.1.2)).length).toNat (y2.2.2.2.2.1.set y2.1.1.toNat (AE y2.2.2.2.2.1 y2.1.2)))).length.min (((some (nI (y2.2.2.2.2.1.set y2.1.1.toNat (AE y2.2.2.2.2.1 y2.1.2)).length)).getD (nI (y2.2.2.2.2.1.set y2.1.1.toNat (AE y2.2.2.2.2.1 y2.1.2)).length)).toNat - Int.toNat (y2.1.1 + 1))) <= nI (List.take (Int.toNat (y2.1.1 + 1)) (y2.2.2.2.2.1.set y2.1.1.toNat (AE y2.2.2.2.2.1 y2.1.2)) ++ List.take ((List.drop (Int.toNat (y2.1.2 + 1)) (List.take (nI (y2.2.2.2.2.1.set y2.1.1.toNat (AE y2.2.2.2.2.1 y2.1.2)).length).toNat (y2.2.2.2.2.1.set y2.1.1.toNat (AE y2.2.2.2.2.1 y2.1.2)))).length.min (((some (nI (y2.2.2.2.2.1.set y2.1.1.toNat (AE y2.2.2.2.2.1 y2.1.2)).length)).getD (nI (y2.2.2.2.2.1.set y2.1.1.toNat (AE y2.2.2.2.2.1 y2.1.2)).length)).toNat - Int.toNat (y2.1.1 + 1))) (List.drop (Int.toNat (y2.1.2 + 1)) (List.take (nI (y2.2.2.2.2.1.set y2.1.1.toNat (AE y2.2.2.2.2.1 y2.1.2)).length).toNat (y2.2.2.2.2.1.set y2.1.1.toNat (AE y2.2.2.2.2.1 y2.1.2)))) ++ List.drop (Int.toNat (y2.1.1 + 1) + (List.drop (Int.toNat (y2.1.2 + 1)) (List.take (nI (y2.2.2.2.2.1.set y2.1.1.toNat (AE y2.2.2.2.2.1 y2.1.2)).length).toNat (y2.2.2.2.2.1.set y2.1.1.toNat (AE y2.2.2.2.2.1 y2.1.2)))).length.min (((some (nI (y2.2.2.2.2.1.set y2.1.1.toNat (AE y2.2.2.2.2.1 y2.1.2)).length)).getD (nI (y2.2.2.2.2.1.set y2.1.1.toNat (AE y2.2.2.2.2.1 y2.1.2)).length)).toNat - Int.toNat (y2.1.1 + 1))) (y2.2.2.2.2.1.set y2.1.1.toNat (AE y2.2.2.2.2.1 y2.1.2))).length) <|
gd (0 <= y7.1.1) <|
gd (y7.1.1 < nI y2.2.2.2.1.1.length) <|
gd (y2.2.2.2.1.2 = y7.1.1) <|
some (Sum.inr (Sum.inr (Sum.inr ((AE y2.2.2.2.2.1 y2.1.2, ()), ((y2.2.2.1.set (Int.toNat (AE y2.2.2.2.2.1 y2.1.2)) y3, y2.2.2.2.1.1.set y7.1.1.toNat (List.take (Int.toNat (y2.1.1 + 1 + nI ((List.drop (Int.toNat (y2.1.2 + 1)) (List.take (nI (y2.2.2.2.2.1.set y2.1.1.toNat (AE y2.2.2.2.2.1 y2.1.2)).length).toNat (y2.2.2.2.2.1.set y2.1.1.toNat (AE y2.2.2.2.2.1 y2.1.2)))).length.min (((some (nI (y2.2.2.2.2.1.set y2.1.1.toNat (AE y2.2.2.2.2.1 y2.1.2)).length)).getD (nI (y2.2.2.2.2.1.set y2.1.1.toNat (AE y2.2.2.2.2.1 y2.1.2)).length)).toNat - Int.toNat (y2.1.1 + 1))))) (List.take (Int.toNat (y2.1.1 + 1)) (y2.2.2.2.2.1.set y2.1.1.toNat (AE y2.2.2.2.2.1 y2.1.2)) ++ List.take ((List.drop (Int.toNat (y2.1.2 + 1)) (List.take (nI (y2.2.2.2.2.1.set y2.1.1.toNat (AE y2.2.2.2.2.1 y2.1.2)).length).toNat (y2.2.2.2.2.1.set y2.1.1.toNat (AE y2.2.2.2.2.1 y2.1.2)))).length.min (((some (nI (y2.2.2.2.2.1.set y2.1.1.toNat (AE y2.2.2.2.2.1 y2.1.2)).length)).getD (nI (y2.2.2.2.2.1.set y2.1.1.toNat (AE y2.2.2.2.2.1 y2.1.2)).length)).toNat - Int.toNat (y2.1.1 + 1))) (List.drop (Int.toNat (y2.1.2 + 1)) (List.take (nI (y2.2.2.2.2.1.set y2.1.1.toNat (AE y2.2.2.2.2.1 y2.1.2)).length).toNat (y2.2.2.2.2.1.set y2.1.1.toNat (AE y2.2.2.2.2.1 y2.1.2)))) ++ List.drop (Int.toNat (y2.1.1 + 1) + (List.drop (Int.toNat (y2.1.2 + 1)) (List.take (nI (y2.2.2.2.2.1.set y2.1.1.toNat (AE y2.2.2.2.2.1 y2.1.2)).length).toNat (y2.2.2.2.2.1.set y2.1.1.toNat (AE y2.2.2.2.2.1 y2.1.2)))).length.min (((some (nI (y2.2.2.2.2.1.set y2.1.1.toNat (AE y2.2.2.2.2.1 y2.1.2)).length)).getD (nI (y2.2.2.2.2.1.set y2.1.1.toNat (AE y2.2.2.2.2.1 y2.1.2)).length)).toNat - Int.toNat (y2.1.1 + 1))) (y2.2.2.2.2.1.set y2.1.1.toNat (AE y2.2.2.2.2.1 y2.1.2)))), y2.2.2.2.2.2.1, y2.2.2.2.2.2.2.1, y2.2.2.2.2.2.2.2.1, y2.2.2.2.2.2.2.2.2, y5.2.1, y5.2.2, ()), ()), ()))))
else
gd (0 < nI y3.length) <|
AD (R9 (AE y3 0) (AE y2.2.2.2.2.1 y2.1.2) y2.2.2.2.2.2.1 y2.2.2.2.2.2.2.1 y2.2.2.2.2.2.2.2.1 y2.2.2.2.2.2.2.2.2 y5.2.1) fun y7 =>
gd (inK .i64 (y2.1.2 + 1)) <|
some (Sum.inl ((y2.1.1 + 1, y2.1.2 + 1), (y5.2.1, y5.2.2), y2.2.2.1.set (Int.toNat (AE y2.2.2.2.2.1 y2.1.2)) y3, (y2.2.2.2.1.1, y2.2.2.2.1.2), y2.2.2.2.2.1.set y2.1.1.toNat (AE y2.2.2.2.2.1 y2.1.2), y7.2.1.1.1, y7.2.1.1.2.1, y7.2.1.1.2.2.1, y7.2.1.1.2.2.2.1))
else
some (Sum.inr (Sum.inl ((y2.1.1, nI (List.length (Ao y0.2.2.1 y1.1.1)), y2.1.2), (y2.2.1.1, y2.2.1.2), y2.2.2.1, (y2.2.2.2.1.1, y2.2.2.2.1.2), y2.2.2.2.2.1, y2.2.2.2.2.2.1, y2.2.2.2.2.2.2.1, y2.2.2.2.2.2.2.2.1, y2.2.2.2.2.2.2.2.2)))) (nn) ((0, 0), (y0.1.1, y0.1.2 + 1), y0.2.1, (y0.2.2.1, y1.1.1), Ao y0.2.2.1 y1.1.1, y0.2.2.2.1, y0.2.2.2.2.1, y0.2.2.2.2.2.1, y0.2.2.2.2.2.2)) fun y2 =>
AD (at_ (0 - AE y0.2.2.2.2.2.2 y0.1.2)) fun y3 =>
gd (0 <= y2.1.1) <|
gd (y2.1.1 <= nI y2.2.2.2.2.1.length) <|
gd (0 <= y3.1.1) <|
gd (y3.1.1 < nI y2.2.2.2.1.1.length) <|
gd (y2.2.2.2.1.2 = y3.1.1) <|
some (Sum.inl ((y2.2.1.1, y2.2.1.2), y2.2.2.1, y2.2.2.2.1.1.set y3.1.1.toNat (List.take y2.1.1.toNat y2.2.2.2.2.1), y2.2.2.2.2.2.1, y2.2.2.2.2.2.2.1, y2.2.2.2.2.2.2.2.1, y2.2.2.2.2.2.2.2.2))
else
some (Sum.inr ((-1, ()), ((y0.2.1, y0.2.2.1, y0.2.2.2.1, y0.2.2.2.2.1, y0.2.2.2.2.2.1, y0.2.2.2.2.2.2, y0.1.1, y0.1.2, ()), ()), ()))) (nn) ((begin, done), all, watch, is, depth, why, row)
def unit (all : LLI) (watch : LLI) (is : LI) (depth : LI) (why : LI) (row : LI) (begin : LI) (done : Int) : Option ((Int × Unit) × ((LLI × LLI × LI × LI × LI × LI × LI × Int × Unit) × Unit) × Unit) := AIu AK all watch is depth why row begin done
end AL
end
section
namespace AL
open Go
def take (n : Int) (all : LLI) (watch : LLI) (is : LI) (depth : LI) (why : LI) (old : LI) (hot : LI) (warm : LI) (cold : Int) (row : LI) (begin : LI) (done : Int) (proof : LLI) : Option (Unit × ((LLI × LLI × LI × LI × LI × LI × LI × LI × Int × LI × LI × Int × LLI × Unit) × Unit) × Unit) :=
AD (AIt n all is depth why hot warm row begin) fun y0 =>
AD (Ev y0.1.1) fun y1 =>
gd ((proof.length + [y1.1.1].length) * 24 <= lim) <|
gd (proof.length + [y1.1.1].length <= lim) <|
AD (back y0.1.2.1 is old cold row begin done) fun y2 =>
bif nI y0.1.1.length == 1 then
gd (0 < nI y0.1.1.length) <|
AD (R9 (AE y0.1.1 0) (-1) y2.2.1.1.1 depth why y2.2.1.1.2.2.2.1 y2.2.1.1.2.2.2.2.1) fun y3 =>
some ((), ((y0.2.1.1.1, watch, y3.2.1.1.1, y3.2.1.1.2.1, y3.2.1.1.2.2.1, y2.2.1.1.2.1, y0.2.1.1.2.2.2.2.1, y0.2.1.1.2.2.2.2.2.1, y2.2.1.1.2.2.1, y3.2.1.1.2.2.2.1, y2.2.1.1.2.2.2.2.1, y2.2.1.1.2.2.2.2.2.1, proof ++ [y1.1.1], ()), ()), ())
else
gd (0 < nI y0.1.1.length) <|
AD (keep y0.1.1 y0.2.1.1.1 0 watch) fun y3 =>
AD (R9 (AE y0.1.1 0) y3.1.1 y2.2.1.1.1 depth why y2.2.1.1.2.2.2.1 y2.2.1.1.2.2.2.2.1) fun y4 =>
some ((), ((y3.2.1.1.1.set y3.2.1.1.2.1.toNat y0.1.1, y3.2.1.1.2.2.1, y4.2.1.1.1, y4.2.1.1.2.1, y4.2.1.1.2.2.1, y2.2.1.1.2.1, y0.2.1.1.2.2.2.2.1, y0.2.1.1.2.2.2.2.2.1, y2.2.1.1.2.2.1, y4.2.1.1.2.2.2.1, y2.2.1.1.2.2.2.2.1, y2.2.1.1.2.2.2.2.2.1, proof ++ [y1.1.1], ()), ()), ())
def Z9 (nn : Nat)  (assume : LI) (fuel : Int) (vars : Int) (all : LLI) (watch : LLI) (is : LI) (depth : LI) (why : LI) (old : LI) (hot : LI) (warm : LI) (cold : Int) (row : LI) (begin : LI) (done : Int) (empty : Bool) (proof : LLI) (core : LI) : Option ((Int × Unit) × ((Int × LLI × LLI × LI × LI × LI × LI × LI × LI × Int × LI × LI × Int × Bool × LLI × LI × Unit) × Unit) × Unit) :=
AQ (X := Int × (Int × Int × Int × Bool) × LLI × LLI × LI × LI × LI × LI × LI × LI × LI × LI × LLI) (fun y0 =>
AD (unit y0.2.2.1 y0.2.2.2.1 y0.2.2.2.2.1 y0.2.2.2.2.2.1 y0.2.2.2.2.2.2.1 y0.2.2.2.2.2.2.2.2.2.2.1 y0.2.2.2.2.2.2.2.2.2.2.2.1 y0.2.1.2.2.1) fun y1 =>
bif y1.1.1 != -1 then
bif nI y0.2.2.2.2.2.2.2.2.2.2.2.1.length == 0 then
some (Sum.inr ((2, ()), ((y0.2.1.1, y1.2.1.1.1, y1.2.1.1.2.1, y1.2.1.1.2.2.1, y1.2.1.1.2.2.2.1, y1.2.1.1.2.2.2.2.1, y0.2.2.2.2.2.2.2.1, y0.2.2.2.2.2.2.2.2.1, y0.2.2.2.2.2.2.2.2.2.1, y0.2.1.2.1, y1.2.1.1.2.2.2.2.2.1, y0.2.2.2.2.2.2.2.2.2.2.2.1, y1.2.1.1.2.2.2.2.2.2.2.1, true, y0.2.2.2.2.2.2.2.2.2.2.2.2, core, ()), ()), ()))
else
bif decide (fuel >= 0) then
bif bif true then decide (y0.1 >= fuel) else false then
some (Sum.inr ((3, ()), ((y0.2.1.1, y1.2.1.1.1, y1.2.1.1.2.1, y1.2.1.1.2.2.1, y1.2.1.1.2.2.2.1, y1.2.1.1.2.2.2.2.1, y0.2.2.2.2.2.2.2.1, y0.2.2.2.2.2.2.2.2.1, y0.2.2.2.2.2.2.2.2.2.1, y0.2.1.2.1, y1.2.1.1.2.2.2.2.2.1, y0.2.2.2.2.2.2.2.2.2.2.2.1, y1.2.1.1.2.2.2.2.2.2.2.1, y0.2.1.2.2.2, y0.2.2.2.2.2.2.2.2.2.2.2.2, core, ()), ()), ()))
else
AD (take y1.1.1 y1.2.1.1.1 y1.2.1.1.2.1 y1.2.1.1.2.2.1 y1.2.1.1.2.2.2.1 y1.2.1.1.2.2.2.2.1 y0.2.2.2.2.2.2.2.1 y0.2.2.2.2.2.2.2.2.1 y0.2.2.2.2.2.2.2.2.2.1 y0.2.1.2.1 y1.2.1.1.2.2.2.2.2.1 y0.2.2.2.2.2.2.2.2.2.2.2.1 y1.2.1.1.2.2.2.2.2.2.2.1 y0.2.2.2.2.2.2.2.2.2.2.2.2) fun y2 =>
gd (inK .i64 (y0.1 + 1)) <|
some (Sum.inl (y0.1 + 1, (y0.2.1.1, y2.2.1.1.2.2.2.2.2.2.2.2.1, y2.2.1.1.2.2.2.2.2.2.2.2.2.2.2.1, y0.2.1.2.2.2), y2.2.1.1.1, y2.2.1.1.2.1, y2.2.1.1.2.2.1, y2.2.1.1.2.2.2.1, y2.2.1.1.2.2.2.2.1, y2.2.1.1.2.2.2.2.2.1, y2.2.1.1.2.2.2.2.2.2.1, y2.2.1.1.2.2.2.2.2.2.2.1, y2.2.1.1.2.2.2.2.2.2.2.2.2.1, y2.2.1.1.2.2.2.2.2.2.2.2.2.2.1, y2.2.1.1.2.2.2.2.2.2.2.2.2.2.2.2.1))
else
AD (take y1.1.1 y1.2.1.1.1 y1.2.1.1.2.1 y1.2.1.1.2.2.1 y1.2.1.1.2.2.2.1 y1.2.1.1.2.2.2.2.1 y0.2.2.2.2.2.2.2.1 y0.2.2.2.2.2.2.2.2.1 y0.2.2.2.2.2.2.2.2.2.1 y0.2.1.2.1 y1.2.1.1.2.2.2.2.2.1 y0.2.2.2.2.2.2.2.2.2.2.2.1 y1.2.1.1.2.2.2.2.2.2.2.1 y0.2.2.2.2.2.2.2.2.2.2.2.2) fun y2 =>
gd (inK .i64 (y0.1 + 1)) <|
some (Sum.inl (y0.1 + 1, (y0.2.1.1, y2.2.1.1.2.2.2.2.2.2.2.2.1, y2.2.1.1.2.2.2.2.2.2.2.2.2.2.2.1, y0.2.1.2.2.2), y2.2.1.1.1, y2.2.1.1.2.1, y2.2.1.1.2.2.1, y2.2.1.1.2.2.2.1, y2.2.1.1.2.2.2.2.1, y2.2.1.1.2.2.2.2.2.1, y2.2.1.1.2.2.2.2.2.2.1, y2.2.1.1.2.2.2.2.2.2.2.1, y2.2.1.1.2.2.2.2.2.2.2.2.2.1, y2.2.1.1.2.2.2.2.2.2.2.2.2.2.1, y2.2.1.1.2.2.2.2.2.2.2.2.2.2.2.2.1))
else
AQ (X := (Int × Int × Int × Bool) × LI) (fun y2 =>
bif decide (nI y2.2.length < nI assume.length) then
gd (nI y2.2.length < nI assume.length) <|
AD (value (AE assume (nI y2.2.length)) y1.2.1.1.2.2.1) fun y3 =>
bif y3.1.1 == -1 then
AD (AIs (AE assume (nI y2.2.length)) y1.2.1.1.1 y1.2.1.1.2.2.2.2.1 y1.2.1.1.2.2.2.2.2.1 y2.2) fun y4 =>
some (Sum.inr (Sum.inr ((2, ()), ((y2.1.1, y4.2.1.1.1, y1.2.1.1.2.1, y1.2.1.1.2.2.1, y1.2.1.1.2.2.2.1, y1.2.1.1.2.2.2.2.1, y0.2.2.2.2.2.2.2.1, y0.2.2.2.2.2.2.2.2.1, y0.2.2.2.2.2.2.2.2.2.1, y2.1.2.1, y1.2.1.1.2.2.2.2.2.1, y2.2, y2.1.2.2.1, y2.1.2.2.2, y0.2.2.2.2.2.2.2.2.2.2.2.2, y4.1.1, ()), ()), ())))
else
bif y3.1.1 == 0 then
bif AE assume (nI y2.2.length) == 0 then
AD (pick y2.1.1 y1.2.1.1.2.2.1 y0.2.2.2.2.2.2.2.1 y0.2.2.2.2.2.2.2.2.1 y0.2.2.2.2.2.2.2.2.2.1 y2.1.2.1) fun y4 =>
bif y4.1.1 == 0 then
some (Sum.inr (Sum.inr ((1, ()), ((y4.2.1.1.1, y1.2.1.1.1, y1.2.1.1.2.1, y1.2.1.1.2.2.1, y1.2.1.1.2.2.2.1, y1.2.1.1.2.2.2.2.1, y0.2.2.2.2.2.2.2.1, y0.2.2.2.2.2.2.2.2.1, y0.2.2.2.2.2.2.2.2.2.1, y4.2.1.1.2.2.2.2.2.1, y1.2.1.1.2.2.2.2.2.1, y2.2, y2.1.2.2.1, y2.1.2.2.2, y0.2.2.2.2.2.2.2.2.2.2.2.2, core, ()), ()), ())))
else
gd ((y2.2.length + [nI y1.2.1.1.2.2.2.2.2.1.length].length) * 8 <= lim) <|
gd (y2.2.length + [nI y1.2.1.1.2.2.2.2.2.1.length].length <= lim) <|
AD (R9 y4.1.1 (-1) y1.2.1.1.2.2.1 y1.2.1.1.2.2.2.1 y1.2.1.1.2.2.2.2.1 y1.2.1.1.2.2.2.2.2.1 (y2.2 ++ [nI y1.2.1.1.2.2.2.2.2.1.length])) fun y5 =>
some (Sum.inr (Sum.inl (y0.1, (y4.2.1.1.1, y4.2.1.1.2.2.2.2.2.1, y2.1.2.2.1, y2.1.2.2.2), y1.2.1.1.1, y1.2.1.1.2.1, y5.2.1.1.1, y5.2.1.1.2.1, y5.2.1.1.2.2.1, y0.2.2.2.2.2.2.2.1, y0.2.2.2.2.2.2.2.2.1, y0.2.2.2.2.2.2.2.2.2.1, y5.2.1.1.2.2.2.1, y2.2 ++ [nI y1.2.1.1.2.2.2.2.2.1.length], y0.2.2.2.2.2.2.2.2.2.2.2.2)))
else
bif AE assume (nI y2.2.length) == 0 then
some (Sum.inr (Sum.inr ((1, ()), ((y2.1.1, y1.2.1.1.1, y1.2.1.1.2.1, y1.2.1.1.2.2.1, y1.2.1.1.2.2.2.1, y1.2.1.1.2.2.2.2.1, y0.2.2.2.2.2.2.2.1, y0.2.2.2.2.2.2.2.2.1, y0.2.2.2.2.2.2.2.2.2.1, y2.1.2.1, y1.2.1.1.2.2.2.2.2.1, y2.2, y2.1.2.2.1, y2.1.2.2.2, y0.2.2.2.2.2.2.2.2.2.2.2.2, core, ()), ()), ())))
else
gd ((y2.2.length + [nI y1.2.1.1.2.2.2.2.2.1.length].length) * 8 <= lim) <|
gd (y2.2.length + [nI y1.2.1.1.2.2.2.2.2.1.length].length <= lim) <|
AD (R9 (AE assume (nI y2.2.length)) (-1) y1.2.1.1.2.2.1 y1.2.1.1.2.2.2.1 y1.2.1.1.2.2.2.2.1 y1.2.1.1.2.2.2.2.2.1 (y2.2 ++ [nI y1.2.1.1.2.2.2.2.2.1.length])) fun y4 =>
some (Sum.inr (Sum.inl (y0.1, (y2.1.1, y2.1.2.1, y2.1.2.2.1, y2.1.2.2.2), y1.2.1.1.1, y1.2.1.1.2.1, y4.2.1.1.1, y4.2.1.1.2.1, y4.2.1.1.2.2.1, y0.2.2.2.2.2.2.2.1, y0.2.2.2.2.2.2.2.2.1, y0.2.2.2.2.2.2.2.2.2.1, y4.2.1.1.2.2.2.1, y2.2 ++ [nI y1.2.1.1.2.2.2.2.2.1.length], y0.2.2.2.2.2.2.2.2.2.2.2.2)))
else
gd ((y2.2.length + [nI y1.2.1.1.2.2.2.2.2.1.length].length) * 8 <= lim) <|
gd (y2.2.length + [nI y1.2.1.1.2.2.2.2.2.1.length].length <= lim) <|
some (Sum.inl ((y2.1.1, y2.1.2.1, y2.1.2.2.1, y2.1.2.2.2), y2.2 ++ [nI y1.2.1.1.2.2.2.2.2.1.length]))
else
AD (pick y2.1.1 y1.2.1.1.2.2.1 y0.2.2.2.2.2.2.2.1 y0.2.2.2.2.2.2.2.2.1 y0.2.2.2.2.2.2.2.2.2.1 y2.1.2.1) fun y3 =>
bif y3.1.1 == 0 then
some (Sum.inr (Sum.inr ((1, ()), ((y3.2.1.1.1, y1.2.1.1.1, y1.2.1.1.2.1, y1.2.1.1.2.2.1, y1.2.1.1.2.2.2.1, y1.2.1.1.2.2.2.2.1, y0.2.2.2.2.2.2.2.1, y0.2.2.2.2.2.2.2.2.1, y0.2.2.2.2.2.2.2.2.2.1, y3.2.1.1.2.2.2.2.2.1, y1.2.1.1.2.2.2.2.2.1, y2.2, y2.1.2.2.1, y2.1.2.2.2, y0.2.2.2.2.2.2.2.2.2.2.2.2, core, ()), ()), ())))
else
gd ((y2.2.length + [nI y1.2.1.1.2.2.2.2.2.1.length].length) * 8 <= lim) <|
gd (y2.2.length + [nI y1.2.1.1.2.2.2.2.2.1.length].length <= lim) <|
AD (R9 y3.1.1 (-1) y1.2.1.1.2.2.1 y1.2.1.1.2.2.2.1 y1.2.1.1.2.2.2.2.1 y1.2.1.1.2.2.2.2.2.1 (y2.2 ++ [nI y1.2.1.1.2.2.2.2.2.1.length])) fun y4 =>
some (Sum.inr (Sum.inl (y0.1, (y3.2.1.1.1, y3.2.1.1.2.2.2.2.2.1, y2.1.2.2.1, y2.1.2.2.2), y1.2.1.1.1, y1.2.1.1.2.1, y4.2.1.1.1, y4.2.1.1.2.1, y4.2.1.1.2.2.1, y0.2.2.2.2.2.2.2.1, y0.2.2.2.2.2.2.2.2.1, y0.2.2.2.2.2.2.2.2.2.1, y4.2.1.1.2.2.2.1, y2.2 ++ [nI y1.2.1.1.2.2.2.2.2.1.length], y0.2.2.2.2.2.2.2.2.2.2.2.2)))) (nn) ((y0.2.1.1, y0.2.1.2.1, y1.2.1.1.2.2.2.2.2.2.2.1, y0.2.1.2.2.2), y0.2.2.2.2.2.2.2.2.2.2.2.1)) (nn) (0, (vars, cold, done, empty), all, watch, is, depth, why, old, hot, warm, row, begin, proof)
def search (assume : LI) (fuel : Int) (vars : Int) (all : LLI) (watch : LLI) (is : LI) (depth : LI) (why : LI) (old : LI) (hot : LI) (warm : LI) (cold : Int) (row : LI) (begin : LI) (done : Int) (empty : Bool) (proof : LLI) (core : LI) : Option ((Int × Unit) × ((Int × LLI × LLI × LI × LI × LI × LI × LI × LI × Int × LI × LI × Int × Bool × LLI × LI × Unit) × Unit) × Unit) := Z9 AK assume fuel vars all watch is depth why old hot warm cold row begin done empty proof core
def AKn (nn : Nat)  (assume : LI) (fuel : Int) (vars : Int) (all : LLI) (watch : LLI) (is : LI) (depth : LI) (why : LI) (old : LI) (hot : LI) (warm : LI) (cold : Int) (row : LI) (begin : LI) (done : Int) (empty : Bool) (proof : LLI) (answer : Int) (core : LI) (model : List Bool) : Option ((Int × Unit) × ((Int × LLI × LLI × LI × LI × LI × LI × LI × LI × Int × LI × LI × Int × Bool × LLI × Int × LI × List Bool × Unit) × Unit) × Unit) :=
AD (forget answer core model) fun y0 =>
AD (own assume vars) fun y1 =>
bif !y1.1.1 then
some ((0, ()), ((y1.2.1.1.1, all, watch, is, depth, why, old, hot, warm, cold, row, begin, done, empty, proof, y0.2.1.1.1, y0.2.1.1.2.1, y0.2.1.1.2.2.1, ()), ()), ())
else
AD (back 0 is old cold row begin done) fun y2 =>
L0 (X := (Int × Int × Int × Bool × Int) × LLI × LLI × LI × LI × LI × LI × LI × LI × LI × LI × LLI × LI) (
bif !empty then
AD (search assume fuel y1.2.1.1.1 all watch y2.2.1.1.1 depth why y2.2.1.1.2.1 hot warm y2.2.1.1.2.2.1 y2.2.1.1.2.2.2.1 y2.2.1.1.2.2.2.2.1 y2.2.1.1.2.2.2.2.2.1 empty proof y0.2.1.1.2.1) fun y3 =>
some (Sum.inl ((y3.2.1.1.1, y3.2.1.1.2.2.2.2.2.2.2.2.2.1, y3.2.1.1.2.2.2.2.2.2.2.2.2.2.2.2.1, y3.2.1.1.2.2.2.2.2.2.2.2.2.2.2.2.2.1, y3.1.1), y3.2.1.1.2.1, y3.2.1.1.2.2.1, y3.2.1.1.2.2.2.1, y3.2.1.1.2.2.2.2.1, y3.2.1.1.2.2.2.2.2.1, y3.2.1.1.2.2.2.2.2.2.1, y3.2.1.1.2.2.2.2.2.2.2.1, y3.2.1.1.2.2.2.2.2.2.2.2.1, y3.2.1.1.2.2.2.2.2.2.2.2.2.2.1, y3.2.1.1.2.2.2.2.2.2.2.2.2.2.2.1, y3.2.1.1.2.2.2.2.2.2.2.2.2.2.2.2.2.2.1, y3.2.1.1.2.2.2.2.2.2.2.2.2.2.2.2.2.2.2.1))
else
some (Sum.inl ((y1.2.1.1.1, y2.2.1.1.2.2.1, y2.2.1.1.2.2.2.2.2.1, empty, 2), all, watch, y2.2.1.1.1, depth, why, y2.2.1.1.2.1, hot, warm, y2.2.1.1.2.2.2.1, y2.2.1.1.2.2.2.2.1, proof, y0.2.1.1.2.1))) fun y3 =>
bif y3.1.2.2.2.2 == 1 then
AQ (X := Int × (Int × Int × Int × Bool × Int) × List Bool) (fun y4 =>
bif decide (y4.1 <= y4.2.1.1) then
gd (0 <= y4.1) <|
gd (y4.1 < nI y3.2.2.2.1.length) <|
gd ((y4.2.2.length + [AE y3.2.2.2.1 y4.1 == 1].length) * 1 <= lim) <|
gd (y4.2.2.length + [AE y3.2.2.2.1 y4.1 == 1].length <= lim) <|
gd (inK .i64 (y4.1 + 1)) <|
some (Sum.inl (y4.1 + 1, (y4.2.1.1, y4.2.1.2.1, y4.2.1.2.2.1, y4.2.1.2.2.2.1, y4.2.1.2.2.2.2), y4.2.2 ++ [AE y3.2.2.2.1 y4.1 == 1]))
else
AD (back 0 y3.2.2.2.1 y3.2.2.2.2.2.2.1 y4.2.1.2.1 y3.2.2.2.2.2.2.2.2.2.1 y3.2.2.2.2.2.2.2.2.2.2.1 y4.2.1.2.2.1) fun y5 =>
some (Sum.inr ((y4.2.1.2.2.2.2, ()), ((y4.2.1.1, y3.2.1, y3.2.2.1, y5.2.1.1.1, y3.2.2.2.2.1, y3.2.2.2.2.2.1, y5.2.1.1.2.1, y3.2.2.2.2.2.2.2.1, y3.2.2.2.2.2.2.2.2.1, y5.2.1.1.2.2.1, y5.2.1.1.2.2.2.1, y5.2.1.1.2.2.2.2.1, y5.2.1.1.2.2.2.2.2.1, y4.2.1.2.2.2.1, y3.2.2.2.2.2.2.2.2.2.2.2.1, y4.2.1.2.2.2.2, y3.2.2.2.2.2.2.2.2.2.2.2.2, y4.2.2, ()), ()), ()))) (nn) (1, (y3.1.1, y3.1.2.1, y3.1.2.2.1, y3.1.2.2.2.1, y3.1.2.2.2.2), y0.2.1.1.2.2.1)
else
bif y3.1.2.2.2.2 == 2 then
AQ (X := Int × LI) (fun y4 =>
bif decide (y4.1 < nI assume.length) then
gd (0 <= y4.1) <|
gd (y4.1 < nI assume.length) <|
AD (EX y3.2.2.2.2.2.2.2.2.2.2.2.2 (AE assume y4.1)) fun y5 =>
bif y5.1.1 then
AD (EX y4.2 (AE assume y4.1)) fun y6 =>
bif bif true then !y6.1.1 else false then
gd ((y4.2.length + [AE assume y4.1].length) * 8 <= lim) <|
gd (y4.2.length + [AE assume y4.1].length <= lim) <|
gd (inK .i64 (y4.1 + 1)) <|
some (Sum.inl (y4.1 + 1, y4.2 ++ [AE assume y4.1]))
else
gd (inK .i64 (y4.1 + 1)) <|
some (Sum.inl (y4.1 + 1, y4.2))
else
gd (inK .i64 (y4.1 + 1)) <|
some (Sum.inl (y4.1 + 1, y4.2))
else
AD (back 0 y3.2.2.2.1 y3.2.2.2.2.2.2.1 y3.1.2.1 y3.2.2.2.2.2.2.2.2.2.1 y3.2.2.2.2.2.2.2.2.2.2.1 y3.1.2.2.1) fun y5 =>
some (Sum.inr ((y3.1.2.2.2.2, ()), ((y3.1.1, y3.2.1, y3.2.2.1, y5.2.1.1.1, y3.2.2.2.2.1, y3.2.2.2.2.2.1, y5.2.1.1.2.1, y3.2.2.2.2.2.2.2.1, y3.2.2.2.2.2.2.2.2.1, y5.2.1.1.2.2.1, y5.2.1.1.2.2.2.1, y5.2.1.1.2.2.2.2.1, y5.2.1.1.2.2.2.2.2.1, y3.1.2.2.2.1, y3.2.2.2.2.2.2.2.2.2.2.2.1, y3.1.2.2.2.2, y4.2, y0.2.1.1.2.2.1, ()), ()), ()))) (nn) (0, [])
else
AD (back 0 y3.2.2.2.1 y3.2.2.2.2.2.2.1 y3.1.2.1 y3.2.2.2.2.2.2.2.2.2.1 y3.2.2.2.2.2.2.2.2.2.2.1 y3.1.2.2.1) fun y4 =>
some ((y3.1.2.2.2.2, ()), ((y3.1.1, y3.2.1, y3.2.2.1, y4.2.1.1.1, y3.2.2.2.2.1, y3.2.2.2.2.2.1, y4.2.1.1.2.1, y3.2.2.2.2.2.2.2.1, y3.2.2.2.2.2.2.2.2.1, y4.2.1.1.2.2.1, y4.2.1.1.2.2.2.1, y4.2.1.1.2.2.2.2.1, y4.2.1.1.2.2.2.2.2.1, y3.1.2.2.2.1, y3.2.2.2.2.2.2.2.2.2.2.2.1, y3.1.2.2.2.2, y3.2.2.2.2.2.2.2.2.2.2.2.2, y0.2.1.1.2.2.1, ()), ()), ())
def Ask (assume : LI) (fuel : Int) (vars : Int) (all : LLI) (watch : LLI) (is : LI) (depth : LI) (why : LI) (old : LI) (hot : LI) (warm : LI) (cold : Int) (row : LI) (begin : LI) (done : Int) (empty : Bool) (proof : LLI) (answer : Int) (core : LI) (model : List Bool) : Option ((Int × Unit) × ((Int × LLI × LLI × LI × LI × LI × LI × LI × LI × Int × LI × LI × Int × Bool × LLI × Int × LI × List Bool × Unit) × Unit) × Unit) := AKn AK assume fuel vars all watch is depth why old hot warm cold row begin done empty proof answer core model
end AL
end
section
namespace AL
open Go
def aOf (a : Int) (b : Int) : Option (((Int × Int × Unit) × Unit) × Unit × Unit) :=
some (((min2 a b, max2 a b, ()), ()), (), ())
def aR1 (p : Int) (q : Int) : Option ((Int × Unit) × Unit × Unit) :=
some ((0, ()), (), ())
def aR2 (p : Int) (q : Int) : Option ((Int × Unit) × Unit × Unit) :=
some ((q, ()), (), ())
def aR3 (p : Int) (q : Int) : Option ((Bool × Unit) × Unit × Unit) :=
some ((p == 0, ()), (), ())
def aR4 (p : Int) (q : Int) : Option ((Bool × Unit) × Unit × Unit) :=
some ((IntKind.i64.wrap (nI (BitVec.ofInt 64 p ^^^ BitVec.ofInt 64 1).toNat) == q, ()), (), ())
def aR5 (p : Int) (q : Int) : Option ((Bool × Unit) × Unit × Unit) :=
bif p == 1 then
some ((true, ()), (), ())
else
some ((bif false then true else p == q, ()), (), ())
def XZ : Option ((Unit × Unit) × Unit × Unit) :=
some (((), ()), (), ())
def N2 (p : Int) (q : Int) : Option ((Int × Bool × Unit) × Unit × Unit) :=
AD (XZ) fun y0 =>
AD (aR3 p q) fun y1 =>
bif y1.1.1 then
AD (aR1 p q) fun y2 =>
some ((y2.1.1, true, ()), (), ())
else
AD (aR4 p q) fun y2 =>
bif y2.1.1 then
AD (aR1 p q) fun y3 =>
some ((y3.1.1, true, ()), (), ())
else
AD (aR5 p q) fun y3 =>
bif y3.1.1 then
AD (aR2 p q) fun y4 =>
some ((y4.1.1, true, ()), (), ())
else
some ((0, false, ()), (), ())
def SA (nn : Nat)  (l : L2) (p : Int) (q : Int) : Option ((Int × Unit) × Unit × Unit) :=
AQ (X := Int) (fun y0 =>
bif decide (y0 < nI l.length) then
gd (0 <= y0) <|
gd (y0 < nI l.length) <|
bif p == (get AR l y0).1 && q == (get AR l y0).2.1 then
some (Sum.inr ((y0, ()), (), ()))
else
gd (inK .i64 (y0 + 1)) <|
some (Sum.inl (y0 + 1))
else
some (Sum.inr ((-1, ()), (), ()))) (nn) 0
def SB (l : L2) (p : Int) (q : Int) : Option ((Int × Unit) × Unit × Unit) := SA AK l p q
def N3 (s : L2) : Option ((L2 × Unit) × Unit × Unit) :=
gd ((([] : L2).length + s.length) * 16 <= lim) <|
gd (([] : L2).length + s.length <= lim) <|
some ((s, ()), (), ())
def ADz (gi : Int) (ga : L2) (a : Int) (b : Int) : Option (((Int × L2 × Unit) × Int × Unit) × Unit × Unit) :=
AD (aOf a b) fun y0 =>
AD (N2 y0.1.1.1 y0.1.1.2.1) fun y1 =>
bif y1.1.2.1 then
some (((gi, ga, ()), y1.1.1, ()), (), ())
else
AD (SB ga y0.1.1.1 y0.1.1.2.1) fun y2 =>
bif decide (y2.1.1 < 0) then
AD (N3 ga) fun y3 =>
gd ((y3.1.1.length + [(y0.1.1.1, y0.1.1.2.1, ())].length) * 16 <= lim) <|
gd (y3.1.1.length + [(y0.1.1.1, y0.1.1.2.1, ())].length <= lim) <|
gd (inK .i64 (gi + 1)) <|
gd (inK .i64 (gi + 1 + nI ga.length)) <|
some (((gi, y3.1.1 ++ [(y0.1.1.1, y0.1.1.2.1, ())], ()), IntKind.i64.wrap ((gi + 1 + nI ga.length) * 2 ^ 1), ()), (), ())
else
gd (inK .i64 (gi + 1)) <|
gd (inK .i64 (gi + 1 + y2.1.1)) <|
some (((gi, ga, ()), IntKind.i64.wrap ((gi + 1 + y2.1.1) * 2 ^ 1), ()), (), ())
def Mj (a : Int) (b : Int) (gi : Int) (ga : L2) : Option ((Int × Unit) × ((Int × L2 × Unit) × Unit) × Unit) :=
AD (ADz gi ga a b) fun y0 =>
some ((y0.1.2.1, ()), ((y0.1.1.1, y0.1.1.2.1, ()), ()), ())
def mOr (a : Int) (b : Int) (gi : Int) (ga : L2) : Option ((Int × Unit) × ((Int × L2 × Unit) × Unit) × Unit) :=
AD (Mj (IntKind.i64.wrap (nI (BitVec.ofInt 64 a ^^^ BitVec.ofInt 64 1).toNat)) (IntKind.i64.wrap (nI (BitVec.ofInt 64 b ^^^ BitVec.ofInt 64 1).toNat)) gi ga) fun y0 =>
some ((IntKind.i64.wrap (nI (BitVec.ofInt 64 y0.1.1 ^^^ BitVec.ofInt 64 1).toNat), ()), ((y0.2.1.1.1, y0.2.1.1.2.1, ()), ()), ())
def SC (a : Int) (b : Int) (gi : Int) (ga : L2) : Option ((Int × Unit) × ((Int × L2 × Unit) × Unit) × Unit) :=
AD (Mj a (IntKind.i64.wrap (nI (BitVec.ofInt 64 b ^^^ BitVec.ofInt 64 1).toNat)) gi ga) fun y0 =>
AD (Mj (IntKind.i64.wrap (nI (BitVec.ofInt 64 a ^^^ BitVec.ofInt 64 1).toNat)) b y0.2.1.1.1 y0.2.1.1.2.1) fun y1 =>
AD (mOr y0.1.1 y1.1.1 y1.2.1.1.1 y1.2.1.1.2.1) fun y2 =>
some ((y2.1.1, ()), ((y2.2.1.1.1, y2.2.1.1.2.1, ()), ()), ())
def Xa (i : Int) (a : Int) (b : Int) (gi : Int) (ga : L2) : Option ((Int × Unit) × ((Int × L2 × Unit) × Unit) × Unit) :=
AD (Mj i a gi ga) fun y0 =>
AD (Mj (IntKind.i64.wrap (nI (BitVec.ofInt 64 i ^^^ BitVec.ofInt 64 1).toNat)) b y0.2.1.1.1 y0.2.1.1.2.1) fun y1 =>
AD (mOr y0.1.1 y1.1.1 y1.2.1.1.1 y1.2.1.1.2.1) fun y2 =>
some ((y2.1.1, ()), ((y2.2.1.1.1, y2.2.1.1.2.1, ()), ()), ())
def N4 (nn : Nat)  (l : LI) : Option ((LI × Unit) × Unit × Unit) :=
AD (Ev l) fun y0 =>
AQ (X := Int × LI) (fun y1 =>
bif decide (y1.1 < nI y0.1.1.length) then
gd (0 <= y1.1) <|
gd (y1.1 < nI y1.2.length) <|
gd (0 <= y1.1) <|
gd (y1.1 < nI y1.2.length) <|
gd (inK .i64 (y1.1 + 1)) <|
some (Sum.inl (y1.1 + 1, y1.2.set y1.1.toNat (IntKind.i64.wrap (nI (BitVec.ofInt 64 (AE y1.2 y1.1) ^^^ BitVec.ofInt 64 1).toNat))))
else
some (Sum.inr ((y1.2, ()), (), ()))) (nn) (0, y0.1.1)
def GO (l : LI) : Option ((LI × Unit) × Unit × Unit) := N4 AK l
def AD0 (nn : Nat)  (a : LI) (b : LI) (ci : Int) (gi : Int) (ga : L2) : Option ((LI × Unit) × ((Int × L2 × Unit) × Unit) × Unit) :=
gd (nI a.length <= nI a.length) <|
gd ((nI a.length).toNat * 8 <= lim) <|
gd (nI a.length <= nI lim) <|
AQ (X := (Int × Int) × (Int × L2) × LI) (fun y0 =>
bif decide (y0.1.2 < nI a.length) then
gd (0 <= y0.1.2) <|
gd (y0.1.2 < nI a.length) <|
gd (0 <= y0.1.2) <|
gd (y0.1.2 < nI b.length) <|
AD (SC (AE a y0.1.2) (AE b y0.1.2) y0.2.1.1 y0.2.1.2) fun y1 =>
AD (SC y1.1.1 y0.1.1 y1.2.1.1.1 y1.2.1.1.2.1) fun y2 =>
gd (0 <= y0.1.2) <|
gd (y0.1.2 < nI y0.2.2.length) <|
gd (0 <= y0.1.2) <|
gd (y0.1.2 < nI a.length) <|
AD (Xa y1.1.1 y0.1.1 (AE a y0.1.2) y2.2.1.1.1 y2.2.1.1.2.1) fun y3 =>
gd (inK .i64 (y0.1.2 + 1)) <|
some (Sum.inl ((y3.1.1, y0.1.2 + 1), (y3.2.1.1.1, y3.2.1.1.2.1), y0.2.2.set y0.1.2.toNat y2.1.1))
else
some (Sum.inr ((y0.2.2, ()), ((y0.2.1.1, y0.2.1.2, ()), ()), ()))) (nn) ((ci, 0), (gi, ga), List.replicate (nI a.length).toNat 0)
def ABR (a : LI) (b : LI) (ci : Int) (gi : Int) (ga : L2) : Option ((LI × Unit) × ((Int × L2 × Unit) × Unit) × Unit) := AD0 AK a b ci gi ga
def AAA (nn : Nat)  (gi : Int) (ga : L2) (a : LI) (b : LI) : Option ((LI × Unit) × ((Int × L2 × LI × LI × Unit) × Unit) × Unit) :=
gd (nI a.length <= nI a.length) <|
gd ((nI a.length).toNat * 8 <= lim) <|
gd (nI a.length <= nI lim) <|
AQ (X := Int × (Int × L2 × LI × LI) × LI) (fun y0 =>
bif decide (y0.1 < nI (List.replicate (nI a.length).toNat (0 : Int)).length) then
gd (0 <= y0.1) <|
gd (y0.1 < nI y0.2.1.2.2.1.length) <|
gd (0 <= y0.1) <|
gd (y0.1 < nI y0.2.1.2.2.2.length) <|
AD (Mj (AE y0.2.1.2.2.1 y0.1) (AE y0.2.1.2.2.2 y0.1) y0.2.1.1 y0.2.1.2.1) fun y1 =>
gd (0 <= y0.1) <|
gd (y0.1 < nI y0.2.2.length) <|
gd (inK .i64 (y0.1 + 1)) <|
some (Sum.inl (y0.1 + 1, (y1.2.1.1.1, y1.2.1.1.2.1, y0.2.1.2.2.1, y0.2.1.2.2.2), y0.2.2.set y0.1.toNat y1.1.1))
else
some (Sum.inr ((y0.2.2, ()), ((y0.2.1.1, y0.2.1.2.1, y0.2.1.2.2.1, y0.2.1.2.2.2, ()), ()), ()))) (nn) (0, (gi, ga, a, b), List.replicate (nI a.length).toNat 0)
def N5 (gi : Int) (ga : L2) (a : LI) (b : LI) : Option ((LI × Unit) × ((Int × L2 × LI × LI × Unit) × Unit) × Unit) := AAA AK gi ga a b
def AD1 (nn : Nat)  (l : LI) (gi : Int) (ga : L2) : Option ((Int × Unit) × ((Int × L2 × Unit) × Unit) × Unit) :=
AQ (X := (Int × Int) × Int × L2) (fun y0 =>
bif decide (y0.1.2 < nI l.length) then
gd (0 <= y0.1.2) <|
gd (y0.1.2 < nI l.length) <|
AD (mOr y0.1.1 (AE l y0.1.2) y0.2.1 y0.2.2) fun y1 =>
gd (inK .i64 (y0.1.2 + 1)) <|
some (Sum.inl ((y1.1.1, y0.1.2 + 1), y1.2.1.1.1, y1.2.1.1.2.1))
else
some (Sum.inr ((y0.1.1, ()), ((y0.2.1, y0.2.2, ()), ()), ()))) (nn) ((0, 0), gi, ga)
def ABS (l : LI) (gi : Int) (ga : L2) : Option ((Int × Unit) × ((Int × L2 × Unit) × Unit) × Unit) := AD1 AK l gi ga
def SD (nn : Nat)  (like : Int) (gi : Int) (ga : L2) (a : LI) (b : LI) : Option ((LI × Unit) × ((Int × L2 × LI × LI × Unit) × Unit) × Unit) :=
AQ (X := (Int × Int) × Int × L2 × LI × LI) (fun y0 =>
bif decide (y0.1.2 < nI a.length) then
gd (0 <= y0.1.2) <|
gd (y0.1.2 < nI y0.2.2.2.1.length) <|
gd (0 <= y0.1.2) <|
gd (y0.1.2 < nI y0.2.2.2.2.length) <|
AD (SC (AE y0.2.2.2.1 y0.1.2) (AE y0.2.2.2.2 y0.1.2) y0.2.1 y0.2.2.1) fun y1 =>
gd (0 <= y0.1.2) <|
gd (y0.1.2 < nI y0.2.2.2.2.length) <|
AD (Xa y1.1.1 (AE y0.2.2.2.2 y0.1.2) y0.1.1 y1.2.1.1.1 y1.2.1.1.2.1) fun y2 =>
gd (y0.2.2.2.2 = y0.2.2.2.2) <|
gd (y0.2.2.2.2 = y0.2.2.2.2) <|
gd (inK .i64 (y0.1.2 + 1)) <|
some (Sum.inl ((y2.1.1, y0.1.2 + 1), y2.2.1.1.1, y2.2.1.1.2.1, y0.2.2.2.1, y0.2.2.2.2))
else
some (Sum.inr (([y0.1.1], ()), ((y0.2.1, y0.2.2.1, y0.2.2.2.1, y0.2.2.2.2, ()), ()), ()))) (nn) ((like, 0), gi, ga, a, b)
def N6 (like : Int) (gi : Int) (ga : L2) (a : LI) (b : LI) : Option ((LI × Unit) × ((Int × L2 × LI × LI × Unit) × Unit) × Unit) := SD AK like gi ga a b
def AD2 (nn : Nat)  (gi : Int) (ga : L2) (w : Int) (n : Int) : Option ((LI × Unit) × ((Int × L2 × Int × Int × Unit) × Unit) × Unit) :=
gd (0 <= w) <|
gd (w <= w) <|
gd (w.toNat * 8 <= lim) <|
gd (w <= nI lim) <|
AQ (X := Int × LI) (fun y0 =>
bif decide (y0.1 < nI (List.replicate w.toNat (0 : Int)).length) then
gd (0 <= y0.1) <|
gd (0 <= y0.1) <|
gd (y0.1 < nI y0.2.length) <|
gd (inK .i64 (y0.1 + 1)) <|
some (Sum.inl (y0.1 + 1, y0.2.set y0.1.toNat (IntKind.i64.wrap (nI (BitVec.ofInt 64 (n.fdiv (2 ^ min y0.1.toNat 64)) &&& BitVec.ofInt 64 1).toNat))))
else
some (Sum.inr ((y0.2, ()), ((gi, ga, w, n, ()), ()), ()))) (nn) (0, List.replicate w.toNat 0)
def AHU (gi : Int) (ga : L2) (w : Int) (n : Int) : Option ((LI × Unit) × ((Int × L2 × Int × Int × Unit) × Unit) × Unit) := AD2 AK gi ga w n
def AD3 (gi : Int) (ga : L2) (a : LI) : Option ((LI × Unit) × ((Int × L2 × LI × Unit) × Unit) × Unit) :=
AD (GO a) fun y0 =>
some ((y0.1.1, ()), ((gi, ga, a, ()), ()), ())
def N7 (gi : Int) (ga : L2) (a : LI) : Option ((LI × Unit) × ((Int × L2 × LI × Unit) × Unit) × Unit) :=
AD (ABS a gi ga) fun y0 =>
some (([y0.1.1], ()), ((y0.2.1.1.1, y0.2.1.1.2.1, a, ()), ()), ())
def Jv (gi : Int) (ga : L2) (a : LI) : Option ((LI × Unit) × ((Int × L2 × LI × Unit) × Unit) × Unit) :=
AD (GO a) fun y0 =>
AD (ABS y0.1.1 gi ga) fun y1 =>
some (([IntKind.i64.wrap (nI (BitVec.ofInt 64 y1.1.1 ^^^ BitVec.ofInt 64 1).toNat)], ()), ((y1.2.1.1.1, y1.2.1.1.2.1, a, ()), ()), ())
def SE (gi : Int) (ga : L2) (a : LI) (b : LI) : Option ((LI × Unit) × ((Int × L2 × LI × LI × Unit) × Unit) × Unit) :=
AD (N5 gi ga a b) fun y0 =>
some ((y0.1.1, ()), ((y0.2.1.1.1, y0.2.1.1.2.1, y0.2.1.1.2.2.1, y0.2.1.1.2.2.2.1, ()), ()), ())
def AD4 (gi : Int) (ga : L2) (a : LI) (b : LI) : Option ((LI × Unit) × ((Int × L2 × LI × LI × Unit) × Unit) × Unit) :=
AD (ABR a b 0 gi ga) fun y0 =>
some ((y0.1.1, ()), ((y0.2.1.1.1, y0.2.1.1.2.1, a, b, ()), ()), ())
def AD5 (gi : Int) (ga : L2) (a : LI) (b : LI) : Option ((LI × Unit) × ((Int × L2 × LI × LI × Unit) × Unit) × Unit) :=
AD (GO b) fun y0 =>
AD (ABR a y0.1.1 1 gi ga) fun y1 =>
some ((y1.1.1, ()), ((y1.2.1.1.1, y1.2.1.1.2.1, a, b, ()), ()), ())
def AD6 (nn : Nat)  (gi : Int) (ga : L2) (a : LI) (b : LI) : Option ((LI × Unit) × ((Int × L2 × LI × LI × Unit) × Unit) × Unit) :=
gd (nI a.length <= nI a.length) <|
gd ((nI a.length).toNat * 8 <= lim) <|
gd (nI a.length <= nI lim) <|
AQ (X := Int × (Int × L2 × LI × LI) × LI × LI) (fun y0 =>
bif decide (y0.1 < nI b.length) then
gd (0 <= y0.1) <|
gd (y0.1 < nI b.length) <|
gd (nI a.length <= nI a.length) <|
gd ((nI a.length).toNat * 8 <= lim) <|
gd (nI a.length <= nI lim) <|
AQ (X := Int × (Int × L2 × LI × LI) × LI) (fun y1 =>
bif decide (y1.1 < nI a.length) then
gd (inK .i64 (y1.1 - y0.1)) <|
gd (0 <= y1.1 - y0.1) <|
gd (y1.1 - y0.1 < nI y1.2.1.2.2.1.length) <|
AD (Mj (AE y1.2.1.2.2.1 (y1.1 - y0.1)) (AE b y0.1) y1.2.1.1 y1.2.1.2.1) fun y2 =>
gd (0 <= y1.1) <|
gd (y1.1 < nI y1.2.2.length) <|
gd (inK .i64 (y1.1 + 1)) <|
some (Sum.inl (y1.1 + 1, (y2.2.1.1.1, y2.2.1.1.2.1, y1.2.1.2.2.1, y1.2.1.2.2.2), y1.2.2.set y1.1.toNat y2.1.1))
else
AD (ABR y0.2.2.1 y1.2.2 0 y1.2.1.1 y1.2.1.2.1) fun y2 =>
gd (inK .i64 (y0.1 + 1)) <|
some (Sum.inr (Sum.inl (y0.1 + 1, (y2.2.1.1.1, y2.2.1.1.2.1, y1.2.1.2.2.1, y1.2.1.2.2.2), y2.1.1, y2.1.1)))) (nn) (y0.1, (y0.2.1.1, y0.2.1.2.1, y0.2.1.2.2.1, y0.2.1.2.2.2), List.replicate (nI a.length).toNat 0)
else
some (Sum.inr ((y0.2.2.1, ()), ((y0.2.1.1, y0.2.1.2.1, y0.2.1.2.2.1, y0.2.1.2.2.2, ()), ()), ()))) (nn) (0, (gi, ga, a, b), List.replicate (nI a.length).toNat 0, List.replicate (nI a.length).toNat 0)
def AHV (gi : Int) (ga : L2) (a : LI) (b : LI) : Option ((LI × Unit) × ((Int × L2 × LI × LI × Unit) × Unit) × Unit) := AD6 AK gi ga a b
def mLt (gi : Int) (ga : L2) (a : LI) (b : LI) : Option ((LI × Unit) × ((Int × L2 × LI × LI × Unit) × Unit) × Unit) :=
AD (N6 0 gi ga a b) fun y0 =>
some ((y0.1.1, ()), ((y0.2.1.1.1, y0.2.1.1.2.1, y0.2.1.1.2.2.1, y0.2.1.1.2.2.2.1, ()), ()), ())
def mLe (gi : Int) (ga : L2) (a : LI) (b : LI) : Option ((LI × Unit) × ((Int × L2 × LI × LI × Unit) × Unit) × Unit) :=
AD (N6 1 gi ga a b) fun y0 =>
some ((y0.1.1, ()), ((y0.2.1.1.1, y0.2.1.1.2.1, y0.2.1.1.2.2.1, y0.2.1.1.2.2.2.1, ()), ()), ())
def SF (nn : Nat)  (gi : Int) (ga : L2) (a : LI) (b : LI) (c : LI) : Option ((LI × Unit) × ((Int × L2 × LI × LI × LI × Unit) × Unit) × Unit) :=
gd (nI b.length <= nI b.length) <|
gd ((nI b.length).toNat * 8 <= lim) <|
gd (nI b.length <= nI lim) <|
AQ (X := Int × (Int × L2 × LI × LI × LI) × LI) (fun y0 =>
bif decide (y0.1 < nI (List.replicate (nI b.length).toNat (0 : Int)).length) then
gd (0 < nI y0.2.1.2.2.1.length) <|
gd (0 <= y0.1) <|
gd (y0.1 < nI y0.2.1.2.2.2.1.length) <|
gd (0 <= y0.1) <|
gd (y0.1 < nI y0.2.1.2.2.2.2.length) <|
AD (Xa (AE y0.2.1.2.2.1 0) (AE y0.2.1.2.2.2.1 y0.1) (AE y0.2.1.2.2.2.2 y0.1) y0.2.1.1 y0.2.1.2.1) fun y1 =>
gd (0 <= y0.1) <|
gd (y0.1 < nI y0.2.2.length) <|
gd (inK .i64 (y0.1 + 1)) <|
some (Sum.inl (y0.1 + 1, (y1.2.1.1.1, y1.2.1.1.2.1, y0.2.1.2.2.1, y0.2.1.2.2.2.1, y0.2.1.2.2.2.2), y0.2.2.set y0.1.toNat y1.1.1))
else
some (Sum.inr ((y0.2.2, ()), ((y0.2.1.1, y0.2.1.2.1, y0.2.1.2.2.1, y0.2.1.2.2.2.1, y0.2.1.2.2.2.2, ()), ()), ()))) (nn) (0, (gi, ga, a, b, c), List.replicate (nI b.length).toNat 0)
def SG (gi : Int) (ga : L2) (a : LI) (b : LI) (c : LI) : Option ((LI × Unit) × ((Int × L2 × LI × LI × LI × Unit) × Unit) × Unit) := SF AK gi ga a b c
def N8 (gi : Int) (ga : L2) (n : Int) (lo : Int) (a : LI) : Option ((LI × Unit) × ((Int × L2 × Int × Int × LI × Unit) × Unit) × Unit) :=
gd (inK .i64 (n + 1)) <|
gd (0 <= lo) <|
gd (lo <= n + 1) <|
gd (n + 1 <= nI a.length) <|
AD (Ev (List.drop lo.toNat (List.take (Int.toNat (n + 1)) a))) fun y0 =>
some ((y0.1.1, ()), ((gi, ga, n, lo, a, ()), ()), ())
end AL
end
section
namespace AL
open Go
def VC (n : Int) : Option ((LI × Unit) × Unit × Unit) :=
bif decide (n < 0) then
none   else
gd (inK .i64 (n - (0 - 0))) <|
bif decide (n - (0 - 0) > 0) then
gd (0 <= n - (0 - 0)) <|
gd ((0 + Int.toNat (n - (0 - 0))) * 8 <= lim) <|
gd (0 + Int.toNat (n - (0 - 0)) <= lim) <|
some ((List.take 0 ([] ++ List.replicate (Int.toNat (n - (0 - 0))) 0), ()), (), ())
else
some (([], ()), (), ())
def N9 (nn : Nat)  (l : LLI) : Option ((LI × Unit) × Unit × Unit) :=
AQ (X := Int × Int) (fun y0 =>
bif decide (y0.2 < nI l.length) then
gd (0 <= y0.2) <|
gd (y0.2 < nI l.length) <|
gd (inK .i64 (y0.1 + nI (List.length (Ao l y0.2)))) <|
bif decide (y0.1 + nI (List.length (Ao l y0.2)) < 0) then
none       else
gd (inK .i64 (y0.2 + 1)) <|
some (Sum.inl (y0.1 + nI (List.length (Ao l y0.2)), y0.2 + 1))
else
AD (VC y0.1) fun y1 =>
AQ (X := Int × LI × LI) (fun y2 =>
bif decide (y2.1 < nI l.length) then
gd (0 <= y2.1) <|
gd (y2.1 < nI l.length) <|
gd ((y2.2.1.length + List.length (Ao l y2.1)) * 8 <= lim) <|
gd (y2.2.1.length + List.length (Ao l y2.1) <= lim) <|
gd (inK .i64 (y2.1 + 1)) <|
some (Sum.inl (y2.1 + 1, y2.2.1 ++ Ao l y2.1, y2.2.1 ++ Ao l y2.1))
else
some (Sum.inr (Sum.inr ((y2.2.1, ()), (), ())))) (nn) (0, y1.1.1, y1.1.1)) (nn) (0, 0)
def My (l : LLI) : Option ((LI × Unit) × Unit × Unit) := N9 AK l
def AAB (nn : Nat)  (gi : Int) (ga : L2) (a : LI) (b : LI) : Option ((LI × Unit) × ((Int × L2 × LI × LI × Unit) × Unit) × Unit) :=
gd (nI a.length <= nI a.length) <|
gd ((nI a.length).toNat * 8 <= lim) <|
gd (nI a.length <= nI lim) <|
AQ (X := Int × (Int × L2 × LI × LI) × LI) (fun y0 =>
bif decide (y0.1 < nI (List.replicate (nI a.length).toNat (0 : Int)).length) then
gd (0 <= y0.1) <|
gd (y0.1 < nI y0.2.1.2.2.1.length) <|
gd (0 <= y0.1) <|
gd (y0.1 < nI y0.2.1.2.2.2.length) <|
AD (mOr (AE y0.2.1.2.2.1 y0.1) (AE y0.2.1.2.2.2 y0.1) y0.2.1.1 y0.2.1.2.1) fun y1 =>
gd (0 <= y0.1) <|
gd (y0.1 < nI y0.2.2.length) <|
gd (inK .i64 (y0.1 + 1)) <|
some (Sum.inl (y0.1 + 1, (y1.2.1.1.1, y1.2.1.1.2.1, y0.2.1.2.2.1, y0.2.1.2.2.2), y0.2.2.set y0.1.toNat y1.1.1))
else
some (Sum.inr ((y0.2.2, ()), ((y0.2.1.1, y0.2.1.2.1, y0.2.1.2.2.1, y0.2.1.2.2.2, ()), ()), ()))) (nn) (0, (gi, ga, a, b), List.replicate (nI a.length).toNat 0)
def OA (gi : Int) (ga : L2) (a : LI) (b : LI) : Option ((LI × Unit) × ((Int × L2 × LI × LI × Unit) × Unit) × Unit) := AAB AK gi ga a b
def AAC (nn : Nat)  (gi : Int) (ga : L2) (a : LI) (b : LI) : Option ((LI × Unit) × ((Int × L2 × LI × LI × Unit) × Unit) × Unit) :=
gd (nI a.length <= nI a.length) <|
gd ((nI a.length).toNat * 8 <= lim) <|
gd (nI a.length <= nI lim) <|
AQ (X := Int × (Int × L2 × LI × LI) × LI) (fun y0 =>
bif decide (y0.1 < nI (List.replicate (nI a.length).toNat (0 : Int)).length) then
gd (0 <= y0.1) <|
gd (y0.1 < nI y0.2.1.2.2.1.length) <|
gd (0 <= y0.1) <|
gd (y0.1 < nI y0.2.1.2.2.2.length) <|
AD (SC (AE y0.2.1.2.2.1 y0.1) (AE y0.2.1.2.2.2 y0.1) y0.2.1.1 y0.2.1.2.1) fun y1 =>
gd (0 <= y0.1) <|
gd (y0.1 < nI y0.2.2.length) <|
gd (inK .i64 (y0.1 + 1)) <|
some (Sum.inl (y0.1 + 1, (y1.2.1.1.1, y1.2.1.1.2.1, y0.2.1.2.2.1, y0.2.1.2.2.2), y0.2.2.set y0.1.toNat y1.1.1))
else
some (Sum.inr ((y0.2.2, ()), ((y0.2.1.1, y0.2.1.2.1, y0.2.1.2.2.1, y0.2.1.2.2.2, ()), ()), ()))) (nn) (0, (gi, ga, a, b), List.replicate (nI a.length).toNat 0)
def LD (gi : Int) (ga : L2) (a : LI) (b : LI) : Option ((LI × Unit) × ((Int × L2 × LI × LI × Unit) × Unit) × Unit) := AAC AK gi ga a b
def AAD (gi : Int) (ga : L2) (a : LI) (b : LI) : Option ((LI × Unit) × ((Int × L2 × LI × LI × Unit) × Unit) × Unit) :=
AD (OA gi ga a b) fun y0 =>
some ((y0.1.1, ()), ((y0.2.1.1.1, y0.2.1.1.2.1, y0.2.1.1.2.2.1, y0.2.1.1.2.2.2.1, ()), ()), ())
def SH (gi : Int) (ga : L2) (a : LI) (b : LI) : Option ((LI × Unit) × ((Int × L2 × LI × LI × Unit) × Unit) × Unit) :=
AD (LD gi ga a b) fun y0 =>
some ((y0.1.1, ()), ((y0.2.1.1.1, y0.2.1.1.2.1, y0.2.1.1.2.2.1, y0.2.1.1.2.2.2.1, ()), ()), ())
def mNe (gi : Int) (ga : L2) (a : LI) (b : LI) : Option ((LI × Unit) × ((Int × L2 × LI × LI × Unit) × Unit) × Unit) :=
AD (LD gi ga a b) fun y0 =>
AD (ABS y0.1.1 y0.2.1.1.1 y0.2.1.1.2.1) fun y1 =>
some (([y1.1.1], ()), ((y1.2.1.1.1, y1.2.1.1.2.1, y0.2.1.1.2.2.1, y0.2.1.1.2.2.2.1, ()), ()), ())
def mEq (gi : Int) (ga : L2) (a : LI) (b : LI) : Option ((LI × Unit) × ((Int × L2 × LI × LI × Unit) × Unit) × Unit) :=
AD (mNe gi ga a b) fun y0 =>
AD (GO y0.1.1) fun y1 =>
some ((y1.1.1, ()), ((y0.2.1.1.1, y0.2.1.1.2.1, y0.2.1.1.2.2.1, y0.2.1.1.2.2.2.1, ()), ()), ())
def AD7 (gi : Int) (ga : L2) (a : LI) (b : LI) : Option ((LI × Unit) × ((Int × L2 × LI × LI × Unit) × Unit) × Unit) :=
AD (My [b, a]) fun y0 =>
some ((y0.1.1, ()), ((gi, ga, a, b, ()), ()), ())
def CG : Option ((Unit × Unit) × Unit × Unit) :=
some (((), ()), (), ())
def AKo (gi : Int) (ga : L2) (op : Int) (w : Int) (na : Int) (nb : Int) (nc : Int) (n : Int) (lo : Int) (a : LI) (b : LI) (c : LI) : Option (((Int × L2 × Unit) × LI × Unit) × Unit × Unit) :=
AD (CG) fun y0 =>
AD (AHU gi ga w n) fun y1 =>
some (((y1.2.1.1.1, y1.2.1.1.2.1, ()), y1.1.1, ()), (), ())
def AKp (gi : Int) (ga : L2) (op : Int) (w : Int) (na : Int) (nb : Int) (nc : Int) (n : Int) (lo : Int) (a : LI) (b : LI) (c : LI) : Option (((Int × L2 × Unit) × LI × Unit) × Unit × Unit) :=
AD (CG) fun y0 =>
AD (AD3 gi ga a) fun y1 =>
some (((y1.2.1.1.1, y1.2.1.1.2.1, ()), y1.1.1, ()), (), ())
def AKq (gi : Int) (ga : L2) (op : Int) (w : Int) (na : Int) (nb : Int) (nc : Int) (n : Int) (lo : Int) (a : LI) (b : LI) (c : LI) : Option (((Int × L2 × Unit) × LI × Unit) × Unit × Unit) :=
AD (CG) fun y0 =>
AD (N7 gi ga a) fun y1 =>
some (((y1.2.1.1.1, y1.2.1.1.2.1, ()), y1.1.1, ()), (), ())
def AKr (gi : Int) (ga : L2) (op : Int) (w : Int) (na : Int) (nb : Int) (nc : Int) (n : Int) (lo : Int) (a : LI) (b : LI) (c : LI) : Option (((Int × L2 × Unit) × LI × Unit) × Unit × Unit) :=
AD (CG) fun y0 =>
AD (Jv gi ga a) fun y1 =>
some (((y1.2.1.1.1, y1.2.1.1.2.1, ()), y1.1.1, ()), (), ())
def AKs (gi : Int) (ga : L2) (op : Int) (w : Int) (na : Int) (nb : Int) (nc : Int) (n : Int) (lo : Int) (a : LI) (b : LI) (c : LI) : Option (((Int × L2 × Unit) × LI × Unit) × Unit × Unit) :=
AD (CG) fun y0 =>
AD (SE gi ga a b) fun y1 =>
some (((y1.2.1.1.1, y1.2.1.1.2.1, ()), y1.1.1, ()), (), ())
def AKt (gi : Int) (ga : L2) (op : Int) (w : Int) (na : Int) (nb : Int) (nc : Int) (n : Int) (lo : Int) (a : LI) (b : LI) (c : LI) : Option (((Int × L2 × Unit) × LI × Unit) × Unit × Unit) :=
AD (CG) fun y0 =>
AD (AAD gi ga a b) fun y1 =>
some (((y1.2.1.1.1, y1.2.1.1.2.1, ()), y1.1.1, ()), (), ())
def AKu (gi : Int) (ga : L2) (op : Int) (w : Int) (na : Int) (nb : Int) (nc : Int) (n : Int) (lo : Int) (a : LI) (b : LI) (c : LI) : Option (((Int × L2 × Unit) × LI × Unit) × Unit × Unit) :=
AD (CG) fun y0 =>
AD (SH gi ga a b) fun y1 =>
some (((y1.2.1.1.1, y1.2.1.1.2.1, ()), y1.1.1, ()), (), ())
def AKv (gi : Int) (ga : L2) (op : Int) (w : Int) (na : Int) (nb : Int) (nc : Int) (n : Int) (lo : Int) (a : LI) (b : LI) (c : LI) : Option (((Int × L2 × Unit) × LI × Unit) × Unit × Unit) :=
AD (CG) fun y0 =>
AD (AD4 gi ga a b) fun y1 =>
some (((y1.2.1.1.1, y1.2.1.1.2.1, ()), y1.1.1, ()), (), ())
def AIv (gi : Int) (ga : L2) (op : Int) (w : Int) (na : Int) (nb : Int) (nc : Int) (n : Int) (lo : Int) (a : LI) (b : LI) (c : LI) : Option (((Int × L2 × Unit) × LI × Unit) × Unit × Unit) :=
AD (CG) fun y0 =>
AD (AD5 gi ga a b) fun y1 =>
some (((y1.2.1.1.1, y1.2.1.1.2.1, ()), y1.1.1, ()), (), ())
def AIw (gi : Int) (ga : L2) (op : Int) (w : Int) (na : Int) (nb : Int) (nc : Int) (n : Int) (lo : Int) (a : LI) (b : LI) (c : LI) : Option (((Int × L2 × Unit) × LI × Unit) × Unit × Unit) :=
AD (CG) fun y0 =>
AD (AHV gi ga a b) fun y1 =>
some (((y1.2.1.1.1, y1.2.1.1.2.1, ()), y1.1.1, ()), (), ())
def AIx (gi : Int) (ga : L2) (op : Int) (w : Int) (na : Int) (nb : Int) (nc : Int) (n : Int) (lo : Int) (a : LI) (b : LI) (c : LI) : Option (((Int × L2 × Unit) × LI × Unit) × Unit × Unit) :=
AD (CG) fun y0 =>
AD (mEq gi ga a b) fun y1 =>
some (((y1.2.1.1.1, y1.2.1.1.2.1, ()), y1.1.1, ()), (), ())
def AIy (gi : Int) (ga : L2) (op : Int) (w : Int) (na : Int) (nb : Int) (nc : Int) (n : Int) (lo : Int) (a : LI) (b : LI) (c : LI) : Option (((Int × L2 × Unit) × LI × Unit) × Unit × Unit) :=
AD (CG) fun y0 =>
AD (mNe gi ga a b) fun y1 =>
some (((y1.2.1.1.1, y1.2.1.1.2.1, ()), y1.1.1, ()), (), ())
def AIz (gi : Int) (ga : L2) (op : Int) (w : Int) (na : Int) (nb : Int) (nc : Int) (n : Int) (lo : Int) (a : LI) (b : LI) (c : LI) : Option (((Int × L2 × Unit) × LI × Unit) × Unit × Unit) :=
AD (CG) fun y0 =>
AD (mLt gi ga a b) fun y1 =>
some (((y1.2.1.1.1, y1.2.1.1.2.1, ()), y1.1.1, ()), (), ())
def AI0 (gi : Int) (ga : L2) (op : Int) (w : Int) (na : Int) (nb : Int) (nc : Int) (n : Int) (lo : Int) (a : LI) (b : LI) (c : LI) : Option (((Int × L2 × Unit) × LI × Unit) × Unit × Unit) :=
AD (CG) fun y0 =>
AD (mLe gi ga a b) fun y1 =>
some (((y1.2.1.1.1, y1.2.1.1.2.1, ()), y1.1.1, ()), (), ())
def AI1 (gi : Int) (ga : L2) (op : Int) (w : Int) (na : Int) (nb : Int) (nc : Int) (n : Int) (lo : Int) (a : LI) (b : LI) (c : LI) : Option (((Int × L2 × Unit) × LI × Unit) × Unit × Unit) :=
AD (CG) fun y0 =>
AD (SG gi ga a b c) fun y1 =>
some (((y1.2.1.1.1, y1.2.1.1.2.1, ()), y1.1.1, ()), (), ())
def AI2 (gi : Int) (ga : L2) (op : Int) (w : Int) (na : Int) (nb : Int) (nc : Int) (n : Int) (lo : Int) (a : LI) (b : LI) (c : LI) : Option (((Int × L2 × Unit) × LI × Unit) × Unit × Unit) :=
AD (CG) fun y0 =>
AD (AD7 gi ga a b) fun y1 =>
some (((y1.2.1.1.1, y1.2.1.1.2.1, ()), y1.1.1, ()), (), ())
def AI3 (gi : Int) (ga : L2) (op : Int) (w : Int) (na : Int) (nb : Int) (nc : Int) (n : Int) (lo : Int) (a : LI) (b : LI) (c : LI) : Option (((Int × L2 × Unit) × LI × Unit) × Unit × Unit) :=
AD (CG) fun y0 =>
AD (N8 gi ga n lo a) fun y1 =>
some (((y1.2.1.1.1, y1.2.1.1.2.1, ()), y1.1.1, ()), (), ())
def bDo (gi : Int) (ga : L2) (op : Int) (w : Int) (na : Int) (nb : Int) (nc : Int) (n : Int) (lo : Int) (a : LI) (b : LI) (c : LI) : Option (((Int × L2 × Unit) × LI × Unit) × Unit × Unit) :=
Mh op [(1, AKo gi ga op w na nb nc n lo a b c), (3, AKp gi ga op w na nb nc n lo a b c), (4, AKq gi ga op w na nb nc n lo a b c), (5, AKr gi ga op w na nb nc n lo a b c), (6, AKs gi ga op w na nb nc n lo a b c), (7, AKt gi ga op w na nb nc n lo a b c), (8, AKu gi ga op w na nb nc n lo a b c), (9, AKv gi ga op w na nb nc n lo a b c), (10, AIv gi ga op w na nb nc n lo a b c), (11, AIw gi ga op w na nb nc n lo a b c), (12, AIx gi ga op w na nb nc n lo a b c), (13, AIy gi ga op w na nb nc n lo a b c), (14, AIz gi ga op w na nb nc n lo a b c), (15, AI0 gi ga op w na nb nc n lo a b c), (16, AI1 gi ga op w na nb nc n lo a b c), (17, AI2 gi ga op w na nb nc n lo a b c), (18, AI3 gi ga op w na nb nc n lo a b c)]
end AL
end
section
namespace AL
open Go
def AJq (ins : Int) : Option (((Int × L2 × Unit) × Unit) × Unit × Unit) :=
some (((ins, [], ()), ()), (), ())
def Xb (nn : Nat)  (l : LI) (nn_ : LN) : Option ((Int × Unit) × ((LN × Unit) × Unit) × Unit) :=
AQ (X := Int × Int) (fun y0 =>
bif decide (y0.2 < nI l.length) then
gd (0 <= y0.2) <|
gd (y0.2 < nI l.length) <|
gd (0 <= AE l y0.2) <|
gd (AE l y0.2 < nI nn_.length) <|
gd (inK .i64 (y0.1 + (get AB nn_ (AE l y0.2)).2.1)) <|
gd (inK .i64 (y0.2 + 1)) <|
some (Sum.inl (y0.1 + (get AB nn_ (AE l y0.2)).2.1, y0.2 + 1))
else
some (Sum.inr ((y0.1, ()), ((nn_, ()), ()), ()))) (nn) (0, 0)
def VD (l : LI) (nn_ : LN) : Option ((Int × Unit) × ((LN × Unit) × Unit) × Unit) := Xb AK l nn_
def Xc (nn : Nat)  (pos : Int) (first : Int) (nn_ : LN) (bits_ : List (Int × LI)) : Option ((Int × Unit) × ((LN × List (Int × LI) × Unit) × Unit) × Unit) :=
gd (0 <= pos) <|
gd (pos < nI nn_.length) <|
AQ (X := (Int × Int) × LI) (fun y0 =>
bif decide (y0.1.2 < (get AB nn_ pos).2.1) then
gd (inK .i64 (2 * y0.1.1)) <|
gd ((y0.2.length + [2 * y0.1.1].length) * 8 <= lim) <|
gd (y0.2.length + [2 * y0.1.1].length <= lim) <|
gd (inK .i64 (y0.1.1 + 1)) <|
gd (inK .i64 (y0.1.2 + 1)) <|
some (Sum.inl ((y0.1.1 + 1, y0.1.2 + 1), y0.2 ++ [2 * y0.1.1]))
else
gd (bits_.length < lim) <|
some (Sum.inr ((y0.1.1, ()), ((nn_, A4 y0.2 bits_ pos, ()), ()), ()))) (nn) ((first, 0), [])
def AAE (pos : Int) (first : Int) (nn_ : LN) (bits_ : List (Int × LI)) : Option ((Int × Unit) × ((LN × List (Int × LI) × Unit) × Unit) × Unit) := Xc AK pos first nn_ bits_
def LF (nn : Nat)  (nn_ : LN) (ni : LP) (nc : LC) (np : LQ) (nm : LP) : Option ((LI × Unit) × Unit × Unit) :=
gd (nI nc.length <= nI nc.length) <|
gd ((nI nc.length).toNat * 8 <= lim) <|
gd (nI nc.length <= nI lim) <|
AQ (X := Int × LI) (fun y0 =>
bif decide (y0.1 < nI nc.length) then
gd (0 <= y0.1) <|
gd (y0.1 < nI nc.length) <|
gd (0 <= y0.1) <|
gd (y0.1 < nI y0.2.length) <|
gd (inK .i64 (y0.1 + 1)) <|
some (Sum.inl (y0.1 + 1, y0.2.set y0.1.toNat (get AX nc y0.1).2.2.2.1))
else
some (Sum.inr ((y0.2, ()), (), ()))) (nn) (0, List.replicate (nI nc.length).toNat 0)
def Jw (nn_ : LN) (ni : LP) (nc : LC) (np : LQ) (nm : LP) : Option ((LI × Unit) × Unit × Unit) := LF AK nn_ ni nc np nm
def OB (nn : Nat)  (n : Int) (w : Int) : Option ((List Bool × Unit) × Unit × Unit) :=
gd (0 <= w) <|
gd (w <= w) <|
gd (w.toNat * 1 <= lim) <|
gd (w <= nI lim) <|
AQ (X := Int × List Bool) (fun y0 =>
bif decide (y0.1 < w) then
gd (0 <= y0.1) <|
gd (0 <= y0.1) <|
gd (y0.1 < nI y0.2.length) <|
gd (inK .i64 (y0.1 + 1)) <|
some (Sum.inl (y0.1 + 1, y0.2.set y0.1.toNat (IntKind.i64.wrap (nI (BitVec.ofInt 64 (n.fdiv (2 ^ min y0.1.toNat 64)) &&& BitVec.ofInt 64 1).toNat) == 1)))
else
some (Sum.inr ((y0.2, ()), (), ()))) (nn) (0, List.replicate w.toNat false)
def Mz (n : Int) (w : Int) : Option ((List Bool × Unit) × Unit × Unit) := OB AK n w
def AD8 (w : Int) : Option ((Int × Unit) × Unit × Unit) :=
gd (0 <= w) <|
gd (inK .i64 (IntKind.i64.wrap (1 * 2 ^ min w.toNat 64) - 1)) <|
some ((IntKind.i64.wrap (1 * 2 ^ min w.toNat 64) - 1, ()), (), ())
def LG (nn : Nat)  (cl : L3) (nn_ : LT) (ni : LN) (nc : LP) (np : LC) (nm : LQ) (bits_ : LP) (ci : List (Int × LI)) : Option (Unit × ((L3 × LT × LN × LP × LC × LQ × LP × List (Int × LI) × Unit) × Unit) × Unit) :=
AD (Jw ni nc np nm bits_) fun y0 =>
AQ (X := Int × (NET) × LT) (fun y1 =>
bif decide (y1.1 < nI np.length) then
gd (0 <= y1.1) <|
gd (y1.1 < nI np.length) <|
gd (0 <= y1.1) <|
gd (y1.1 < nI y0.1.1.length) <|
gd (0 <= (get AX np y1.1).2.1) <|
gd ((get AX np y1.1).2.1 < nI y1.2.1.1.length) <|
AD (Mz (AE y0.1.1 y1.1) (get ((Ty.int IntKind.i64).pair ((Ty.int IntKind.i64).pair ((Ty.int IntKind.i64).pair ((Ty.int IntKind.i64).pair ((Ty.int IntKind.i64).pair ((Ty.int IntKind.i64).pair ((Ty.int IntKind.i64).pair Ty.unit))))))) y1.2.1.1 (get AX np y1.1).2.1).2.1) fun y2 =>
AQ (X := Int × (NET) × LT) (fun y3 =>
bif decide (y3.1 < nI y2.1.1.length) then
gd (0 <= y3.1) <|
gd (y3.1 < nI y2.1.1.length) <|
gd (inK .i64 (nI cl.length + nI y3.2.2.length)) <|
gd (inK .i64 (nI cl.length + nI y3.2.2.length + 1)) <|
gd (0 <= y3.1) <|
gd (y3.1 < nI (List.length (Ad int.sl.Bl ci (get AX np y1.1).2.2.1))) <|
gd ((y3.2.2.length + [(nI cl.length + nI y3.2.2.length + 1, AE (Ad int.sl.Bl ci (get AX np y1.1).2.2.1) y3.1, CB y2.1.1 y3.1, y1.1, y3.1, ())].length) * 40 <= lim) <|
gd (y3.2.2.length + [(nI cl.length + nI y3.2.2.length + 1, AE (Ad int.sl.Bl ci (get AX np y1.1).2.2.1) y3.1, CB y2.1.1 y3.1, y1.1, y3.1, ())].length <= lim) <|
gd (inK .i64 (y3.1 + 1)) <|
some (Sum.inl (y3.1 + 1, (y3.2.1.1, y3.2.1.2.1, y3.2.1.2.2.1, y3.2.1.2.2.2.1, y3.2.1.2.2.2.2), y3.2.2 ++ [(nI cl.length + nI y3.2.2.length + 1, AE (Ad int.sl.Bl ci (get AX np y1.1).2.2.1) y3.1, CB y2.1.1 y3.1, y1.1, y3.1, ())]))
else
gd (inK .i64 (y1.1 + 1)) <|
some (Sum.inr (Sum.inl (y1.1 + 1, (y3.2.1.1, y3.2.1.2.1, y3.2.1.2.2.1, y3.2.1.2.2.2.1, y3.2.1.2.2.2.2), y3.2.2)))) (nn) (0, (y1.2.1.1, y1.2.1.2.1, y1.2.1.2.2.1, y1.2.1.2.2.2.1, y1.2.1.2.2.2.2), y1.2.2)
else
some (Sum.inr ((), ((cl, y1.2.2, y1.2.1.1, y1.2.1.2.1, y1.2.1.2.2.1, y1.2.1.2.2.2.1, y1.2.1.2.2.2.2, ci, ()), ()), ()))) (nn) (0, (ni, nc, np, nm, bits_), nn_)
def Jx (cl : L3) (nn_ : LT) (ni : LN) (nc : LP) (np : LC) (nm : LQ) (bits_ : LP) (ci : List (Int × LI)) : Option (Unit × ((L3 × LT × LN × LP × LC × LQ × LP × List (Int × LI) × Unit) × Unit) × Unit) := LG AK cl nn_ ni nc np nm bits_ ci
def SI (nn : Nat)  (gi : Int) (ga : L2) (nn_ : LN) (bits_ : List (Int × LI)) : Option (Unit × ((Int × L2 × LN × List (Int × LI) × Unit) × Unit) × Unit) :=
AQ (X := Int × (Int × L2 × LN) × List (Int × LI)) (fun y0 =>
bif decide (y0.1 < nI nn_.length) then
gd (0 <= y0.1) <|
gd (y0.1 < nI nn_.length) <|
bif BF y0.2.2 y0.1 then
gd (inK .i64 (y0.1 + 1)) <|
some (Sum.inl (y0.1 + 1, (y0.2.1.1, y0.2.1.2.1, y0.2.1.2.2), y0.2.2))
else
AD (bDo y0.2.1.1 y0.2.1.2.1 (get AB nn_ y0.1).1 (get AB nn_ y0.1).2.1 (get AB nn_ y0.1).2.2.1 (get AB nn_ y0.1).2.2.2.1 (get AB nn_ y0.1).2.2.2.2.1 (get AB nn_ y0.1).2.2.2.2.2.1 (get AB nn_ y0.1).2.2.2.2.2.2.1 (Ad (Ty.int IntKind.i64).sl.Bl y0.2.2 (get AB nn_ y0.1).2.2.1) (Ad (Ty.int IntKind.i64).sl.Bl y0.2.2 (get AB nn_ y0.1).2.2.2.1) (Ad (Ty.int IntKind.i64).sl.Bl y0.2.2 (get AB nn_ y0.1).2.2.2.2.1)) fun y1 =>
gd (y0.2.2.length < lim) <|
gd (inK .i64 (y0.1 + 1)) <|
some (Sum.inl (y0.1 + 1, (y1.1.1.1, y1.1.1.2.1, y0.2.1.2.2), A4 y1.1.2.1 y0.2.2 y0.1))
else
some (Sum.inr ((), ((y0.2.1.1, y0.2.1.2.1, y0.2.1.2.2, y0.2.2, ()), ()), ()))) (nn) (0, (gi, ga, nn_), bits_)
def SJ (gi : Int) (ga : L2) (nn_ : LN) (bits_ : List (Int × LI)) : Option (Unit × ((Int × L2 × LN × List (Int × LI) × Unit) × Unit) × Unit) := SI AK gi ga nn_ bits_
def OC (nn : Nat)  (nn_ : LN) (ni : LP) (nc : LC) (np : LQ) (nm : LP) : Option (((Int × L2 × L3 × LT × L3 × Unit) × Unit) × Unit × Unit) :=
AQ (X := Int × (Int × NET) × LI × L3) (fun y0 =>
bif decide (y0.1 < nI ni.length) then
gd (0 <= y0.1) <|
gd (y0.1 < nI ni.length) <|
gd ((y0.2.2.1.length + [(get Ar ni y0.1).2.1].length) * 8 <= lim) <|
gd (y0.2.2.1.length + [(get Ar ni y0.1).2.1].length <= lim) <|
gd (0 <= (get Ar ni y0.1).2.1) <|
gd ((get Ar ni y0.1).2.1 < nI nn_.length) <|
AQ (X := Int × (Int × NET) × L3) (fun y1 =>
bif decide (y1.1 < (get AB nn_ (get Ar ni y0.1).2.1).2.1) then
gd (inK .i64 (nI y1.2.2.length + 1)) <|
gd ((y1.2.2.length + [(nI y1.2.2.length + 1, y0.1, y1.1, ())].length) * 24 <= lim) <|
gd (y1.2.2.length + [(nI y1.2.2.length + 1, y0.1, y1.1, ())].length <= lim) <|
gd (inK .i64 (y1.1 + 1)) <|
some (Sum.inl (y1.1 + 1, (y1.2.1.1, y1.2.1.2.1, y1.2.1.2.2.1, y1.2.1.2.2.2.1, y1.2.1.2.2.2.2.1, y1.2.1.2.2.2.2.2), y1.2.2 ++ [(nI y1.2.2.length + 1, y0.1, y1.1, ())]))
else
gd (inK .i64 (y0.1 + 1)) <|
some (Sum.inr (Sum.inl (y0.1 + 1, (y1.2.1.1, y1.2.1.2.1, y1.2.1.2.2.1, y1.2.1.2.2.2.1, y1.2.1.2.2.2.2.1, y1.2.1.2.2.2.2.2), y0.2.2.1 ++ [(get Ar ni y0.1).2.1], y1.2.2)))) (nn) (0, (y0.2.1.1, y0.2.1.2.1, y0.2.1.2.2.1, y0.2.1.2.2.2.1, y0.2.1.2.2.2.2.1, y0.2.1.2.2.2.2.2), y0.2.2.2)
else
AQ (X := Int × LI) (fun y1 =>
bif decide (y1.1 < nI nc.length) then
gd (0 <= y1.1) <|
gd (y1.1 < nI nc.length) <|
gd ((y1.2.length + [(get AX nc y1.1).2.1].length) * 8 <= lim) <|
gd (y1.2.length + [(get AX nc y1.1).2.1].length <= lim) <|
gd (inK .i64 (y1.1 + 1)) <|
some (Sum.inl (y1.1 + 1, y1.2 ++ [(get AX nc y1.1).2.1]))
else
AD (VD y0.2.2.1 y0.2.1.2.1) fun y2 =>
AD (VD y1.2 y0.2.1.2.1) fun y3 =>
gd (inK .i64 (y2.1.1 + y3.1.1)) <|
AD (AJq (y2.1.1 + y3.1.1)) fun y4 =>
gd ((y0.2.2.1.length + y1.2.length) * 8 <= lim) <|
gd (y0.2.2.1.length + y1.2.length <= lim) <|
AQ (X := (Int × Int) × (Int × L2 × NET) × List (Int × LI)) (fun y5 =>
bif decide (y5.1.2 < nI (y0.2.2.1 ++ y1.2).length) then
gd (0 <= y5.1.2) <|
gd (y5.1.2 < nI (y0.2.2.1 ++ y1.2).length) <|
AD (AAE (AE (y0.2.2.1 ++ y1.2) y5.1.2) y5.1.1 y5.2.1.2.2.1 y5.2.2) fun y6 =>
gd (inK .i64 (y5.1.2 + 1)) <|
some (Sum.inl ((y6.1.1, y5.1.2 + 1), (y5.2.1.1, y5.2.1.2.1, y5.2.1.2.2.1, y5.2.1.2.2.2.1, y5.2.1.2.2.2.2.1, y5.2.1.2.2.2.2.2.1, y5.2.1.2.2.2.2.2.2), y6.2.1.1.2.1))
else
AD (SJ y5.2.1.1 y5.2.1.2.1 y5.2.1.2.2.1 y5.2.2) fun y6 =>
AD (Jx y0.2.2.2 [] y6.2.1.1.2.2.1 y5.2.1.2.2.2.1 y5.2.1.2.2.2.2.1 y5.2.1.2.2.2.2.2.1 y5.2.1.2.2.2.2.2.2 y6.2.1.1.2.2.2.1) fun y7 =>
AQ (X := Int × (Int × L2 × NET) × L3) (fun y8 =>
bif decide (y8.1 < nI np.length) then
gd (0 <= y8.1) <|
gd (y8.1 < nI np.length) <|
gd (0 < nI (List.length (Ad int.sl.Bl y7.2.1.1.2.2.2.2.2.2.2.1 (get Ax np y8.1).2.2.1))) <|
gd ((y8.2.2.length + [((get Ax np y8.1).1, AE (Ad int.sl.Bl y7.2.1.1.2.2.2.2.2.2.2.1 (get Ax np y8.1).2.2.1) 0, y8.1, ())].length) * 24 <= lim) <|
gd (y8.2.2.length + [((get Ax np y8.1).1, AE (Ad int.sl.Bl y7.2.1.1.2.2.2.2.2.2.2.1 (get Ax np y8.1).2.2.1) 0, y8.1, ())].length <= lim) <|
gd (inK .i64 (y8.1 + 1)) <|
some (Sum.inl (y8.1 + 1, (y8.2.1.1, y8.2.1.2.1, y8.2.1.2.2.1, y8.2.1.2.2.2.1, y8.2.1.2.2.2.2.1, y8.2.1.2.2.2.2.2.1, y8.2.1.2.2.2.2.2.2), y8.2.2 ++ [((get Ax np y8.1).1, AE (Ad int.sl.Bl y7.2.1.1.2.2.2.2.2.2.2.1 (get Ax np y8.1).2.2.1) 0, y8.1, ())]))
else
some (Sum.inr (Sum.inr (Sum.inr (Sum.inr (((y8.2.1.1, y8.2.1.2.1, y7.2.1.1.1, y7.2.1.1.2.1, y8.2.2, ()), ()), (), ())))))) (nn) (0, (y6.2.1.1.1, y6.2.1.1.2.1, y6.2.1.1.2.2.1, y5.2.1.2.2.2.1, y5.2.1.2.2.2.2.1, y5.2.1.2.2.2.2.2.1, y5.2.1.2.2.2.2.2.2), [])) (nn) ((1, 0), (y4.1.1.1, y4.1.1.2.1, y0.2.1.2.1, y0.2.1.2.2.1, y0.2.1.2.2.2.1, y0.2.1.2.2.2.2.1, y0.2.1.2.2.2.2.2), [])) (nn) (0, [])) (nn) (0, (0, nn_, ni, nc, np, nm), [], [])
def Da (nn_ : LN) (ni : LP) (nc : LC) (np : LQ) (nm : LP) : Option (((Int × L2 × L3 × LT × L3 × Unit) × Unit) × Unit × Unit) := OC AK nn_ ni nc np nm
def OD (nn : Nat)  (gi : Int) (ga : L2) (ci : L3) (cl : LT) (co : L3) (cells : LI) : Option ((List Bool × Unit) × Unit × Unit) :=
AQ (X := Int × List Bool) (fun y0 =>
bif decide (y0.1 < nI cl.length) then
gd (0 <= y0.1) <|
gd (y0.1 < nI cl.length) <|
bif decide ((get AU cl y0.1).2.2.2.1 < nI cells.length) then
bif bif true then decide ((get AU cl y0.1).2.2.2.2.1 < 16) else false then
gd (0 <= (get AU cl y0.1).2.2.2.1) <|
gd ((get AU cl y0.1).2.2.2.1 < nI cells.length) <|
gd (0 <= (get AU cl y0.1).2.2.2.2.1) <|
gd ((y0.2.length + [bif true then IntKind.i64.wrap (nI (BitVec.ofInt 64 (Int.fdiv (AE cells (get AU cl y0.1).2.2.2.1) (2 ^ min (Int.toNat (get AU cl y0.1).2.2.2.2.1) 64)) &&& BitVec.ofInt 64 1).toNat) == 1 else false].length) * 1 <= lim) <|
gd (y0.2.length + [bif true then IntKind.i64.wrap (nI (BitVec.ofInt 64 (Int.fdiv (AE cells (get AU cl y0.1).2.2.2.1) (2 ^ min (Int.toNat (get AU cl y0.1).2.2.2.2.1) 64)) &&& BitVec.ofInt 64 1).toNat) == 1 else false].length <= lim) <|
gd (inK .i64 (y0.1 + 1)) <|
some (Sum.inl (y0.1 + 1, y0.2 ++ [bif true then IntKind.i64.wrap (nI (BitVec.ofInt 64 (Int.fdiv (AE cells (get AU cl y0.1).2.2.2.1) (2 ^ min (Int.toNat (get AU cl y0.1).2.2.2.2.1) 64)) &&& BitVec.ofInt 64 1).toNat) == 1 else false]))
else
gd ((y0.2.length + 1) * 1 <= lim) <|
gd (y0.2.length + 1 <= lim) <|
gd (inK .i64 (y0.1 + 1)) <|
some (Sum.inl (y0.1 + 1, y0.2 ++ [false]))
else
gd ((y0.2.length + 1) * 1 <= lim) <|
gd (y0.2.length + 1 <= lim) <|
gd (inK .i64 (y0.1 + 1)) <|
some (Sum.inl (y0.1 + 1, y0.2 ++ [false]))
else
some (Sum.inr ((y0.2, ()), (), ()))) (nn) (0, [])
def GP (gi : Int) (ga : L2) (ci : L3) (cl : LT) (co : L3) (cells : LI) : Option ((List Bool × Unit) × Unit × Unit) := OD AK gi ga ci cl co cells
def Xd (nn : Nat)  (l : LLI) (state : List Bool) : Option ((Bool × Unit) × Unit × Unit) :=
AQ (X := Int) (fun y0 =>
bif decide (y0 < nI l.length) then
AQ (X := Bool × Int) (fun y1 =>
gd (0 <= y0) <|
gd (y0 < nI l.length) <|
bif decide (y1.2 < nI (List.length (Ao l y0))) then
gd (0 <= y0) <|
gd (y0 < nI l.length) <|
gd (0 <= y1.2) <|
gd (y1.2 < nI (List.length (Ao l y0))) <|
gd (0 <= y0) <|
gd (y0 < nI l.length) <|
gd (0 <= y1.2) <|
gd (y1.2 < nI (List.length (Ao l y0))) <|
gd (inK .i64 (0 - AE (Ao l y0) y1.2)) <|
bif decide (max2 (AE (Ao l y0) y1.2) (0 - AE (Ao l y0) y1.2) < 1) then
some (Sum.inr (Sum.inr ((false, ()), (), ())))
else
bif bif false then true else decide (max2 (AE (Ao l y0) y1.2) (0 - AE (Ao l y0) y1.2) > nI state.length) then
some (Sum.inr (Sum.inr ((false, ()), (), ())))
else
bif y1.1 then
gd (inK .i64 (y1.2 + 1)) <|
some (Sum.inl (true, y1.2 + 1))
else
gd (inK .i64 (max2 (AE (Ao l y0) y1.2) (0 - AE (Ao l y0) y1.2) - 1)) <|
gd (0 <= max2 (AE (Ao l y0) y1.2) (0 - AE (Ao l y0) y1.2) - 1) <|
gd (max2 (AE (Ao l y0) y1.2) (0 - AE (Ao l y0) y1.2) - 1 < nI state.length) <|
gd (0 <= y0) <|
gd (y0 < nI l.length) <|
gd (0 <= y1.2) <|
gd (y1.2 < nI (List.length (Ao l y0))) <|
gd (inK .i64 (y1.2 + 1)) <|
some (Sum.inl (bif false then true else CB state (max2 (AE (Ao l y0) y1.2) (0 - AE (Ao l y0) y1.2) - 1) == decide (AE (Ao l y0) y1.2 > 0), y1.2 + 1))
else
bif !y1.1 then
some (Sum.inr (Sum.inr ((false, ()), (), ())))
else
gd (inK .i64 (y0 + 1)) <|
some (Sum.inr (Sum.inl (y0 + 1)))) (nn) (false, 0)
else
some (Sum.inr ((true, ()), (), ()))) (nn) 0
def OE (l : LLI) (state : List Bool) : Option ((Bool × Unit) × Unit × Unit) := Xd AK l state
def OF (nn : Nat)  (nn_ : LN) (ni : LP) (nc : LC) (np : LQ) (nm : LP) (nums : LI) : Option ((LI × Unit) × Unit × Unit) :=
AQ (X := Int × LI) (fun y0 =>
bif decide (y0.1 < nI nc.length) then
bif decide (y0.1 < nI nums.length) then
gd (0 <= y0.1) <|
gd (y0.1 < nI nums.length) <|
gd (0 <= y0.1) <|
gd (y0.1 < nI nc.length) <|
gd (0 <= (get AX nc y0.1).2.1) <|
gd ((get AX nc y0.1).2.1 < nI nn_.length) <|
gd (0 <= (get AB nn_ (get AX nc y0.1).2.1).2.1) <|
gd (IntKind.i64.wrap (1 * 2 ^ min (Int.toNat (get AB nn_ (get AX nc y0.1).2.1).2.1) 64) ≠ 0) <|
gd ((y0.2.length + [(IntKind.i64.wrap (get (Ty.int IntKind.u16) nums y0.1)).tmod (IntKind.i64.wrap (1 * 2 ^ min (Int.toNat (get AB nn_ (get AX nc y0.1).2.1).2.1) 64))].length) * 8 <= lim) <|
gd (y0.2.length + [(IntKind.i64.wrap (get (Ty.int IntKind.u16) nums y0.1)).tmod (IntKind.i64.wrap (1 * 2 ^ min (Int.toNat (get AB nn_ (get AX nc y0.1).2.1).2.1) 64))].length <= lim) <|
gd (inK .i64 (y0.1 + 1)) <|
some (Sum.inl (y0.1 + 1, y0.2 ++ [(IntKind.i64.wrap (get (Ty.int IntKind.u16) nums y0.1)).tmod (IntKind.i64.wrap (1 * 2 ^ min (Int.toNat (get AB nn_ (get AX nc y0.1).2.1).2.1) 64))]))
else
gd ((y0.2.length + 1) * 8 <= lim) <|
gd (y0.2.length + 1 <= lim) <|
gd (inK .i64 (y0.1 + 1)) <|
some (Sum.inl (y0.1 + 1, y0.2 ++ [0]))
else
some (Sum.inr ((y0.2, ()), (), ()))) (nn) (0, [])
def GQ (nn_ : LN) (ni : LP) (nc : LC) (np : LQ) (nm : LP) (nums : LI) : Option ((LI × Unit) × Unit × Unit) := OF AK nn_ ni nc np nm nums
def SK (nn : Nat)  (state : List Bool) : Option ((LI × Unit) × Unit × Unit) :=
AQ (X := Int × LI) (fun y0 =>
bif decide (y0.1 < nI state.length) then
gd (0 <= y0.1) <|
gd (y0.1 < nI state.length) <|
bif CB state y0.1 then
gd (inK .i64 (y0.1 + 1)) <|
gd ((y0.2.length + [y0.1 + 1].length) * 8 <= lim) <|
gd (y0.2.length + [y0.1 + 1].length <= lim) <|
gd (inK .i64 (y0.1 + 1)) <|
some (Sum.inl (y0.1 + 1, y0.2 ++ [y0.1 + 1]))
else
gd (inK .i64 (0 - y0.1)) <|
gd (inK .i64 (0 - y0.1 - 1)) <|
gd ((y0.2.length + [0 - y0.1 - 1].length) * 8 <= lim) <|
gd (y0.2.length + [0 - y0.1 - 1].length <= lim) <|
gd (inK .i64 (y0.1 + 1)) <|
some (Sum.inl (y0.1 + 1, y0.2 ++ [0 - y0.1 - 1]))
else
some (Sum.inr ((y0.2, ()), (), ()))) (nn) (0, [])
def Ew (state : List Bool) : Option ((LI × Unit) × Unit × Unit) := SK AK state
def HN (nn : Nat)  (l : LI) : Option ((LI × Unit) × Unit × Unit) :=
AQ (X := Int × LI) (fun y0 =>
bif decide (y0.1 < nI l.length) then
gd (0 <= y0.1) <|
gd (y0.1 < nI l.length) <|
gd (inK .i64 (0 - AE l y0.1)) <|
gd ((y0.2.length + [0 - AE l y0.1].length) * 8 <= lim) <|
gd (y0.2.length + [0 - AE l y0.1].length <= lim) <|
gd (inK .i64 (y0.1 + 1)) <|
some (Sum.inl (y0.1 + 1, y0.2 ++ [0 - AE l y0.1]))
else
some (Sum.inr ((y0.2, ()), (), ()))) (nn) (0, [])
def C7 (l : LI) : Option ((LI × Unit) × Unit × Unit) := HN AK l
def Xe (nn : Nat)  (a : List Bool) (b : List Bool) : Option ((Bool × Unit) × Unit × Unit) :=
bif nI a.length != nI b.length then
some ((false, ()), (), ())
else
AQ (X := Int) (fun y0 =>
bif decide (y0 < nI a.length) then
gd (0 <= y0) <|
gd (y0 < nI a.length) <|
gd (0 <= y0) <|
gd (y0 < nI b.length) <|
bif !CB a y0 == CB b y0 then
some (Sum.inr ((false, ()), (), ()))
else
gd (inK .i64 (y0 + 1)) <|
some (Sum.inl (y0 + 1))
else
some (Sum.inr ((true, ()), (), ()))) (nn) 0
def OG (a : List Bool) (b : List Bool) : Option ((Bool × Unit) × Unit × Unit) := Xe AK a b
def LH (nn : Nat)  (nn_ : LN) (ni : LP) (nc : LC) (np : LQ) (nm : LP) : Option (((LN × LP × LC × LQ × LP × Unit) × Unit) × Unit × Unit) :=
AQ (X := Int × (LN × LQ × LP) × LP) (fun y0 =>
bif decide (y0.1 < nI ni.length) then
gd (inK .i64 (65 + y0.1.tmod 64)) <|
gd (0 <= y0.1) <|
gd (y0.1 < nI ni.length) <|
gd ((y0.2.2.length + [((ByteArray.mk #[105]).append (strOfNums [IntKind.u8.wrap (65 + y0.1.tmod 64)]), (get Ar ni y0.1).2.1, ())].length) * 24 <= lim) <|
gd (y0.2.2.length + [((ByteArray.mk #[105]).append (strOfNums [IntKind.u8.wrap (65 + y0.1.tmod 64)]), (get Ar ni y0.1).2.1, ())].length <= lim) <|
gd (inK .i64 (y0.1 + 1)) <|
some (Sum.inl (y0.1 + 1, (y0.2.1.1, y0.2.1.2.1, y0.2.1.2.2), y0.2.2 ++ [((ByteArray.mk #[105]).append (strOfNums [IntKind.u8.wrap (65 + y0.1.tmod 64)]), (get Ar ni y0.1).2.1, ())]))
else
AQ (X := Int × (LN × LQ × LP) × LC) (fun y1 =>
bif decide (y1.1 < nI nc.length) then
gd (0 <= y1.1) <|
gd (y1.1 < nI nc.length) <|
gd (inK .i64 (65 + y1.1.tmod 64)) <|
gd ((y1.2.2.length + [((ByteArray.mk #[99]).append (strOfNums [IntKind.u8.wrap (65 + y1.1.tmod 64)]), (get AX nc y1.1).2.1, (get AX nc y1.1).2.2.1, (get AX nc y1.1).2.2.2.1, ())].length) * 40 <= lim) <|
gd (y1.2.2.length + [((ByteArray.mk #[99]).append (strOfNums [IntKind.u8.wrap (65 + y1.1.tmod 64)]), (get AX nc y1.1).2.1, (get AX nc y1.1).2.2.1, (get AX nc y1.1).2.2.2.1, ())].length <= lim) <|
gd (inK .i64 (y1.1 + 1)) <|
some (Sum.inl (y1.1 + 1, (y1.2.1.1, y1.2.1.2.1, y1.2.1.2.2), y1.2.2 ++ [((ByteArray.mk #[99]).append (strOfNums [IntKind.u8.wrap (65 + y1.1.tmod 64)]), (get AX nc y1.1).2.1, (get AX nc y1.1).2.2.1, (get AX nc y1.1).2.2.2.1, ())]))
else
AQ (X := Int × (LN × LP) × LQ) (fun y2 =>
bif decide (y2.1 < nI np.length) then
gd (0 <= y2.1) <|
gd (y2.1 < nI np.length) <|
gd (inK .i64 (65 + y2.1.tmod 64)) <|
gd ((y2.2.2.length + [((get Ax np y2.1).1, (ByteArray.mk #[112]).append (strOfNums [IntKind.u8.wrap (65 + y2.1.tmod 64)]), (get Ax np y2.1).2.2.1, ())].length) * 32 <= lim) <|
gd (y2.2.2.length + [((get Ax np y2.1).1, (ByteArray.mk #[112]).append (strOfNums [IntKind.u8.wrap (65 + y2.1.tmod 64)]), (get Ax np y2.1).2.2.1, ())].length <= lim) <|
gd (inK .i64 (y2.1 + 1)) <|
some (Sum.inl (y2.1 + 1, (y2.2.1.1, y2.2.1.2), y2.2.2 ++ [((get Ax np y2.1).1, (ByteArray.mk #[112]).append (strOfNums [IntKind.u8.wrap (65 + y2.1.tmod 64)]), (get Ax np y2.1).2.2.1, ())]))
else
some (Sum.inr (Sum.inr (Sum.inr (((y2.2.1.1, y0.2.2, y1.2.2, y2.2.2, y2.2.1.2, ()), ()), (), ()))))) (nn) (0, (y1.2.1.1, y1.2.1.2.2), [])) (nn) (0, (y0.2.1.1, y0.2.1.2.1, y0.2.1.2.2), [])) (nn) (0, (nn_, np, nm), [])
def Ex (nn_ : LN) (ni : LP) (nc : LC) (np : LQ) (nm : LP) : Option (((LN × LP × LC × LQ × LP × Unit) × Unit) × Unit × Unit) := LH AK nn_ ni nc np nm
def Xf (nn : Nat)  (nn_ : LN) (ni : LP) (nc : LC) (np : LQ) (nm : LP) (gi : Int) (ga : L2) (ci : L3) (cl : LT) (co : L3) : Option ((Bool × Unit) × Unit × Unit) :=
AQ (X := Int × Int × Int) (fun y0 =>
bif decide (y0.2.2 < nI cl.length) then
gd (0 <= y0.2.2) <|
gd (y0.2.2 < nI cl.length) <|
bif decide ((get AU cl y0.2.2).2.2.2.2.1 < 0) then
some (Sum.inr ((false, ()), (), ()))
else
bif bif false then true else decide ((get AU cl y0.2.2).2.2.2.1 < y0.1) then
some (Sum.inr ((false, ()), (), ()))
else
bif (get AU cl y0.2.2).2.2.2.1 == y0.1 then
bif bif false then true else bif true then decide ((get AU cl y0.2.2).2.2.2.2.1 <= y0.2.1) else false then
some (Sum.inr ((false, ()), (), ()))
else
bif bif false then true else decide ((get AU cl y0.2.2).2.2.2.1 < 0) then
some (Sum.inr ((false, ()), (), ()))
else
bif bif false then true else decide ((get AU cl y0.2.2).2.2.2.1 >= nI nc.length) then
some (Sum.inr ((false, ()), (), ()))
else
gd (inK .i64 (y0.2.2 + 1)) <|
some (Sum.inl ((get AU cl y0.2.2).2.2.2.1, (get AU cl y0.2.2).2.2.2.2.1, y0.2.2 + 1))
else
bif bif false then true else decide ((get AU cl y0.2.2).2.2.2.1 < 0) then
some (Sum.inr ((false, ()), (), ()))
else
bif bif false then true else decide ((get AU cl y0.2.2).2.2.2.1 >= nI nc.length) then
some (Sum.inr ((false, ()), (), ()))
else
gd (inK .i64 (y0.2.2 + 1)) <|
some (Sum.inl ((get AU cl y0.2.2).2.2.2.1, (get AU cl y0.2.2).2.2.2.2.1, y0.2.2 + 1))
else
some (Sum.inr ((true, ()), (), ()))) (nn) (-1, 0, 0)
def VE (nn_ : LN) (ni : LP) (nc : LC) (np : LQ) (nm : LP) (gi : Int) (ga : L2) (ci : L3) (cl : LT) (co : L3) : Option ((Bool × Unit) × Unit × Unit) := Xf AK nn_ ni nc np nm gi ga ci cl co
end AL
end
section
namespace AL
open Go
def AJr (x : Int) : Option ((Int × Unit) × Unit × Unit) :=
gd (inK .i64 (0 - x)) <|
some ((max2 (max2 x (0 - x)) 0, ()), (), ())
def AAF (nn : Nat)  (l : LLI) (vars : Int) : Option ((Bool × Unit) × Unit × Unit) :=
bif decide (vars < 0) then
some ((false, ()), (), ())
else
bif bif false then true else decide (vars > 1048576) then
some ((false, ()), (), ())
else
AQ (X := Int) (fun y0 =>
bif decide (y0 < nI l.length) then
gd (0 <= y0) <|
gd (y0 < nI l.length) <|
AQ (X := Int) (fun y1 =>
bif decide (y1 < nI (List.length (Ao l y0))) then
gd (0 <= y1) <|
gd (y1 < nI (List.length (Ao l y0))) <|
AD (AJr (AE (Ao l y0) y1)) fun y2 =>
bif y2.1.1 == 0 then
some (Sum.inr (Sum.inr ((false, ()), (), ())))
else
bif bif false then true else decide (y2.1.1 > vars) then
some (Sum.inr (Sum.inr ((false, ()), (), ())))
else
gd (inK .i64 (y1 + 1)) <|
some (Sum.inl (y1 + 1))
else
gd (inK .i64 (y0 + 1)) <|
some (Sum.inr (Sum.inl (y0 + 1)))) (nn) 0
else
some (Sum.inr ((true, ()), (), ()))) (nn) 0
def I9 (l : LLI) (vars : Int) : Option ((Bool × Unit) × Unit × Unit) := AAF AK l vars
def AD9 (nn : Nat)  (c : LI) (taken : List (Int × Bool)) (ch : Int) (v : Int) : Option ((Bool × Unit) × ((List (Int × Bool) × (Int × Int) × Unit) × Unit) × Unit) :=
AQ (X := Int × Int) (fun y0 =>
bif decide (y0.2 < nI c.length) then
gd (0 <= y0.2) <|
gd (y0.2 < nI c.length) <|
bif Ad Ty.bool.Bl taken (AE c y0.2) then
some (Sum.inr ((true, ()), ((taken, (ch, v), ()), ()), ()))
else
gd (inK .i64 (0 - AE c y0.2)) <|
bif !Ad Ty.bool.Bl taken (0 - AE c y0.2) then
bif bif true then y0.1 != 0 else false then
bif bif true then y0.1 != AE c y0.2 else false then
some (Sum.inr ((true, ()), ((taken, (ch, v), ()), ()), ()))
else
gd (inK .i64 (0 - AE c y0.2)) <|
bif !Ad Ty.bool.Bl taken (0 - AE c y0.2) then
gd (inK .i64 (y0.2 + 1)) <|
some (Sum.inl (AE c y0.2, y0.2 + 1))
else
gd (inK .i64 (y0.2 + 1)) <|
some (Sum.inl (y0.1, y0.2 + 1))
else
gd (inK .i64 (0 - AE c y0.2)) <|
bif !Ad Ty.bool.Bl taken (0 - AE c y0.2) then
gd (inK .i64 (y0.2 + 1)) <|
some (Sum.inl (AE c y0.2, y0.2 + 1))
else
gd (inK .i64 (y0.2 + 1)) <|
some (Sum.inl (y0.1, y0.2 + 1))
else
gd (inK .i64 (0 - AE c y0.2)) <|
bif !Ad Ty.bool.Bl taken (0 - AE c y0.2) then
gd (inK .i64 (y0.2 + 1)) <|
some (Sum.inl (AE c y0.2, y0.2 + 1))
else
gd (inK .i64 (y0.2 + 1)) <|
some (Sum.inl (y0.1, y0.2 + 1))
else
bif y0.1 != 0 then
AD (Qn taken ch v y0.1) fun y1 =>
some (Sum.inr ((bif true then y1.1 else false, ()), ((y1.2.1, (ch, y1.2.2), ()), ()), ()))
else
some (Sum.inr ((false, ()), ((taken, (ch, v), ()), ()), ()))) (nn) (0, 0)
def VF (c : LI) (taken : List (Int × Bool)) (ch : Int) (v : Int) : Option ((Bool × Unit) × ((List (Int × Bool) × (Int × Int) × Unit) × Unit) × Unit) := AD9 AK c taken ch v
end AL
end
section
namespace AL
open Go
def AEA (nn : Nat) (vpRight : LLI -> Int -> Option ((Bool × Unit) × Unit × Unit)) (vplook : LI -> List (Int × Bool) -> Int -> Int -> Option ((Bool × Unit) × ((List (Int × Bool) × (Int × Int) × Unit) × Unit) × Unit)) (l : LLI) (vars : Int) (known : LI) : Option ((LI × Bool × Unit) × Unit × Unit) :=
AD (vpRight l vars) fun y0 =>
bif !y0.1.1 then
some (([], false, ()), (), ())
else
AD (vpRight [known] vars) fun y1 =>
bif bif false then true else !y1.1.1 then
some (([], false, ()), (), ())
else
AQ (X := Int × Int) (fun y2 =>
bif decide (y2.2 < nI l.length) then
gd (0 <= y2.2) <|
gd (y2.2 < nI l.length) <|
some (Sum.inl (IntKind.i64.wrap (y2.1 + nI (List.length (Ao l y2.2))), IntKind.i64.wrap (y2.2 + 1)))
else
gd (0 <= y2.1) <|
gd (y2.1 <= IntKind.i64.max) <|
gd (nI 8 * y2.1 <= 2 ^ 48 - 112) <|
AQ (X := Int × Int) (fun y3 =>
bif decide (y3.1 < nI l.length) then
gd (0 <= y3.1) <|
gd (y3.1 < nI l.length) <|
AQ (X := Int × Int) (fun y4 =>
bif decide (y4.1 < nI (List.length (Ao l y3.1))) then
gd (0 <= y4.1) <|
gd (y4.1 < nI (List.length (Ao l y3.1))) <|
gd (0 <= y4.2) <|
gd ((y4.2 + 1) * 8 <= nI lim) <|
some (Sum.inl (IntKind.i64.wrap (y4.1 + 1), y4.2 + 1))
else
some (Sum.inr (Sum.inl (IntKind.i64.wrap (y3.1 + 1), y4.2)))) (nn) (0, y3.2)
else
AQ (X := Int × List (Int × Bool) × Int × Int) (fun y4 =>
bif decide (y4.1 < nI known.length) then
gd (0 <= y4.1) <|
gd (y4.1 < nI known.length) <|
AD (Qn y4.2.1 y4.2.2.1 y4.2.2.2 (AE known y4.1)) fun y5 =>
bif !y5.1 then
some (Sum.inr (Sum.inr (Sum.inr (([], false, ()), (), ()))))
else
some (Sum.inl (IntKind.i64.wrap (y4.1 + 1), y5.2.1, y4.2.2.1, y5.2.2))
else
AQ (X := Int × LLI × List (Int × Bool) × Int × Int) (fun y5 =>
bif decide (y5.1 < nI l.length) then
gd (0 <= y5.1) <|
gd (y5.1 < nI l.length) <|
AD (vplook (Ao l y5.1) y5.2.2.1 y5.2.2.2.1 y5.2.2.2.2) fun y6 =>
bif !y6.1.1 then
some (Sum.inr (Sum.inr (Sum.inr (Sum.inr (([], false, ()), (), ())))))
else
some (Sum.inl (IntKind.i64.wrap (y5.1 + 1), y5.2.1, y6.2.1.1.1, y6.2.1.1.2.1.1, y6.2.1.1.2.1.2))
else
none ) (nn) (0, l, y4.2.1, y4.2.2.1, y4.2.2.2)) (nn) (0, [], y2.1, 0)) (nn) (0, 0)) (nn) (IntKind.i64.wrap (nI known.length + 1), 0)
def AI4 (l : LLI) (vars : Int) (known : LI) : Option ((LI × Bool × Unit) × Unit × Unit) := AEA AK I9 VF l vars known
def SL (nn : Nat)  (l : LLI) (proof : LLI) : Option (Unit × ((LLI × Unit) × (LLI × Unit) × Unit) × Unit) :=
gd ((0 + l.length) * 24 <= lim) <|
gd (0 + l.length <= lim) <|
AQ (X := Unit) (fun y0 =>
bif decide (0 < nI proof.length) then
gd (0 < nI proof.length) <|
none     else
some (Sum.inr ((), ((l, ()), (proof, ()), ()), ()))) (nn) ()
def Ck (l : LLI) (proof : LLI) : Option (Unit × ((LLI × Unit) × (LLI × Unit) × Unit) × Unit) := SL AK l proof
def grown (l : LLI) (proof : LLI) : Option ((Unit × Unit) × Unit × (LLI × Unit) × (LLI × Unit) × Unit) :=
some (((), ()), (), (l, ()), (proof, ()), ())
def Bj (known : LI) (l : LLI) (vars : Int) : Option ((Bool × Unit) × ((LLI × Unit) × (Int × Unit) × Unit) × Unit) :=
AD (I9 l vars) fun y0 =>
bif !y0.1.1 then
some ((false, ()), ((l, ()), (vars, ()), ()), ())
else
AD (I9 [known] vars) fun y1 =>
bif bif false then true else !y1.1.1 then
some ((false, ()), ((l, ()), (vars, ()), ()), ())
else
AD (AI4 l vars known) fun y2 =>
some ((!y2.1.2.1, ()), ((l, ()), (vars, ()), ()), ())
def M0 (l : LLI) (vars : Int) : Option ((Unit × Unit) × Unit × (LLI × Unit) × (Int × Unit) × Unit) :=
some (((), ()), (), (l, ()), (vars, ()), ())
end AL
end
section
namespace AL
open Go
def mask (w : Int) : Option ((Int × Unit) × Unit × Unit) :=
gd (0 <= w) <|
gd (inK .i64 (IntKind.i64.wrap (1 * 2 ^ min w.toNat 64) - 1)) <|
some ((IntKind.i64.wrap (1 * 2 ^ min w.toNat 64) - 1, ()), (), ())
def OH (nn_ : LN) (ni : LP) (nc : LC) (np : LQ) (nm : LP) : Option ((Bool × Unit) × Unit × Unit) :=
bif decide (nI nn_.length > 300) then
some ((true, ()), (), ())
else
bif bif false then true else decide (nI ni.length > 100) then
some ((true, ()), (), ())
else
bif bif false then true else decide (nI nc.length > 300) then
some ((true, ()), (), ())
else
bif bif false then true else decide (nI np.length > 40) then
some ((true, ()), (), ())
else
some ((bif false then true else decide (nI nm.length > 300), ()), (), ())
def Jy (nn_ : LN) (ni : LP) (nc : LC) (np : LQ) (nm : LP) (pos : Int) (lim_ : Int) : Option ((Int × Unit) × Unit × Unit) :=
bif decide (pos < 0) then
some ((0, ()), (), ())
else
bif bif false then true else decide (pos >= lim_) then
some ((0, ()), (), ())
else
gd (0 <= pos) <|
gd (pos < nI nn_.length) <|
some (((get AB nn_ pos).2.1, ()), (), ())
def operands (op : Int) : Option ((Int × Unit) × Unit × Unit) :=
bif op == 1 then
some ((0, ()), (), ())
else
bif op == 21 then
some ((0, ()), (), ())
else
bif op == 22 then
some ((0, ()), (), ())
else
bif op == 3 then
some ((1, ()), (), ())
else
bif op == 4 then
some ((1, ()), (), ())
else
bif op == 5 then
some ((1, ()), (), ())
else
bif op == 18 then
some ((1, ()), (), ())
else
bif op == 6 then
some ((2, ()), (), ())
else
bif op == 7 then
some ((2, ()), (), ())
else
bif op == 8 then
some ((2, ()), (), ())
else
bif op == 9 then
some ((2, ()), (), ())
else
bif op == 10 then
some ((2, ()), (), ())
else
bif op == 11 then
some ((2, ()), (), ())
else
bif op == 12 then
some ((2, ()), (), ())
else
bif op == 13 then
some ((2, ()), (), ())
else
bif op == 14 then
some ((2, ()), (), ())
else
bif op == 15 then
some ((2, ()), (), ())
else
bif op == 17 then
some ((2, ()), (), ())
else
bif op == 16 then
some ((3, ()), (), ())
else
some ((-1, ()), (), ())
def Fl (nn_ : LN) (ni : LP) (nc : LC) (np : LQ) (nm : LP) (i : Int) : Option ((Bool × Unit) × Unit × Unit) :=
gd (0 <= i) <|
gd (i < nI nn_.length) <|
AD (Jy nn_ ni nc np nm (get AB nn_ i).2.2.1 i) fun y0 =>
AD (Jy nn_ ni nc np nm (get AB nn_ i).2.2.2.1 i) fun y1 =>
AD (Jy nn_ ni nc np nm (get AB nn_ i).2.2.2.2.1 i) fun y2 =>
bif (get AB nn_ i).2.2.2.2.2.1 == 0 then
bif (get AB nn_ i).1 == 1 then
bif decide ((get AB nn_ i).2.2.2.2.2.1 >= 0) then
AD (mask (get AB nn_ i).2.1) fun y3 =>
bif bif true then decide ((get AB nn_ i).2.2.2.2.2.1 <= y3.1.1) else false then
some ((bif true then (get AB nn_ i).2.2.2.2.2.2.1 == 0 else false, ()), (), ())
else
some ((false, ()), (), ())
else
some ((false, ()), (), ())
else
bif (get AB nn_ i).1 == 21 then
some ((bif true then (get AB nn_ i).2.2.2.2.2.2.1 == 0 else false, ()), (), ())
else
bif (get AB nn_ i).1 == 22 then
some ((bif true then (get AB nn_ i).2.2.2.2.2.2.1 == 0 else false, ()), (), ())
else
bif (get AB nn_ i).1 == 3 then
bif bif true then (get AB nn_ i).2.2.2.2.2.2.1 == 0 else false then
some ((bif true then y0.1.1 == (get AB nn_ i).2.1 else false, ()), (), ())
else
some ((false, ()), (), ())
else
bif (get AB nn_ i).1 == 4 then
bif (get AB nn_ i).2.2.2.2.2.1 == 0 then
bif bif true then (get AB nn_ i).2.1 == 1 else false then
bif bif true then y0.1.1 == (get AB nn_ i).2.2.2.2.2.2.1 else false then
some ((bif true then decide (y0.1.1 > 0) else false, ()), (), ())
else
some ((false, ()), (), ())
else
some ((false, ()), (), ())
else
some ((false, ()), (), ())
else
bif (get AB nn_ i).1 == 5 then
bif (get AB nn_ i).2.2.2.2.2.1 == 0 then
bif bif true then (get AB nn_ i).2.1 == 1 else false then
bif bif true then y0.1.1 == (get AB nn_ i).2.2.2.2.2.2.1 else false then
some ((bif true then decide (y0.1.1 > 0) else false, ()), (), ())
else
some ((false, ()), (), ())
else
some ((false, ()), (), ())
else
some ((false, ()), (), ())
else
bif (get AB nn_ i).1 == 6 then
bif bif true then (get AB nn_ i).2.2.2.2.2.2.1 == 0 else false then
bif bif true then y0.1.1 == (get AB nn_ i).2.1 else false then
some ((bif true then y1.1.1 == (get AB nn_ i).2.1 else false, ()), (), ())
else
some ((false, ()), (), ())
else
some ((false, ()), (), ())
else
bif (get AB nn_ i).1 == 7 then
bif bif true then (get AB nn_ i).2.2.2.2.2.2.1 == 0 else false then
bif bif true then y0.1.1 == (get AB nn_ i).2.1 else false then
some ((bif true then y1.1.1 == (get AB nn_ i).2.1 else false, ()), (), ())
else
some ((false, ()), (), ())
else
some ((false, ()), (), ())
else
bif (get AB nn_ i).1 == 8 then
bif bif true then (get AB nn_ i).2.2.2.2.2.2.1 == 0 else false then
bif bif true then y0.1.1 == (get AB nn_ i).2.1 else false then
some ((bif true then y1.1.1 == (get AB nn_ i).2.1 else false, ()), (), ())
else
some ((false, ()), (), ())
else
some ((false, ()), (), ())
else
bif (get AB nn_ i).1 == 9 then
bif bif true then (get AB nn_ i).2.2.2.2.2.2.1 == 0 else false then
bif bif true then y0.1.1 == (get AB nn_ i).2.1 else false then
some ((bif true then y1.1.1 == (get AB nn_ i).2.1 else false, ()), (), ())
else
some ((false, ()), (), ())
else
some ((false, ()), (), ())
else
bif (get AB nn_ i).1 == 10 then
bif bif true then (get AB nn_ i).2.2.2.2.2.2.1 == 0 else false then
bif bif true then y0.1.1 == (get AB nn_ i).2.1 else false then
some ((bif true then y1.1.1 == (get AB nn_ i).2.1 else false, ()), (), ())
else
some ((false, ()), (), ())
else
some ((false, ()), (), ())
else
bif (get AB nn_ i).1 == 11 then
bif bif true then (get AB nn_ i).2.2.2.2.2.2.1 == 0 else false then
bif bif true then y0.1.1 == (get AB nn_ i).2.1 else false then
some ((bif true then y1.1.1 == (get AB nn_ i).2.1 else false, ()), (), ())
else
some ((false, ()), (), ())
else
some ((false, ()), (), ())
else
bif (get AB nn_ i).1 == 12 then
bif (get AB nn_ i).2.2.2.2.2.1 == 0 then
bif bif true then (get AB nn_ i).2.1 == 1 else false then
bif bif true then y0.1.1 == (get AB nn_ i).2.2.2.2.2.2.1 else false then
bif bif true then y1.1.1 == (get AB nn_ i).2.2.2.2.2.2.1 else false then
some ((bif true then decide (y0.1.1 > 0) else false, ()), (), ())
else
some ((false, ()), (), ())
else
some ((false, ()), (), ())
else
some ((false, ()), (), ())
else
some ((false, ()), (), ())
else
bif (get AB nn_ i).1 == 13 then
bif (get AB nn_ i).2.2.2.2.2.1 == 0 then
bif bif true then (get AB nn_ i).2.1 == 1 else false then
bif bif true then y0.1.1 == (get AB nn_ i).2.2.2.2.2.2.1 else false then
bif bif true then y1.1.1 == (get AB nn_ i).2.2.2.2.2.2.1 else false then
some ((bif true then decide (y0.1.1 > 0) else false, ()), (), ())
else
some ((false, ()), (), ())
else
some ((false, ()), (), ())
else
some ((false, ()), (), ())
else
some ((false, ()), (), ())
else
bif (get AB nn_ i).1 == 14 then
bif (get AB nn_ i).2.2.2.2.2.1 == 0 then
bif bif true then (get AB nn_ i).2.1 == 1 else false then
bif bif true then y0.1.1 == (get AB nn_ i).2.2.2.2.2.2.1 else false then
bif bif true then y1.1.1 == (get AB nn_ i).2.2.2.2.2.2.1 else false then
some ((bif true then decide (y0.1.1 > 0) else false, ()), (), ())
else
some ((false, ()), (), ())
else
some ((false, ()), (), ())
else
some ((false, ()), (), ())
else
some ((false, ()), (), ())
else
bif (get AB nn_ i).1 == 15 then
bif (get AB nn_ i).2.2.2.2.2.1 == 0 then
bif bif true then (get AB nn_ i).2.1 == 1 else false then
bif bif true then y0.1.1 == (get AB nn_ i).2.2.2.2.2.2.1 else false then
bif bif true then y1.1.1 == (get AB nn_ i).2.2.2.2.2.2.1 else false then
some ((bif true then decide (y0.1.1 > 0) else false, ()), (), ())
else
some ((false, ()), (), ())
else
some ((false, ()), (), ())
else
some ((false, ()), (), ())
else
some ((false, ()), (), ())
else
bif (get AB nn_ i).1 == 16 then
bif bif true then (get AB nn_ i).2.2.2.2.2.2.1 == 0 else false then
bif bif true then y0.1.1 == 1 else false then
bif bif true then y1.1.1 == (get AB nn_ i).2.1 else false then
some ((bif true then y2.1.1 == (get AB nn_ i).2.1 else false, ()), (), ())
else
some ((false, ()), (), ())
else
some ((false, ()), (), ())
else
some ((false, ()), (), ())
else
bif (get AB nn_ i).1 == 17 then
bif bif true then (get AB nn_ i).2.2.2.2.2.2.1 == 0 else false then
bif bif true then decide (y0.1.1 > 0) else false then
bif bif true then decide (y1.1.1 > 0) else false then
gd (inK .i64 (y0.1.1 + y1.1.1)) <|
some ((bif true then y0.1.1 + y1.1.1 == (get AB nn_ i).2.1 else false, ()), (), ())
else
some ((false, ()), (), ())
else
some ((false, ()), (), ())
else
some ((false, ()), (), ())
else
bif decide ((get AB nn_ i).2.2.2.2.2.2.1 >= 0) then
bif bif true then decide ((get AB nn_ i).2.2.2.2.2.2.1 <= (get AB nn_ i).2.2.2.2.2.1) else false then
bif bif true then decide ((get AB nn_ i).2.2.2.2.2.1 < y0.1.1) else false then
gd (inK .i64 ((get AB nn_ i).2.2.2.2.2.1 - (get AB nn_ i).2.2.2.2.2.2.1)) <|
gd (inK .i64 ((get AB nn_ i).2.2.2.2.2.1 - (get AB nn_ i).2.2.2.2.2.2.1 + 1)) <|
some ((bif true then (get AB nn_ i).2.1 == (get AB nn_ i).2.2.2.2.2.1 - (get AB nn_ i).2.2.2.2.2.2.1 + 1 else false, ()), (), ())
else
some ((false, ()), (), ())
else
some ((false, ()), (), ())
else
some ((false, ()), (), ())
else
bif (get AB nn_ i).1 == 1 then
bif decide ((get AB nn_ i).2.2.2.2.2.1 >= 0) then
AD (mask (get AB nn_ i).2.1) fun y3 =>
bif bif true then decide ((get AB nn_ i).2.2.2.2.2.1 <= y3.1.1) else false then
some ((bif true then (get AB nn_ i).2.2.2.2.2.2.1 == 0 else false, ()), (), ())
else
some ((false, ()), (), ())
else
some ((false, ()), (), ())
else
bif (get AB nn_ i).1 == 21 then
some ((false, ()), (), ())
else
bif (get AB nn_ i).1 == 22 then
some ((false, ()), (), ())
else
bif (get AB nn_ i).1 == 3 then
some ((false, ()), (), ())
else
bif (get AB nn_ i).1 == 4 then
bif (get AB nn_ i).2.2.2.2.2.1 == 0 then
bif bif true then (get AB nn_ i).2.1 == 1 else false then
bif bif true then y0.1.1 == (get AB nn_ i).2.2.2.2.2.2.1 else false then
some ((bif true then decide (y0.1.1 > 0) else false, ()), (), ())
else
some ((false, ()), (), ())
else
some ((false, ()), (), ())
else
some ((false, ()), (), ())
else
bif (get AB nn_ i).1 == 5 then
bif (get AB nn_ i).2.2.2.2.2.1 == 0 then
bif bif true then (get AB nn_ i).2.1 == 1 else false then
bif bif true then y0.1.1 == (get AB nn_ i).2.2.2.2.2.2.1 else false then
some ((bif true then decide (y0.1.1 > 0) else false, ()), (), ())
else
some ((false, ()), (), ())
else
some ((false, ()), (), ())
else
some ((false, ()), (), ())
else
bif (get AB nn_ i).1 == 6 then
some ((false, ()), (), ())
else
bif (get AB nn_ i).1 == 7 then
some ((false, ()), (), ())
else
bif (get AB nn_ i).1 == 8 then
some ((false, ()), (), ())
else
bif (get AB nn_ i).1 == 9 then
some ((false, ()), (), ())
else
bif (get AB nn_ i).1 == 10 then
some ((false, ()), (), ())
else
bif (get AB nn_ i).1 == 11 then
some ((false, ()), (), ())
else
bif (get AB nn_ i).1 == 12 then
bif (get AB nn_ i).2.2.2.2.2.1 == 0 then
bif bif true then (get AB nn_ i).2.1 == 1 else false then
bif bif true then y0.1.1 == (get AB nn_ i).2.2.2.2.2.2.1 else false then
bif bif true then y1.1.1 == (get AB nn_ i).2.2.2.2.2.2.1 else false then
some ((bif true then decide (y0.1.1 > 0) else false, ()), (), ())
else
some ((false, ()), (), ())
else
some ((false, ()), (), ())
else
some ((false, ()), (), ())
else
some ((false, ()), (), ())
else
bif (get AB nn_ i).1 == 13 then
bif (get AB nn_ i).2.2.2.2.2.1 == 0 then
bif bif true then (get AB nn_ i).2.1 == 1 else false then
bif bif true then y0.1.1 == (get AB nn_ i).2.2.2.2.2.2.1 else false then
bif bif true then y1.1.1 == (get AB nn_ i).2.2.2.2.2.2.1 else false then
some ((bif true then decide (y0.1.1 > 0) else false, ()), (), ())
else
some ((false, ()), (), ())
else
some ((false, ()), (), ())
else
some ((false, ()), (), ())
else
some ((false, ()), (), ())
else
bif (get AB nn_ i).1 == 14 then
bif (get AB nn_ i).2.2.2.2.2.1 == 0 then
bif bif true then (get AB nn_ i).2.1 == 1 else false then
bif bif true then y0.1.1 == (get AB nn_ i).2.2.2.2.2.2.1 else false then
bif bif true then y1.1.1 == (get AB nn_ i).2.2.2.2.2.2.1 else false then
some ((bif true then decide (y0.1.1 > 0) else false, ()), (), ())
else
some ((false, ()), (), ())
else
some ((false, ()), (), ())
else
some ((false, ()), (), ())
else
some ((false, ()), (), ())
else
bif (get AB nn_ i).1 == 15 then
bif (get AB nn_ i).2.2.2.2.2.1 == 0 then
bif bif true then (get AB nn_ i).2.1 == 1 else false then
bif bif true then y0.1.1 == (get AB nn_ i).2.2.2.2.2.2.1 else false then
bif bif true then y1.1.1 == (get AB nn_ i).2.2.2.2.2.2.1 else false then
some ((bif true then decide (y0.1.1 > 0) else false, ()), (), ())
else
some ((false, ()), (), ())
else
some ((false, ()), (), ())
else
some ((false, ()), (), ())
else
some ((false, ()), (), ())
else
bif (get AB nn_ i).1 == 16 then
some ((false, ()), (), ())
else
bif (get AB nn_ i).1 == 17 then
some ((false, ()), (), ())
else
bif decide ((get AB nn_ i).2.2.2.2.2.2.1 >= 0) then
bif bif true then decide ((get AB nn_ i).2.2.2.2.2.2.1 <= (get AB nn_ i).2.2.2.2.2.1) else false then
bif bif true then decide ((get AB nn_ i).2.2.2.2.2.1 < y0.1.1) else false then
gd (inK .i64 ((get AB nn_ i).2.2.2.2.2.1 - (get AB nn_ i).2.2.2.2.2.2.1)) <|
gd (inK .i64 ((get AB nn_ i).2.2.2.2.2.1 - (get AB nn_ i).2.2.2.2.2.2.1 + 1)) <|
some ((bif true then (get AB nn_ i).2.1 == (get AB nn_ i).2.2.2.2.2.1 - (get AB nn_ i).2.2.2.2.2.2.1 + 1 else false, ()), (), ())
else
some ((false, ()), (), ())
else
some ((false, ()), (), ())
else
some ((false, ()), (), ())
def VG (nn_ : LN) (ni : LP) (nc : LC) (np : LQ) (nm : LP) (i : Int) : Option ((Bool × Unit) × Unit × Unit) :=
gd (0 <= i) <|
gd (i < nI nn_.length) <|
AD (operands (get AB nn_ i).1) fun y0 =>
bif decide ((get AB nn_ i).2.1 < 1) then
some ((false, ()), (), ())
else
bif bif false then true else decide ((get AB nn_ i).2.1 > 16) then
some ((false, ()), (), ())
else
bif bif false then true else decide (y0.1.1 < 0) then
some ((false, ()), (), ())
else
bif decide (y0.1.1 < 1) then
bif bif false then true else bif true then (get AB nn_ i).2.2.1 != 0 else false then
some ((false, ()), (), ())
else
bif decide (y0.1.1 < 2) then
bif bif false then true else bif true then (get AB nn_ i).2.2.2.1 != 0 else false then
some ((false, ()), (), ())
else
bif decide (y0.1.1 < 3) then
bif bif false then true else bif true then (get AB nn_ i).2.2.2.2.1 != 0 else false then
some ((false, ()), (), ())
else
AD (Fl nn_ ni nc np nm i) fun y1 =>
some ((y1.1.1, ()), (), ())
else
AD (Fl nn_ ni nc np nm i) fun y1 =>
some ((y1.1.1, ()), (), ())
else
bif decide (y0.1.1 < 3) then
bif bif false then true else bif true then (get AB nn_ i).2.2.2.2.1 != 0 else false then
some ((false, ()), (), ())
else
AD (Fl nn_ ni nc np nm i) fun y1 =>
some ((y1.1.1, ()), (), ())
else
AD (Fl nn_ ni nc np nm i) fun y1 =>
some ((y1.1.1, ()), (), ())
else
bif decide (y0.1.1 < 2) then
bif bif false then true else bif true then (get AB nn_ i).2.2.2.1 != 0 else false then
some ((false, ()), (), ())
else
bif decide (y0.1.1 < 3) then
bif bif false then true else bif true then (get AB nn_ i).2.2.2.2.1 != 0 else false then
some ((false, ()), (), ())
else
AD (Fl nn_ ni nc np nm i) fun y1 =>
some ((y1.1.1, ()), (), ())
else
AD (Fl nn_ ni nc np nm i) fun y1 =>
some ((y1.1.1, ()), (), ())
else
bif decide (y0.1.1 < 3) then
bif bif false then true else bif true then (get AB nn_ i).2.2.2.2.1 != 0 else false then
some ((false, ()), (), ())
else
AD (Fl nn_ ni nc np nm i) fun y1 =>
some ((y1.1.1, ()), (), ())
else
AD (Fl nn_ ni nc np nm i) fun y1 =>
some ((y1.1.1, ()), (), ())
def JA (nn_ : LN) (ni : LP) (nc : LC) (np : LQ) (nm : LP) (pos : Int) : Option ((Int × Unit) × Unit × Unit) :=
AD (Jy nn_ ni nc np nm pos (nI nn_.length)) fun y0 =>
some ((y0.1.1, ()), (), ())
def Xg (nn : Nat)  (nn_ : LN) (ni : LP) (nc : LC) (np : LQ) (nm : LP) : Option ((Bool × Unit) × Unit × Unit) :=
AQ (X := Int × Int × Int) (fun y0 =>
bif decide (y0.2.2 < nI nn_.length) then
gd (0 <= y0.2.2) <|
gd (y0.2.2 < nI nn_.length) <|
bif (get AB nn_ y0.2.2).1 == 21 then
bif decide (y0.1 >= nI ni.length) then
some (Sum.inr ((false, ()), (), ()))
else
gd (0 <= y0.1) <|
gd (y0.1 < nI ni.length) <|
bif bif false then true else (get Ar ni y0.1).2.1 != y0.2.2 then
some (Sum.inr ((false, ()), (), ()))
else
gd (inK .i64 (y0.1 + 1)) <|
gd (0 <= y0.2.2) <|
gd (y0.2.2 < nI nn_.length) <|
bif (get AB nn_ y0.2.2).1 == 22 then
bif decide (y0.2.1 >= nI nc.length) then
some (Sum.inr ((false, ()), (), ()))
else
gd (0 <= y0.2.1) <|
gd (y0.2.1 < nI nc.length) <|
bif bif false then true else (get AX nc y0.2.1).2.1 != y0.2.2 then
some (Sum.inr ((false, ()), (), ()))
else
gd (inK .i64 (y0.2.1 + 1)) <|
gd (inK .i64 (y0.2.2 + 1)) <|
some (Sum.inl (y0.1 + 1, y0.2.1 + 1, y0.2.2 + 1))
else
gd (inK .i64 (y0.2.2 + 1)) <|
some (Sum.inl (y0.1 + 1, y0.2.1, y0.2.2 + 1))
else
gd (0 <= y0.2.2) <|
gd (y0.2.2 < nI nn_.length) <|
bif (get AB nn_ y0.2.2).1 == 22 then
bif decide (y0.2.1 >= nI nc.length) then
some (Sum.inr ((false, ()), (), ()))
else
gd (0 <= y0.2.1) <|
gd (y0.2.1 < nI nc.length) <|
bif bif false then true else (get AX nc y0.2.1).2.1 != y0.2.2 then
some (Sum.inr ((false, ()), (), ()))
else
gd (inK .i64 (y0.2.1 + 1)) <|
gd (inK .i64 (y0.2.2 + 1)) <|
some (Sum.inl (y0.1, y0.2.1 + 1, y0.2.2 + 1))
else
gd (inK .i64 (y0.2.2 + 1)) <|
some (Sum.inl (y0.1, y0.2.1, y0.2.2 + 1))
else
bif y0.1 == nI ni.length then
some (Sum.inr ((bif true then y0.2.1 == nI nc.length else false, ()), (), ()))
else
some (Sum.inr ((false, ()), (), ()))) (nn) (0, 0, 0)
def AAG (nn_ : LN) (ni : LP) (nc : LC) (np : LQ) (nm : LP) : Option ((Bool × Unit) × Unit × Unit) := Xg AK nn_ ni nc np nm
def SM (nn : Nat)  (nn_ : LN) (ni : LP) (nc : LC) (np : LQ) (nm : LP) : Option ((Bool × Unit) × Unit × Unit) :=
bif decide (nI nn_.length > 4000) then
some ((false, ()), (), ())
else
bif bif false then true else decide (nI ni.length > 64) then
some ((false, ()), (), ())
else
bif bif false then true else decide (nI nc.length > 256) then
some ((false, ()), (), ())
else
bif bif false then true else decide (nI np.length > 16) then
some ((false, ()), (), ())
else
AQ (X := Int) (fun y0 =>
bif decide (y0 < nI nn_.length) then
AD (VG nn_ ni nc np nm y0) fun y1 =>
bif !y1.1.1 then
some (Sum.inr ((false, ()), (), ()))
else
gd (inK .i64 (y0 + 1)) <|
some (Sum.inl (y0 + 1))
else
AD (AAG nn_ ni nc np nm) fun y1 =>
bif !y1.1.1 then
some (Sum.inr ((false, ()), (), ()))
else
AQ (X := Int × Int) (fun y2 =>
bif decide (y2.2 < nI nc.length) then
gd (0 <= y2.2) <|
gd (y2.2 < nI nc.length) <|
gd (0 <= (get AX nc y2.2).2.1) <|
gd ((get AX nc y2.2).2.1 < nI nn_.length) <|
gd (inK .i64 (y2.1 + (get AB nn_ (get AX nc y2.2).2.1).2.1)) <|
AD (JA nn_ ni nc np nm (get AX nc y2.2).2.2.1) fun y3 =>
bif y3.1.1 != (get AB nn_ (get AX nc y2.2).2.1).2.1 then
some (Sum.inr (Sum.inr ((false, ()), (), ())))
else
bif bif false then true else decide ((get AX nc y2.2).2.2.2.1 < 0) then
some (Sum.inr (Sum.inr ((false, ()), (), ())))
else
AD (mask (get AB nn_ (get AX nc y2.2).2.1).2.1) fun y4 =>
bif bif false then true else decide ((get AX nc y2.2).2.2.2.1 > y4.1.1) then
some (Sum.inr (Sum.inr ((false, ()), (), ())))
else
gd (inK .i64 (y2.2 + 1)) <|
some (Sum.inl (y2.1 + (get AB nn_ (get AX nc y2.2).2.1).2.1, y2.2 + 1))
else
AQ (X := Int) (fun y3 =>
bif decide (y3 < nI np.length) then
gd (0 <= y3) <|
gd (y3 < nI np.length) <|
bif decide ((get Ax np y3).1 < 8) then
some (Sum.inr (Sum.inr (Sum.inr ((false, ()), (), ()))))
else
bif bif false then true else decide ((get Ax np y3).1 > 10) then
some (Sum.inr (Sum.inr (Sum.inr ((false, ()), (), ()))))
else
AD (JA nn_ ni nc np nm (get Ax np y3).2.2.1) fun y4 =>
bif bif false then true else y4.1.1 != 1 then
some (Sum.inr (Sum.inr (Sum.inr ((false, ()), (), ()))))
else
gd (inK .i64 (y3 + 1)) <|
some (Sum.inl (y3 + 1))
else
AQ (X := Int) (fun y4 =>
bif decide (y4 < nI nm.length) then
gd (0 <= y4) <|
gd (y4 < nI nm.length) <|
AD (JA nn_ ni nc np nm (get Ar nm y4).2.1) fun y5 =>
bif y5.1.1 == 0 then
some (Sum.inr (Sum.inr (Sum.inr (Sum.inr ((false, ()), (), ())))))
else
gd (inK .i64 (y4 + 1)) <|
some (Sum.inl (y4 + 1))
else
some (Sum.inr (Sum.inr (Sum.inr (Sum.inr ((decide (y2.1 <= 256), ()), (), ())))))) (nn) 0) (nn) 0) (nn) (0, 0)) (nn) 0
def SN (nn_ : LN) (ni : LP) (nc : LC) (np : LQ) (nm : LP) : Option ((Bool × Unit) × Unit × Unit) := SM AK nn_ ni nc np nm
def Fm (xo : Int) (xw : Int) (xa : Int) (xb : Int) (xc : Int) (xn : Int) (xl : Int) : Option ((Int × Unit) × Unit × Unit) :=
bif xo == 1 then
some ((0, ()), (), ())
else
bif xo == 21 then
some ((0, ()), (), ())
else
bif xo == 22 then
some ((0, ()), (), ())
else
bif xo == 11 then
gd (inK .i64 (20 * xw)) <|
gd (inK .i64 (20 * xw * xw)) <|
some ((20 * xw * xw, ()), (), ())
else
bif xo == 4 then
gd (inK .i64 (20 * xl)) <|
some ((20 * xl, ()), (), ())
else
bif xo == 5 then
gd (inK .i64 (20 * xl)) <|
some ((20 * xl, ()), (), ())
else
bif xo == 12 then
gd (inK .i64 (20 * xl)) <|
some ((20 * xl, ()), (), ())
else
bif xo == 13 then
gd (inK .i64 (20 * xl)) <|
some ((20 * xl, ()), (), ())
else
bif xo == 14 then
gd (inK .i64 (20 * xl)) <|
some ((20 * xl, ()), (), ())
else
bif xo == 15 then
gd (inK .i64 (20 * xl)) <|
some ((20 * xl, ()), (), ())
else
gd (inK .i64 (20 * xw)) <|
some ((20 * xw, ()), (), ())
def LJ (nn : Nat)  (nn_ : LN) (ni : LP) (nc : LC) (np : LQ) (nm : LP) : Option ((Int × Unit) × Unit × Unit) :=
AQ (X := Int × Int) (fun y0 =>
bif decide (y0.2 < nI nn_.length) then
gd (0 <= y0.2) <|
gd (y0.2 < nI nn_.length) <|
AD (Fm (get AB nn_ y0.2).1 (get AB nn_ y0.2).2.1 (get AB nn_ y0.2).2.2.1 (get AB nn_ y0.2).2.2.2.1 (get AB nn_ y0.2).2.2.2.2.1 (get AB nn_ y0.2).2.2.2.2.2.1 (get AB nn_ y0.2).2.2.2.2.2.2.1) fun y1 =>
gd (inK .i64 (y0.1 + y1.1.1)) <|
gd (inK .i64 (y0.2 + 1)) <|
some (Sum.inl (y0.1 + y1.1.1, y0.2 + 1))
else
some (Sum.inr ((y0.1, ()), (), ()))) (nn) (0, 0)
def Jz (nn_ : LN) (ni : LP) (nc : LC) (np : LQ) (nm : LP) : Option ((Int × Unit) × Unit × Unit) := LJ AK nn_ ni nc np nm
def SO (nn : Nat)  (gi : Int) (ga : L2) (a : Int) (b : Int) (ahead : Int) : Option ((Int × Unit) × Unit × Unit) :=
AQ (X := Int) (fun y0 =>
bif decide (y0 < ahead) then
gd (0 <= y0) <|
gd (y0 < nI ga.length) <|
bif (get AR ga y0).1 == a then
gd (0 <= y0) <|
gd (y0 < nI ga.length) <|
bif bif true then (get AR ga y0).2.1 == b else false then
some (Sum.inr ((y0, ()), (), ()))
else
gd (inK .i64 (y0 + 1)) <|
some (Sum.inl (y0 + 1))
else
gd (inK .i64 (y0 + 1)) <|
some (Sum.inl (y0 + 1))
else
some (Sum.inr ((-1, ()), (), ()))) (nn) 0
def SP (gi : Int) (ga : L2) (a : Int) (b : Int) (ahead : Int) : Option ((Int × Unit) × Unit × Unit) := SO AK gi ga a b ahead
end AL
end
section
namespace AL
open Go
def OI (nn : Nat)  (gi : Int) (ga : L2) : Option ((Bool × Unit) × Unit × Unit) :=
bif decide (gi < 0) then
some ((false, ()), (), ())
else
bif bif false then true else decide (gi > 1048576) then
some ((false, ()), (), ())
else
bif bif false then true else decide (nI ga.length > 1048576) then
some ((false, ()), (), ())
else
gd (inK .i64 (gi + nI ga.length)) <|
bif bif false then true else decide (gi + nI ga.length > 1048576) then
some ((false, ()), (), ())
else
AQ (X := Int) (fun y0 =>
bif decide (y0 < nI ga.length) then
gd (0 <= y0) <|
gd (y0 < nI ga.length) <|
gd (0 <= y0) <|
gd (y0 < nI ga.length) <|
bif decide ((get AR ga y0).1 < 2) then
some (Sum.inr ((false, ()), (), ()))
else
bif bif false then true else decide ((get AR ga y0).2.1 <= (get AR ga y0).1) then
some (Sum.inr ((false, ()), (), ()))
else
gd (inK .i64 (gi + y0)) <|
bif bif false then true else decide (IntKind.i64.wrap (Int.tdiv (get AR ga y0).2.1 2) > gi + y0) then
some (Sum.inr ((false, ()), (), ()))
else
bif bif false then true else IntKind.i64.wrap (Int.tdiv (get AR ga y0).1 2) == IntKind.i64.wrap (Int.tdiv (get AR ga y0).2.1 2) then
some (Sum.inr ((false, ()), (), ()))
else
AD (SP gi ga (get AR ga y0).1 (get AR ga y0).2.1 y0) fun y1 =>
bif bif false then true else decide (y1.1.1 >= 0) then
some (Sum.inr ((false, ()), (), ()))
else
gd (inK .i64 (y0 + 1)) <|
some (Sum.inl (y0 + 1))
else
some (Sum.inr ((true, ()), (), ()))) (nn) 0
def M3 (gi : Int) (ga : L2) : Option ((Bool × Unit) × Unit × Unit) := OI AK gi ga
def Qv (a : Int) (b : Int) (c : Int) (d : Int) : Option ((Bool × Unit) × Unit × Unit) :=
bif decide (a < c) then
some ((true, ()), (), ())
else
bif a == c then
some ((bif false then true else bif true then decide (b < d) else false, ()), (), ())
else
some ((bif false then true else false, ()), (), ())
def literal (gi : Int) (ga : L2) (x : Int) : Option ((Bool × Unit) × Unit × Unit) :=
bif decide (x >= 0) then
gd (inK .i64 (gi + nI ga.length)) <|
some ((bif true then decide (IntKind.i64.wrap (x.tdiv 2) <= gi + nI ga.length) else false, ()), (), ())
else
some ((false, ()), (), ())
def OJ (nn : Nat)  (gi : Int) (ga : L2) (ci : L3) (cl : LT) (co : L3) : Option ((Bool × Unit) × Unit × Unit) :=
AD (M3 gi ga) fun y0 =>
bif !y0.1.1 then
some ((false, ()), (), ())
else
bif bif false then true else decide (nI cl.length > 256) then
some ((false, ()), (), ())
else
gd (inK .i64 (nI ci.length + nI cl.length)) <|
bif bif false then true else nI ci.length + nI cl.length != gi then
some ((false, ()), (), ())
else
AQ (X := Int) (fun y1 =>
bif decide (y1 < nI ci.length) then
gd (0 <= y1) <|
gd (y1 < nI ci.length) <|
gd (inK .i64 (y1 + 1)) <|
bif (get CL ci y1).1 != y1 + 1 then
some (Sum.inr ((false, ()), (), ()))
else
bif bif false then true else decide ((get CL ci y1).2.1 < 0) then
some (Sum.inr ((false, ()), (), ()))
else
bif bif false then true else decide ((get CL ci y1).2.2.1 < 0) then
some (Sum.inr ((false, ()), (), ()))
else
bif decide (y1 > 0) then
gd (inK .i64 (y1 - 1)) <|
gd (0 <= y1 - 1) <|
gd (y1 - 1 < nI ci.length) <|
gd (inK .i64 (y1 - 1)) <|
gd (0 <= y1 - 1) <|
gd (y1 - 1 < nI ci.length) <|
AD (Qv (get CL ci (y1 - 1)).2.1 (get CL ci (y1 - 1)).2.2.1 (get CL ci y1).2.1 (get CL ci y1).2.2.1) fun y2 =>
bif bif false then true else bif true then !y2.1.1 else false then
some (Sum.inr ((false, ()), (), ()))
else
gd (inK .i64 (y1 + 1)) <|
some (Sum.inl (y1 + 1))
else
gd (inK .i64 (y1 + 1)) <|
some (Sum.inl (y1 + 1))
else
AQ (X := Int) (fun y2 =>
bif decide (y2 < nI cl.length) then
gd (0 <= y2) <|
gd (y2 < nI cl.length) <|
gd (inK .i64 (nI ci.length + y2)) <|
gd (inK .i64 (nI ci.length + y2 + 1)) <|
bif (get AU cl y2).1 != nI ci.length + y2 + 1 then
some (Sum.inr (Sum.inr ((false, ()), (), ())))
else
bif bif false then true else decide ((get AU cl y2).2.2.2.1 < 0) then
some (Sum.inr (Sum.inr ((false, ()), (), ())))
else
bif bif false then true else decide ((get AU cl y2).2.2.2.2.1 < 0) then
some (Sum.inr (Sum.inr ((false, ()), (), ())))
else
AD (literal gi ga (get AU cl y2).2.1) fun y3 =>
bif bif false then true else !y3.1.1 then
some (Sum.inr (Sum.inr ((false, ()), (), ())))
else
bif decide (y2 > 0) then
gd (inK .i64 (y2 - 1)) <|
gd (0 <= y2 - 1) <|
gd (y2 - 1 < nI cl.length) <|
gd (inK .i64 (y2 - 1)) <|
gd (0 <= y2 - 1) <|
gd (y2 - 1 < nI cl.length) <|
AD (Qv (get AU cl (y2 - 1)).2.2.2.1 (get AU cl (y2 - 1)).2.2.2.2.1 (get AU cl y2).2.2.2.1 (get AU cl y2).2.2.2.2.1) fun y4 =>
bif bif false then true else bif true then !y4.1.1 else false then
some (Sum.inr (Sum.inr ((false, ()), (), ())))
else
gd (inK .i64 (y2 + 1)) <|
some (Sum.inl (y2 + 1))
else
gd (inK .i64 (y2 + 1)) <|
some (Sum.inl (y2 + 1))
else
AQ (X := Int) (fun y3 =>
bif decide (y3 < nI co.length) then
gd (0 <= y3) <|
gd (y3 < nI co.length) <|
bif decide ((get Et co y3).1 < 8) then
some (Sum.inr (Sum.inr (Sum.inr ((false, ()), (), ()))))
else
bif bif false then true else decide ((get Et co y3).1 > 10) then
some (Sum.inr (Sum.inr (Sum.inr ((false, ()), (), ()))))
else
bif bif false then true else decide ((get Et co y3).2.2.1 < 0) then
some (Sum.inr (Sum.inr (Sum.inr ((false, ()), (), ()))))
else
AD (literal gi ga (get Et co y3).2.1) fun y4 =>
bif bif false then true else !y4.1.1 then
some (Sum.inr (Sum.inr (Sum.inr ((false, ()), (), ()))))
else
gd (inK .i64 (y3 + 1)) <|
some (Sum.inl (y3 + 1))
else
some (Sum.inr (Sum.inr (Sum.inr ((true, ()), (), ()))))) (nn) 0) (nn) 0) (nn) 0
def Db (gi : Int) (ga : L2) (ci : L3) (cl : LT) (co : L3) : Option ((Bool × Unit) × Unit × Unit) := OJ AK gi ga ci cl co
end AL
end
section
namespace AL
open Go
def OK (nn : Nat)  (gi : Int) (ga : L2) (ci : L3) (cl : LT) (co : L3) : Option ((List Bool × Unit) × Unit × Unit) :=
gd (nI cl.length <= nI cl.length) <|
gd ((nI cl.length).toNat * 1 <= lim) <|
gd (nI cl.length <= nI lim) <|
AQ (X := Int × List Bool) (fun y0 =>
bif decide (y0.1 < nI cl.length) then
gd (0 <= y0.1) <|
gd (y0.1 < nI cl.length) <|
gd (0 <= y0.1) <|
gd (y0.1 < nI y0.2.length) <|
gd (inK .i64 (y0.1 + 1)) <|
some (Sum.inl (y0.1 + 1, y0.2.set y0.1.toNat (get AU cl y0.1).2.2.1))
else
some (Sum.inr ((y0.2, ()), (), ()))) (nn) (0, List.replicate (nI cl.length).toNat false)
def Qw (gi : Int) (ga : L2) (ci : L3) (cl : LT) (co : L3) : Option ((List Bool × Unit) × Unit × Unit) := OK AK gi ga ci cl co
end AL
end
section
namespace AL
open Go
def HO (l : LLI) (vars : Int) (proof : LLI) (assume : LI) : Option ((Bool × Unit) × Unit × Unit) :=
bif proof.isEmpty then
gd ((0 + l.length) * 24 <= lim) <|
gd (0 + l.length <= lim) <|
gd ((l.length + 0) * 24 <= lim) <|
gd (l.length + 0 <= lim) <|
AD (Bj assume (l ++ []) vars) fun y =>
some ((y.1.1, ()), (), ())
else none
def AEB (l : Int) (off : Int) : Option ((Int × Unit) × Unit × Unit) :=
gd (inK .i64 (off + 1)) <|
gd (inK .i64 (off + 1 + l.fdiv (2 ^ 1))) <|
gd (inK .i64 (2 * IntKind.i64.wrap (nI (BitVec.ofInt 64 l &&& BitVec.ofInt 64 1).toNat))) <|
gd (inK .i64 (1 - 2 * IntKind.i64.wrap (nI (BitVec.ofInt 64 l &&& BitVec.ofInt 64 1).toNat))) <|
gd (inK .i64 ((off + 1 + l.fdiv (2 ^ 1)) * (1 - 2 * IntKind.i64.wrap (nI (BitVec.ofInt 64 l &&& BitVec.ofInt 64 1).toNat)))) <|
some (((off + 1 + l.fdiv (2 ^ 1)) * (1 - 2 * IntKind.i64.wrap (nI (BitVec.ofInt 64 l &&& BitVec.ofInt 64 1).toNat)), ()), (), ())
def IS (l : Int) (off : Int) : Option ((Int × Unit) × Unit × Unit) :=
AD (AEB l off) fun y0 =>
some ((y0.1.1, ()), (), ())
def SQ (ins : Int) (ands : L2) : Option ((Int × Unit) × Unit × Unit) :=
gd (inK .i64 (1 + ins)) <|
gd (inK .i64 (1 + ins + nI ands.length)) <|
some ((1 + ins + nI ands.length, ()), (), ())
def Dp (l : LI) (c : LLI) : Option (Unit × ((LLI × Unit) × Unit) × Unit) :=
gd ((c.length + [l].length) * 24 <= lim) <|
gd (c.length + [l].length <= lim) <|
some ((), ((c ++ [l], ()), ()), ())
def MD (nn : Nat)  (ins : Int) (ands : L2) (off : Int) : Option ((LLI × Unit) × Unit × Unit) :=
AD (IS 0 off) fun y0 =>
gd (inK .i64 (0 - y0.1.1)) <|
AD (Dp [0 - y0.1.1] []) fun y1 =>
AQ (X := Int × LLI) (fun y2 =>
bif decide (y2.1 < nI ands.length) then
gd (0 <= y2.1) <|
gd (y2.1 < nI ands.length) <|
gd (inK .i64 (1 + ins)) <|
gd (inK .i64 (1 + ins + y2.1)) <|
gd (inK .i64 (2 * (1 + ins + y2.1))) <|
AD (IS (2 * (1 + ins + y2.1)) off) fun y3 =>
AD (IS (get AR ands y2.1).1 off) fun y4 =>
AD (IS (get AR ands y2.1).2.1 off) fun y5 =>
gd (inK .i64 (0 - y3.1.1)) <|
AD (Dp [0 - y3.1.1, y4.1.1] y2.2) fun y6 =>
gd (inK .i64 (0 - y3.1.1)) <|
AD (Dp [0 - y3.1.1, y5.1.1] y6.2.1.1.1) fun y7 =>
gd (inK .i64 (0 - y4.1.1)) <|
gd (inK .i64 (0 - y5.1.1)) <|
AD (Dp [y3.1.1, 0 - y4.1.1, 0 - y5.1.1] y7.2.1.1.1) fun y8 =>
gd (inK .i64 (y2.1 + 1)) <|
some (Sum.inl (y2.1 + 1, y8.2.1.1.1))
else
some (Sum.inr ((y2.2, ()), (), ()))) (nn) (0, y1.2.1.1.1)
def OL (ins : Int) (ands : L2) (off : Int) : Option ((LLI × Unit) × Unit × Unit) := MD AK ins ands off
def AAH (c : LI) (aall : LLI) (vars : Int) (all : LLI) (watch : LLI) (is : LI) (depth : LI) (why : LI) (old : LI) (cold : Int) (row : LI) (begin : LI) (done : Int) (empty : Bool) (answer : Int) (core : LI) (model : List Bool) : Option (Unit × ((LLI × Unit) × (Int × LLI × LLI × LI × LI × LI × LI × Int × LI × LI × Int × Bool × Int × LI × List Bool × Unit) × Unit) × Unit) :=
AD (Add c vars all watch is depth why old cold row begin done empty answer core model) fun y0 =>
gd ((aall.length + [c].length) * 24 <= lim) <|
gd (aall.length + [c].length <= lim) <|
some ((), ((aall ++ [c], ()), (y0.2.1.1.1, y0.2.1.1.2.1, y0.2.1.1.2.2.1, y0.2.1.1.2.2.2.1, y0.2.1.1.2.2.2.2.1, y0.2.1.1.2.2.2.2.2.1, y0.2.1.1.2.2.2.2.2.2.1, y0.2.1.1.2.2.2.2.2.2.2.1, y0.2.1.1.2.2.2.2.2.2.2.2.1, y0.2.1.1.2.2.2.2.2.2.2.2.2.1, y0.2.1.1.2.2.2.2.2.2.2.2.2.2.1, y0.2.1.1.2.2.2.2.2.2.2.2.2.2.2.1, y0.2.1.1.2.2.2.2.2.2.2.2.2.2.2.2.1, y0.2.1.1.2.2.2.2.2.2.2.2.2.2.2.2.2.1, y0.2.1.1.2.2.2.2.2.2.2.2.2.2.2.2.2.2.1, ()), ()), ())
def Qx (nn : Nat)  (vars : Int) (clauses : LLI) : Option (Unit × Unit × (Int × LLI × Unit) × (Int × LLI × LLI × LI × LI × LI × LI × LI × LI × Int × LI × LI × Int × Bool × LLI × Int × LI × List Bool × Unit) × Unit) :=
AD (New vars) fun y0 =>
AQ (X := Int × Int × (Int × Int × Int × Bool × Int) × LLI × LLI × LI × LI × LI × LI × LI × LI × LI × List Bool × LLI) (fun y1 =>
bif decide (y1.1 < nI clauses.length) then
gd (0 <= y1.1) <|
gd (y1.1 < nI clauses.length) <|
AD (AAH (Ao clauses y1.1) y1.2.2.2.2.2.2.2.2.2.2.2.2.2 y1.2.2.1.1 y1.2.2.2.1 y1.2.2.2.2.1 y1.2.2.2.2.2.1 y1.2.2.2.2.2.2.1 y1.2.2.2.2.2.2.2.1 y1.2.2.2.2.2.2.2.2.1 y1.2.2.1.2.1 y1.2.2.2.2.2.2.2.2.2.1 y1.2.2.2.2.2.2.2.2.2.2.1 y1.2.2.1.2.2.1 y1.2.2.1.2.2.2.1 y1.2.2.1.2.2.2.2 y1.2.2.2.2.2.2.2.2.2.2.2.1 y1.2.2.2.2.2.2.2.2.2.2.2.2.1) fun y2 =>
gd (inK .i64 (y1.1 + 1)) <|
some (Sum.inl (y1.1 + 1, y1.2.1, (y2.2.1.2.1.1, y2.2.1.2.1.2.2.2.2.2.2.2.1, y2.2.1.2.1.2.2.2.2.2.2.2.2.2.2.1, y2.2.1.2.1.2.2.2.2.2.2.2.2.2.2.2.1, y2.2.1.2.1.2.2.2.2.2.2.2.2.2.2.2.2.1), y2.2.1.2.1.2.1, y2.2.1.2.1.2.2.1, y2.2.1.2.1.2.2.2.1, y2.2.1.2.1.2.2.2.2.1, y2.2.1.2.1.2.2.2.2.2.1, y2.2.1.2.1.2.2.2.2.2.2.1, y2.2.1.2.1.2.2.2.2.2.2.2.2.1, y2.2.1.2.1.2.2.2.2.2.2.2.2.2.1, y2.2.1.2.1.2.2.2.2.2.2.2.2.2.2.2.2.2.1, y2.2.1.2.1.2.2.2.2.2.2.2.2.2.2.2.2.2.2.1, y2.2.1.1.1))
else
some (Sum.inr ((), (), (y1.2.1, y1.2.2.2.2.2.2.2.2.2.2.2.2.2, ()), (y1.2.2.1.1, y1.2.2.2.1, y1.2.2.2.2.1, y1.2.2.2.2.2.1, y1.2.2.2.2.2.2.1, y1.2.2.2.2.2.2.2.1, y1.2.2.2.2.2.2.2.2.1, y0.2.2.1.2.2.2.2.2.2.2.1, y0.2.2.1.2.2.2.2.2.2.2.2.1, y1.2.2.1.2.1, y1.2.2.2.2.2.2.2.2.2.1, y1.2.2.2.2.2.2.2.2.2.2.1, y1.2.2.1.2.2.1, y1.2.2.1.2.2.2.1, y0.2.2.1.2.2.2.2.2.2.2.2.2.2.2.2.2.2.1, y1.2.2.1.2.2.2.2, y1.2.2.2.2.2.2.2.2.2.2.2.1, y1.2.2.2.2.2.2.2.2.2.2.2.2.1, ()), ()))) (nn) (0, vars, (y0.2.2.1.1, y0.2.2.1.2.2.2.2.2.2.2.2.2.1, y0.2.2.1.2.2.2.2.2.2.2.2.2.2.2.2.1, y0.2.2.1.2.2.2.2.2.2.2.2.2.2.2.2.2.1, y0.2.2.1.2.2.2.2.2.2.2.2.2.2.2.2.2.2.2.1), y0.2.2.1.2.1, y0.2.2.1.2.2.1, y0.2.2.1.2.2.2.1, y0.2.2.1.2.2.2.2.1, y0.2.2.1.2.2.2.2.2.1, y0.2.2.1.2.2.2.2.2.2.1, y0.2.2.1.2.2.2.2.2.2.2.2.2.2.1, y0.2.2.1.2.2.2.2.2.2.2.2.2.2.2.1, y0.2.2.1.2.2.2.2.2.2.2.2.2.2.2.2.2.2.2.2.1, y0.2.2.1.2.2.2.2.2.2.2.2.2.2.2.2.2.2.2.2.2.1, [])
def VH (vars : Int) (clauses : LLI) : Option (Unit × Unit × (Int × LLI × Unit) × (Int × LLI × LLI × LI × LI × LI × LI × LI × LI × Int × LI × LI × Int × Bool × LLI × Int × LI × List Bool × Unit) × Unit) := Qx AK vars clauses
def M4 (assume : LI) (avars : Int) (aall : LLI) (vars : Int) (all : LLI) (watch : LLI) (is : LI) (depth : LI) (why : LI) (old : LI) (hot : LI) (warm : LI) (cold : Int) (row : LI) (begin : LI) (done : Int) (empty : Bool) (proof : LLI) (answer : Int) (core : LI) (model : List Bool) : Option ((Bool × Unit) × ((Int × LLI × Unit) × (Int × LLI × LLI × LI × LI × LI × LI × LI × LI × Int × LI × LI × Int × Bool × LLI × Int × LI × List Bool × Unit) × Unit) × Unit) :=
AD (Ask assume (-1) vars all watch is depth why old hot warm cold row begin done empty proof answer core model) fun y0 =>
bif y0.1.1 == 2 then
AD (Proof y0.2.1.1.2.2.2.2.2.2.2.2.2.2.2.2.2.2.1 y0.2.1.1.2.2.2.2.2.2.2.2.2.2.2.2.2.2.2.1) fun y1 =>
AD (Core y0.2.1.1.2.2.2.2.2.2.2.2.2.2.2.2.2.2.2.2.1) fun y2 =>
AD (HO aall avars y1.1.1 y2.1.1) fun y3 =>
some ((bif true then y3.1.1 else false, ()), ((avars, aall, ()), (y0.2.1.1.1, y0.2.1.1.2.1, y0.2.1.1.2.2.1, y0.2.1.1.2.2.2.1, y0.2.1.1.2.2.2.2.1, y0.2.1.1.2.2.2.2.2.1, y0.2.1.1.2.2.2.2.2.2.1, y0.2.1.1.2.2.2.2.2.2.2.1, y0.2.1.1.2.2.2.2.2.2.2.2.1, y0.2.1.1.2.2.2.2.2.2.2.2.2.1, y0.2.1.1.2.2.2.2.2.2.2.2.2.2.1, y0.2.1.1.2.2.2.2.2.2.2.2.2.2.2.1, y0.2.1.1.2.2.2.2.2.2.2.2.2.2.2.2.1, y0.2.1.1.2.2.2.2.2.2.2.2.2.2.2.2.2.1, y1.2.1.1.1, y1.2.1.1.2.1, y0.2.1.1.2.2.2.2.2.2.2.2.2.2.2.2.2.2.2.2.1, y0.2.1.1.2.2.2.2.2.2.2.2.2.2.2.2.2.2.2.2.2.1, ()), ()), ())
else
some ((false, ()), ((avars, aall, ()), (y0.2.1.1.1, y0.2.1.1.2.1, y0.2.1.1.2.2.1, y0.2.1.1.2.2.2.1, y0.2.1.1.2.2.2.2.1, y0.2.1.1.2.2.2.2.2.1, y0.2.1.1.2.2.2.2.2.2.1, y0.2.1.1.2.2.2.2.2.2.2.1, y0.2.1.1.2.2.2.2.2.2.2.2.1, y0.2.1.1.2.2.2.2.2.2.2.2.2.1, y0.2.1.1.2.2.2.2.2.2.2.2.2.2.1, y0.2.1.1.2.2.2.2.2.2.2.2.2.2.2.1, y0.2.1.1.2.2.2.2.2.2.2.2.2.2.2.2.1, y0.2.1.1.2.2.2.2.2.2.2.2.2.2.2.2.2.1, y0.2.1.1.2.2.2.2.2.2.2.2.2.2.2.2.2.2.1, y0.2.1.1.2.2.2.2.2.2.2.2.2.2.2.2.2.2.2.1, y0.2.1.1.2.2.2.2.2.2.2.2.2.2.2.2.2.2.2.2.1, y0.2.1.1.2.2.2.2.2.2.2.2.2.2.2.2.2.2.2.2.2.1, ()), ()), ())
def AJs (gi : Int) (ga : L2) (ci : L3) (cl : LT) (co : L3) (out : Int) : Option ((Int × Unit) × Unit × Unit) :=
gd (0 <= out) <|
gd (out < nI co.length) <|
gd (0 <= out) <|
gd (out < nI co.length) <|
bif (get Et co out).1 == 8 then
some ((IntKind.i64.wrap (nI (BitVec.ofInt 64 (get Et co out).2.1 ^^^ BitVec.ofInt 64 1).toNat), ()), (), ())
else
some (((get Et co out).2.1, ()), (), ())
def AAI (nn : Nat)  (gi : Int) (ga : L2) (ci : L3) (cl : LT) (co : L3) : Option ((LI × Unit) × Unit × Unit) :=
AQ (X := Int × LI) (fun y0 =>
bif decide (y0.1 < nI co.length) then
gd (0 <= y0.1) <|
gd (y0.1 < nI co.length) <|
bif (get Et co y0.1).1 == 9 then
gd ((y0.2.length + [(get Et co y0.1).2.1].length) * 8 <= lim) <|
gd (y0.2.length + [(get Et co y0.1).2.1].length <= lim) <|
gd (inK .i64 (y0.1 + 1)) <|
some (Sum.inl (y0.1 + 1, y0.2 ++ [(get Et co y0.1).2.1]))
else
gd (inK .i64 (y0.1 + 1)) <|
some (Sum.inl (y0.1 + 1, y0.2))
else
some (Sum.inr ((y0.2, ()), (), ()))) (nn) (0, [])
def AEC (gi : Int) (ga : L2) (ci : L3) (cl : LT) (co : L3) : Option ((LI × Unit) × Unit × Unit) := AAI AK gi ga ci cl co
def Xh (n : Int) (state : List Bool) : Option ((Bool × Unit) × ((List Bool × Unit) × Unit) × Unit) :=
gd (inK .i64 (0 - n)) <|
gd (inK .i64 (max2 n (0 - n) - 1)) <|
gd (0 <= max2 n (0 - n) - 1) <|
gd (max2 n (0 - n) - 1 < nI state.length) <|
some ((CB state (max2 n (0 - n) - 1) == decide (n > 0), ()), ((state, ()), ()), ())
def Fo (nn : Nat)  (s : LI) (state : List Bool) : Option ((Int × Unit) × ((List Bool × Unit) × Unit) × Unit) :=
AQ (X := Int × List Bool) (fun y0 =>
bif decide (y0.1 < nI s.length) then
gd (0 <= y0.1) <|
gd (y0.1 < nI s.length) <|
AD (Xh (AE s y0.1) y0.2) fun y1 =>
bif y1.1.1 then
some (Sum.inr ((y0.1, ()), ((y0.2, ()), ()), ()))
else
gd (inK .i64 (y0.1 + 1)) <|
some (Sum.inl (y0.1 + 1, y0.2))
else
some (Sum.inr ((-1, ()), ((y0.2, ()), ()), ()))) (nn) (0, state)
def Gg (s : LI) (state : List Bool) : Option ((Int × Unit) × ((List Bool × Unit) × Unit) × Unit) := Fo AK s state
def C8 (s : LI) (state : List Bool) : Option ((Bool × Unit) × ((List Bool × Unit) × Unit) × Unit) :=
AD (Gg s state) fun y0 =>
some ((decide (y0.1.1 >= 0), ()), ((state, ()), ()), ())
def meets (x : LI) (state : List Bool) : Option ((Bool × Unit) × Unit × Unit) :=
AD (C8 x state) fun y0 =>
some ((y0.1.1, ()), (), ())
def AJt (lv : Int) (ln : Int) (li : Bool) (lc_ : Int) (lb_ : Int) : Option ((Int × Unit) × Unit × Unit) :=
gd (inK .i64 (2 * lv)) <|
some ((2 * lv, ()), (), ())
def AED (lv : Int) (ln : Int) (li : Bool) (lc_ : Int) (lb_ : Int) : Option ((Int × Unit) × Unit × Unit) :=
some ((ln, ()), (), ())
def OM (gi : Int) (ga : L2) (ci : L3) (cl : LT) (co : L3) (n : Int) : Option ((Int × Unit) × Unit × Unit) :=
gd (inK .i64 (0 - n)) <|
gd (inK .i64 (max2 n (0 - n) - 1)) <|
gd (0 <= max2 n (0 - n) - 1) <|
gd (max2 n (0 - n) - 1 < nI cl.length) <|
AD (AJt (get AU cl (max2 n (0 - n) - 1)).1 (get AU cl (max2 n (0 - n) - 1)).2.1 (get AU cl (max2 n (0 - n) - 1)).2.2.1 (get AU cl (max2 n (0 - n) - 1)).2.2.2.1 (get AU cl (max2 n (0 - n) - 1)).2.2.2.2.1) fun y0 =>
AD (IS y0.1.1 0) fun y1 =>
bif decide (n < 0) then
gd (inK .i64 (0 - y1.1.1)) <|
some ((0 - y1.1.1, ()), (), ())
else
some ((y1.1.1, ()), (), ())
def J0 (gi : Int) (ga : L2) (ci : L3) (cl : LT) (co : L3) (n : Int) : Option ((Int × Unit) × Unit × Unit) :=
gd (inK .i64 (0 - n)) <|
gd (inK .i64 (max2 n (0 - n) - 1)) <|
gd (0 <= max2 n (0 - n) - 1) <|
gd (max2 n (0 - n) - 1 < nI cl.length) <|
AD (AED (get AU cl (max2 n (0 - n) - 1)).1 (get AU cl (max2 n (0 - n) - 1)).2.1 (get AU cl (max2 n (0 - n) - 1)).2.2.1 (get AU cl (max2 n (0 - n) - 1)).2.2.2.1 (get AU cl (max2 n (0 - n) - 1)).2.2.2.2.1) fun y0 =>
AD (IS y0.1.1 0) fun y1 =>
bif decide (n < 0) then
gd (inK .i64 (0 - y1.1.1)) <|
some ((0 - y1.1.1, ()), (), ())
else
some ((y1.1.1, ()), (), ())
def AEE (nn : Nat)  (l : LI) : Option ((LI × Unit) × Unit × Unit) :=
AQ (X := Int × LI) (fun y0 =>
bif decide (y0.1 < nI l.length) then
gd (0 <= y0.1) <|
gd (y0.1 < nI l.length) <|
AD (IS (AE l y0.1) 0) fun y1 =>
gd ((y0.2.length + [y1.1.1].length) * 8 <= lim) <|
gd (y0.2.length + [y1.1.1].length <= lim) <|
gd (inK .i64 (y0.1 + 1)) <|
some (Sum.inl (y0.1 + 1, y0.2 ++ [y1.1.1]))
else
some (Sum.inr ((y0.2, ()), (), ()))) (nn) (0, [])
def AI5 (l : LI) : Option ((LI × Unit) × Unit × Unit) := AEE AK l
def AI6 (nn : Nat)  (gi : Int) (ga : L2) (ci : L3) (cl : LT) (co : L3) (out : Int) (inv : LLI) : Option ((Int × Unit) × Unit × Unit) :=
AD (Qw gi ga ci cl co) fun y0 =>
AQ (X := Int × Int) (fun y1 =>
bif decide (y1.2 < nI inv.length) then
gd (0 <= y1.2) <|
gd (y1.2 < nI inv.length) <|
AQ (X := Int) (fun y2 =>
bif decide (y2 < nI (List.length (Ao inv y1.2))) then
gd (0 <= y2) <|
gd (y2 < nI (List.length (Ao inv y1.2))) <|
bif AE (Ao inv y1.2) y2 == 0 then
some (Sum.inr (Sum.inr ((4, ()), (), ())))
else
bif bif false then true else decide (AE (Ao inv y1.2) y2 > nI cl.length) then
some (Sum.inr (Sum.inr ((4, ()), (), ())))
else
gd (inK .i64 (0 - nI cl.length)) <|
bif bif false then true else decide (AE (Ao inv y1.2) y2 < 0 - nI cl.length) then
some (Sum.inr (Sum.inr ((4, ()), (), ())))
else
gd (inK .i64 (y2 + 1)) <|
some (Sum.inl (y2 + 1))
else
AD (meets (Ao inv y1.2) y0.1.1) fun y3 =>
bif !y3.1.1 then
gd (inK .i64 (y1.2 + 1)) <|
some (Sum.inr (Sum.inl (1, y1.2 + 1)))
else
gd (inK .i64 (y1.2 + 1)) <|
some (Sum.inr (Sum.inl (y1.1, y1.2 + 1)))) (nn) 0
else
bif y1.1 != 0 then
some (Sum.inr ((y1.1, ()), (), ()))
else
AD (SQ gi ga) fun y2 =>
AD (OL gi ga 0) fun y3 =>
AD (VH y2.1.1 y3.1.1) fun y4 =>
AQ (X := Int × Int × (Int × Int × Int × Bool × Int) × LLI × LLI × LI × LI × LI × LI × LI × LI × LI × List Bool × LLI) (fun y5 =>
bif decide (y5.1 < nI inv.length) then
gd (0 <= y5.1) <|
gd (y5.1 < nI inv.length) <|
AQ (X := Int × LI) (fun y6 =>
bif decide (y6.1 < nI (List.length (Ao inv y5.1))) then
gd (0 <= y6.1) <|
gd (y6.1 < nI (List.length (Ao inv y5.1))) <|
AD (OM gi ga ci cl co (AE (Ao inv y5.1) y6.1)) fun y7 =>
gd ((y6.2.length + [y7.1.1].length) * 8 <= lim) <|
gd (y6.2.length + [y7.1.1].length <= lim) <|
gd (inK .i64 (y6.1 + 1)) <|
some (Sum.inl (y6.1 + 1, y6.2 ++ [y7.1.1]))
else
AD (AAH y6.2 y5.2.2.2.2.2.2.2.2.2.2.2.2.2 y5.2.2.1.1 y5.2.2.2.1 y5.2.2.2.2.1 y5.2.2.2.2.2.1 y5.2.2.2.2.2.2.1 y5.2.2.2.2.2.2.2.1 y5.2.2.2.2.2.2.2.2.1 y5.2.2.1.2.1 y5.2.2.2.2.2.2.2.2.2.1 y5.2.2.2.2.2.2.2.2.2.2.1 y5.2.2.1.2.2.1 y5.2.2.1.2.2.2.1 y5.2.2.1.2.2.2.2 y5.2.2.2.2.2.2.2.2.2.2.2.1 y5.2.2.2.2.2.2.2.2.2.2.2.2.1) fun y7 =>
gd (inK .i64 (y5.1 + 1)) <|
some (Sum.inr (Sum.inl (y5.1 + 1, y5.2.1, (y7.2.1.2.1.1, y7.2.1.2.1.2.2.2.2.2.2.2.1, y7.2.1.2.1.2.2.2.2.2.2.2.2.2.2.1, y7.2.1.2.1.2.2.2.2.2.2.2.2.2.2.2.1, y7.2.1.2.1.2.2.2.2.2.2.2.2.2.2.2.2.1), y7.2.1.2.1.2.1, y7.2.1.2.1.2.2.1, y7.2.1.2.1.2.2.2.1, y7.2.1.2.1.2.2.2.2.1, y7.2.1.2.1.2.2.2.2.2.1, y7.2.1.2.1.2.2.2.2.2.2.1, y7.2.1.2.1.2.2.2.2.2.2.2.2.1, y7.2.1.2.1.2.2.2.2.2.2.2.2.2.1, y7.2.1.2.1.2.2.2.2.2.2.2.2.2.2.2.2.2.1, y7.2.1.2.1.2.2.2.2.2.2.2.2.2.2.2.2.2.2.1, y7.2.1.1.1)))) (nn) (0, [])
else
AD (AEC gi ga ci cl co) fun y6 =>
AD (AI5 y6.1.1) fun y7 =>
AQ (X := Int × Int × (Int × Int × Int × Bool × Int) × LLI × LLI × LI × LI × LI × LI × LI × LI × LI × LI × LLI × LI × List Bool × LLI) (fun y8 =>
bif decide (y8.1 < nI inv.length) then
gd (0 <= y8.1) <|
gd (y8.1 < nI inv.length) <|
AD (Ev y7.1.1) fun y9 =>
AQ (X := Int × LI × LI) (fun y10 =>
bif decide (y10.1 < nI (List.length (Ao inv y8.1))) then
gd (0 <= y10.1) <|
gd (y10.1 < nI (List.length (Ao inv y8.1))) <|
AD (J0 gi ga ci cl co (AE (Ao inv y8.1) y10.1)) fun y11 =>
gd (inK .i64 (0 - y11.1.1)) <|
gd ((y10.2.1.length + [0 - y11.1.1].length) * 8 <= lim) <|
gd (y10.2.1.length + [0 - y11.1.1].length <= lim) <|
gd (inK .i64 (y10.1 + 1)) <|
some (Sum.inl (y10.1 + 1, y10.2.1 ++ [0 - y11.1.1], y10.2.1 ++ [0 - y11.1.1]))
else
AD (M4 y10.2.1 y8.2.1 y8.2.2.2.2.2.2.2.2.2.2.2.2.2.2.2.2 y8.2.2.1.1 y8.2.2.2.1 y8.2.2.2.2.1 y8.2.2.2.2.2.1 y8.2.2.2.2.2.2.1 y8.2.2.2.2.2.2.2.1 y8.2.2.2.2.2.2.2.2.1 y8.2.2.2.2.2.2.2.2.2.1 y8.2.2.2.2.2.2.2.2.2.2.1 y8.2.2.1.2.1 y8.2.2.2.2.2.2.2.2.2.2.2.1 y8.2.2.2.2.2.2.2.2.2.2.2.2.1 y8.2.2.1.2.2.1 y8.2.2.1.2.2.2.1 y8.2.2.2.2.2.2.2.2.2.2.2.2.2.1 y8.2.2.1.2.2.2.2 y8.2.2.2.2.2.2.2.2.2.2.2.2.2.2.1 y8.2.2.2.2.2.2.2.2.2.2.2.2.2.2.2.1) fun y11 =>
bif !y11.1.1 then
some (Sum.inr (Sum.inr (Sum.inr (Sum.inr ((2, ()), (), ())))))
else
gd (inK .i64 (y8.1 + 1)) <|
some (Sum.inr (Sum.inl (y8.1 + 1, y11.2.1.1.1, (y11.2.1.2.1.1, y11.2.1.2.1.2.2.2.2.2.2.2.2.2.1, y11.2.1.2.1.2.2.2.2.2.2.2.2.2.2.2.2.1, y11.2.1.2.1.2.2.2.2.2.2.2.2.2.2.2.2.2.1, y11.2.1.2.1.2.2.2.2.2.2.2.2.2.2.2.2.2.2.2.1), y11.2.1.2.1.2.1, y11.2.1.2.1.2.2.1, y11.2.1.2.1.2.2.2.1, y11.2.1.2.1.2.2.2.2.1, y11.2.1.2.1.2.2.2.2.2.1, y11.2.1.2.1.2.2.2.2.2.2.1, y11.2.1.2.1.2.2.2.2.2.2.2.1, y11.2.1.2.1.2.2.2.2.2.2.2.2.1, y11.2.1.2.1.2.2.2.2.2.2.2.2.2.2.1, y11.2.1.2.1.2.2.2.2.2.2.2.2.2.2.2.1, y11.2.1.2.1.2.2.2.2.2.2.2.2.2.2.2.2.2.2.1, y11.2.1.2.1.2.2.2.2.2.2.2.2.2.2.2.2.2.2.2.2.1, y11.2.1.2.1.2.2.2.2.2.2.2.2.2.2.2.2.2.2.2.2.2.1, y11.2.1.1.2.1)))) (nn) (0, y9.1.1, y9.1.1)
else
AD (AJs gi ga ci cl co out) fun y9 =>
AD (IS y9.1.1 0) fun y10 =>
gd ((y7.1.1.length + [y10.1.1].length) * 8 <= lim) <|
gd (y7.1.1.length + [y10.1.1].length <= lim) <|
AD (M4 (y7.1.1 ++ [y10.1.1]) y8.2.1 y8.2.2.2.2.2.2.2.2.2.2.2.2.2.2.2.2 y8.2.2.1.1 y8.2.2.2.1 y8.2.2.2.2.1 y8.2.2.2.2.2.1 y8.2.2.2.2.2.2.1 y8.2.2.2.2.2.2.2.1 y8.2.2.2.2.2.2.2.2.1 y8.2.2.2.2.2.2.2.2.2.1 y8.2.2.2.2.2.2.2.2.2.2.1 y8.2.2.1.2.1 y8.2.2.2.2.2.2.2.2.2.2.2.1 y8.2.2.2.2.2.2.2.2.2.2.2.2.1 y8.2.2.1.2.2.1 y8.2.2.1.2.2.2.1 y8.2.2.2.2.2.2.2.2.2.2.2.2.2.1 y8.2.2.1.2.2.2.2 y8.2.2.2.2.2.2.2.2.2.2.2.2.2.2.1 y8.2.2.2.2.2.2.2.2.2.2.2.2.2.2.2.1) fun y11 =>
bif !y11.1.1 then
some (Sum.inr (Sum.inr (Sum.inr ((3, ()), (), ()))))
else
some (Sum.inr (Sum.inr (Sum.inr ((0, ()), (), ()))))) (nn) (0, y5.2.1, (y5.2.2.1.1, y5.2.2.1.2.1, y5.2.2.1.2.2.1, y5.2.2.1.2.2.2.1, y5.2.2.1.2.2.2.2), y5.2.2.2.1, y5.2.2.2.2.1, y5.2.2.2.2.2.1, y5.2.2.2.2.2.2.1, y5.2.2.2.2.2.2.2.1, y5.2.2.2.2.2.2.2.2.1, y4.2.2.2.1.2.2.2.2.2.2.2.1, y4.2.2.2.1.2.2.2.2.2.2.2.2.1, y5.2.2.2.2.2.2.2.2.2.1, y5.2.2.2.2.2.2.2.2.2.2.1, y4.2.2.2.1.2.2.2.2.2.2.2.2.2.2.2.2.2.2.1, y5.2.2.2.2.2.2.2.2.2.2.2.1, y5.2.2.2.2.2.2.2.2.2.2.2.2.1, y5.2.2.2.2.2.2.2.2.2.2.2.2.2)) (nn) (0, y4.2.2.1.1, (y4.2.2.2.1.1, y4.2.2.2.1.2.2.2.2.2.2.2.2.2.1, y4.2.2.2.1.2.2.2.2.2.2.2.2.2.2.2.2.1, y4.2.2.2.1.2.2.2.2.2.2.2.2.2.2.2.2.2.1, y4.2.2.2.1.2.2.2.2.2.2.2.2.2.2.2.2.2.2.2.1), y4.2.2.2.1.2.1, y4.2.2.2.1.2.2.1, y4.2.2.2.1.2.2.2.1, y4.2.2.2.1.2.2.2.2.1, y4.2.2.2.1.2.2.2.2.2.1, y4.2.2.2.1.2.2.2.2.2.2.1, y4.2.2.2.1.2.2.2.2.2.2.2.2.2.2.1, y4.2.2.2.1.2.2.2.2.2.2.2.2.2.2.2.1, y4.2.2.2.1.2.2.2.2.2.2.2.2.2.2.2.2.2.2.2.2.1, y4.2.2.2.1.2.2.2.2.2.2.2.2.2.2.2.2.2.2.2.2.2.1, y4.2.2.1.2.1)) (nn) (0, 0)
def AEF (gi : Int) (ga : L2) (ci : L3) (cl : LT) (co : L3) (out : Int) (inv : LLI) : Option ((Int × Unit) × Unit × Unit) := AI6 AK gi ga ci cl co out inv
end AL
end
section
namespace AL
open Go
def M5 (s : ByteArray) (pos : Int) : Option ((ByteArray × Unit) × Unit × Unit) :=
some ((s, ()), (), ())
def J1 (s : ByteArray) (pos : Int) (nx : Int) (rs : Int) : Option ((ByteArray × Unit) × Unit × Unit) :=
some ((s, ()), (), ())
def ON (nn : Nat)  (l : LP) : Option ((Bool × Unit) × Unit × Unit) :=
AQ (X := Int × List (ByteArray × Int)) (fun y0 =>
bif decide (y0.1 < nI l.length) then
gd (0 <= y0.1) <|
gd (y0.1 < nI l.length) <|
AD (M5 (get Ar l y0.1).1 (get Ar l y0.1).2.1) fun y1 =>
gd (inK .i64 (Ad (Ty.int IntKind.i64).Bl y0.2 y1.1.1 + 1)) <|
gd (y0.2.length < lim) <|
bif decide (Ad (Ty.int IntKind.i64).Bl (A4 (Ad (Ty.int IntKind.i64).Bl y0.2 y1.1.1 + 1) y0.2 y1.1.1) y1.1.1 > 1) then
some (Sum.inr ((false, ()), (), ()))
else
gd (y1.1.1.size < 4294967281) <|
gd (I7 y1.1.1 = true) <|
bif bif false then true else Lib.containsAny y1.1.1.data.toList (ByteArray.mk #[32, 10, 61, 124, 126, 58]).data.toList then
some (Sum.inr ((false, ()), (), ()))
else
gd (inK .i64 (y0.1 + 1)) <|
some (Sum.inl (y0.1 + 1, A4 (Ad (Ty.int IntKind.i64).Bl y0.2 y1.1.1 + 1) y0.2 y1.1.1))
else
some (Sum.inr ((true, ()), (), ()))) (nn) (0, [])
def M6 (l : LP) : Option ((Bool × Unit) × Unit × Unit) := ON AK l
def OO (nn : Nat)  (l : LC) : Option ((Bool × Unit) × Unit × Unit) :=
AQ (X := Int × List (ByteArray × Int)) (fun y0 =>
bif decide (y0.1 < nI l.length) then
gd (0 <= y0.1) <|
gd (y0.1 < nI l.length) <|
AD (J1 (get AX l y0.1).1 (get AX l y0.1).2.1 (get AX l y0.1).2.2.1 (get AX l y0.1).2.2.2.1) fun y1 =>
gd (inK .i64 (Ad (Ty.int IntKind.i64).Bl y0.2 y1.1.1 + 1)) <|
gd (y0.2.length < lim) <|
bif decide (Ad (Ty.int IntKind.i64).Bl (A4 (Ad (Ty.int IntKind.i64).Bl y0.2 y1.1.1 + 1) y0.2 y1.1.1) y1.1.1 > 1) then
some (Sum.inr ((false, ()), (), ()))
else
gd (y1.1.1.size < 4294967281) <|
gd (I7 y1.1.1 = true) <|
bif bif false then true else Lib.containsAny y1.1.1.data.toList (ByteArray.mk #[32, 10, 61, 124, 126, 58]).data.toList then
some (Sum.inr ((false, ()), (), ()))
else
gd (inK .i64 (y0.1 + 1)) <|
some (Sum.inl (y0.1 + 1, A4 (Ad (Ty.int IntKind.i64).Bl y0.2 y1.1.1 + 1) y0.2 y1.1.1))
else
some (Sum.inr ((true, ()), (), ()))) (nn) (0, [])
def M7 (l : LC) : Option ((Bool × Unit) × Unit × Unit) := OO AK l
def JB (nn_ : LN) (ni : LP) (nc : LC) (np : LQ) (nm : LP) : Option ((Bool × Unit) × Unit × Unit) :=
AD (M6 ni) fun y0 =>
bif y0.1.1 then
AD (M7 nc) fun y1 =>
some ((bif true then y1.1.1 else false, ()), (), ())
else
some ((false, ()), (), ())
def ABT (nn_ : LN) (ni : LP) (nc : LC) (np : LQ) (nm : LP) (xv : Int) (xn : Int) (xi : Bool) (xc : Int) (xb : Int) : Option ((ByteArray × Unit) × Unit × Unit) :=
gd (0 <= xc) <|
gd (xc < nI nc.length) <|
gd (ByteArray.size (get AX nc xc).1 + 1 <= lim) <|
gd (0 <= xb) <|
gd (xb < 100) <|
gd ((ByteArray.append (get AX nc xc).1 (ByteArray.mk #[91])).size + (DY xb).size <= lim) <|
gd (((ByteArray.append (get AX nc xc).1 (ByteArray.mk #[91])).append (DY xb)).size + 1 <= lim) <|
some ((((ByteArray.append (get AX nc xc).1 (ByteArray.mk #[91])).append (DY xb)).append (ByteArray.mk #[93]), ()), (), ())
def VI (pos : Int) (s : ByteArray) (pm : List (ByteArray × Int)) : Option ((Int × Bool × Unit) × ((List (ByteArray × Int) × Unit) × Unit) × Unit) :=
bif XX s (ByteArray.mk #[126]) then
gd (inK .i64 (0 - Ad (Ty.int IntKind.i64).Bl pm (LB s (ByteArray.mk #[126])))) <|
some ((0 - Ad (Ty.int IntKind.i64).Bl pm (LB s (ByteArray.mk #[126])), decide (Ad (Ty.int IntKind.i64).Bl pm (LB s (ByteArray.mk #[126])) > 0), ()), ((pm, ()), ()), ())
else
some ((Ad (Ty.int IntKind.i64).Bl pm (LB s (ByteArray.mk #[126])), decide (Ad (Ty.int IntKind.i64).Bl pm (LB s (ByteArray.mk #[126])) > 0), ()), ((pm, ()), ()), ())
def Xi (nn : Nat)  (s : ByteArray) (by_ : ByteArray) (pm : List (ByteArray × Int)) : Option ((LI × Bool × Unit) × ((List (ByteArray × Int) × Unit) × Unit) × Unit) :=
gd (s.size < 4294967281) <|
gd (1 <= by_.size) <|
AQ (X := Int × List (ByteArray × Int) × LI) (fun y0 =>
bif decide (y0.1 < nI (B5 s by_).length) then
gd (0 <= y0.1) <|
gd (y0.1 < nI (B5 s by_).length) <|
AD (VI y0.1 (get Ty.str (B5 s by_) y0.1) y0.2.1) fun y1 =>
bif !y1.1.2.1 then
some (Sum.inr (([], false, ()), ((y0.2.1, ()), ()), ()))
else
gd ((y0.2.2.length + [y1.1.1].length) * 8 <= lim) <|
gd (y0.2.2.length + [y1.1.1].length <= lim) <|
gd (inK .i64 (y0.1 + 1)) <|
some (Sum.inl (y0.1 + 1, y0.2.1, y0.2.2 ++ [y1.1.1]))
else
some (Sum.inr ((y0.2.2, true, ()), ((y0.2.1, ()), ()), ()))) (nn) (0, pm, [])
def AAJ (s : ByteArray) (by_ : ByteArray) (pm : List (ByteArray × Int)) : Option ((LI × Bool × Unit) × ((List (ByteArray × Int) × Unit) × Unit) × Unit) := Xi AK s by_ pm
def Xj (nn : Nat)  (nn_ : LN) (ni : LP) (nc : LC) (np : LQ) (nm : LP) (gi : Int) (ga : L2) (ci : L3) (cl : LT) (co : L3) (s : ByteArray) : Option ((LI × Bool × Unit) × Unit × Unit) :=
AD (JB nn_ ni nc np nm) fun y0 =>
bif !y0.1.1 then
some (([], false, ()), (), ())
else
AD (VE nn_ ni nc np nm gi ga ci cl co) fun y1 =>
bif bif false then true else !y1.1.1 then
some (([], false, ()), (), ())
else
bif s.toList == (ByteArray.mk #[102, 97, 108, 115, 101]).toList then
some (([], true, ()), (), ())
else
AQ (X := Int × List (ByteArray × Int)) (fun y2 =>
bif decide (y2.1 < nI cl.length) then
gd (0 <= y2.1) <|
gd (y2.1 < nI cl.length) <|
AD (ABT nn_ ni nc np nm (get AU cl y2.1).1 (get AU cl y2.1).2.1 (get AU cl y2.1).2.2.1 (get AU cl y2.1).2.2.2.1 (get AU cl y2.1).2.2.2.2.1) fun y3 =>
gd (inK .i64 (y2.1 + 1)) <|
gd (y2.2.length < lim) <|
gd (inK .i64 (y2.1 + 1)) <|
some (Sum.inl (y2.1 + 1, A4 (y2.1 + 1) y2.2 y3.1.1))
else
AD (AAJ s (ByteArray.mk #[32, 124, 32]) y2.2) fun y3 =>
some (Sum.inr ((y3.1.1, y3.1.2.1, ()), (), ()))) (nn) (0, [])
def HP (nn_ : LN) (ni : LP) (nc : LC) (np : LQ) (nm : LP) (gi : Int) (ga : L2) (ci : L3) (cl : LT) (co : L3) (s : ByteArray) : Option ((LI × Bool × Unit) × Unit × Unit) := Xj AK nn_ ni nc np nm gi ga ci cl co s
def OP (nn : Nat)  (nn_ : LN) (ni : LP) (nc : LC) (np : LQ) (nm : LP) (gi : Int) (ga : L2) (ci : L3) (cl : LT) (co : L3) (l : LI) : Option ((ByteArray × Unit) × Unit × Unit) :=
AD (JB nn_ ni nc np nm) fun y0 =>
bif !y0.1.1 then
some (((ByteArray.mk #[]), ()), (), ())
else
AD (VE nn_ ni nc np nm gi ga ci cl co) fun y1 =>
bif bif false then true else !y1.1.1 then
some (((ByteArray.mk #[]), ()), (), ())
else
bif nI l.length == 0 then
some (((ByteArray.mk #[102, 97, 108, 115, 101]), ()), (), ())
else
AQ (X := Int × List ByteArray) (fun y2 =>
bif decide (y2.1 < nI l.length) then
gd (0 <= y2.1) <|
gd (y2.1 < nI l.length) <|
gd (inK .i64 (0 - AE l y2.1)) <|
bif decide (max2 (AE l y2.1) (0 - AE l y2.1) < 1) then
some (Sum.inr (((ByteArray.mk #[]), ()), (), ()))
else
bif bif false then true else decide (max2 (AE l y2.1) (0 - AE l y2.1) > nI cl.length) then
some (Sum.inr (((ByteArray.mk #[]), ()), (), ()))
else
gd (inK .i64 (max2 (AE l y2.1) (0 - AE l y2.1) - 1)) <|
gd (0 <= max2 (AE l y2.1) (0 - AE l y2.1) - 1) <|
gd (max2 (AE l y2.1) (0 - AE l y2.1) - 1 < nI cl.length) <|
AD (ABT nn_ ni nc np nm (get AU cl (max2 (AE l y2.1) (0 - AE l y2.1) - 1)).1 (get AU cl (max2 (AE l y2.1) (0 - AE l y2.1) - 1)).2.1 (get AU cl (max2 (AE l y2.1) (0 - AE l y2.1) - 1)).2.2.1 (get AU cl (max2 (AE l y2.1) (0 - AE l y2.1) - 1)).2.2.2.1 (get AU cl (max2 (AE l y2.1) (0 - AE l y2.1) - 1)).2.2.2.2.1) fun y3 =>
bif decide (AE l y2.1 < 0) then
gd (1 + y3.1.1.size <= lim) <|
gd ((y2.2.length + [(ByteArray.mk #[126]).append y3.1.1].length) * 16 <= lim) <|
gd (y2.2.length + [(ByteArray.mk #[126]).append y3.1.1].length <= lim) <|
gd (inK .i64 (y2.1 + 1)) <|
some (Sum.inl (y2.1 + 1, y2.2 ++ [(ByteArray.mk #[126]).append y3.1.1]))
else
gd ((y2.2.length + [y3.1.1].length) * 16 <= lim) <|
gd (y2.2.length + [y3.1.1].length <= lim) <|
gd (inK .i64 (y2.1 + 1)) <|
some (Sum.inl (y2.1 + 1, y2.2 ++ [y3.1.1]))
else
gd (0 < y2.2.length) <|
gd ((DZ y2.2 (ByteArray.mk #[32, 124, 32])).size <= lim) <|
some (Sum.inr ((DZ y2.2 (ByteArray.mk #[32, 124, 32]), ()), (), ()))) (nn) (0, [])
def GS (nn_ : LN) (ni : LP) (nc : LC) (np : LQ) (nm : LP) (gi : Int) (ga : L2) (ci : L3) (cl : LT) (co : L3) (l : LI) : Option ((ByteArray × Unit) × Unit × Unit) := OP AK nn_ ni nc np nm gi ga ci cl co l
end AL
end
section
namespace AL
open Go
def SR (s : ByteArray) : Option ((Int × Bool × Unit) × Unit × Unit) :=
AD (ADr s) fun y0 =>
gd (s.size <= 18) <|
gd (inK .i64 y0) <|
bif bif true then decide (y0 >= 0) else false then
bif bif true then decide (y0 <= 65535) else false then
gd (0 <= y0) <|
gd (y0 < 100) <|
some ((y0, bif true then (DY y0).toList == s.toList else false, ()), (), ())
else
some ((y0, false, ()), (), ())
else
some ((y0, false, ()), (), ())
def Xk (k : Int) (s : ByteArray) (nn_ : LN) (ni : LP) (nc : LC) (np : LQ) (nm : LP) : Option ((Int × Bool × Unit) × ((LN × LP × LC × LQ × LP × Unit) × Unit) × Unit) :=
bif decide (k >= nI ni.length) then
some ((0, false, ()), ((nn_, ni, nc, np, nm, ()), ()), ())
else
gd (0 <= k) <|
gd (k < nI ni.length) <|
gd (ByteArray.size (get Ar ni k).1 + 1 <= lim) <|
bif !XX s (ByteArray.append (get Ar ni k).1 (ByteArray.mk #[61])) then
some ((0, false, ()), ((nn_, ni, nc, np, nm, ()), ()), ())
else
AD (SR (LB s (ByteArray.append (get Ar ni k).1 (ByteArray.mk #[61])))) fun y0 =>
some ((y0.1.1, y0.1.2.1, ()), ((nn_, ni, nc, np, nm, ()), ()), ())
def AEG (nn : Nat)  (s : ByteArray) (by_ : ByteArray) (nn_ : LN) (ni : LP) (nc : LC) (np : LQ) (nm : LP) : Option ((LI × Bool × Unit) × ((LN × LP × LC × LQ × LP × Unit) × Unit) × Unit) :=
gd (s.size < 4294967281) <|
gd (1 <= by_.size) <|
AQ (X := Int × (NET) × LI) (fun y0 =>
bif decide (y0.1 < nI (B5 s by_).length) then
gd (0 <= y0.1) <|
gd (y0.1 < nI (B5 s by_).length) <|
AD (Xk y0.1 (get Ty.str (B5 s by_) y0.1) y0.2.1.1 y0.2.1.2.1 y0.2.1.2.2.1 y0.2.1.2.2.2.1 y0.2.1.2.2.2.2) fun y1 =>
bif !y1.1.2.1 then
some (Sum.inr (([], false, ()), ((y0.2.1.1, y0.2.1.2.1, y0.2.1.2.2.1, y0.2.1.2.2.2.1, y0.2.1.2.2.2.2, ()), ()), ()))
else
gd ((y0.2.2.length + [y1.1.1].length) * 8 <= lim) <|
gd (y0.2.2.length + [y1.1.1].length <= lim) <|
gd (inK .i64 (y0.1 + 1)) <|
some (Sum.inl (y0.1 + 1, (y0.2.1.1, y0.2.1.2.1, y0.2.1.2.2.1, y0.2.1.2.2.2.1, y0.2.1.2.2.2.2), y0.2.2 ++ [y1.1.1]))
else
some (Sum.inr ((y0.2.2, true, ()), ((y0.2.1.1, y0.2.1.2.1, y0.2.1.2.2.1, y0.2.1.2.2.2.1, y0.2.1.2.2.2.2, ()), ()), ()))) (nn) (0, (nn_, ni, nc, np, nm), [])
def AI7 (s : ByteArray) (by_ : ByteArray) (nn_ : LN) (ni : LP) (nc : LC) (np : LQ) (nm : LP) : Option ((LI × Bool × Unit) × ((LN × LP × LC × LQ × LP × Unit) × Unit) × Unit) := AEG AK s by_ nn_ ni nc np nm
def AEH (i : Int) (s : ByteArray) (nn_ : LN) (ni : LP) (nc : LC) (np : LQ) (nm : LP) : Option ((LI × Bool × Unit) × ((LN × LP × LC × LQ × LP × Unit) × Unit) × Unit) :=
gd (0 <= i) <|
gd (i < 100) <|
gd ((DY i).size + 1 <= lim) <|
bif s.toList == ((DY i).append (ByteArray.mk #[58])).toList then
some (([], nI ni.length == 0, ()), ((nn_, ni, nc, np, nm, ()), ()), ())
else
gd (((DY i).append (ByteArray.mk #[58])).size + 1 <= lim) <|
bif !XX s (((DY i).append (ByteArray.mk #[58])).append (ByteArray.mk #[32])) then
some (([], false, ()), ((nn_, ni, nc, np, nm, ()), ()), ())
else
AD (AI7 (LB s (((DY i).append (ByteArray.mk #[58])).append (ByteArray.mk #[32]))) (ByteArray.mk #[32]) nn_ ni nc np nm) fun y0 =>
bif y0.1.2.1 then
some ((y0.1.1, bif true then nI y0.1.1.length == nI ni.length else false, ()), ((nn_, ni, nc, np, nm, ()), ()), ())
else
some ((y0.1.1, false, ()), ((nn_, ni, nc, np, nm, ()), ()), ())
def AEI (nn : Nat)  (s : ByteArray) (by_ : ByteArray) (nn_ : LN) (ni : LP) (nc : LC) (np : LQ) (nm : LP) : Option ((LLI × Bool × Unit) × ((LN × LP × LC × LQ × LP × Unit) × Unit) × Unit) :=
gd (s.size < 4294967281) <|
gd (1 <= by_.size) <|
AQ (X := Int × (NET) × LLI) (fun y0 =>
bif decide (y0.1 < nI (B5 s by_).length) then
gd (0 <= y0.1) <|
gd (y0.1 < nI (B5 s by_).length) <|
AD (AEH y0.1 (get Ty.str (B5 s by_) y0.1) y0.2.1.1 y0.2.1.2.1 y0.2.1.2.2.1 y0.2.1.2.2.2.1 y0.2.1.2.2.2.2) fun y1 =>
bif !y1.1.2.1 then
some (Sum.inr (([], false, ()), ((y0.2.1.1, y0.2.1.2.1, y0.2.1.2.2.1, y0.2.1.2.2.2.1, y0.2.1.2.2.2.2, ()), ()), ()))
else
gd ((y0.2.2.length + [y1.1.1].length) * 24 <= lim) <|
gd (y0.2.2.length + [y1.1.1].length <= lim) <|
gd (inK .i64 (y0.1 + 1)) <|
some (Sum.inl (y0.1 + 1, (y0.2.1.1, y0.2.1.2.1, y0.2.1.2.2.1, y0.2.1.2.2.2.1, y0.2.1.2.2.2.2), y0.2.2 ++ [y1.1.1]))
else
some (Sum.inr ((y0.2.2, true, ()), ((y0.2.1.1, y0.2.1.2.1, y0.2.1.2.2.1, y0.2.1.2.2.2.1, y0.2.1.2.2.2.2, ()), ()), ()))) (nn) (0, (nn_, ni, nc, np, nm), [])
def AEJ (s : ByteArray) (by_ : ByteArray) (nn_ : LN) (ni : LP) (nc : LC) (np : LQ) (nm : LP) : Option ((LLI × Bool × Unit) × ((LN × LP × LC × LQ × LP × Unit) × Unit) × Unit) := AEI AK s by_ nn_ ni nc np nm
def Qy (nn_ : LN) (ni : LP) (nc : LC) (np : LQ) (nm : LP) (s : ByteArray) : Option ((LLI × Bool × Unit) × Unit × Unit) :=
AD (JB nn_ ni nc np nm) fun y0 =>
bif !y0.1.1 then
some (([], false, ()), (), ())
else
bif !s.toList == (ByteArray.mk #[]).toList then
bif bif false then true else bif true then !Lib.hasSuffix s.data.toList (ByteArray.mk #[10]).data.toList else false then
some (([], false, ()), (), ())
else
bif s.toList == (ByteArray.mk #[]).toList then
some (([], true, ()), (), ())
else
AD (AEJ (Qs s (ByteArray.mk #[10])) (ByteArray.mk #[10]) nn_ ni nc np nm) fun y1 =>
some ((y1.1.1, y1.1.2.1, ()), (), ())
else
bif s.toList == (ByteArray.mk #[]).toList then
some (([], true, ()), (), ())
else
AD (AEJ (Qs s (ByteArray.mk #[10])) (ByteArray.mk #[10]) nn_ ni nc np nm) fun y1 =>
some ((y1.1.1, y1.1.2.1, ()), (), ())
def AAK (b : Bool) : Option ((Int × Unit) × Unit × Unit) :=
bif b then
some ((1, ()), (), ())
else
some ((0, ()), (), ())
def vW8 (a : Int) (b : Int) : Option ((Int × Unit) × Unit × Unit) :=
gd (inK .i64 (a + b)) <|
some ((a + b, ()), (), ())
def AJu (a : Int) (b : Int) : Option ((Bool × Unit) × Unit × Unit) :=
some ((a != b, ()), (), ())
def AJv (a : Int) (b : Int) : Option ((Bool × Unit) × Unit × Unit) :=
some ((decide (a < b), ()), (), ())
def vW1 (op : Int) (w : Int) (na : Int) (nb : Int) (nc : Int) (n : Int) (lo : Int) (a : Int) (b : Int) (c : Int) (wb : Int) : Option ((Int × Unit) × Unit × Unit) :=
some ((n, ()), (), ())
def AJw (op : Int) (w : Int) (na : Int) (nb : Int) (nc : Int) (n : Int) (lo : Int) (a : Int) (b : Int) (c : Int) (wb : Int) : Option ((Int × Unit) × Unit × Unit) :=
gd (0 <= wb) <|
some ((IntKind.i64.wrap (nI (BitVec.ofInt 64 (IntKind.i64.wrap (a * 2 ^ min wb.toNat 64)) ||| BitVec.ofInt 64 b).toNat), ()), (), ())
def AAL (op : Int) (w : Int) (na : Int) (nb : Int) (nc : Int) (n : Int) (lo : Int) (a : Int) (b : Int) (c : Int) (wb : Int) (f : Nat) : Option ((Int × Unit) × Unit × Unit) :=
AD (vW8 a b) fun y0 =>
AD (AD8 w) fun y1 =>
some ((IntKind.i64.wrap (nI (BitVec.ofInt 64 y0.1.1 &&& BitVec.ofInt 64 y1.1.1).toNat), ()), (), ())
def AAM (op : Int) (w : Int) (na : Int) (nb : Int) (nc : Int) (n : Int) (lo : Int) (a : Int) (b : Int) (c : Int) (wb : Int) (f : Nat) : Option ((Int × Unit) × Unit × Unit) :=
Mh (nI f) [((213 : Int), AAL op w na nb nc n lo a b c wb f)]
def AJx (f : Nat) : Option (((Nat × Unit) × Unit) × Unit × Unit) :=
some (((f, ()), ()), (), ())
def OQ (op : Int) (w : Int) (na : Int) (nb : Int) (nc : Int) (n : Int) (lo : Int) (a : Int) (b : Int) (c : Int) (wb : Int) (f : Nat) : Option ((Int × Unit) × Unit × Unit) :=
AD (AJu a b) fun y0 =>
AD (AAK y0.1.1) fun y1 =>
some ((y1.1.1, ()), (), ())
def OR (op : Int) (w : Int) (na : Int) (nb : Int) (nc : Int) (n : Int) (lo : Int) (a : Int) (b : Int) (c : Int) (wb : Int) (f : Nat) : Option ((Int × Unit) × Unit × Unit) :=
AD (AJv a b) fun y0 =>
AD (AAK y0.1.1) fun y1 =>
some ((y1.1.1, ()), (), ())
def J2 (op : Int) (w : Int) (na : Int) (nb : Int) (nc : Int) (n : Int) (lo : Int) (a : Int) (b : Int) (c : Int) (wb : Int) (f : Nat) : Option ((Int × Unit) × Unit × Unit) :=
Mh (nI f) [((217 : Int), OQ op w na nb nc n lo a b c wb f), ((218 : Int), OR op w na nb nc n lo a b c wb f)]
def Xl (f : Nat) : Option (((Nat × Unit) × Unit) × Unit × Unit) :=
some (((f, ()), ()), (), ())
def JC : Option ((Unit × Unit) × Unit × Unit) :=
some (((), ()), (), ())
def AI8 (op : Int) (w : Int) (na : Int) (nb : Int) (nc : Int) (n : Int) (lo : Int) (a : Int) (b : Int) (c : Int) (wb : Int) : Option ((Int × Unit) × Unit × Unit) :=
AD (JC) fun y0 =>
AD (vW1 1 w na nb nc n lo a b c wb) fun y1 =>
some ((y1.1.1, ()), (), ())
def AI9 (op : Int) (w : Int) (na : Int) (nb : Int) (nc : Int) (n : Int) (lo : Int) (a : Int) (b : Int) (c : Int) (wb : Int) : Option ((Int × Unit) × Unit × Unit) :=
AD (JC) fun y0 =>
AD (AAM 9 w na nb nc n lo a b c wb 213) fun y1 =>
some ((y1.1.1, ()), (), ())
def AEK (op : Int) (w : Int) (na : Int) (nb : Int) (nc : Int) (n : Int) (lo : Int) (a : Int) (b : Int) (c : Int) (wb : Int) : Option ((Int × Unit) × Unit × Unit) :=
AD (JC) fun y0 =>
AD (J2 13 w na nb nc n lo a b c wb 217) fun y1 =>
some ((y1.1.1, ()), (), ())
def AEL (op : Int) (w : Int) (na : Int) (nb : Int) (nc : Int) (n : Int) (lo : Int) (a : Int) (b : Int) (c : Int) (wb : Int) : Option ((Int × Unit) × Unit × Unit) :=
AD (JC) fun y0 =>
AD (J2 14 w na nb nc n lo a b c wb 218) fun y1 =>
some ((y1.1.1, ()), (), ())
def AEM (op : Int) (w : Int) (na : Int) (nb : Int) (nc : Int) (n : Int) (lo : Int) (a : Int) (b : Int) (c : Int) (wb : Int) : Option ((Int × Unit) × Unit × Unit) :=
AD (JC) fun y0 =>
AD (AJw 17 w na nb nc n lo a b c wb) fun y1 =>
some ((y1.1.1, ()), (), ())
def vDo (op : Int) (w : Int) (na : Int) (nb : Int) (nc : Int) (n : Int) (lo : Int) (a : Int) (b : Int) (c : Int) (wb : Int) : Option ((Int × Unit) × Unit × Unit) :=
Mh op [((1 : Int), AI8 op w na nb nc n lo a b c wb), ((9 : Int), AI9 op w na nb nc n lo a b c wb), ((13 : Int), AEK op w na nb nc n lo a b c wb), ((14 : Int), AEL op w na nb nc n lo a b c wb), ((17 : Int), AEM op w na nb nc n lo a b c wb)]
def VJ (nn : Nat)  (nn_ : LN) (ni : LP) (nc : LC) (np : LQ) (nm : LP) (st : LI) (ins : LI) : Option ((LI × Unit) × Unit × Unit) :=
gd (nI nn_.length <= nI nn_.length) <|
gd ((nI nn_.length).toNat * 8 <= lim) <|
gd (nI nn_.length <= nI lim) <|
AQ (X := Int × LI) (fun y0 =>
bif decide (y0.1 < nI ni.length) then
gd (0 <= y0.1) <|
gd (y0.1 < nI ni.length) <|
gd (0 <= y0.1) <|
gd (y0.1 < nI ins.length) <|
gd (0 <= (get Ar ni y0.1).2.1) <|
gd ((get Ar ni y0.1).2.1 < nI y0.2.length) <|
gd (inK .i64 (y0.1 + 1)) <|
some (Sum.inl (y0.1 + 1, y0.2.set (Int.toNat (get Ar ni y0.1).2.1) (AE ins y0.1)))
else
AQ (X := Int × LI) (fun y1 =>
bif decide (y1.1 < nI nc.length) then
gd (0 <= y1.1) <|
gd (y1.1 < nI nc.length) <|
gd (0 <= y1.1) <|
gd (y1.1 < nI st.length) <|
gd (0 <= (get AX nc y1.1).2.1) <|
gd ((get AX nc y1.1).2.1 < nI y1.2.length) <|
gd (inK .i64 (y1.1 + 1)) <|
some (Sum.inl (y1.1 + 1, y1.2.set (Int.toNat (get AX nc y1.1).2.1) (AE st y1.1)))
else
AQ (X := Int × LI) (fun y2 =>
bif decide (y2.1 < nI nn_.length) then
gd (0 <= y2.1) <|
gd (y2.1 < nI nn_.length) <|
bif (get AB nn_ y2.1).1 != 21 then
bif bif true then (get AB nn_ y2.1).1 != 22 else false then
gd (0 <= (get AB nn_ y2.1).2.2.1) <|
gd ((get AB nn_ y2.1).2.2.1 < nI y2.2.length) <|
gd (0 <= (get AB nn_ y2.1).2.2.2.1) <|
gd ((get AB nn_ y2.1).2.2.2.1 < nI y2.2.length) <|
gd (0 <= (get AB nn_ y2.1).2.2.2.2.1) <|
gd ((get AB nn_ y2.1).2.2.2.2.1 < nI y2.2.length) <|
gd (0 <= (get AB nn_ y2.1).2.2.2.1) <|
gd ((get AB nn_ y2.1).2.2.2.1 < nI nn_.length) <|
AD (vDo (get AB nn_ y2.1).1 (get AB nn_ y2.1).2.1 (get AB nn_ y2.1).2.2.1 (get AB nn_ y2.1).2.2.2.1 (get AB nn_ y2.1).2.2.2.2.1 (get AB nn_ y2.1).2.2.2.2.2.1 (get AB nn_ y2.1).2.2.2.2.2.2.1 (AE y2.2 (get AB nn_ y2.1).2.2.1) (AE y2.2 (get AB nn_ y2.1).2.2.2.1) (AE y2.2 (get AB nn_ y2.1).2.2.2.2.1) (get AB nn_ (get AB nn_ y2.1).2.2.2.1).2.1) fun y3 =>
gd (0 <= y2.1) <|
gd (y2.1 < nI y2.2.length) <|
gd (inK .i64 (y2.1 + 1)) <|
some (Sum.inl (y2.1 + 1, y2.2.set y2.1.toNat y3.1.1))
else
gd (inK .i64 (y2.1 + 1)) <|
some (Sum.inl (y2.1 + 1, y2.2))
else
gd (inK .i64 (y2.1 + 1)) <|
some (Sum.inl (y2.1 + 1, y2.2))
else
some (Sum.inr (Sum.inr (Sum.inr ((y2.2, ()), (), ()))))) (nn) (0, y1.2)) (nn) (0, y0.2)) (nn) (0, List.replicate (nI nn_.length).toNat 0)
def AAN (nn_ : LN) (ni : LP) (nc : LC) (np : LQ) (nm : LP) (st : LI) (ins : LI) : Option ((LI × Unit) × Unit × Unit) := VJ AK nn_ ni nc np nm st ins
def Qz (nn : Nat)  (nn_ : LN) (ni : LP) (nc : LC) (np : LQ) (nm : LP) (st : LI) (ins : LI) : Option ((LI × Unit) × Unit × Unit) :=
AD (AAN nn_ ni nc np nm st ins) fun y0 =>
gd (nI nc.length <= nI nc.length) <|
gd ((nI nc.length).toNat * 8 <= lim) <|
gd (nI nc.length <= nI lim) <|
AQ (X := Int × LI) (fun y1 =>
bif decide (y1.1 < nI nc.length) then
gd (0 <= y1.1) <|
gd (y1.1 < nI nc.length) <|
gd (0 <= (get AX nc y1.1).2.2.1) <|
gd ((get AX nc y1.1).2.2.1 < nI y0.1.1.length) <|
gd (0 <= y1.1) <|
gd (y1.1 < nI y1.2.length) <|
gd (inK .i64 (y1.1 + 1)) <|
some (Sum.inl (y1.1 + 1, y1.2.set y1.1.toNat (AE y0.1.1 (get AX nc y1.1).2.2.1)))
else
some (Sum.inr ((y1.2, ()), (), ()))) (nn) (0, List.replicate (nI nc.length).toNat 0)
def AEN (nn_ : LN) (ni : LP) (nc : LC) (np : LQ) (nm : LP) (st : LI) (ins : LI) : Option ((LI × Unit) × Unit × Unit) := Qz AK nn_ ni nc np nm st ins
def AAO (nn_ : LN) (ni : LP) (nc : LC) (np : LQ) (nm : LP) (l : LLI) : Option ((Unit × Unit) × Unit × (LN × LP × LC × LQ × LP × Unit) × (LLI × Unit) × Unit) :=
some (((), ()), (), (nn_, ni, nc, np, nm, ()), (l, ()), ())
def Q0 (x : Int) : Option ((Int × Unit) × Unit × Unit) :=
some ((max2 x (IntKind.i64.wrap (0 - x)), ()), (), ())
def OS (x : Int) (state : List Bool) : Option ((Bool × Unit) × ((List Bool × Unit) × Unit) × Unit) :=
AD (Q0 x) fun y0 =>
bif decide (y0.1.1 > nI state.length) then
some ((true, ()), ((state, ()), ()), ())
else
AD (Q0 x) fun y1 =>
gd (inK .i64 (y1.1.1 - 1)) <|
gd (0 <= y1.1.1 - 1) <|
gd (y1.1.1 - 1 < nI state.length) <|
some ((bif false then true else !CB state (y1.1.1 - 1) == decide (x > 0), ()), ((state, ()), ()), ())
def Dq (nn : Nat)  (s : LI) (state : List Bool) : Option ((Int × Unit) × ((List Bool × Unit) × Unit) × Unit) :=
AQ (X := Int × List Bool) (fun y0 =>
bif decide (y0.1 < nI s.length) then
gd (0 <= y0.1) <|
gd (y0.1 < nI s.length) <|
AD (OS (AE s y0.1) y0.2) fun y1 =>
bif y1.1.1 then
some (Sum.inr ((y0.1, ()), ((y0.2, ()), ()), ()))
else
gd (inK .i64 (y0.1 + 1)) <|
some (Sum.inl (y0.1 + 1, y0.2))
else
some (Sum.inr ((-1, ()), ((y0.2, ()), ()), ()))) (nn) (0, state)
def CR (s : LI) (state : List Bool) : Option ((Int × Unit) × ((List Bool × Unit) × Unit) × Unit) := Dq AK s state
def CQ (s : LI) (state : List Bool) : Option ((Bool × Unit) × ((List Bool × Unit) × Unit) × Unit) :=
AD (CR s state) fun y0 =>
some ((decide (y0.1.1 >= 0), ()), ((state, ()), ()), ())
def HQ (l : LI) (state : List Bool) : Option ((Bool × Unit) × Unit × Unit) :=
AD (CQ l state) fun y0 =>
some ((!y0.1.1, ()), (), ())
def Q2 (nn : Nat)  (a : LLI) (b : LLI) : Option ((Bool × Unit) × Unit × Unit) :=
bif nI a.length != nI b.length then
some ((false, ()), (), ())
else
AQ (X := Int) (fun y0 =>
bif decide (y0 < nI a.length) then
gd (0 <= y0) <|
gd (y0 < nI a.length) <|
gd (0 <= y0) <|
gd (y0 < nI b.length) <|
bif nI (List.length (Ao a y0)) != nI (List.length (Ao b y0)) then
some (Sum.inr ((false, ()), (), ()))
else
AQ (X := Int) (fun y1 =>
gd (0 <= y0) <|
gd (y0 < nI a.length) <|
bif decide (y1 < nI (List.length (Ao a y0))) then
gd (0 <= y0) <|
gd (y0 < nI a.length) <|
gd (0 <= y1) <|
gd (y1 < nI (List.length (Ao a y0))) <|
gd (0 <= y0) <|
gd (y0 < nI b.length) <|
gd (0 <= y1) <|
gd (y1 < nI (List.length (Ao b y0))) <|
bif AE (Ao a y0) y1 != AE (Ao b y0) y1 then
some (Sum.inr (Sum.inr ((false, ()), (), ())))
else
gd (inK .i64 (y1 + 1)) <|
some (Sum.inl (y1 + 1))
else
gd (inK .i64 (y0 + 1)) <|
some (Sum.inr (Sum.inl (y0 + 1)))) (nn) 0
else
some (Sum.inr ((true, ()), (), ()))) (nn) 0
def HR (a : LLI) (b : LLI) : Option ((Bool × Unit) × Unit × Unit) := Q2 AK a b
def Xm (nn : Nat)  (nn_ : LN) (ni : LP) (nc : LC) (np : LQ) (nm : LP) : Option ((Bool × Unit) × Unit × Unit) :=
AD (OH nn_ ni nc np nm) fun y0 =>
bif y0.1.1 then
some ((false, ()), (), ())
else
AD (SN nn_ ni nc np nm) fun y1 =>
bif bif false then true else !y1.1.1 then
some ((false, ()), (), ())
else
AD (Jz nn_ ni nc np nm) fun y2 =>
bif bif false then true else decide (y2.1.1 > 4000) then
some ((false, ()), (), ())
else
AQ (X := Int × Int × Int) (fun y3 =>
bif decide (y3.2.2 < nI nn_.length) then
gd (0 <= y3.2.2) <|
gd (y3.2.2 < nI nn_.length) <|
bif (get AB nn_ y3.2.2).1 == 22 then
gd (0 <= y3.2.2) <|
gd (y3.2.2 < nI nn_.length) <|
gd (inK .i64 (y3.1 + (get AB nn_ y3.2.2).2.1)) <|
gd (0 <= y3.2.2) <|
gd (y3.2.2 < nI nn_.length) <|
bif (get AB nn_ y3.2.2).1 == 21 then
gd (0 <= y3.2.2) <|
gd (y3.2.2 < nI nn_.length) <|
gd (inK .i64 (y3.2.1 + (get AB nn_ y3.2.2).2.1)) <|
gd (inK .i64 (y3.2.2 + 1)) <|
some (Sum.inl (y3.1 + (get AB nn_ y3.2.2).2.1, y3.2.1 + (get AB nn_ y3.2.2).2.1, y3.2.2 + 1))
else
gd (inK .i64 (y3.2.2 + 1)) <|
some (Sum.inl (y3.1 + (get AB nn_ y3.2.2).2.1, y3.2.1, y3.2.2 + 1))
else
gd (0 <= y3.2.2) <|
gd (y3.2.2 < nI nn_.length) <|
bif (get AB nn_ y3.2.2).1 == 21 then
gd (0 <= y3.2.2) <|
gd (y3.2.2 < nI nn_.length) <|
gd (inK .i64 (y3.2.1 + (get AB nn_ y3.2.2).2.1)) <|
gd (inK .i64 (y3.2.2 + 1)) <|
some (Sum.inl (y3.1, y3.2.1 + (get AB nn_ y3.2.2).2.1, y3.2.2 + 1))
else
gd (inK .i64 (y3.2.2 + 1)) <|
some (Sum.inl (y3.1, y3.2.1, y3.2.2 + 1))
else
bif decide (y3.1 <= 8) then
some (Sum.inr ((bif true then decide (y3.2.1 <= 4) else false, ()), (), ()))
else
some (Sum.inr ((false, ()), (), ()))) (nn) (0, 0, 0)
def OT (nn_ : LN) (ni : LP) (nc : LC) (np : LQ) (nm : LP) : Option ((Bool × Unit) × Unit × Unit) := Xm AK nn_ ni nc np nm
def CS : Option (((LN × LP × LC × LQ × LP × Unit) × Unit) × Unit × Unit) :=
some ((([(21, 1, 0, 0, 0, 0, 0, ()), (22, 2, 0, 0, 0, 0, 0, ()), (1, 1, 0, 0, 0, 0, 0, ()), (17, 2, 2, 0, 0, 0, 0, ()), (9, 2, 1, 3, 0, 0, 0, ()), (1, 2, 0, 0, 0, 2, 0, ()), (13, 1, 1, 5, 0, 0, 2, ()), (14, 1, 1, 1, 0, 0, 2, ())], [((ByteArray.mk #[103, 111]), 0, ())], [((ByteArray.mk #[110]), 1, 4, 0, ())], [(8, (ByteArray.mk #[108, 111, 119]), 6, ()), (10, (ByteArray.mk #[111, 100, 100]), 7, ())], [], ()), ()), (), ())
end AL
end
section
namespace AL
open Go
def Hx (nn_ : LN) (ni : LP) (nc : LC) (np : LQ) (nm : LP) (l : LLI) : Option ((LLI × Unit) × Unit × Unit) :=
match CS with
| some y => bif @decide (nn_ = y.1.1.1) ((Ty.sl AB).eqD _ _) && (decide (ni = y.1.1.2.1) && (decide (nc = y.1.1.2.2.1) && (decide (np = y.1.1.2.2.2.1) && (decide (nm = y.1.1.2.2.2.2.1) && decide (l = [[1], [0]]))))) then some (([[0], [1], [1]], ()), (), ()) else none
| none => none
end AL
end
section
namespace AL
open Go
def AAP (vnet30 : Option (((LN × LP × LC × LQ × LP × Unit) × Unit) × Unit × Unit)) (vCompile : LN -> LP -> LC -> LQ -> LP -> Option (((Int × L2 × L3 × LT × L3 × Unit) × Unit) × Unit × Unit)) (vlBack : LN -> LP -> LC -> LQ -> LP -> ByteArray -> Option ((LLI × Bool × Unit) × Unit × Unit)) (vlLits : LN -> LP -> LC -> LQ -> LP -> Int -> L2 -> L3 -> LT -> L3 -> ByteArray -> Option ((LI × Bool × Unit) × Unit × Unit)) (vRight15 : Int -> L2 -> L3 -> LT -> L3 -> Option ((Bool × Unit) × Unit × Unit)) (vsameRows : LLI -> LLI -> Option ((Bool × Unit) × Unit × Unit)) (vsStates : LN -> LP -> LC -> LQ -> LP -> LLI -> Option ((LLI × Unit) × Unit × Unit)) (vcubeOf : List Bool -> Option ((LI × Unit) × Unit × Unit)) (vcInd : Int -> L2 -> L3 -> LT -> L3 -> Int -> LLI -> Option ((Int × Unit) × Unit × Unit)) : Option ((Bool × Unit) × Unit × Unit) :=
AD (vnet30) fun y0 =>
AD (vCompile y0.1.1.1 y0.1.1.2.1 y0.1.1.2.2.1 y0.1.1.2.2.2.1 y0.1.1.2.2.2.2.1) fun y1 =>
AD (vlBack y0.1.1.1 y0.1.1.2.1 y0.1.1.2.2.1 y0.1.1.2.2.2.1 y0.1.1.2.2.2.2.1 (ByteArray.mk #[48, 58, 32, 103, 111, 61, 49, 10, 49, 58, 32, 103, 111, 61, 48, 10])) fun y2 =>
AD (vlLits y0.1.1.1 y0.1.1.2.1 y0.1.1.2.2.1 y0.1.1.2.2.2.1 y0.1.1.2.2.2.2.1 y1.1.1.1 y1.1.1.2.1 y1.1.1.2.2.1 y1.1.1.2.2.2.1 y1.1.1.2.2.2.2.1 (ByteArray.mk #[126, 110, 91, 48, 93, 32, 124, 32, 110, 91, 49, 93])) fun y3 =>
AD (vRight15 y1.1.1.1 y1.1.1.2.1 y1.1.1.2.2.1 y1.1.1.2.2.2.1 y1.1.1.2.2.2.2.1) fun y4 =>
bif y4.1.1 then
bif bif true then y2.1.2.1 else false then
bif bif true then y3.1.2.1 else false then
AD (vsameRows y2.1.1 [[1], [0]]) fun y5 =>
bif bif true then y5.1.1 else false then
AD (vsameRows [y3.1.1] [[-1, 2]]) fun y6 =>
bif bif true then y6.1.1 else false then
AD (vsStates y0.1.1.1 y0.1.1.2.1 y0.1.1.2.2.1 y0.1.1.2.2.2.1 y0.1.1.2.2.2.2.1 y2.1.1) fun y7 =>
AD (vsameRows y7.1.1 [[0], [1], [1]]) fun y8 =>
bif bif true then y8.1.1 else false then
AD (vcubeOf [true, false]) fun y9 =>
AD (vsameRows [y9.1.1] [[1, -2]]) fun y10 =>
bif bif true then y10.1.1 else false then
AD (vcInd y1.1.1.1 y1.1.1.2.1 y1.1.1.2.2.1 y1.1.1.2.2.2.1 y1.1.1.2.2.2.2.1 1 []) fun y11 =>
some ((bif true then y11.1.1 == 0 else false, ()), (), ())
else
some ((false, ()), (), ())
else
some ((false, ()), (), ())
else
some ((false, ()), (), ())
else
some ((false, ()), (), ())
else
some ((false, ()), (), ())
else
some ((false, ()), (), ())
else
some ((false, ()), (), ())
def LK : Option ((Bool × Unit) × Unit × Unit) := AAP CS Da Qy HP Db HR Hx Ew AEF
def SS (vhead27 : Option ((Bool × Unit) × Unit × Unit)) (vfew27 : LN -> LP -> LC -> LQ -> LP -> Option ((Bool × Unit) × Unit × Unit)) (vunlike30 : LN -> LP -> LC -> LQ -> LP -> Option (((LN × LP × LC × LQ × LP × Unit) × Unit) × Unit × Unit)) (vCompile : LN -> LP -> LC -> LQ -> LP -> Option (((Int × L2 × L3 × LT × L3 × Unit) × Unit) × Unit × Unit)) (vRight15 : Int -> L2 -> L3 -> LT -> L3 -> Option ((Bool × Unit) × Unit × Unit)) (vstate15 : Int -> L2 -> L3 -> LT -> L3 -> LI -> Option ((List Bool × Unit) × Unit × Unit)) (vcells27 : LN -> LP -> LC -> LQ -> LP -> LI -> Option ((LI × Unit) × Unit × Unit)) (vcubeOf : List Bool -> Option ((LI × Unit) × Unit × Unit)) (vcubeClause : LI -> Option ((LI × Unit) × Unit × Unit)) (vlClause : LN -> LP -> LC -> LQ -> LP -> Int -> L2 -> L3 -> LT -> L3 -> LI -> Option ((ByteArray × Unit) × Unit × Unit)) (vlLits : LN -> LP -> LC -> LQ -> LP -> Int -> L2 -> L3 -> LT -> L3 -> ByteArray -> Option ((LI × Bool × Unit) × Unit × Unit)) (vmet26 : LLI -> List Bool -> Option ((Bool × Unit) × Unit × Unit)) (vsame8 : List Bool -> List Bool -> Option ((Bool × Unit) × Unit × Unit)) (vcHolds : LI -> List Bool -> Option ((Bool × Unit) × Unit × Unit)) (nn_ : LN) (ni : LP) (nc : LC) (np : LQ) (nm : LP) (one : LI) (two : LI) : Option ((Bool × Unit) × Unit × Unit) :=
AD (vhead27) fun y0 =>
AD (vfew27 nn_ ni nc np nm) fun y1 =>
bif !y1.1.1 then
some ((y0.1.1, ()), (), ())
else
bif bif false then true else nI nc.length == 0 then
some ((y0.1.1, ()), (), ())
else
AD (vunlike30 nn_ ni nc np nm) fun y2 =>
AD (vCompile y2.1.1.1 y2.1.1.2.1 y2.1.1.2.2.1 y2.1.1.2.2.2.1 y2.1.1.2.2.2.2.1) fun y3 =>
AD (vRight15 y3.1.1.1 y3.1.1.2.1 y3.1.1.2.2.1 y3.1.1.2.2.2.1 y3.1.1.2.2.2.2.1) fun y4 =>
bif !y4.1.1 then
some ((false, ()), (), ())
else
bif bif false then true else nI y3.1.1.2.2.2.1.length == 0 then
some ((false, ()), (), ())
else
AD (vcells27 y2.1.1.1 y2.1.1.2.1 y2.1.1.2.2.1 y2.1.1.2.2.2.1 y2.1.1.2.2.2.2.1 one) fun y5 =>
AD (vstate15 y3.1.1.1 y3.1.1.2.1 y3.1.1.2.2.1 y3.1.1.2.2.2.1 y3.1.1.2.2.2.2.1 y5.1.1) fun y6 =>
AD (vcells27 y2.1.1.1 y2.1.1.2.1 y2.1.1.2.2.1 y2.1.1.2.2.2.1 y2.1.1.2.2.2.2.1 two) fun y7 =>
AD (vstate15 y3.1.1.1 y3.1.1.2.1 y3.1.1.2.2.1 y3.1.1.2.2.2.1 y3.1.1.2.2.2.2.1 y7.1.1) fun y8 =>
AD (vcubeOf y6.1.1) fun y9 =>
AD (vcubeClause y9.1.1) fun y10 =>
AD (vlClause y2.1.1.1 y2.1.1.2.1 y2.1.1.2.2.1 y2.1.1.2.2.2.1 y2.1.1.2.2.2.2.1 y3.1.1.1 y3.1.1.2.1 y3.1.1.2.2.1 y3.1.1.2.2.2.1 y3.1.1.2.2.2.2.1 y10.1.1) fun y11 =>
AD (vlLits y2.1.1.1 y2.1.1.2.1 y2.1.1.2.2.1 y2.1.1.2.2.2.1 y2.1.1.2.2.2.2.1 y3.1.1.1 y3.1.1.2.1 y3.1.1.2.2.1 y3.1.1.2.2.2.1 y3.1.1.2.2.2.2.1 y11.1.1) fun y12 =>
bif y0.1.1 then
bif bif true then y12.1.2.1 else false then
AD (vmet26 [y12.1.1] y6.1.1) fun y13 =>
bif bif true then !y13.1.1 else false then
AD (vmet26 [y12.1.1] y8.1.1) fun y14 =>
AD (vsame8 y6.1.1 y8.1.1) fun y15 =>
bif bif true then y14.1.1 == !y15.1.1 else false then
AD (vcubeClause y12.1.1) fun y16 =>
AD (vcHolds y16.1.1 y6.1.1) fun y17 =>
some ((bif true then y17.1.1 else false, ()), (), ())
else
some ((false, ()), (), ())
else
some ((false, ()), (), ())
else
some ((false, ()), (), ())
else
some ((false, ()), (), ())
def TopOwn (nn_ : LN) (ni : LP) (nc : LC) (np : LQ) (nm : LP) (one : LI) (two : LI) : Option ((Bool × Unit) × Unit × Unit) := SS LK OT Ex Da Db GP GQ Ew C7 GS HP OE OG HQ nn_ ni nc np nm one two
end AL
end
section
set_option linter.unusedVariables false
set_option maxHeartbeats 0
set_option maxRecDepth 100000
namespace AL
open Go Go.Proofs
theorem fol : Tryz.prog.follows .mixedOrders = true := by kernel_rfl
abbrev OKs (T : FuncId -> Bo) : Prop := ∀ g, AT Tryz.prog g (T g)
def noL : Nat -> Option Af := fun _ => none
def noJ : Nat -> Option Shape := fun _ => none
theorem fn_A {S0 : FuncId -> Bo} (h : OKs S0) {f : FuncId} {fn : Func} (hf : Tryz.prog.funcs[f]? = some fn) {S : AG} {md : Md} {L : Nat -> Option Af} {J : Nat -> Option Shape} {m : S.args.ty.den -> (AY S.Aa).den -> Option S.oty.den} (he : ∀ xa xo, (S.prog (mkC Tryz.prog S0 md L J) fn xa xo).run = m xa xo)
 (hb : fn.body.isNone = false := by kernel_rfl) (hn : (fn.name == "runtime.NumGoroutine") = false := by kernel_rfl) (hc : Nat.ble S.args.count fn.ntmps = true := by kernel_rfl) : OKs (AH S0 f (S.AF m)) := AKl h fol hf hb hn hc he
def AEO : AG := ⟨.val int <| .nil, [], .val int <| .nil, []⟩
theorem size_eq : ∀  xa xo, (AEO.prog (mkC Tryz.prog noS ⟨false, false⟩ noL noJ) Tryz.f163 xa xo).run = size  xa.1 := by intros; kernel_rfl
noncomputable def Xn := AH noS 163 (AEO.AF (fun xa xo => size xa.1))
theorem ABU : OKs Xn := fn_A Nz Tryz.func163 size_eq
def AJA : AG := ⟨.val int <| .nil, [], .val int <| .nil, []⟩
theorem AJy : ∀  xa xo, (AJA.prog (mkC Tryz.prog Xn ⟨false, false⟩ noL noJ) Tryz.f165 xa xo).run = at_  xa.1 := by intros; kernel_rfl
noncomputable def AEP := AH Xn 165 (AJA.AF (fun xa xo => at_ xa.1))
theorem AEQ : OKs AEP := fn_A ABU Tryz.func165 AJy
def AAQ : AG := ⟨.obj 0 <| .val int <| .nil, [(186, .skip <| .skip <| .skip <| .AI (.sl int) <| .skip <| .skip <| .skip <| .skip <| .skip <| .skip <| .skip <| .skip <| .skip <| .skip <| .skip <| .skip <| .skip <| .skip <| .nil)], .val int <| .nil, []⟩
theorem AER : ∀  xa xo, (AAQ.prog (mkC Tryz.prog AEP ⟨false, false⟩ noL noJ) Tryz.f127 xa xo).run = value  xa.1 xo.1.1 := by intros; kernel_rfl
noncomputable def SU := AH AEP 127 (AAQ.AF (fun xa xo => value xa.1 xo.1.1))
theorem Xo : OKs SU := fn_A AEQ Tryz.func127 AER
def AES : AG := ⟨.obj 0 <| .val int <| .val int <| .nil, [(186, .skip <| .skip <| .skip <| .own 3 int <| .own 3 int <| .own 3 int <| .skip <| .skip <| .skip <| .skip <| .own 3 int <| .AI (.sl int) <| .skip <| .skip <| .skip <| .skip <| .skip <| .skip <| .nil)], .nil, []⟩
theorem AHW : ∀  xa xo, (AES.prog (mkC Tryz.prog SU ⟨false, false⟩ noL noJ) Tryz.f129 xa xo).run = R9  xa.1 xa.2.1 xo.1.1 xo.1.2.1 xo.1.2.2.1 xo.1.2.2.2.1 xo.1.2.2.2.2.1 := by intros; kernel_rfl
noncomputable def Xp := AH SU 129 (AES.AF (fun xa xo => R9 xa.1 xa.2.1 xo.1.1 xo.1.2.1 xo.1.2.2.1 xo.1.2.2.2.1 xo.1.2.2.2.2.1))
theorem ABV : OKs Xp := fn_A Xo Tryz.func129 AHW
def AET : AG := ⟨.obj 0 <| .val int <| .nil, [(186, .skip <| .skip <| .skip <| .own 3 int <| .skip <| .skip <| .own 3 int <| .skip <| .skip <| .val int <| .own 3 int <| .own 3 int <| .val int <| .skip <| .skip <| .skip <| .skip <| .skip <| .nil)], .nil, []⟩
def AJz (nn : Nat) : Nat -> Option Af := fun n =>
 bif Nat.beq n 3 then some ⟨{ env := [(29, .dat int)], heap := [(1, .box 186 ((ASh.opq 18).cons ((ASh.opq 19).cons ((ASh.opq 20).cons ((ASh.arr 21).cons ((ASh.opq 22).cons ((ASh.opq 23).cons ((ASh.arr 24).cons ((ASh.opq 25).cons ((ASh.opq 26).cons ((ASh.dat int).cons ((ASh.arr 28).cons ((ASh.arr 29).cons ((ASh.dat int).cons ((ASh.opq 31).cons ((ASh.opq 32).cons ((ASh.opq 33).cons ((ASh.opq 34).cons ((ASh.opq 35).cons ASh.nil))))))))))))))))))), (21, .arr 3 int), (24, .arr 3 int)], keep := [0, 1, 4, 27, 28], AN := [28, 29] }, fun _ => nn⟩ else
 none
theorem back_eq : ∀ (nn : Nat)  xa xo, (AET.prog (mkC Tryz.prog Xp ⟨false, false⟩ (AJz nn) noJ) Tryz.f126 xa xo).run = AIq nn xa.1 xo.1.1 xo.1.2.1 xo.1.2.2.1 xo.1.2.2.2.1 xo.1.2.2.2.2.1 xo.1.2.2.2.2.2.1 := by intros; kernel_rfl
noncomputable def Xq := AH Xp 126 (AET.AF (fun xa xo => back xa.1 xo.1.1 xo.1.2.1 xo.1.2.2.1 xo.1.2.2.2.1 xo.1.2.2.2.2.1 xo.1.2.2.2.2.2.1))
theorem ABW : OKs Xq := fn_A ABV Tryz.func126 (back_eq AK)
def AEU : AG := ⟨.obj 0 <| .Cr int <| .nil, [(186, .skip <| .Ch 43 3 int 17 <| .By 43 3 int <| .skip <| .skip <| .skip <| .skip <| .skip <| .skip <| .skip <| .skip <| .skip <| .skip <| .skip <| .skip <| .skip <| .skip <| .skip <| .nil)], .val int <| .nil, []⟩
theorem AHX : ∀  xa xo, (AEU.prog (mkC Tryz.prog Xq ⟨false, false⟩ noL noJ) Tryz.f130 xa xo).run = keep  xa.1 xo.1.1 xo.1.2.1 xo.1.2.2.1 := by intros; kernel_rfl
noncomputable def Xr := AH Xq 130 (AEU.AF (fun xa xo => keep xa.1 xo.1.1 xo.1.2.1 xo.1.2.2.1))
theorem ABX : OKs Xr := fn_A ABW Tryz.func130 AHX
end AL
end
section
set_option linter.unusedVariables false
set_option maxHeartbeats 0
set_option maxRecDepth 100000
namespace AL
open Go Go.Proofs
def VK : AG := ⟨.obj 0 <| .nil, [(186, .skip <| .skip <| .skip <| .skip <| .skip <| .skip <| .skip <| .skip <| .skip <| .skip <| .skip <| .skip <| .skip <| .skip <| .skip <| .val int <| .own 3 int <| .own 4 .bool <| .nil)], .nil, []⟩
theorem ABY : ∀  xa xo, (VK.prog (mkC Tryz.prog Xr ⟨false, false⟩ noL noJ) Tryz.f124 xa xo).run = forget  xo.1.1 xo.1.2.1 xo.1.2.2.1 := by intros; kernel_rfl
noncomputable def OU := AH Xr 124 (VK.AF (fun xa xo => forget xo.1.1 xo.1.2.1 xo.1.2.2.1))
theorem VL : OKs OU := fn_A ABX Tryz.func124 ABY
def AEV : AG := ⟨.val int <| .obj 0 <| .nil, [(162, .obj 1 <| .nil), (186, .val int <| .skip <| .skip <| .skip <| .skip <| .skip <| .skip <| .skip <| .skip <| .skip <| .skip <| .skip <| .skip <| .skip <| .skip <| .skip <| .skip <| .skip <| .nil)], .val .bool <| .nil, []⟩
theorem AHY : ∀  xa xo, (AEV.prog (mkC Tryz.prog OU ⟨false, false⟩ noL noJ) Tryz.f162 xa xo).run = AJp  xa.1 xo.2.1.1 := by intros; kernel_rfl
noncomputable def Xs := AH OU 162 (AEV.AF (fun xa xo => AJp xa.1 xo.2.1.1))
theorem ABZ : OKs Xs := fn_A VL Tryz.func162 AHY
def Gh : AG := ⟨.val (.sl int) <| .clo 162 (.obj 0 <| .nil) <| .nil, [(162, .obj 1 <| .nil), (186, .val int <| .skip <| .skip <| .skip <| .skip <| .skip <| .skip <| .skip <| .skip <| .skip <| .skip <| .skip <| .skip <| .skip <| .skip <| .skip <| .skip <| .skip <| .nil)], .val int <| .nil, []⟩
def Mk (nn : Nat) : Nat -> Option Af := fun n =>
 bif Nat.beq n 2 then some ⟨{ env := [(8, .dat int)], heap := [(1, .box 162 ((ASh.ref 2 0).cons ASh.nil)), (2, .box 186 ((ASh.dat int).cons ((ASh.opq 20).cons ((ASh.opq 21).cons ((ASh.opq 22).cons ((ASh.opq 23).cons ((ASh.opq 24).cons ((ASh.opq 25).cons ((ASh.opq 26).cons ((ASh.opq 27).cons ((ASh.opq 28).cons ((ASh.opq 29).cons ((ASh.opq 30).cons ((ASh.opq 31).cons ((ASh.opq 32).cons ((ASh.opq 33).cons ((ASh.opq 34).cons ((ASh.opq 35).cons ((ASh.opq 36).cons ASh.nil)))))))))))))))))))], keep := [0, 1, 4, 7], AN := [] }, fun _ => nn⟩ else
 none
theorem LL : ∀ (nn : Nat)  xa xo, (Gh.prog (mkC Tryz.prog Xs ⟨false, false⟩ (Mk nn) noJ) Tryz.f95 xa xo).run = HM nn xa.1 xo.2.1.1 := by intros; kernel_rfl
noncomputable def EF := AH Xs 95 (Gh.AF (fun xa xo => IQ xa.1 xo.2.1.1))
theorem JD : OKs EF := fn_A ABZ Tryz.func95 (LL AK)
def Ey : AG := ⟨.val (.sl int) <| .clo 162 (.obj 0 <| .nil) <| .nil, [(162, .obj 1 <| .nil), (186, .val int <| .skip <| .skip <| .skip <| .skip <| .skip <| .skip <| .skip <| .skip <| .skip <| .skip <| .skip <| .skip <| .skip <| .skip <| .skip <| .skip <| .skip <| .nil)], .val .bool <| .nil, []⟩
theorem H8 : ∀  xa xo, (Ey.prog (mkC Tryz.prog EF ⟨false, false⟩ noL noJ) Tryz.f45 xa xo).run = Dn  xa.1 xo.2.1.1 := by intros; kernel_rfl
noncomputable def C9 := AH EF 45 (Ey.AF (fun xa xo => Dn xa.1 xo.2.1.1))
theorem Gl : OKs C9 := fn_A JD Tryz.func45 H8
def AJB : AG := ⟨.obj 0 <| .val (.sl int) <| .nil, [(186, .val int <| .skip <| .skip <| .skip <| .skip <| .skip <| .skip <| .skip <| .skip <| .skip <| .skip <| .skip <| .skip <| .skip <| .skip <| .skip <| .skip <| .skip <| .nil)], .val .bool <| .nil, []⟩
theorem AJ0 : ∀  xa xo, (AJB.prog (mkC Tryz.prog C9 ⟨false, false⟩ noL noJ) Tryz.f125 xa xo).run = own  xa.1 xo.1.1 := by intros; kernel_rfl
noncomputable def AEW := AH C9 125 (AJB.AF (fun xa xo => own xa.1 xo.1.1))
theorem AEX : OKs AEW := fn_A Gl Tryz.func125 AJ0
def VM : AG := ⟨.AI (.sl int) <| .val int <| .nil, [], .val int <| .nil, []⟩
def AEY (nn : Nat) : Nat -> Option Af := fun n =>
 bif Nat.beq n 2 then some ⟨{ env := [(8, .dat int)], heap := [], keep := [0, 1, 4, 7], AN := [] }, fun _ => nn⟩ else
 none
theorem ABa : ∀ (nn : Nat)  xa xo, (VM.prog (mkC Tryz.prog AEW ⟨false, false⟩ (AEY nn) noJ) Tryz.f164 xa xo).run = Z8 nn xa.1 xa.2.1 := by intros; kernel_rfl
noncomputable def OV := AH AEW 164 (VM.AF (fun xa xo => ADv xa.1 xa.2.1))
theorem VN : OKs OV := fn_A AEX Tryz.func164 (ABa AK)
def ME : AG := ⟨.AI (.sl int) <| .val int <| .nil, [], .val .bool <| .nil, []⟩
theorem SV : ∀  xa xo, (ME.prog (mkC Tryz.prog OV ⟨false, false⟩ noL noJ) Tryz.f128 xa xo).run = EX  xa.1 xa.2.1 := by intros; kernel_rfl
noncomputable def HS := AH OV 128 (ME.AF (fun xa xo => EX xa.1 xa.2.1))
theorem OW : OKs HS := fn_A VN Tryz.func128 SV
def AEZ : AG := ⟨.obj 0 <| .nil, [(186, .val int <| .skip <| .skip <| .AI (.sl int) <| .skip <| .skip <| .AI (.sl int) <| .AI (.sl int) <| .AI (.sl int) <| .val int <| .skip <| .skip <| .skip <| .skip <| .skip <| .skip <| .skip <| .skip <| .nil)], .val int <| .nil, []⟩
def AJ1 (nn : Nat) : Nat -> Option Af := fun n =>
 bif Nat.beq n 3 then some ⟨{ env := [(3, .dat int), (11, .dat int)], heap := [], keep := [0, 2, 9, 10], AN := [1] }, fun _ => nn⟩ else
 bif Nat.beq n 8 then some ⟨{ env := [(3, .dat int)], heap := [(1, .box 186 ((ASh.dat int).cons ((ASh.opq 18).cons ((ASh.opq 19).cons ((ASh.idn 20 int.sl).cons ((ASh.opq 21).cons ((ASh.opq 22).cons ((ASh.idn 23 int.sl).cons ((ASh.idn 24 int.sl).cons ((ASh.idn 25 int.sl).cons ((ASh.dat int).cons ((ASh.opq 27).cons ((ASh.opq 28).cons ((ASh.opq 29).cons ((ASh.opq 30).cons ((ASh.opq 31).cons ((ASh.opq 32).cons ((ASh.opq 33).cons ((ASh.opq 34).cons ASh.nil)))))))))))))))))))], keep := [0, 2, 9, 10, 11], AN := [] }, fun _ => nn⟩ else
 none
theorem AHZ : ∀ (nn : Nat)  xa xo, (AEZ.prog (mkC Tryz.prog HS ⟨false, false⟩ (AJ1 nn) noJ) Tryz.f169 xa xo).run = AIr nn xo.1.1 xo.1.2.1 xo.1.2.2.1 xo.1.2.2.2.1 xo.1.2.2.2.2.1 xo.1.2.2.2.2.2.1 := by intros; kernel_rfl
noncomputable def SW := AH HS 169 (AEZ.AF (fun xa xo => pick xo.1.1 xo.1.2.1 xo.1.2.2.1 xo.1.2.2.2.1 xo.1.2.2.2.2.1 xo.1.2.2.2.2.2.1))
theorem ABb : OKs SW := fn_A OW Tryz.func169 (AHZ AK)
def Ez : AG := ⟨.AI (.sl int) <| .nil, [], .own 3 int <| .nil, []⟩
theorem ABc (s : LI) (y : Ez.oty.den) : Ez.Qm (mkC Tryz.prog SW ⟨false, false⟩ (fun _ => none) (fun _ => none)) Tryz.f66 (s, ()) () y =
 ((s = [] -> some (([], ()), (), ()) = some y) /\ (([] : LI).length + s.length) * 8 <= lim /\ ([] : LI).length + s.length <= lim /\ some (([] ++ s, ()), (), ()) = some y) := by kernel_rfl
theorem ABd (xa : Ez.args.ty.den) (xo : (AY Ez.Aa).den) (y : Ez.oty.den) (h : Ev xa.1 = some y) : Ez.Qm (mkC Tryz.prog SW ⟨false, false⟩ (fun _ => none) (fun _ => none)) Tryz.f66 xa xo y := by
 have e := ABc xa.1 y
 refine e.mpr ?_
 unfold Ev at h
 obtain ⟨h1, h⟩ := Hw.1 h
 obtain ⟨h2, h⟩ := Hw.1 h
 refine ⟨fun hs => ?_, h1, h2, ?_⟩
 ·rw [hs] at h; exact h
 ·exact h
noncomputable def OX := AH SW 66 (Ez.AF (fun xa xo => Ev xa.1))
theorem VO : OKs OX := U6 ABb fol Tryz.func66 (by kernel_rfl) (by kernel_rfl) (by kernel_rfl) ABd
end AL
end
section
set_option linter.unusedVariables false
set_option maxHeartbeats 0
set_option maxRecDepth 100000
namespace AL
open Go Go.Proofs
def AEa : AG := ⟨.own 3 int <| .val int <| .nil, [], .own 3 int <| .nil, []⟩
theorem AHa : ∀  xa xo, (AEa.prog (mkC Tryz.prog OX ⟨false, false⟩ noL noJ) Tryz.f161 xa xo).run = more  xa.1 xa.2.1 := by intros; kernel_rfl
noncomputable def Xt := AH OX 161 (AEa.AF (fun xa xo => more xa.1 xa.2.1))
theorem ABe : OKs Xt := fn_A VO Tryz.func161 AHa
def AEb : AG := ⟨.obj 0 <| .val int <| .nil, [(186, .val int <| .skip <| .By 43 3 int <| .own 3 int <| .own 3 int <| .own 3 int <| .own 3 int <| .own 3 int <| .skip <| .skip <| .skip <| .skip <| .skip <| .skip <| .skip <| .skip <| .skip <| .skip <| .nil)], .nil, []⟩
theorem AHb : ∀  xa xo, (AEb.prog (mkC Tryz.prog Xt ⟨false, false⟩ noL noJ) Tryz.f123 xa xo).run = grow  xa.1 xo.1.1 xo.1.2.1 xo.1.2.2.1 xo.1.2.2.2.1 xo.1.2.2.2.2.1 xo.1.2.2.2.2.2.1 xo.1.2.2.2.2.2.2.1 := by intros; kernel_rfl
noncomputable def Xu := AH Xt 123 (AEb.AF (fun xa xo => grow xa.1 xo.1.1 xo.1.2.1 xo.1.2.2.1 xo.1.2.2.2.1 xo.1.2.2.2.2.1 xo.1.2.2.2.2.2.1 xo.1.2.2.2.2.2.2.1))
theorem ABf : OKs Xu := fn_A ABe Tryz.func123 AHb
def AJC : AG := ⟨.val int <| .nil, [], .obj 0 <| .nil, [(186, .val int <| .By 43 3 int <| .By 43 3 int <| .own 3 int <| .own 3 int <| .own 3 int <| .own 3 int <| .own 3 int <| .own 3 int <| .val int <| .own 3 int <| .own 3 int <| .val int <| .val .bool <| .own 43 (.sl int) <| .val int <| .own 3 int <| .own 4 .bool <| .nil)]⟩
theorem AJ2 : ∀  xa xo, (AJC.prog (mkC Tryz.prog Xu ⟨false, false⟩ noL noJ) Tryz.f101 xa xo).run = New  xa.1 := by intros; kernel_rfl
noncomputable def AEc := AH Xu 101 (AJC.AF (fun xa xo => New xa.1))
theorem AEd : OKs AEc := fn_A ABf Tryz.func101 AJ2
def AJD : AG := ⟨.obj 0 <| .val (.sl int) <| .nil, [(186, .val int <| .By 43 3 int <| .By 43 3 int <| .own 3 int <| .own 3 int <| .own 3 int <| .own 3 int <| .skip <| .skip <| .val int <| .own 3 int <| .own 3 int <| .val int <| .val .bool <| .skip <| .val int <| .own 3 int <| .own 4 .bool <| .nil)], .nil, []⟩
def AKw (nn : Nat) : Nat -> Option Af := fun n =>
 bif Nat.beq n 5 then some ⟨{ env := [(4, .arr 49), (17, .dat int)], heap := [(1, .box 186 ((ASh.dat int).cons ((ASh.arr 19).cons ((ASh.arr 20).cons ((ASh.arr 533).cons ((ASh.arr 22).cons ((ASh.arr 23).cons ((ASh.arr 536).cons ((ASh.opq 25).cons ((ASh.opq 26).cons ((ASh.dat int).cons ((ASh.arr 540).cons ((ASh.arr 541).cons ((ASh.dat int).cons ((ASh.dat Ty.bool).cons ((ASh.opq 32).cons ((ASh.dat int).cons ((ASh.arr 161).cons ((ASh.arr 162).cons ASh.nil))))))))))))))))))), (49, .arr 3 int)], keep := [0, 1, 15, 16], AN := [19, 20, 533, 22, 23, 536, 540, 541, 161, 162] }, fun _ => nn⟩ else
 none
theorem AJ3 : ∀ (nn : Nat)  xa xo, (AJD.prog (mkC Tryz.prog AEc ⟨false, false⟩ (AKw nn) noJ) Tryz.f103 xa xo).run = AKm nn xa.1 xo.1.1 xo.1.2.1 xo.1.2.2.1 xo.1.2.2.2.1 xo.1.2.2.2.2.1 xo.1.2.2.2.2.2.1 xo.1.2.2.2.2.2.2.1 xo.1.2.2.2.2.2.2.2.1 xo.1.2.2.2.2.2.2.2.2.1 xo.1.2.2.2.2.2.2.2.2.2.1 xo.1.2.2.2.2.2.2.2.2.2.2.1 xo.1.2.2.2.2.2.2.2.2.2.2.2.1 xo.1.2.2.2.2.2.2.2.2.2.2.2.2.1 xo.1.2.2.2.2.2.2.2.2.2.2.2.2.2.1 xo.1.2.2.2.2.2.2.2.2.2.2.2.2.2.2.1 := by intros; kernel_rfl
noncomputable def AEe := AH AEc 103 (AJD.AF (fun xa xo => Add xa.1 xo.1.1 xo.1.2.1 xo.1.2.2.1 xo.1.2.2.2.1 xo.1.2.2.2.2.1 xo.1.2.2.2.2.2.1 xo.1.2.2.2.2.2.2.1 xo.1.2.2.2.2.2.2.2.1 xo.1.2.2.2.2.2.2.2.2.1 xo.1.2.2.2.2.2.2.2.2.2.1 xo.1.2.2.2.2.2.2.2.2.2.2.1 xo.1.2.2.2.2.2.2.2.2.2.2.2.1 xo.1.2.2.2.2.2.2.2.2.2.2.2.2.1 xo.1.2.2.2.2.2.2.2.2.2.2.2.2.2.1 xo.1.2.2.2.2.2.2.2.2.2.2.2.2.2.2.1))
theorem AEf : OKs AEe := fn_A AEd Tryz.func103 (AJ3 AK)
def AEg : AG := ⟨.obj 0 <| .nil, [(186, .skip <| .skip <| .skip <| .skip <| .skip <| .skip <| .skip <| .skip <| .skip <| .skip <| .skip <| .skip <| .skip <| .skip <| .skip <| .skip <| .AI (.sl int) <| .skip <| .nil)], .own 3 int <| .nil, []⟩
theorem AHc : ∀  xa xo, (AEg.prog (mkC Tryz.prog AEe ⟨false, false⟩ noL noJ) Tryz.f107 xa xo).run = Core  xo.1.1 := by intros; kernel_rfl
noncomputable def Xv := AH AEe 107 (AEg.AF (fun xa xo => Core xo.1.1))
theorem ABg : OKs Xv := fn_A AEf Tryz.func107 AHc
def AAR : AG := ⟨.obj 0 <| .nil, [(186, .skip <| .skip <| .skip <| .skip <| .skip <| .skip <| .skip <| .skip <| .skip <| .skip <| .skip <| .skip <| .skip <| .skip <| .own 43 (.sl int) <| .val int <| .skip <| .skip <| .nil)], .own 43 (.sl int) <| .nil, []⟩
def AHd (nn : Nat) : Nat -> Option Af := fun n =>
 bif Nat.beq n 5 then some ⟨{ env := [(3, .arr 49), (16, .dat int)], heap := [(49, .arr 43 int.sl)], keep := [0, 2, 14, 15], AN := [1, 31] }, fun _ => nn⟩ else
 none
theorem AEh : ∀ (nn : Nat)  xa xo, (AAR.prog (mkC Tryz.prog Xv ⟨false, false⟩ (AHd nn) noJ) Tryz.f106 xa xo).run = ADw nn xo.1.1 xo.1.2.1 := by intros; kernel_rfl
noncomputable def SX := AH Xv 106 (AAR.AF (fun xa xo => Proof xo.1.1 xo.1.2.1))
theorem Xw : OKs SX := fn_A ABg Tryz.func106 (AEh AK)
def AAS : AG := ⟨.obj 0 <| .val int <| .nil, [(186, .skip <| .By 43 3 int <| .skip <| .skip <| .skip <| .AI (.sl int) <| .skip <| .skip <| .skip <| .skip <| .AI (.sl int) <| .AI (.sl int) <| .skip <| .skip <| .skip <| .skip <| .skip <| .skip <| .nil)], .own 3 int <| .nil, []⟩
def AHe (nn : Nat) : Nat -> Option Af := fun n =>
 bif Nat.beq n 4 then some ⟨{ env := [(7, .dat int), (5, .arr 192)], heap := [(19, .BC 43 3 int []), (192, .arr 3 int), (192, .arr 3 int), (320, .mp int Ty.bool)], keep := [0, 1, 4, 6], AN := [1] }, fun _ => nn⟩ else
 bif Nat.beq n 11 then some ⟨{ env := [(85, .dat int)], heap := [(320, .mp int Ty.bool)], keep := [0, 1, 4, 5, 6, 7, 8, 83, 84], AN := [1, 19, 4672, 192] }, fun _ => nn⟩ else
 none
theorem AEi : ∀ (nn : Nat)  xa xo, (AAS.prog (mkC Tryz.prog SX ⟨false, false⟩ (AHe nn) noJ) Tryz.f168 xa xo).run = ADx nn xa.1 xo.1.1 xo.1.2.1 xo.1.2.2.1 xo.1.2.2.2.1 := by intros; kernel_rfl
noncomputable def SY := AH SX 168 (AAS.AF (fun xa xo => AIs xa.1 xo.1.1 xo.1.2.1 xo.1.2.2.1 xo.1.2.2.2.1))
theorem Xx : OKs SY := fn_A Xw Tryz.func168 (AEi AK)
def AAT : AG := ⟨.obj 0 <| .val int <| .nil, [(186, .skip <| .By 43 3 int <| .skip <| .AI (.sl int) <| .AI (.sl int) <| .AI (.sl int) <| .skip <| .own 3 int <| .own 3 int <| .skip <| .AI (.sl int) <| .AI (.sl int) <| .skip <| .skip <| .skip <| .skip <| .skip <| .skip <| .nil)], .own 3 int <| .val int <| .nil, []⟩
def AHf (nn : Nat) : Nat -> Option Af := fun n =>
 bif Nat.beq n 5 then some ⟨{ env := [(7, .arr 320), (8, .dat int), (9, .dat int), (10, .arr 1280)], heap := [(1, .box 186 ((ASh.opq 18).cons ((ASh.arr 19).cons ((ASh.opq 20).cons ((ASh.idn 21 int.sl).cons ((ASh.idn 22 int.sl).cons ((ASh.idn 23 int.sl).cons ((ASh.opq 24).cons ((ASh.arr 25).cons ((ASh.arr 26).cons ((ASh.opq 27).cons ((ASh.idn 28 int.sl).cons ((ASh.idn 29 int.sl).cons ((ASh.opq 30).cons ((ASh.opq 31).cons ((ASh.opq 32).cons ((ASh.opq 33).cons ((ASh.opq 34).cons ((ASh.opq 35).cons ASh.nil))))))))))))))))))), (19, .BC 43 3 int [1280]), (1280, .arr 3 int), (1280, .arr 3 int), (25, .arr 3 int), (26, .arr 3 int), (192, .mp int Ty.bool), (320, .arr 3 int)], keep := [0, 1, 4, 5, 6], AN := [] }, fun _ => nn⟩ else
 bif Nat.beq n 6 then some ⟨{ env := [(34, .dat int), (8, .dat int), (7, .arr 320)], heap := [(1, .box 186 ((ASh.opq 18).cons ((ASh.arr 19).cons ((ASh.opq 20).cons ((ASh.idn 21 int.sl).cons ((ASh.idn 22 int.sl).cons ((ASh.idn 23 int.sl).cons ((ASh.opq 24).cons ((ASh.arr 25).cons ((ASh.arr 26).cons ((ASh.opq 27).cons ((ASh.idn 28 int.sl).cons ((ASh.idn 29 int.sl).cons ((ASh.opq 30).cons ((ASh.opq 31).cons ((ASh.opq 32).cons ((ASh.opq 33).cons ((ASh.opq 34).cons ((ASh.opq 35).cons ASh.nil))))))))))))))))))), (25, .arr 3 int), (26, .arr 3 int), (192, .mp int Ty.bool), (320, .arr 3 int), (320, .arr 3 int)], keep := [0, 1, 4, 5, 6, 9, 10, 32, 33], AN := [19, 1280] }, fun _ => nn⟩ else
 bif Nat.beq n 19 then some ⟨{ env := [(9, .dat int)], heap := [], keep := [0, 1, 4, 5, 6, 7, 8, 10, 32, 33, 34], AN := [1, 19, 1280, 25, 26, 192, 320] }, fun _ => nn⟩ else
 bif Nat.beq n 28 then some ⟨{ env := [(15, .dat int), (16, .dat int)], heap := [(320, .arr 3 int)], keep := [0, 1, 4, 5, 6, 7, 8, 9, 10, 14, 32, 33, 34], AN := [1, 19, 1280, 25, 26, 192] }, fun _ => nn⟩ else
 none
theorem AEj : ∀ (nn : Nat)  xa xo, (AAT.prog (mkC Tryz.prog SY ⟨false, true⟩ (AHf nn) noJ) Tryz.f223 xa xo).run = ADy nn xa.1 xo.1.1 xo.1.2.1 xo.1.2.2.1 xo.1.2.2.2.1 xo.1.2.2.2.2.1 xo.1.2.2.2.2.2.1 xo.1.2.2.2.2.2.2.1 xo.1.2.2.2.2.2.2.2.1 := by intros; kernel_rfl
noncomputable def SZ := AH SY 223 (AAT.AF (fun xa xo => AIt xa.1 xo.1.1 xo.1.2.1 xo.1.2.2.1 xo.1.2.2.2.1 xo.1.2.2.2.2.1 xo.1.2.2.2.2.2.1 xo.1.2.2.2.2.2.2.1 xo.1.2.2.2.2.2.2.2.1))
theorem Xy : OKs SZ := fn_A Xx Tryz.func223 (AEj AK)
def AEk : AG := ⟨.obj 0 <| .nil, [(186, .skip <| .By 43 3 int <| .By 43 3 int <| .own 3 int <| .own 3 int <| .own 3 int <| .skip <| .skip <| .skip <| .skip <| .own 3 int <| .AI (.sl int) <| .val int <| .skip <| .skip <| .skip <| .skip <| .skip <| .nil)], .val int <| .nil, []⟩
def AJ4 (nn : Nat) : Nat -> Option Af := fun n =>
 bif Nat.beq n 1 then some ⟨{ env := [], heap := [(1, .box 186 ((ASh.opq 17).cons ((ASh.arr 18).cons ((ASh.arr 19).cons ((ASh.arr 20).cons ((ASh.arr 21).cons ((ASh.arr 22).cons ((ASh.opq 23).cons ((ASh.opq 24).cons ((ASh.opq 25).cons ((ASh.opq 26).cons ((ASh.arr 27).cons ((ASh.idn 28 int.sl).cons ((ASh.dat int).cons ((ASh.opq 30).cons ((ASh.opq 31).cons ((ASh.opq 32).cons ((ASh.opq 33).cons ((ASh.opq 34).cons ASh.nil))))))))))))))))))), (18, .BC 43 3 int []), (19, .BC 43 3 int []), (20, .arr 3 int), (21, .arr 3 int), (22, .arr 3 int), (27, .arr 3 int)], keep := [0, 2], AN := [] }, fun _ => nn⟩ else
 bif Nat.beq n 7 then some ⟨{ env := [(5, .dat int), (48, .dat int)], heap := [(1, .box 186 ((ASh.opq 17).cons ((ASh.arr 18).cons ((ASh.arr 19).cons ((ASh.arr 20).cons ((ASh.arr 21).cons ((ASh.arr 22).cons ((ASh.opq 23).cons ((ASh.opq 24).cons ((ASh.opq 25).cons ((ASh.opq 26).cons ((ASh.arr 27).cons ((ASh.idn 28 int.sl).cons ((ASh.dat int).cons ((ASh.opq 30).cons ((ASh.opq 31).cons ((ASh.opq 32).cons ((ASh.opq 33).cons ((ASh.opq 34).cons ASh.nil))))))))))))))))))), (18, .BC 43 3 int []), (19, .BC 43 3 int [2496]), (2496, .arr 3 int), (20, .arr 3 int), (21, .arr 3 int), (22, .arr 3 int), (27, .arr 3 int)], keep := [0, 2, 3, 4, 46, 47], AN := [] }, fun _ => nn⟩ else
 bif Nat.beq n 16 then some ⟨{ env := [(9, .dat int)], heap := [(1, .box 186 ((ASh.opq 17).cons ((ASh.arr 18).cons ((ASh.arr 19).cons ((ASh.arr 20).cons ((ASh.arr 21).cons ((ASh.arr 22).cons ((ASh.opq 23).cons ((ASh.opq 24).cons ((ASh.opq 25).cons ((ASh.opq 26).cons ((ASh.arr 27).cons ((ASh.idn 28 int.sl).cons ((ASh.dat int).cons ((ASh.opq 30).cons ((ASh.opq 31).cons ((ASh.opq 32).cons ((ASh.opq 33).cons ((ASh.opq 34).cons ASh.nil)))))))))))))))))))], keep := [0, 2, 3, 4, 5, 6, 7, 8, 46, 47, 48], AN := [18, 3648, 19, 2496, 20, 21, 22, 27] }, fun _ => nn⟩ else
 none
def AJ5 : Nat -> Option Shape := fun n =>
 bif Nat.beq n 12 then some ({ env := [], heap := [(3648, .arr 3 int)], keep := [0, 2, 3, 4, 5, 6, 7, 8, 46, 47, 48], AN := [1, 18, 19, 2496, 20, 21, 22, 27] }) else
 bif Nat.beq n 21 then some ({ env := [(9, .dat int)], heap := [(1, .box 186 ((ASh.opq 17).cons ((ASh.arr 18).cons ((ASh.arr 19).cons ((ASh.arr 20).cons ((ASh.arr 21).cons ((ASh.arr 22).cons ((ASh.opq 23).cons ((ASh.opq 24).cons ((ASh.opq 25).cons ((ASh.opq 26).cons ((ASh.arr 27).cons ((ASh.idn 28 int.sl).cons ((ASh.dat int).cons ((ASh.opq 30).cons ((ASh.opq 31).cons ((ASh.opq 32).cons ((ASh.opq 33).cons ((ASh.opq 34).cons ASh.nil)))))))))))))))))))], keep := [0, 2, 3, 4, 5, 6, 7, 8, 46, 47, 48], AN := [18, 3648, 19, 2496, 20, 21, 22, 27] }) else
 bif Nat.beq n 29 then some ({ env := [(5, .dat int), (46, .arr 2496), (47, .dat int), (48, .dat int)], heap := [(1, .box 186 ((ASh.opq 17).cons ((ASh.arr 18).cons ((ASh.arr 19).cons ((ASh.arr 20).cons ((ASh.arr 21).cons ((ASh.arr 22).cons ((ASh.opq 23).cons ((ASh.opq 24).cons ((ASh.opq 25).cons ((ASh.opq 26).cons ((ASh.arr 27).cons ((ASh.idn 28 int.sl).cons ((ASh.dat int).cons ((ASh.opq 30).cons ((ASh.opq 31).cons ((ASh.opq 32).cons ((ASh.opq 33).cons ((ASh.opq 34).cons ASh.nil))))))))))))))))))), (18, .BC 43 3 int []), (19, .BC 43 3 int [2496]), (2496, .arr 3 int), (20, .arr 3 int), (21, .arr 3 int), (22, .arr 3 int), (27, .arr 3 int)], keep := [0, 2, 3, 4], AN := [] }) else
 none
theorem unit_eq : ∀ (nn : Nat)  xa xo, (AEk.prog (mkC Tryz.prog SZ ⟨false, false⟩ (AJ4 nn) AJ5) Tryz.f166 xa xo).run = AIu nn xo.1.1 xo.1.2.1 xo.1.2.2.1 xo.1.2.2.2.1 xo.1.2.2.2.2.1 xo.1.2.2.2.2.2.1 xo.1.2.2.2.2.2.2.1 xo.1.2.2.2.2.2.2.2.1 := by intros; kernel_rfl
noncomputable def Xz := AH SZ 166 (AEk.AF (fun xa xo => unit xo.1.1 xo.1.2.1 xo.1.2.2.1 xo.1.2.2.2.1 xo.1.2.2.2.2.1 xo.1.2.2.2.2.2.1 xo.1.2.2.2.2.2.2.1 xo.1.2.2.2.2.2.2.2.1))
theorem ABh : OKs Xz := fn_A Xy Tryz.func166 (unit_eq AK)
end AL
end
section
set_option linter.unusedVariables false
set_option maxHeartbeats 0
set_option maxRecDepth 100000
namespace AL
open Go Go.Proofs
def AEl : AG := ⟨.obj 0 <| .val int <| .nil, [(186, .skip <| .By 43 3 int <| .By 43 3 int <| .own 3 int <| .own 3 int <| .own 3 int <| .own 3 int <| .own 3 int <| .own 3 int <| .val int <| .own 3 int <| .own 3 int <| .val int <| .skip <| .own 43 (.sl int) <| .skip <| .skip <| .skip <| .nil)], .nil, []⟩
theorem AHg : ∀  xa xo, (AEl.prog (mkC Tryz.prog Xz ⟨false, false⟩ noL noJ) Tryz.f167 xa xo).run = take  xa.1 xo.1.1 xo.1.2.1 xo.1.2.2.1 xo.1.2.2.2.1 xo.1.2.2.2.2.1 xo.1.2.2.2.2.2.1 xo.1.2.2.2.2.2.2.1 xo.1.2.2.2.2.2.2.2.1 xo.1.2.2.2.2.2.2.2.2.1 xo.1.2.2.2.2.2.2.2.2.2.1 xo.1.2.2.2.2.2.2.2.2.2.2.1 xo.1.2.2.2.2.2.2.2.2.2.2.2.1 xo.1.2.2.2.2.2.2.2.2.2.2.2.2.1 := by intros; kernel_rfl
noncomputable def X0 := AH Xz 167 (AEl.AF (fun xa xo => take xa.1 xo.1.1 xo.1.2.1 xo.1.2.2.1 xo.1.2.2.2.1 xo.1.2.2.2.2.1 xo.1.2.2.2.2.2.1 xo.1.2.2.2.2.2.2.1 xo.1.2.2.2.2.2.2.2.1 xo.1.2.2.2.2.2.2.2.2.1 xo.1.2.2.2.2.2.2.2.2.2.1 xo.1.2.2.2.2.2.2.2.2.2.2.1 xo.1.2.2.2.2.2.2.2.2.2.2.2.1 xo.1.2.2.2.2.2.2.2.2.2.2.2.2.1))
theorem ABi : OKs X0 := fn_A ABh Tryz.func167 AHg
def VP : AG := ⟨.obj 0 <| .val (.sl int) <| .val int <| .nil, [(186, .val int <| .By 43 3 int <| .By 43 3 int <| .own 3 int <| .own 3 int <| .own 3 int <| .own 3 int <| .own 3 int <| .own 3 int <| .val int <| .own 3 int <| .own 3 int <| .val int <| .val .bool <| .own 43 (.sl int) <| .skip <| .own 3 int <| .skip <| .nil)], .val int <| .nil, []⟩
def AEm (nn : Nat) : Nat -> Option Af := fun n =>
 bif Nat.beq n 2 then some ⟨{ env := [(7, .dat int)], heap := [(1, .box 186 ((ASh.dat int).cons ((ASh.arr 20).cons ((ASh.arr 21).cons ((ASh.arr 22).cons ((ASh.arr 23).cons ((ASh.arr 24).cons ((ASh.arr 25).cons ((ASh.arr 26).cons ((ASh.arr 27).cons ((ASh.dat int).cons ((ASh.arr 29).cons ((ASh.arr 30).cons ((ASh.dat int).cons ((ASh.dat Ty.bool).cons ((ASh.arr 33).cons ((ASh.opq 34).cons ((ASh.arr 35).cons ((ASh.opq 36).cons ASh.nil))))))))))))))))))), (20, .BC 43 3 int []), (21, .BC 43 3 int []), (22, .arr 3 int), (23, .arr 3 int), (24, .arr 3 int), (25, .arr 3 int), (26, .arr 3 int), (27, .arr 3 int), (29, .arr 3 int), (30, .arr 3 int), (33, .arr 43 int.sl)], keep := [0, 1, 2, 6], AN := [35] }, fun _ => nn⟩ else
 bif Nat.beq n 12 then some ⟨{ env := [], heap := [(1, .box 186 ((ASh.dat int).cons ((ASh.arr 274).cons ((ASh.arr 275).cons ((ASh.arr 276).cons ((ASh.arr 277).cons ((ASh.arr 278).cons ((ASh.arr 25).cons ((ASh.arr 26).cons ((ASh.arr 27).cons ((ASh.dat int).cons ((ASh.arr 283).cons ((ASh.arr 30).cons ((ASh.dat int).cons ((ASh.dat Ty.bool).cons ((ASh.arr 33).cons ((ASh.opq 34).cons ((ASh.arr 35).cons ((ASh.opq 36).cons ASh.nil))))))))))))))))))), (30, .arr 3 int)], keep := [0, 1, 2, 6, 7, 8, 9], AN := [274, 275, 276, 277, 278, 25, 26, 27, 283, 33, 35] }, fun _ => nn⟩ else
 none
theorem ABj : ∀ (nn : Nat)  xa xo, (VP.prog (mkC Tryz.prog X0 ⟨false, false⟩ (AEm nn) noJ) Tryz.f131 xa xo).run = Z9 nn xa.1 xa.2.1 xo.1.1 xo.1.2.1 xo.1.2.2.1 xo.1.2.2.2.1 xo.1.2.2.2.2.1 xo.1.2.2.2.2.2.1 xo.1.2.2.2.2.2.2.1 xo.1.2.2.2.2.2.2.2.1 xo.1.2.2.2.2.2.2.2.2.1 xo.1.2.2.2.2.2.2.2.2.2.1 xo.1.2.2.2.2.2.2.2.2.2.2.1 xo.1.2.2.2.2.2.2.2.2.2.2.2.1 xo.1.2.2.2.2.2.2.2.2.2.2.2.2.1 xo.1.2.2.2.2.2.2.2.2.2.2.2.2.2.1 xo.1.2.2.2.2.2.2.2.2.2.2.2.2.2.2.1 xo.1.2.2.2.2.2.2.2.2.2.2.2.2.2.2.2.1 := by intros; kernel_rfl
noncomputable def OY := AH X0 131 (VP.AF (fun xa xo => search xa.1 xa.2.1 xo.1.1 xo.1.2.1 xo.1.2.2.1 xo.1.2.2.2.1 xo.1.2.2.2.2.1 xo.1.2.2.2.2.2.1 xo.1.2.2.2.2.2.2.1 xo.1.2.2.2.2.2.2.2.1 xo.1.2.2.2.2.2.2.2.2.1 xo.1.2.2.2.2.2.2.2.2.2.1 xo.1.2.2.2.2.2.2.2.2.2.2.1 xo.1.2.2.2.2.2.2.2.2.2.2.2.1 xo.1.2.2.2.2.2.2.2.2.2.2.2.2.1 xo.1.2.2.2.2.2.2.2.2.2.2.2.2.2.1 xo.1.2.2.2.2.2.2.2.2.2.2.2.2.2.2.1 xo.1.2.2.2.2.2.2.2.2.2.2.2.2.2.2.2.1))
theorem VQ : OKs OY := fn_A ABi Tryz.func131 (ABj AK)
def AJE : AG := ⟨.obj 0 <| .val (.sl int) <| .val int <| .nil, [(186, .val int <| .By 43 3 int <| .By 43 3 int <| .own 3 int <| .own 3 int <| .own 3 int <| .own 3 int <| .own 3 int <| .own 3 int <| .val int <| .own 3 int <| .own 3 int <| .val int <| .val .bool <| .own 43 (.sl int) <| .val int <| .own 3 int <| .own 4 .bool <| .nil)], .val int <| .nil, []⟩
def AKx (nn : Nat) : Nat -> Option Af := fun n =>
 bif Nat.beq n 11 then some ⟨{ env := [(7, .dat int)], heap := [(1, .box 186 ((ASh.dat int).cons ((ASh.arr 49).cons ((ASh.arr 50).cons ((ASh.arr 51).cons ((ASh.arr 52).cons ((ASh.arr 53).cons ((ASh.arr 54).cons ((ASh.arr 55).cons ((ASh.arr 56).cons ((ASh.dat int).cons ((ASh.arr 57).cons ((ASh.arr 58).cons ((ASh.dat int).cons ((ASh.dat Ty.bool).cons ((ASh.arr 59).cons ((ASh.dat int).cons ((ASh.arr 60).cons ((ASh.arr 226).cons ASh.nil))))))))))))))))))), (226, .arr 4 Ty.bool)], keep := [0, 1, 2, 6, 37], AN := [49, 50, 51, 52, 53, 54, 55, 56, 57, 58, 59, 60] }, fun _ => nn⟩ else
 bif Nat.beq n 17 then some ⟨{ env := [(8, .arr 61), (69, .dat int)], heap := [(61, .arr 3 int)], keep := [0, 1, 2, 6, 37, 67, 68], AN := [1, 49, 50, 51, 52, 53, 54, 55, 56, 57, 58, 59, 60, 226] }, fun _ => nn⟩ else
 none
def AKy : Nat -> Option Shape := fun n =>
 bif Nat.beq n 8 then some ({ env := [], heap := [(1, .box 186 ((ASh.dat int).cons ((ASh.arr 49).cons ((ASh.arr 50).cons ((ASh.arr 51).cons ((ASh.arr 52).cons ((ASh.arr 53).cons ((ASh.arr 54).cons ((ASh.arr 55).cons ((ASh.arr 56).cons ((ASh.dat int).cons ((ASh.arr 57).cons ((ASh.arr 58).cons ((ASh.dat int).cons ((ASh.dat Ty.bool).cons ((ASh.arr 59).cons ((ASh.dat int).cons ((ASh.arr 60).cons ((ASh.arr 226).cons ASh.nil))))))))))))))))))), (49, .BC 43 3 int []), (50, .BC 43 3 int []), (51, .arr 3 int), (52, .arr 3 int), (53, .arr 3 int), (54, .arr 3 int), (55, .arr 3 int), (56, .arr 3 int), (57, .arr 3 int), (58, .arr 3 int), (59, .arr 43 int.sl), (60, .arr 3 int)], keep := [0, 1, 2, 6], AN := [226] }) else
 none
theorem AJ6 : ∀ (nn : Nat)  xa xo, (AJE.prog (mkC Tryz.prog OY ⟨false, false⟩ (AKx nn) AKy) Tryz.f104 xa xo).run = AKn nn xa.1 xa.2.1 xo.1.1 xo.1.2.1 xo.1.2.2.1 xo.1.2.2.2.1 xo.1.2.2.2.2.1 xo.1.2.2.2.2.2.1 xo.1.2.2.2.2.2.2.1 xo.1.2.2.2.2.2.2.2.1 xo.1.2.2.2.2.2.2.2.2.1 xo.1.2.2.2.2.2.2.2.2.2.1 xo.1.2.2.2.2.2.2.2.2.2.2.1 xo.1.2.2.2.2.2.2.2.2.2.2.2.1 xo.1.2.2.2.2.2.2.2.2.2.2.2.2.1 xo.1.2.2.2.2.2.2.2.2.2.2.2.2.2.1 xo.1.2.2.2.2.2.2.2.2.2.2.2.2.2.2.1 xo.1.2.2.2.2.2.2.2.2.2.2.2.2.2.2.2.1 xo.1.2.2.2.2.2.2.2.2.2.2.2.2.2.2.2.2.1 xo.1.2.2.2.2.2.2.2.2.2.2.2.2.2.2.2.2.2.1 := by intros; kernel_rfl
noncomputable def AEn := AH OY 104 (AJE.AF (fun xa xo => Ask xa.1 xa.2.1 xo.1.1 xo.1.2.1 xo.1.2.2.1 xo.1.2.2.2.1 xo.1.2.2.2.2.1 xo.1.2.2.2.2.2.1 xo.1.2.2.2.2.2.2.1 xo.1.2.2.2.2.2.2.2.1 xo.1.2.2.2.2.2.2.2.2.1 xo.1.2.2.2.2.2.2.2.2.2.1 xo.1.2.2.2.2.2.2.2.2.2.2.1 xo.1.2.2.2.2.2.2.2.2.2.2.2.1 xo.1.2.2.2.2.2.2.2.2.2.2.2.2.1 xo.1.2.2.2.2.2.2.2.2.2.2.2.2.2.1 xo.1.2.2.2.2.2.2.2.2.2.2.2.2.2.2.1 xo.1.2.2.2.2.2.2.2.2.2.2.2.2.2.2.2.1 xo.1.2.2.2.2.2.2.2.2.2.2.2.2.2.2.2.2.1 xo.1.2.2.2.2.2.2.2.2.2.2.2.2.2.2.2.2.2.1))
theorem AEo : OKs AEn := fn_A VQ Tryz.func104 (AJ6 AK)
end AL
end
section
set_option linter.unusedVariables false
set_option maxHeartbeats 0
set_option maxRecDepth 100000
namespace AL
open Go Go.Proofs
def AJF : AG := ⟨.val int <| .val int <| .nil, [], .agg (.val int <| .val int <| .nil) <| .nil, []⟩
theorem AJ7 : ∀  xa xo, (AJF.prog (mkC Tryz.prog AEn ⟨false, false⟩ noL noJ) Tryz.f253 xa xo).run = aOf  xa.1 xa.2.1 := by intros; kernel_rfl
noncomputable def AEp := AH AEn 253 (AJF.AF (fun xa xo => aOf xa.1 xa.2.1))
theorem AEq : OKs AEp := fn_A AEo Tryz.func253 AJ7
def AJG : AG := ⟨.agg (.val int <| .val int <| .nil) <| .nil, [], .val int <| .nil, []⟩
theorem AJ8 : ∀  xa xo, (AJG.prog (mkC Tryz.prog AEp ⟨false, false⟩ noL noJ) Tryz.f276 xa xo).run = aR1  xa.1.1 xa.1.2.1 := by intros; kernel_rfl
noncomputable def AEr := AH AEp 276 (AJG.AF (fun xa xo => aR1 xa.1.1 xa.1.2.1))
theorem AEs : OKs AEr := fn_A AEq Tryz.func276 AJ8
def AJH : AG := ⟨.agg (.val int <| .val int <| .nil) <| .nil, [], .val int <| .nil, []⟩
theorem AJ9 : ∀  xa xo, (AJH.prog (mkC Tryz.prog AEr ⟨false, false⟩ noL noJ) Tryz.f277 xa xo).run = aR2  xa.1.1 xa.1.2.1 := by intros; kernel_rfl
noncomputable def AEt := AH AEr 277 (AJH.AF (fun xa xo => aR2 xa.1.1 xa.1.2.1))
theorem AEu : OKs AEt := fn_A AEs Tryz.func277 AJ9
def AJI : AG := ⟨.agg (.val int <| .val int <| .nil) <| .nil, [], .val .bool <| .nil, []⟩
theorem AKA : ∀  xa xo, (AJI.prog (mkC Tryz.prog AEt ⟨false, false⟩ noL noJ) Tryz.f278 xa xo).run = aR3  xa.1.1 xa.1.2.1 := by intros; kernel_rfl
noncomputable def AEv := AH AEt 278 (AJI.AF (fun xa xo => aR3 xa.1.1 xa.1.2.1))
theorem AEw : OKs AEv := fn_A AEu Tryz.func278 AKA
def AJJ : AG := ⟨.agg (.val int <| .val int <| .nil) <| .nil, [], .val .bool <| .nil, []⟩
theorem AKB : ∀  xa xo, (AJJ.prog (mkC Tryz.prog AEv ⟨false, false⟩ noL noJ) Tryz.f279 xa xo).run = aR4  xa.1.1 xa.1.2.1 := by intros; kernel_rfl
noncomputable def AEx := AH AEv 279 (AJJ.AF (fun xa xo => aR4 xa.1.1 xa.1.2.1))
theorem AEy : OKs AEx := fn_A AEw Tryz.func279 AKB
def AJK : AG := ⟨.agg (.val int <| .val int <| .nil) <| .nil, [], .val .bool <| .nil, []⟩
theorem AKC : ∀  xa xo, (AJK.prog (mkC Tryz.prog AEx ⟨false, false⟩ noL noJ) Tryz.f280 xa xo).run = aR5  xa.1.1 xa.1.2.1 := by intros; kernel_rfl
noncomputable def AEz := AH AEx 280 (AJK.AF (fun xa xo => aR5 xa.1.1 xa.1.2.1))
theorem AE0 : OKs AEz := fn_A AEy Tryz.func280 AKC
def VR : AG := ⟨.nil, [], .DM (.fl 288 3 (.cons (.fn 278 .nil) <| .cons (.fn 276 .nil) <| .cons (.fn 279 .nil) <| .cons (.fn 276 .nil) <| .cons (.fn 280 .nil) <| .cons (.fn 277 .nil) .nil)) <| .nil, []⟩
theorem ABk : ∀  xa xo, (VR.prog (mkC Tryz.prog AEz ⟨false, false⟩ noL noJ) Tryz.f266 xa xo).run = XZ   := by intros; kernel_rfl
noncomputable def OZ := AH AEz 266 (VR.AF (fun xa xo => XZ ))
theorem MF : OKs OZ := fn_A AE0 Tryz.func266 ABk
def VS : AG := ⟨.agg (.val int <| .val int <| .nil) <| .nil, [], .val int <| .val .bool <| .nil, []⟩
theorem ABl : ∀  xa xo, (VS.ADf 80 (mkC Tryz.prog OZ ⟨false, false⟩ (fun _ => none) (fun _ => none)) Tryz.f254 xa xo).run = N2  xa.1.1 xa.1.2.1 := by intros; kernel_rfl
noncomputable def Oa := AH OZ 254 (VS.AF (fun xa xo => N2 xa.1.1 xa.1.2.1))
theorem VT : OKs Oa := AJj MF MF fol Tryz.func254 (by kernel_rfl) (by kernel_rfl) (by kernel_rfl) fun xa xo y hy => (ABl xa xo).trans hy
def VU : AG := ⟨.AI (.sl AR) <| .agg (.val int <| .val int <| .nil) <| .nil, [], .val int <| .nil, []⟩
def AE1 (nn : Nat) : Nat -> Option Af := fun n =>
 bif Nat.beq n 2 then some ⟨{ env := [(8, .dat int)], heap := [], keep := [0, 1, 3, 4, 7], AN := [64] }, fun _ => nn⟩ else
 none
theorem ABm : ∀ (nn : Nat)  xa xo, (VU.prog (mkC Tryz.prog Oa ⟨false, false⟩ (AE1 nn) noJ) Tryz.f255 xa xo).run = SA nn xa.1 xa.2.1.1 xa.2.1.2.1 := by intros; kernel_rfl
noncomputable def J3 := AH Oa 255 (VU.AF (fun xa xo => SB xa.1 xa.2.1.1 xa.2.1.2.1))
theorem VV : OKs J3 := fn_A VT Tryz.func255 (ABm AK)
def E0 : AG := ⟨.AI (.sl AR) <| .nil, [], .own 144 AR <| .nil, []⟩
theorem ABn (s : L2) (y : E0.oty.den) : E0.Qm (mkC Tryz.prog J3 ⟨false, false⟩ (fun _ => none) (fun _ => none)) Tryz.f256 (s, ()) () y =
 ((s = [] -> some (([], ()), (), ()) = some y) /\ (([] : L2).length + s.length) * 16 <= lim /\ ([] : L2).length + s.length <= lim /\ some (([] ++ s, ()), (), ()) = some y) := by kernel_rfl
theorem ABo (xa : E0.args.ty.den) (xo : (AY E0.Aa).den) (y : E0.oty.den) (h : N3 xa.1 = some y) : E0.Qm (mkC Tryz.prog J3 ⟨false, false⟩ (fun _ => none) (fun _ => none)) Tryz.f256 xa xo y := by
 have e := ABn xa.1 y
 refine e.mpr ?_
 unfold N3 at h
 obtain ⟨h1, h⟩ := Hw.1 h
 obtain ⟨h2, h⟩ := Hw.1 h
 refine ⟨fun hs => ?_, h1, h2, ?_⟩
 ·rw [hs] at h; exact h
 ·exact h
noncomputable def Ob := AH J3 256 (E0.AF (fun xa xo => N3 xa.1))
theorem VW : OKs Ob := U6 VV fol Tryz.func256 (by kernel_rfl) (by kernel_rfl) (by kernel_rfl) ABo
def AE2 : AG := ⟨.agg (.val int <| .val (.sl AR) <| .nil) <| .val int <| .val int <| .nil, [], .agg (.val int <| .val (.sl AR) <| .nil) <| .val int <| .nil, []⟩
theorem AHh : ∀  xa xo, (AE2.prog (mkC Tryz.prog Ob ⟨false, false⟩ noL noJ) Tryz.f229 xa xo).run = ADz  xa.1.1 xa.1.2.1 xa.2.1 xa.2.2.1 := by intros; kernel_rfl
noncomputable def X1 := AH Ob 229 (AE2.AF (fun xa xo => ADz xa.1.1 xa.1.2.1 xa.2.1 xa.2.2.1))
theorem ABp : OKs X1 := fn_A VW Tryz.func229 AHh
def AE3 : AG := ⟨.obj 0 <| .val int <| .val int <| .nil, [(176, .val int <| .val (.sl AR) <| .skip <| .skip <| .skip <| .skip <| .skip <| .skip <| .skip <| .skip <| .skip <| .skip <| .nil)], .val int <| .nil, []⟩
theorem AHi : ∀  xa xo, (AE3.prog (mkC Tryz.prog X1 ⟨false, false⟩ noL noJ) Tryz.f178 xa xo).run = Mj  xa.1 xa.2.1 xo.1.1 xo.1.2.1 := by intros; kernel_rfl
noncomputable def X2 := AH X1 178 (AE3.AF (fun xa xo => Mj xa.1 xa.2.1 xo.1.1 xo.1.2.1))
theorem ABq : OKs X2 := fn_A ABp Tryz.func178 AHi
def AJL : AG := ⟨.obj 0 <| .val int <| .val int <| .nil, [(176, .val int <| .val (.sl AR) <| .skip <| .skip <| .skip <| .skip <| .skip <| .skip <| .skip <| .skip <| .skip <| .skip <| .nil)], .val int <| .nil, []⟩
theorem AKD : ∀  xa xo, (AJL.prog (mkC Tryz.prog X2 ⟨false, false⟩ noL noJ) Tryz.f179 xa xo).run = mOr  xa.1 xa.2.1 xo.1.1 xo.1.2.1 := by intros; kernel_rfl
noncomputable def AE4 := AH X2 179 (AJL.AF (fun xa xo => mOr xa.1 xa.2.1 xo.1.1 xo.1.2.1))
theorem AE5 : OKs AE4 := fn_A ABq Tryz.func179 AKD
def AE6 : AG := ⟨.obj 0 <| .val int <| .val int <| .nil, [(176, .val int <| .val (.sl AR) <| .skip <| .skip <| .skip <| .skip <| .skip <| .skip <| .skip <| .skip <| .skip <| .skip <| .nil)], .val int <| .nil, []⟩
theorem AHj : ∀  xa xo, (AE6.prog (mkC Tryz.prog AE4 ⟨false, false⟩ noL noJ) Tryz.f180 xa xo).run = SC  xa.1 xa.2.1 xo.1.1 xo.1.2.1 := by intros; kernel_rfl
noncomputable def X3 := AH AE4 180 (AE6.AF (fun xa xo => SC xa.1 xa.2.1 xo.1.1 xo.1.2.1))
theorem ABr : OKs X3 := fn_A AE5 Tryz.func180 AHj
def AE7 : AG := ⟨.obj 0 <| .val int <| .val int <| .val int <| .nil, [(176, .val int <| .val (.sl AR) <| .skip <| .skip <| .skip <| .skip <| .skip <| .skip <| .skip <| .skip <| .skip <| .skip <| .nil)], .val int <| .nil, []⟩
theorem AHk : ∀  xa xo, (AE7.prog (mkC Tryz.prog X3 ⟨false, false⟩ noL noJ) Tryz.f183 xa xo).run = Xa  xa.1 xa.2.1 xa.2.2.1 xo.1.1 xo.1.2.1 := by intros; kernel_rfl
noncomputable def X4 := AH X3 183 (AE7.AF (fun xa xo => Xa xa.1 xa.2.1 xa.2.2.1 xo.1.1 xo.1.2.1))
theorem ABs : OKs X4 := fn_A ABr Tryz.func183 AHk
def Q3 : AG := ⟨.AI (.sl int) <| .nil, [], .own 3 int <| .nil, []⟩
def ABt (nn : Nat) : Nat -> Option Af := fun n =>
 bif Nat.beq n 3 then some ⟨{ env := [(9, .dat int)], heap := [(192, .arr 3 int)], keep := [0, 2, 3, 8], AN := [] }, fun _ => nn⟩ else
 none
theorem X5 : ∀ (nn : Nat)  xa xo, (Q3.prog (mkC Tryz.prog X4 ⟨false, false⟩ (ABt nn) noJ) Tryz.f175 xa xo).run = N4 nn xa.1 := by intros; kernel_rfl
noncomputable def LM := AH X4 175 (Q3.AF (fun xa xo => GO xa.1))
theorem Sa : OKs LM := fn_A ABs Tryz.func175 (X5 AK)
def AE8 : AG := ⟨.obj 0 <| .val (.sl int) <| .val (.sl int) <| .val int <| .nil, [(176, .val int <| .val (.sl AR) <| .skip <| .skip <| .skip <| .skip <| .skip <| .skip <| .skip <| .skip <| .skip <| .skip <| .nil)], .own 3 int <| .nil, []⟩
def AKE (nn : Nat) : Nat -> Option Af := fun n =>
 bif Nat.beq n 3 then some ⟨{ env := [(3, .dat int), (17, .dat int)], heap := [(1, .box 176 ((ASh.dat int).cons ((ASh.dat (int.pair (int.pair Ty.unit)).sl).cons ((ASh.opq 22).cons ((ASh.opq 23).cons ((ASh.opq 24).cons ((ASh.opq 25).cons ((ASh.opq 26).cons ((ASh.opq 27).cons ((ASh.opq 28).cons ((ASh.opq 29).cons ((ASh.opq 30).cons ((ASh.opq 31).cons ASh.nil))))))))))))), (256, .arr 3 int)], keep := [0, 1, 2, 8, 9, 16], AN := [] }, fun _ => nn⟩ else
 none
theorem AHl : ∀ (nn : Nat)  xa xo, (AE8.prog (mkC Tryz.prog LM ⟨false, false⟩ (AKE nn) noJ) Tryz.f181 xa xo).run = AD0 nn xa.1 xa.2.1 xa.2.2.1 xo.1.1 xo.1.2.1 := by intros; kernel_rfl
noncomputable def X6 := AH LM 181 (AE8.AF (fun xa xo => ABR xa.1 xa.2.1 xa.2.2.1 xo.1.1 xo.1.2.1))
theorem ABu : OKs X6 := fn_A Sa Tryz.func181 (AHl AK)
def J4 : AG := ⟨.obj 0 <| .D5 178 0 <| .nil, [(176, .val int <| .val (.sl AR) <| .skip <| .skip <| .skip <| .skip <| .skip <| .skip <| .skip <| .val (.sl int) <| .val (.sl int) <| .skip <| .nil)], .own 3 int <| .nil, []⟩
def AE9 (nn : Nat) : Nat -> Option Af := fun n =>
 bif Nat.beq n 3 then some ⟨{ env := [(15, .dat int)], heap := [(1, .box 176 ((ASh.dat int).cons ((ASh.dat (int.pair (int.pair Ty.unit)).sl).cons ((ASh.opq 20).cons ((ASh.opq 21).cons ((ASh.opq 22).cons ((ASh.opq 23).cons ((ASh.opq 24).cons ((ASh.opq 25).cons ((ASh.opq 26).cons ((ASh.dat int.sl).cons ((ASh.dat int.sl).cons ((ASh.opq 29).cons ASh.nil))))))))))))), (448, .arr 3 int)], keep := [0, 1, 4, 5, 14], AN := [] }, fun _ => nn⟩ else
 none
theorem ABv : ∀ (nn : Nat)  xa xo, (J4.prog (mkC Tryz.prog X6 ⟨false, false⟩ (AE9 nn) noJ) Tryz.f177 xa xo).run = AAA nn xo.1.1 xo.1.2.1 xo.1.2.2.1 xo.1.2.2.2.1 := by intros; kernel_rfl
noncomputable def Oc := AH X6 177 (J4.AF (fun xa xo => N5 xo.1.1 xo.1.2.1 xo.1.2.2.1 xo.1.2.2.2.1))
theorem MG : OKs Oc := fn_A ABu Tryz.func177 (ABv AK)
def AFA : AG := ⟨.obj 0 <| .val (.sl int) <| .nil, [(176, .val int <| .val (.sl AR) <| .skip <| .skip <| .skip <| .skip <| .skip <| .skip <| .skip <| .skip <| .skip <| .skip <| .nil)], .val int <| .nil, []⟩
def AKF (nn : Nat) : Nat -> Option Af := fun n =>
 bif Nat.beq n 3 then some ⟨{ env := [(5, .dat int), (10, .dat int)], heap := [(1, .box 176 ((ASh.dat int).cons ((ASh.dat (int.pair (int.pair Ty.unit)).sl).cons ((ASh.opq 20).cons ((ASh.opq 21).cons ((ASh.opq 22).cons ((ASh.opq 23).cons ((ASh.opq 24).cons ((ASh.opq 25).cons ((ASh.opq 26).cons ((ASh.opq 27).cons ((ASh.opq 28).cons ((ASh.opq 29).cons ASh.nil)))))))))))))], keep := [0, 1, 4, 8, 9], AN := [] }, fun _ => nn⟩ else
 none
theorem AHm : ∀ (nn : Nat)  xa xo, (AFA.prog (mkC Tryz.prog Oc ⟨false, false⟩ (AKF nn) noJ) Tryz.f176 xa xo).run = AD1 nn xa.1 xo.1.1 xo.1.2.1 := by intros; kernel_rfl
noncomputable def X7 := AH Oc 176 (AFA.AF (fun xa xo => ABS xa.1 xo.1.1 xo.1.2.1))
theorem ABw : OKs X7 := fn_A MG Tryz.func176 (AHm AK)
def VX : AG := ⟨.obj 0 <| .val int <| .nil, [(176, .val int <| .val (.sl AR) <| .skip <| .skip <| .skip <| .skip <| .skip <| .skip <| .skip <| .val (.sl int) <| .val (.sl int) <| .skip <| .nil)], .own 3 int <| .nil, []⟩
def AFB (nn : Nat) : Nat -> Option Af := fun n =>
 bif Nat.beq n 2 then some ⟨{ env := [(1, .dat int), (11, .dat int)], heap := [(1, .box 176 ((ASh.dat int).cons ((ASh.dat (int.pair (int.pair Ty.unit)).sl).cons ((ASh.opq 20).cons ((ASh.opq 21).cons ((ASh.opq 22).cons ((ASh.opq 23).cons ((ASh.opq 24).cons ((ASh.opq 25).cons ((ASh.opq 26).cons ((ASh.dat int.sl).cons ((ASh.dat int.sl).cons ((ASh.opq 29).cons ASh.nil)))))))))))))], keep := [0, 4, 10], AN := [] }, fun _ => nn⟩ else
 none
theorem ABx : ∀ (nn : Nat)  xa xo, (VX.prog (mkC Tryz.prog X7 ⟨false, false⟩ (AFB nn) noJ) Tryz.f182 xa xo).run = SD nn xa.1 xo.1.1 xo.1.2.1 xo.1.2.2.1 xo.1.2.2.2.1 := by intros; kernel_rfl
noncomputable def Od := AH X7 182 (VX.AF (fun xa xo => N6 xa.1 xo.1.1 xo.1.2.1 xo.1.2.2.1 xo.1.2.2.2.1))
theorem VY : OKs Od := fn_A ABw Tryz.func182 (ABx AK)
def AFC : AG := ⟨.obj 0 <| .nil, [(176, .val int <| .val (.sl AR) <| .skip <| .val int <| .skip <| .skip <| .skip <| .val int <| .skip <| .skip <| .skip <| .skip <| .nil)], .own 3 int <| .nil, []⟩
def AKG (nn : Nat) : Nat -> Option Af := fun n =>
 bif Nat.beq n 3 then some ⟨{ env := [(13, .dat int)], heap := [(448, .arr 3 int)], keep := [0, 2, 3, 12], AN := [1] }, fun _ => nn⟩ else
 none
theorem AHn : ∀ (nn : Nat)  xa xo, (AFC.prog (mkC Tryz.prog Od ⟨false, false⟩ (AKG nn) noJ) Tryz.f135 xa xo).run = AD2 nn xo.1.1 xo.1.2.1 xo.1.2.2.1 xo.1.2.2.2.1 := by intros; kernel_rfl
noncomputable def X8 := AH Od 135 (AFC.AF (fun xa xo => AHU xo.1.1 xo.1.2.1 xo.1.2.2.1 xo.1.2.2.2.1))
theorem ABy : OKs X8 := fn_A VY Tryz.func135 (AHn AK)
def AFD : AG := ⟨.obj 0 <| .nil, [(176, .val int <| .val (.sl AR) <| .skip <| .skip <| .skip <| .skip <| .skip <| .skip <| .skip <| .val (.sl int) <| .skip <| .skip <| .nil)], .own 3 int <| .nil, []⟩
theorem AHo : ∀  xa xo, (AFD.prog (mkC Tryz.prog X8 ⟨false, false⟩ noL noJ) Tryz.f136 xa xo).run = AD3  xo.1.1 xo.1.2.1 xo.1.2.2.1 := by intros; kernel_rfl
noncomputable def X9 := AH X8 136 (AFD.AF (fun xa xo => AD3 xo.1.1 xo.1.2.1 xo.1.2.2.1))
theorem ABz : OKs X9 := fn_A ABy Tryz.func136 AHo
def VZ : AG := ⟨.obj 0 <| .nil, [(176, .val int <| .val (.sl AR) <| .skip <| .skip <| .skip <| .skip <| .skip <| .skip <| .skip <| .val (.sl int) <| .skip <| .skip <| .nil)], .own 3 int <| .nil, []⟩
theorem AB0 : ∀  xa xo, (VZ.prog (mkC Tryz.prog X9 ⟨false, false⟩ noL noJ) Tryz.f137 xa xo).run = N7  xo.1.1 xo.1.2.1 xo.1.2.2.1 := by intros; kernel_rfl
noncomputable def Oe := AH X9 137 (VZ.AF (fun xa xo => N7 xo.1.1 xo.1.2.1 xo.1.2.2.1))
theorem Va : OKs Oe := fn_A ABz Tryz.func137 AB0
def Q4 : AG := ⟨.obj 0 <| .nil, [(176, .val int <| .val (.sl AR) <| .skip <| .skip <| .skip <| .skip <| .skip <| .skip <| .skip <| .val (.sl int) <| .skip <| .skip <| .nil)], .own 3 int <| .nil, []⟩
theorem YA : ∀  xa xo, (Q4.prog (mkC Tryz.prog Oe ⟨false, false⟩ noL noJ) Tryz.f138 xa xo).run = Jv  xo.1.1 xo.1.2.1 xo.1.2.2.1 := by intros; kernel_rfl
noncomputable def LO := AH Oe 138 (Q4.AF (fun xa xo => Jv xo.1.1 xo.1.2.1 xo.1.2.2.1))
theorem Sb : OKs LO := fn_A Va Tryz.func138 YA
def Vb : AG := ⟨.obj 0 <| .nil, [(176, .val int <| .val (.sl AR) <| .skip <| .skip <| .skip <| .skip <| .skip <| .skip <| .skip <| .val (.sl int) <| .val (.sl int) <| .skip <| .nil)], .own 3 int <| .nil, []⟩
theorem AB1 : ∀  xa xo, (Vb.prog (mkC Tryz.prog LO ⟨false, false⟩ noL noJ) Tryz.f139 xa xo).run = SE  xo.1.1 xo.1.2.1 xo.1.2.2.1 xo.1.2.2.2.1 := by intros; kernel_rfl
noncomputable def Of := AH LO 139 (Vb.AF (fun xa xo => SE xo.1.1 xo.1.2.1 xo.1.2.2.1 xo.1.2.2.2.1))
theorem Vc : OKs Of := fn_A Sb Tryz.func139 AB1
def AFE : AG := ⟨.obj 0 <| .nil, [(176, .val int <| .val (.sl AR) <| .skip <| .skip <| .skip <| .skip <| .skip <| .skip <| .skip <| .val (.sl int) <| .val (.sl int) <| .skip <| .nil)], .own 3 int <| .nil, []⟩
theorem AHp : ∀  xa xo, (AFE.prog (mkC Tryz.prog Of ⟨false, false⟩ noL noJ) Tryz.f142 xa xo).run = AD4  xo.1.1 xo.1.2.1 xo.1.2.2.1 xo.1.2.2.2.1 := by intros; kernel_rfl
noncomputable def YB := AH Of 142 (AFE.AF (fun xa xo => AD4 xo.1.1 xo.1.2.1 xo.1.2.2.1 xo.1.2.2.2.1))
theorem AB2 : OKs YB := fn_A Vc Tryz.func142 AHp
def AFF : AG := ⟨.obj 0 <| .nil, [(176, .val int <| .val (.sl AR) <| .skip <| .skip <| .skip <| .skip <| .skip <| .skip <| .skip <| .val (.sl int) <| .val (.sl int) <| .skip <| .nil)], .own 3 int <| .nil, []⟩
theorem AHq : ∀  xa xo, (AFF.prog (mkC Tryz.prog YB ⟨false, false⟩ noL noJ) Tryz.f143 xa xo).run = AD5  xo.1.1 xo.1.2.1 xo.1.2.2.1 xo.1.2.2.2.1 := by intros; kernel_rfl
noncomputable def YC := AH YB 143 (AFF.AF (fun xa xo => AD5 xo.1.1 xo.1.2.1 xo.1.2.2.1 xo.1.2.2.2.1))
theorem AB3 : OKs YC := fn_A AB2 Tryz.func143 AHq
def AFG : AG := ⟨.obj 0 <| .nil, [(176, .val int <| .val (.sl AR) <| .skip <| .skip <| .skip <| .skip <| .skip <| .skip <| .skip <| .val (.sl int) <| .val (.sl int) <| .skip <| .nil)], .own 3 int <| .nil, []⟩
def AKH (nn : Nat) : Nat -> Option Af := fun n =>
 bif Nat.beq n 4 then some ⟨{ env := [(4, .arr 576), (21, .dat int)], heap := [(1, .box 176 ((ASh.dat int).cons ((ASh.dat (int.pair (int.pair Ty.unit)).sl).cons ((ASh.opq 19).cons ((ASh.opq 20).cons ((ASh.opq 21).cons ((ASh.opq 22).cons ((ASh.opq 23).cons ((ASh.opq 24).cons ((ASh.opq 25).cons ((ASh.dat int.sl).cons ((ASh.dat int.sl).cons ((ASh.opq 28).cons ASh.nil))))))))))))), (576, .arr 3 int), (576, .arr 3 int)], keep := [0, 2, 3, 19, 20], AN := [] }, fun _ => nn⟩ else
 bif Nat.beq n 8 then some ⟨{ env := [(8, .dat int)], heap := [(1, .box 176 ((ASh.dat int).cons ((ASh.dat (int.pair (int.pair Ty.unit)).sl).cons ((ASh.opq 19).cons ((ASh.opq 20).cons ((ASh.opq 21).cons ((ASh.opq 22).cons ((ASh.opq 23).cons ((ASh.opq 24).cons ((ASh.opq 25).cons ((ASh.dat int.sl).cons ((ASh.dat int.sl).cons ((ASh.opq 28).cons ASh.nil))))))))))))), (1536, .arr 3 int)], keep := [0, 2, 3, 4, 5, 6, 7, 19, 20, 21], AN := [576] }, fun _ => nn⟩ else
 none
theorem AHr : ∀ (nn : Nat)  xa xo, (AFG.prog (mkC Tryz.prog YC ⟨false, false⟩ (AKH nn) noJ) Tryz.f144 xa xo).run = AD6 nn xo.1.1 xo.1.2.1 xo.1.2.2.1 xo.1.2.2.2.1 := by intros; kernel_rfl
noncomputable def YD := AH YC 144 (AFG.AF (fun xa xo => AHV xo.1.1 xo.1.2.1 xo.1.2.2.1 xo.1.2.2.2.1))
theorem AB4 : OKs YD := fn_A AB3 Tryz.func144 (AHr AK)
def AJM : AG := ⟨.obj 0 <| .nil, [(176, .val int <| .val (.sl AR) <| .skip <| .skip <| .skip <| .skip <| .skip <| .skip <| .skip <| .val (.sl int) <| .val (.sl int) <| .skip <| .nil)], .own 3 int <| .nil, []⟩
theorem AKI : ∀  xa xo, (AJM.prog (mkC Tryz.prog YD ⟨false, false⟩ noL noJ) Tryz.f147 xa xo).run = mLt  xo.1.1 xo.1.2.1 xo.1.2.2.1 xo.1.2.2.2.1 := by intros; kernel_rfl
noncomputable def AFH := AH YD 147 (AJM.AF (fun xa xo => mLt xo.1.1 xo.1.2.1 xo.1.2.2.1 xo.1.2.2.2.1))
theorem AFI : OKs AFH := fn_A AB4 Tryz.func147 AKI
def AJN : AG := ⟨.obj 0 <| .nil, [(176, .val int <| .val (.sl AR) <| .skip <| .skip <| .skip <| .skip <| .skip <| .skip <| .skip <| .val (.sl int) <| .val (.sl int) <| .skip <| .nil)], .own 3 int <| .nil, []⟩
theorem AKJ : ∀  xa xo, (AJN.prog (mkC Tryz.prog AFH ⟨false, false⟩ noL noJ) Tryz.f148 xa xo).run = mLe  xo.1.1 xo.1.2.1 xo.1.2.2.1 xo.1.2.2.2.1 := by intros; kernel_rfl
noncomputable def AFJ := AH AFH 148 (AJN.AF (fun xa xo => mLe xo.1.1 xo.1.2.1 xo.1.2.2.1 xo.1.2.2.2.1))
theorem AFK : OKs AFJ := fn_A AFI Tryz.func148 AKJ
def Vd : AG := ⟨.obj 0 <| .nil, [(176, .val int <| .val (.sl AR) <| .skip <| .skip <| .skip <| .skip <| .skip <| .skip <| .skip <| .val (.sl int) <| .val (.sl int) <| .val (.sl int) <| .nil)], .own 3 int <| .nil, []⟩
def AFL (nn : Nat) : Nat -> Option Af := fun n =>
 bif Nat.beq n 3 then some ⟨{ env := [(13, .dat int)], heap := [(1, .box 176 ((ASh.dat int).cons ((ASh.dat (int.pair (int.pair Ty.unit)).sl).cons ((ASh.opq 19).cons ((ASh.opq 20).cons ((ASh.opq 21).cons ((ASh.opq 22).cons ((ASh.opq 23).cons ((ASh.opq 24).cons ((ASh.opq 25).cons ((ASh.dat int.sl).cons ((ASh.dat int.sl).cons ((ASh.dat int.sl).cons ASh.nil))))))))))))), (448, .arr 3 int)], keep := [0, 2, 3, 12], AN := [] }, fun _ => nn⟩ else
 none
theorem AB5 : ∀ (nn : Nat)  xa xo, (Vd.prog (mkC Tryz.prog AFJ ⟨false, false⟩ (AFL nn) noJ) Tryz.f149 xa xo).run = SF nn xo.1.1 xo.1.2.1 xo.1.2.2.1 xo.1.2.2.2.1 xo.1.2.2.2.2.1 := by intros; kernel_rfl
noncomputable def Og := AH AFJ 149 (Vd.AF (fun xa xo => SG xo.1.1 xo.1.2.1 xo.1.2.2.1 xo.1.2.2.2.1 xo.1.2.2.2.2.1))
theorem Ve : OKs Og := fn_A AFK Tryz.func149 (AB5 AK)
def Vf : AG := ⟨.obj 0 <| .nil, [(176, .val int <| .val (.sl AR) <| .skip <| .skip <| .skip <| .skip <| .skip <| .val int <| .val int <| .val (.sl int) <| .skip <| .skip <| .nil)], .own 3 int <| .nil, []⟩
theorem AB6 : ∀  xa xo, (Vf.prog (mkC Tryz.prog Og ⟨false, false⟩ noL noJ) Tryz.f151 xa xo).run = N8  xo.1.1 xo.1.2.1 xo.1.2.2.1 xo.1.2.2.2.1 xo.1.2.2.2.2.1 := by intros; kernel_rfl
noncomputable def Oh := AH Og 151 (Vf.AF (fun xa xo => N8 xo.1.1 xo.1.2.1 xo.1.2.2.1 xo.1.2.2.2.1 xo.1.2.2.2.2.1))
theorem Vg : OKs Oh := fn_A Ve Tryz.func151 AB6
end AL
end
section
set_option linter.unusedVariables false
set_option maxHeartbeats 0
set_option maxRecDepth 100000
namespace AL
open Go Go.Proofs
def AAU : AG := ⟨.E8 <| .val int <| .nil, [], .own 3 int <| .nil, []⟩
theorem AFM : ∀  xa xo, (AAU.prog (mkC Tryz.prog Oh ⟨false, false⟩ noL noJ) Tryz.f230 xa xo).run = VC  xa.1 := by intros; kernel_rfl
noncomputable def Sc := AH Oh 230 (AAU.AF (fun xa xo => VC xa.1))
theorem YE : OKs Sc := fn_A Vg Tryz.func230 AFM
def Q5 : AG := ⟨.val (.sl (.sl int)) <| .nil, [], .own 3 int <| .nil, []⟩
def AB7 (nn : Nat) : Nat -> Option Af := fun n =>
 bif Nat.beq n 3 then some ⟨{ env := [(3, .dat int), (11, .dat int)], heap := [], keep := [0, 2, 9, 10], AN := [] }, fun _ => nn⟩ else
 bif Nat.beq n 11 then some ⟨{ env := [(6, .arr 512), (27, .dat int)], heap := [(512, .arr 3 int), (512, .arr 3 int)], keep := [0, 2, 3, 9, 10, 11, 25, 26], AN := [] }, fun _ => nn⟩ else
 none
theorem YF : ∀ (nn : Nat)  xa xo, (Q5.prog (mkC Tryz.prog Sc ⟨false, false⟩ (AB7 nn) noJ) Tryz.f184 xa xo).run = N9 nn xa.1 := by intros; kernel_rfl
noncomputable def LR := AH Sc 184 (Q5.AF (fun xa xo => My xa.1))
theorem Sd : OKs LR := fn_A YE Tryz.func184 (YF AK)
def J5 : AG := ⟨.obj 0 <| .D5 179 0 <| .nil, [(176, .val int <| .val (.sl AR) <| .skip <| .skip <| .skip <| .skip <| .skip <| .skip <| .skip <| .val (.sl int) <| .val (.sl int) <| .skip <| .nil)], .own 3 int <| .nil, []⟩
def AFN (nn : Nat) : Nat -> Option Af := fun n =>
 bif Nat.beq n 3 then some ⟨{ env := [(15, .dat int)], heap := [(1, .box 176 ((ASh.dat int).cons ((ASh.dat (int.pair (int.pair Ty.unit)).sl).cons ((ASh.opq 20).cons ((ASh.opq 21).cons ((ASh.opq 22).cons ((ASh.opq 23).cons ((ASh.opq 24).cons ((ASh.opq 25).cons ((ASh.opq 26).cons ((ASh.dat int.sl).cons ((ASh.dat int.sl).cons ((ASh.opq 29).cons ASh.nil))))))))))))), (448, .arr 3 int)], keep := [0, 1, 4, 5, 14], AN := [] }, fun _ => nn⟩ else
 none
theorem AB8 : ∀ (nn : Nat)  xa xo, (J5.prog (mkC Tryz.prog LR ⟨false, false⟩ (AFN nn) noJ) Tryz.f177 xa xo).run = AAB nn xo.1.1 xo.1.2.1 xo.1.2.2.1 xo.1.2.2.2.1 := by intros; kernel_rfl
noncomputable def Oi := AH LR 177 (J5.AF (fun xa xo => OA xo.1.1 xo.1.2.1 xo.1.2.2.1 xo.1.2.2.2.1))
theorem MH : OKs Oi := fn_A Sd Tryz.func177 (AB8 AK)
def J6 : AG := ⟨.obj 0 <| .D5 180 0 <| .nil, [(176, .val int <| .val (.sl AR) <| .skip <| .skip <| .skip <| .skip <| .skip <| .skip <| .skip <| .val (.sl int) <| .val (.sl int) <| .skip <| .nil)], .own 3 int <| .nil, []⟩
def AFO (nn : Nat) : Nat -> Option Af := fun n =>
 bif Nat.beq n 3 then some ⟨{ env := [(15, .dat int)], heap := [(1, .box 176 ((ASh.dat int).cons ((ASh.dat (int.pair (int.pair Ty.unit)).sl).cons ((ASh.opq 20).cons ((ASh.opq 21).cons ((ASh.opq 22).cons ((ASh.opq 23).cons ((ASh.opq 24).cons ((ASh.opq 25).cons ((ASh.opq 26).cons ((ASh.dat int.sl).cons ((ASh.dat int.sl).cons ((ASh.opq 29).cons ASh.nil))))))))))))), (448, .arr 3 int)], keep := [0, 1, 4, 5, 14], AN := [] }, fun _ => nn⟩ else
 none
theorem AB9 : ∀ (nn : Nat)  xa xo, (J6.prog (mkC Tryz.prog Oi ⟨false, false⟩ (AFO nn) noJ) Tryz.f177 xa xo).run = AAC nn xo.1.1 xo.1.2.1 xo.1.2.2.1 xo.1.2.2.2.1 := by intros; kernel_rfl
noncomputable def Vh := AH Oi 177 (J6.AF (fun xa xo => LD xo.1.1 xo.1.2.1 xo.1.2.2.1 xo.1.2.2.2.1))
theorem MI : OKs Vh := fn_A MH Tryz.func177 (AB9 AK)
noncomputable def JE := AH Vh 177 (AHS 178 (J4.AF (fun xa xo => N5 xo.1.1 xo.1.2.1 xo.1.2.2.1 xo.1.2.2.2.1)) (AHS 179 (J5.AF (fun xa xo => OA xo.1.1 xo.1.2.1 xo.1.2.2.1 xo.1.2.2.2.1)) (J6.AF (fun xa xo => LD xo.1.1 xo.1.2.1 xo.1.2.2.1 xo.1.2.2.2.1))))
theorem Pm : OKs JE := Ac MI ((Z5 (Ap MG 177 (S := (J4.AF (fun xa xo => N5 xo.1.1 xo.1.2.1 xo.1.2.2.1 xo.1.2.2.2.1))) (by kernel_rfl)) (Z5 (Ap MH 177 (S := (J5.AF (fun xa xo => OA xo.1.1 xo.1.2.1 xo.1.2.2.1 xo.1.2.2.2.1))) (by kernel_rfl)) (Ap MI 177 (S := (J6.AF (fun xa xo => LD xo.1.1 xo.1.2.1 xo.1.2.2.1 xo.1.2.2.2.1))) (by kernel_rfl)))))
def AAV : AG := ⟨.obj 0 <| .nil, [(176, .val int <| .val (.sl AR) <| .skip <| .skip <| .skip <| .skip <| .skip <| .skip <| .skip <| .val (.sl int) <| .val (.sl int) <| .skip <| .nil)], .own 3 int <| .nil, []⟩
theorem AFP : ∀  xa xo, (AAV.prog (mkC Tryz.prog JE ⟨false, false⟩ noL noJ) Tryz.f140 xa xo).run = AAD  xo.1.1 xo.1.2.1 xo.1.2.2.1 xo.1.2.2.2.1 := by intros; kernel_rfl
noncomputable def Se := AH JE 140 (AAV.AF (fun xa xo => AAD xo.1.1 xo.1.2.1 xo.1.2.2.1 xo.1.2.2.2.1))
theorem YG : OKs Se := fn_A Pm Tryz.func140 AFP
def Vi : AG := ⟨.obj 0 <| .nil, [(176, .val int <| .val (.sl AR) <| .skip <| .skip <| .skip <| .skip <| .skip <| .skip <| .skip <| .val (.sl int) <| .val (.sl int) <| .skip <| .nil)], .own 3 int <| .nil, []⟩
theorem ACA : ∀  xa xo, (Vi.prog (mkC Tryz.prog Se ⟨false, false⟩ noL noJ) Tryz.f141 xa xo).run = SH  xo.1.1 xo.1.2.1 xo.1.2.2.1 xo.1.2.2.2.1 := by intros; kernel_rfl
noncomputable def Oj := AH Se 141 (Vi.AF (fun xa xo => SH xo.1.1 xo.1.2.1 xo.1.2.2.1 xo.1.2.2.2.1))
theorem Vj : OKs Oj := fn_A YG Tryz.func141 ACA
def AJO : AG := ⟨.obj 0 <| .nil, [(176, .val int <| .val (.sl AR) <| .skip <| .skip <| .skip <| .skip <| .skip <| .skip <| .skip <| .val (.sl int) <| .val (.sl int) <| .skip <| .nil)], .own 3 int <| .nil, []⟩
theorem AKK : ∀  xa xo, (AJO.prog (mkC Tryz.prog Oj ⟨false, false⟩ noL noJ) Tryz.f146 xa xo).run = mNe  xo.1.1 xo.1.2.1 xo.1.2.2.1 xo.1.2.2.2.1 := by intros; kernel_rfl
noncomputable def AFQ := AH Oj 146 (AJO.AF (fun xa xo => mNe xo.1.1 xo.1.2.1 xo.1.2.2.1 xo.1.2.2.2.1))
theorem AFR : OKs AFQ := fn_A Vj Tryz.func146 AKK
def AJP : AG := ⟨.obj 0 <| .nil, [(176, .val int <| .val (.sl AR) <| .skip <| .skip <| .skip <| .skip <| .skip <| .skip <| .skip <| .val (.sl int) <| .val (.sl int) <| .skip <| .nil)], .own 3 int <| .nil, []⟩
theorem AKL : ∀  xa xo, (AJP.prog (mkC Tryz.prog AFQ ⟨false, false⟩ noL noJ) Tryz.f145 xa xo).run = mEq  xo.1.1 xo.1.2.1 xo.1.2.2.1 xo.1.2.2.2.1 := by intros; kernel_rfl
noncomputable def AFS := AH AFQ 145 (AJP.AF (fun xa xo => mEq xo.1.1 xo.1.2.1 xo.1.2.2.1 xo.1.2.2.2.1))
theorem AFT : OKs AFS := fn_A AFR Tryz.func145 AKL
def AFU : AG := ⟨.obj 0 <| .nil, [(176, .val int <| .val (.sl AR) <| .skip <| .skip <| .skip <| .skip <| .skip <| .skip <| .skip <| .val (.sl int) <| .val (.sl int) <| .skip <| .nil)], .own 3 int <| .nil, []⟩
theorem AHs : ∀  xa xo, (AFU.prog (mkC Tryz.prog AFS ⟨false, false⟩ noL noJ) Tryz.f150 xa xo).run = AD7  xo.1.1 xo.1.2.1 xo.1.2.2.1 xo.1.2.2.2.1 := by intros; kernel_rfl
noncomputable def YH := AH AFS 150 (AFU.AF (fun xa xo => AD7 xo.1.1 xo.1.2.1 xo.1.2.2.1 xo.1.2.2.2.1))
theorem ACB : OKs YH := fn_A AFT Tryz.func150 AHs
def Vk : AG := ⟨.nil, [], .DM (.fm (.int .i64) [((1 : Int), AV.fn 135 .nil), ((3 : Int), AV.fn 136 .nil), ((4 : Int), AV.fn 137 .nil), ((5 : Int), AV.fn 138 .nil), ((6 : Int), AV.fn 139 .nil), ((7 : Int), AV.fn 140 .nil), ((8 : Int), AV.fn 141 .nil), ((9 : Int), AV.fn 142 .nil), ((10 : Int), AV.fn 143 .nil), ((11 : Int), AV.fn 144 .nil), ((12 : Int), AV.fn 145 .nil), ((13 : Int), AV.fn 146 .nil), ((14 : Int), AV.fn 147 .nil), ((15 : Int), AV.fn 148 .nil), ((16 : Int), AV.fn 149 .nil), ((17 : Int), AV.fn 150 .nil), ((18 : Int), AV.fn 151 .nil)]) <| .nil, []⟩
theorem ACC : ∀  xa xo, (Vk.prog (mkC Tryz.prog YH ⟨false, false⟩ noL noJ) Tryz.f112 xa xo).run = CG   := by intros; kernel_rfl
noncomputable def BS := AH YH 112 (Vk.AF (fun xa xo => CG ))
theorem MJ : OKs BS := fn_A ACB Tryz.func112 ACC
def YI : AG := ⟨.agg (.val int <| .val (.sl AR) <| .nil) <| .agg (.val int <| .val int <| .val int <| .val int <| .val int <| .val int <| .val int <| .nil) <| .val (.sl int) <| .val (.sl int) <| .val (.sl int) <| .nil, [], .agg (.val int <| .val (.sl AR) <| .nil) <| .val (.sl int) <| .nil, []⟩
theorem AHt : ∀ (xa : YI.args.ty.den) (xo : (AY YI.Aa).den), (YI.prog (mkC Tryz.prog BS ⟨false, false⟩ (fun _ => none) (fun _ => none)) Tryz.f76 ((xa.1, ((1 : Int), xa.2.1.2), xa.2.2)) xo).run = AKo xa.1.1 xa.1.2.1 xa.2.1.1 xa.2.1.2.1 xa.2.1.2.2.1 xa.2.1.2.2.2.1 xa.2.1.2.2.2.2.1 xa.2.1.2.2.2.2.2.1 xa.2.1.2.2.2.2.2.2.1 xa.2.2.1 xa.2.2.2.1 xa.2.2.2.2.1 := by intros; kernel_rfl
def YJ : AG := ⟨.agg (.val int <| .val (.sl AR) <| .nil) <| .agg (.val int <| .val int <| .val int <| .val int <| .val int <| .val int <| .val int <| .nil) <| .val (.sl int) <| .val (.sl int) <| .val (.sl int) <| .nil, [], .agg (.val int <| .val (.sl AR) <| .nil) <| .val (.sl int) <| .nil, []⟩
theorem AHu : ∀ (xa : YJ.args.ty.den) (xo : (AY YJ.Aa).den), (YJ.prog (mkC Tryz.prog BS ⟨false, false⟩ (fun _ => none) (fun _ => none)) Tryz.f76 ((xa.1, ((3 : Int), xa.2.1.2), xa.2.2)) xo).run = AKp xa.1.1 xa.1.2.1 xa.2.1.1 xa.2.1.2.1 xa.2.1.2.2.1 xa.2.1.2.2.2.1 xa.2.1.2.2.2.2.1 xa.2.1.2.2.2.2.2.1 xa.2.1.2.2.2.2.2.2.1 xa.2.2.1 xa.2.2.2.1 xa.2.2.2.2.1 := by intros; kernel_rfl
def YK : AG := ⟨.agg (.val int <| .val (.sl AR) <| .nil) <| .agg (.val int <| .val int <| .val int <| .val int <| .val int <| .val int <| .val int <| .nil) <| .val (.sl int) <| .val (.sl int) <| .val (.sl int) <| .nil, [], .agg (.val int <| .val (.sl AR) <| .nil) <| .val (.sl int) <| .nil, []⟩
theorem AHv : ∀ (xa : YK.args.ty.den) (xo : (AY YK.Aa).den), (YK.prog (mkC Tryz.prog BS ⟨false, false⟩ (fun _ => none) (fun _ => none)) Tryz.f76 ((xa.1, ((4 : Int), xa.2.1.2), xa.2.2)) xo).run = AKq xa.1.1 xa.1.2.1 xa.2.1.1 xa.2.1.2.1 xa.2.1.2.2.1 xa.2.1.2.2.2.1 xa.2.1.2.2.2.2.1 xa.2.1.2.2.2.2.2.1 xa.2.1.2.2.2.2.2.2.1 xa.2.2.1 xa.2.2.2.1 xa.2.2.2.2.1 := by intros; kernel_rfl
def YL : AG := ⟨.agg (.val int <| .val (.sl AR) <| .nil) <| .agg (.val int <| .val int <| .val int <| .val int <| .val int <| .val int <| .val int <| .nil) <| .val (.sl int) <| .val (.sl int) <| .val (.sl int) <| .nil, [], .agg (.val int <| .val (.sl AR) <| .nil) <| .val (.sl int) <| .nil, []⟩
theorem AHw : ∀ (xa : YL.args.ty.den) (xo : (AY YL.Aa).den), (YL.prog (mkC Tryz.prog BS ⟨false, false⟩ (fun _ => none) (fun _ => none)) Tryz.f76 ((xa.1, ((5 : Int), xa.2.1.2), xa.2.2)) xo).run = AKr xa.1.1 xa.1.2.1 xa.2.1.1 xa.2.1.2.1 xa.2.1.2.2.1 xa.2.1.2.2.2.1 xa.2.1.2.2.2.2.1 xa.2.1.2.2.2.2.2.1 xa.2.1.2.2.2.2.2.2.1 xa.2.2.1 xa.2.2.2.1 xa.2.2.2.2.1 := by intros; kernel_rfl
def YM : AG := ⟨.agg (.val int <| .val (.sl AR) <| .nil) <| .agg (.val int <| .val int <| .val int <| .val int <| .val int <| .val int <| .val int <| .nil) <| .val (.sl int) <| .val (.sl int) <| .val (.sl int) <| .nil, [], .agg (.val int <| .val (.sl AR) <| .nil) <| .val (.sl int) <| .nil, []⟩
theorem AHx : ∀ (xa : YM.args.ty.den) (xo : (AY YM.Aa).den), (YM.prog (mkC Tryz.prog BS ⟨false, false⟩ (fun _ => none) (fun _ => none)) Tryz.f76 ((xa.1, ((6 : Int), xa.2.1.2), xa.2.2)) xo).run = AKs xa.1.1 xa.1.2.1 xa.2.1.1 xa.2.1.2.1 xa.2.1.2.2.1 xa.2.1.2.2.2.1 xa.2.1.2.2.2.2.1 xa.2.1.2.2.2.2.2.1 xa.2.1.2.2.2.2.2.2.1 xa.2.2.1 xa.2.2.2.1 xa.2.2.2.2.1 := by intros; kernel_rfl
def YN : AG := ⟨.agg (.val int <| .val (.sl AR) <| .nil) <| .agg (.val int <| .val int <| .val int <| .val int <| .val int <| .val int <| .val int <| .nil) <| .val (.sl int) <| .val (.sl int) <| .val (.sl int) <| .nil, [], .agg (.val int <| .val (.sl AR) <| .nil) <| .val (.sl int) <| .nil, []⟩
theorem AHy : ∀ (xa : YN.args.ty.den) (xo : (AY YN.Aa).den), (YN.prog (mkC Tryz.prog BS ⟨false, false⟩ (fun _ => none) (fun _ => none)) Tryz.f76 ((xa.1, ((7 : Int), xa.2.1.2), xa.2.2)) xo).run = AKt xa.1.1 xa.1.2.1 xa.2.1.1 xa.2.1.2.1 xa.2.1.2.2.1 xa.2.1.2.2.2.1 xa.2.1.2.2.2.2.1 xa.2.1.2.2.2.2.2.1 xa.2.1.2.2.2.2.2.2.1 xa.2.2.1 xa.2.2.2.1 xa.2.2.2.2.1 := by intros; kernel_rfl
def YO : AG := ⟨.agg (.val int <| .val (.sl AR) <| .nil) <| .agg (.val int <| .val int <| .val int <| .val int <| .val int <| .val int <| .val int <| .nil) <| .val (.sl int) <| .val (.sl int) <| .val (.sl int) <| .nil, [], .agg (.val int <| .val (.sl AR) <| .nil) <| .val (.sl int) <| .nil, []⟩
theorem AHz : ∀ (xa : YO.args.ty.den) (xo : (AY YO.Aa).den), (YO.prog (mkC Tryz.prog BS ⟨false, false⟩ (fun _ => none) (fun _ => none)) Tryz.f76 ((xa.1, ((8 : Int), xa.2.1.2), xa.2.2)) xo).run = AKu xa.1.1 xa.1.2.1 xa.2.1.1 xa.2.1.2.1 xa.2.1.2.2.1 xa.2.1.2.2.2.1 xa.2.1.2.2.2.2.1 xa.2.1.2.2.2.2.2.1 xa.2.1.2.2.2.2.2.2.1 xa.2.2.1 xa.2.2.2.1 xa.2.2.2.2.1 := by intros; kernel_rfl
def YP : AG := ⟨.agg (.val int <| .val (.sl AR) <| .nil) <| .agg (.val int <| .val int <| .val int <| .val int <| .val int <| .val int <| .val int <| .nil) <| .val (.sl int) <| .val (.sl int) <| .val (.sl int) <| .nil, [], .agg (.val int <| .val (.sl AR) <| .nil) <| .val (.sl int) <| .nil, []⟩
theorem AH0 : ∀ (xa : YP.args.ty.den) (xo : (AY YP.Aa).den), (YP.prog (mkC Tryz.prog BS ⟨false, false⟩ (fun _ => none) (fun _ => none)) Tryz.f76 ((xa.1, ((9 : Int), xa.2.1.2), xa.2.2)) xo).run = AKv xa.1.1 xa.1.2.1 xa.2.1.1 xa.2.1.2.1 xa.2.1.2.2.1 xa.2.1.2.2.2.1 xa.2.1.2.2.2.2.1 xa.2.1.2.2.2.2.2.1 xa.2.1.2.2.2.2.2.2.1 xa.2.2.1 xa.2.2.2.1 xa.2.2.2.2.1 := by intros; kernel_rfl
def Sf : AG := ⟨.agg (.val int <| .val (.sl AR) <| .nil) <| .agg (.val int <| .val int <| .val int <| .val int <| .val int <| .val int <| .val int <| .nil) <| .val (.sl int) <| .val (.sl int) <| .val (.sl int) <| .nil, [], .agg (.val int <| .val (.sl AR) <| .nil) <| .val (.sl int) <| .nil, []⟩
theorem AFV : ∀ (xa : Sf.args.ty.den) (xo : (AY Sf.Aa).den), (Sf.prog (mkC Tryz.prog BS ⟨false, false⟩ (fun _ => none) (fun _ => none)) Tryz.f76 ((xa.1, ((10 : Int), xa.2.1.2), xa.2.2)) xo).run = AIv xa.1.1 xa.1.2.1 xa.2.1.1 xa.2.1.2.1 xa.2.1.2.2.1 xa.2.1.2.2.2.1 xa.2.1.2.2.2.2.1 xa.2.1.2.2.2.2.2.1 xa.2.1.2.2.2.2.2.2.1 xa.2.2.1 xa.2.2.2.1 xa.2.2.2.2.1 := by intros; kernel_rfl
def Sg : AG := ⟨.agg (.val int <| .val (.sl AR) <| .nil) <| .agg (.val int <| .val int <| .val int <| .val int <| .val int <| .val int <| .val int <| .nil) <| .val (.sl int) <| .val (.sl int) <| .val (.sl int) <| .nil, [], .agg (.val int <| .val (.sl AR) <| .nil) <| .val (.sl int) <| .nil, []⟩
theorem AFW : ∀ (xa : Sg.args.ty.den) (xo : (AY Sg.Aa).den), (Sg.prog (mkC Tryz.prog BS ⟨false, false⟩ (fun _ => none) (fun _ => none)) Tryz.f76 ((xa.1, ((11 : Int), xa.2.1.2), xa.2.2)) xo).run = AIw xa.1.1 xa.1.2.1 xa.2.1.1 xa.2.1.2.1 xa.2.1.2.2.1 xa.2.1.2.2.2.1 xa.2.1.2.2.2.2.1 xa.2.1.2.2.2.2.2.1 xa.2.1.2.2.2.2.2.2.1 xa.2.2.1 xa.2.2.2.1 xa.2.2.2.2.1 := by intros; kernel_rfl
def Sh : AG := ⟨.agg (.val int <| .val (.sl AR) <| .nil) <| .agg (.val int <| .val int <| .val int <| .val int <| .val int <| .val int <| .val int <| .nil) <| .val (.sl int) <| .val (.sl int) <| .val (.sl int) <| .nil, [], .agg (.val int <| .val (.sl AR) <| .nil) <| .val (.sl int) <| .nil, []⟩
theorem AFX : ∀ (xa : Sh.args.ty.den) (xo : (AY Sh.Aa).den), (Sh.prog (mkC Tryz.prog BS ⟨false, false⟩ (fun _ => none) (fun _ => none)) Tryz.f76 ((xa.1, ((12 : Int), xa.2.1.2), xa.2.2)) xo).run = AIx xa.1.1 xa.1.2.1 xa.2.1.1 xa.2.1.2.1 xa.2.1.2.2.1 xa.2.1.2.2.2.1 xa.2.1.2.2.2.2.1 xa.2.1.2.2.2.2.2.1 xa.2.1.2.2.2.2.2.2.1 xa.2.2.1 xa.2.2.2.1 xa.2.2.2.2.1 := by intros; kernel_rfl
def Si : AG := ⟨.agg (.val int <| .val (.sl AR) <| .nil) <| .agg (.val int <| .val int <| .val int <| .val int <| .val int <| .val int <| .val int <| .nil) <| .val (.sl int) <| .val (.sl int) <| .val (.sl int) <| .nil, [], .agg (.val int <| .val (.sl AR) <| .nil) <| .val (.sl int) <| .nil, []⟩
theorem AFY : ∀ (xa : Si.args.ty.den) (xo : (AY Si.Aa).den), (Si.prog (mkC Tryz.prog BS ⟨false, false⟩ (fun _ => none) (fun _ => none)) Tryz.f76 ((xa.1, ((13 : Int), xa.2.1.2), xa.2.2)) xo).run = AIy xa.1.1 xa.1.2.1 xa.2.1.1 xa.2.1.2.1 xa.2.1.2.2.1 xa.2.1.2.2.2.1 xa.2.1.2.2.2.2.1 xa.2.1.2.2.2.2.2.1 xa.2.1.2.2.2.2.2.2.1 xa.2.2.1 xa.2.2.2.1 xa.2.2.2.2.1 := by intros; kernel_rfl
def Sj : AG := ⟨.agg (.val int <| .val (.sl AR) <| .nil) <| .agg (.val int <| .val int <| .val int <| .val int <| .val int <| .val int <| .val int <| .nil) <| .val (.sl int) <| .val (.sl int) <| .val (.sl int) <| .nil, [], .agg (.val int <| .val (.sl AR) <| .nil) <| .val (.sl int) <| .nil, []⟩
theorem AFZ : ∀ (xa : Sj.args.ty.den) (xo : (AY Sj.Aa).den), (Sj.prog (mkC Tryz.prog BS ⟨false, false⟩ (fun _ => none) (fun _ => none)) Tryz.f76 ((xa.1, ((14 : Int), xa.2.1.2), xa.2.2)) xo).run = AIz xa.1.1 xa.1.2.1 xa.2.1.1 xa.2.1.2.1 xa.2.1.2.2.1 xa.2.1.2.2.2.1 xa.2.1.2.2.2.2.1 xa.2.1.2.2.2.2.2.1 xa.2.1.2.2.2.2.2.2.1 xa.2.2.1 xa.2.2.2.1 xa.2.2.2.2.1 := by intros; kernel_rfl
def Sk : AG := ⟨.agg (.val int <| .val (.sl AR) <| .nil) <| .agg (.val int <| .val int <| .val int <| .val int <| .val int <| .val int <| .val int <| .nil) <| .val (.sl int) <| .val (.sl int) <| .val (.sl int) <| .nil, [], .agg (.val int <| .val (.sl AR) <| .nil) <| .val (.sl int) <| .nil, []⟩
theorem AFa : ∀ (xa : Sk.args.ty.den) (xo : (AY Sk.Aa).den), (Sk.prog (mkC Tryz.prog BS ⟨false, false⟩ (fun _ => none) (fun _ => none)) Tryz.f76 ((xa.1, ((15 : Int), xa.2.1.2), xa.2.2)) xo).run = AI0 xa.1.1 xa.1.2.1 xa.2.1.1 xa.2.1.2.1 xa.2.1.2.2.1 xa.2.1.2.2.2.1 xa.2.1.2.2.2.2.1 xa.2.1.2.2.2.2.2.1 xa.2.1.2.2.2.2.2.2.1 xa.2.2.1 xa.2.2.2.1 xa.2.2.2.2.1 := by intros; kernel_rfl
def Sl : AG := ⟨.agg (.val int <| .val (.sl AR) <| .nil) <| .agg (.val int <| .val int <| .val int <| .val int <| .val int <| .val int <| .val int <| .nil) <| .val (.sl int) <| .val (.sl int) <| .val (.sl int) <| .nil, [], .agg (.val int <| .val (.sl AR) <| .nil) <| .val (.sl int) <| .nil, []⟩
theorem AFb : ∀ (xa : Sl.args.ty.den) (xo : (AY Sl.Aa).den), (Sl.prog (mkC Tryz.prog BS ⟨false, false⟩ (fun _ => none) (fun _ => none)) Tryz.f76 ((xa.1, ((16 : Int), xa.2.1.2), xa.2.2)) xo).run = AI1 xa.1.1 xa.1.2.1 xa.2.1.1 xa.2.1.2.1 xa.2.1.2.2.1 xa.2.1.2.2.2.1 xa.2.1.2.2.2.2.1 xa.2.1.2.2.2.2.2.1 xa.2.1.2.2.2.2.2.2.1 xa.2.2.1 xa.2.2.2.1 xa.2.2.2.2.1 := by intros; kernel_rfl
def Sm : AG := ⟨.agg (.val int <| .val (.sl AR) <| .nil) <| .agg (.val int <| .val int <| .val int <| .val int <| .val int <| .val int <| .val int <| .nil) <| .val (.sl int) <| .val (.sl int) <| .val (.sl int) <| .nil, [], .agg (.val int <| .val (.sl AR) <| .nil) <| .val (.sl int) <| .nil, []⟩
theorem AFc : ∀ (xa : Sm.args.ty.den) (xo : (AY Sm.Aa).den), (Sm.prog (mkC Tryz.prog BS ⟨false, false⟩ (fun _ => none) (fun _ => none)) Tryz.f76 ((xa.1, ((17 : Int), xa.2.1.2), xa.2.2)) xo).run = AI2 xa.1.1 xa.1.2.1 xa.2.1.1 xa.2.1.2.1 xa.2.1.2.2.1 xa.2.1.2.2.2.1 xa.2.1.2.2.2.2.1 xa.2.1.2.2.2.2.2.1 xa.2.1.2.2.2.2.2.2.1 xa.2.2.1 xa.2.2.2.1 xa.2.2.2.2.1 := by intros; kernel_rfl
def Sn : AG := ⟨.agg (.val int <| .val (.sl AR) <| .nil) <| .agg (.val int <| .val int <| .val int <| .val int <| .val int <| .val int <| .val int <| .nil) <| .val (.sl int) <| .val (.sl int) <| .val (.sl int) <| .nil, [], .agg (.val int <| .val (.sl AR) <| .nil) <| .val (.sl int) <| .nil, []⟩
theorem AFd : ∀ (xa : Sn.args.ty.den) (xo : (AY Sn.Aa).den), (Sn.prog (mkC Tryz.prog BS ⟨false, false⟩ (fun _ => none) (fun _ => none)) Tryz.f76 ((xa.1, ((18 : Int), xa.2.1.2), xa.2.2)) xo).run = AI3 xa.1.1 xa.1.2.1 xa.2.1.1 xa.2.1.2.1 xa.2.1.2.2.1 xa.2.1.2.2.2.1 xa.2.1.2.2.2.2.1 xa.2.1.2.2.2.2.2.1 xa.2.1.2.2.2.2.2.2.1 xa.2.2.1 xa.2.2.2.1 xa.2.2.2.2.1 := by intros; kernel_rfl
def Q6 : AG := ⟨.agg (.val int <| .val (.sl AR) <| .nil) <| .agg (.val int <| .val int <| .val int <| .val int <| .val int <| .val int <| .val int <| .nil) <| .val (.sl int) <| .val (.sl int) <| .val (.sl int) <| .nil, [], .agg (.val int <| .val (.sl AR) <| .nil) <| .val (.sl int) <| .nil, []⟩
theorem AKM (xa : Q6.args.ty.den) (xo : (AY Q6.Aa).den) (y : Q6.oty.den) (h : bDo xa.1.1 xa.1.2.1 xa.2.1.1 xa.2.1.2.1 xa.2.1.2.2.1 xa.2.1.2.2.2.1 xa.2.1.2.2.2.2.1 xa.2.1.2.2.2.2.2.1 xa.2.1.2.2.2.2.2.2.1 xa.2.2.1 xa.2.2.2.1 xa.2.2.2.2.1 = some y) : (Q6.prog (mkC Tryz.prog BS ⟨false, false⟩ (fun _ => none) (fun _ => none)) Tryz.f76 xa xo).run = some y := by
 obtain ⟨g, ⟨op, r⟩, s⟩ := xa
 unfold bDo at h
 refine At h (fun e h => ?_) fun h => ?_
 ·have e : op = 1 := e
  subst e
  exact (AHt (g, ((1 : Int), r), s) xo).trans h
 refine At h (fun e h => ?_) fun h => ?_
 ·have e : op = 3 := e
  subst e
  exact (AHu (g, ((3 : Int), r), s) xo).trans h
 refine At h (fun e h => ?_) fun h => ?_
 ·have e : op = 4 := e
  subst e
  exact (AHv (g, ((4 : Int), r), s) xo).trans h
 refine At h (fun e h => ?_) fun h => ?_
 ·have e : op = 5 := e
  subst e
  exact (AHw (g, ((5 : Int), r), s) xo).trans h
 refine At h (fun e h => ?_) fun h => ?_
 ·have e : op = 6 := e
  subst e
  exact (AHx (g, ((6 : Int), r), s) xo).trans h
 refine At h (fun e h => ?_) fun h => ?_
 ·have e : op = 7 := e
  subst e
  exact (AHy (g, ((7 : Int), r), s) xo).trans h
 refine At h (fun e h => ?_) fun h => ?_
 ·have e : op = 8 := e
  subst e
  exact (AHz (g, ((8 : Int), r), s) xo).trans h
 refine At h (fun e h => ?_) fun h => ?_
 ·have e : op = 9 := e
  subst e
  exact (AH0 (g, ((9 : Int), r), s) xo).trans h
 refine At h (fun e h => ?_) fun h => ?_
 ·have e : op = 10 := e
  subst e
  exact (AFV (g, ((10 : Int), r), s) xo).trans h
 refine At h (fun e h => ?_) fun h => ?_
 ·have e : op = 11 := e
  subst e
  exact (AFW (g, ((11 : Int), r), s) xo).trans h
 refine At h (fun e h => ?_) fun h => ?_
 ·have e : op = 12 := e
  subst e
  exact (AFX (g, ((12 : Int), r), s) xo).trans h
 refine At h (fun e h => ?_) fun h => ?_
 ·have e : op = 13 := e
  subst e
  exact (AFY (g, ((13 : Int), r), s) xo).trans h
 refine At h (fun e h => ?_) fun h => ?_
 ·have e : op = 14 := e
  subst e
  exact (AFZ (g, ((14 : Int), r), s) xo).trans h
 refine At h (fun e h => ?_) fun h => ?_
 ·have e : op = 15 := e
  subst e
  exact (AFa (g, ((15 : Int), r), s) xo).trans h
 refine At h (fun e h => ?_) fun h => ?_
 ·have e : op = 16 := e
  subst e
  exact (AFb (g, ((16 : Int), r), s) xo).trans h
 refine At h (fun e h => ?_) fun h => ?_
 ·have e : op = 17 := e
  subst e
  exact (AFc (g, ((17 : Int), r), s) xo).trans h
 refine At h (fun e h => ?_) fun h => ?_
 ·have e : op = 18 := e
  subst e
  exact (AFd (g, ((18 : Int), r), s) xo).trans h
 exact Jt h
noncomputable def AFe := AH BS 76 (Q6.AF (fun xa xo => bDo xa.1.1 xa.1.2.1 xa.2.1.1 xa.2.1.2.1 xa.2.1.2.2.1 xa.2.1.2.2.2.1 xa.2.1.2.2.2.2.1 xa.2.1.2.2.2.2.2.1 xa.2.1.2.2.2.2.2.2.1 xa.2.2.1 xa.2.2.2.1 xa.2.2.2.2.1))
theorem AFf : OKs AFe := R6 MJ MJ fol Tryz.func76 (by kernel_rfl) (by kernel_rfl) (by kernel_rfl) (S := Q6) (md := ⟨false, false⟩) (L := fun _ => none) (J := fun _ => none) AKM
end AL
end
