/- The texts MSatA, MSatB, MSatC, MSatD, MTopA, MTopC, MTopB, MCertA, MCertB, MCertC, MTopR, MCertD, MCertE, MTopD, MTopE, MTopF, MTopG, WSatA, WSatB, WSatC, WSatD, WTopA, WTopC, one behind the other. -/
import Derived.Test.YthbgfkccfpihgaaGreatDoorGA4
import Derived.Test.YthbgfkccfpihgaaGreatDoorProg
set_option linter.unusedVariables false
set_option linter.unusedSimpArgs false
section
namespace AL
open Go
abbrev LN := List (Int × Int × Int × Int × Int × Int × Int × Unit)
abbrev LC := List (ByteArray × Int × Int × Int × Unit)
abbrev LQ := List (Int × ByteArray × Int × Unit)
abbrev LP := List (ByteArray × Int × Unit)
abbrev LT := List (Int × Int × Bool × Int × Int × Unit)
abbrev L3 := List (Int × Int × Int × Unit)
abbrev L2 := List (Int × Int × Unit)
abbrev LLI := List (List Int)
abbrev LI := List Int
abbrev NET := LN × LP × LC × LQ × LP
abbrev CIR := Int × L2 × L3 × LT × L3
def size (x : Int) : Option ((Int × Unit) × Unit × Unit) :=
gd (inK .i64 (0 - x)) <|
some ((max2 x (0 - x), ()), (), ())
def at_ (x : Int) : Option ((Int × Unit) × Unit × Unit) :=
bif decide (x < 0) then
gd (inK .i64 (-2 * x)) <|
gd (inK .i64 (-2 * x + 1)) <|
some ((-2 * x + 1, ()), (), ())
else
gd (inK .i64 (2 * x)) <|
some ((2 * x, ()), (), ())
def value (x : Int) (is : LI) : Option ((Int × Unit) × ((LI × Unit) × Unit) × Unit) :=
bif decide (x < 0) then
gd (inK .i64 (0 - x)) <|
gd (0 <= 0 - x) <|
gd (0 - x < nI is.length) <|
gd (inK .i64 (0 - AE is (0 - x))) <|
some ((0 - AE is (0 - x), ()), ((is, ()), ()), ())
else
gd (0 <= x) <|
gd (x < nI is.length) <|
some ((AE is x, ()), ((is, ()), ()), ())
def R6 (x : Int) (y : Int) (is : LI) (depth : LI) (why : LI) (row : LI) (begin : LI) : Option (Unit × ((LI × LI × LI × LI × LI × Unit) × Unit) × Unit) :=
AD (size x) fun y0 =>
gd (0 <= y0.1.1) <|
gd (y0.1.1 < nI is.length) <|
bif decide (x < 0) then
gd (0 <= y0.1.1) <|
gd (y0.1.1 < nI (is.set y0.1.1.toNat 1).length) <|
gd (0 <= y0.1.1) <|
gd (y0.1.1 < nI depth.length) <|
gd (0 <= y0.1.1) <|
gd (y0.1.1 < nI why.length) <|
gd ((row.length + [x].length) * 8 <= lim) <|
gd (row.length + [x].length <= lim) <|
some ((), (((is.set y0.1.1.toNat 1).set y0.1.1.toNat (-1), depth.set y0.1.1.toNat (nI begin.length), why.set y0.1.1.toNat y, row ++ [x], begin, ()), ()), ())
else
gd (0 <= y0.1.1) <|
gd (y0.1.1 < nI depth.length) <|
gd (0 <= y0.1.1) <|
gd (y0.1.1 < nI why.length) <|
gd ((row.length + [x].length) * 8 <= lim) <|
gd (row.length + [x].length <= lim) <|
some ((), ((is.set y0.1.1.toNat 1, depth.set y0.1.1.toNat (nI begin.length), why.set y0.1.1.toNat y, row ++ [x], begin, ()), ()), ())
def AIp (nn : Nat)  (level : Int) (is : LI) (old : LI) (cold : Int) (row : LI) (begin : LI) (done : Int) : Option (Unit × ((LI × LI × Int × LI × LI × Int × Unit) × Unit) × Unit) :=
bif decide (level >= nI begin.length) then
some ((), ((is, old, cold, row, begin, done, ()), ()), ())
else
gd (0 <= level) <|
gd (level < nI begin.length) <|
gd (0 <= AE begin level) <|
gd (AE begin level <= nI row.length) <|
gd (nI row.length <= nI row.length) <|
gd (nI row.length - AE begin level <= nI lim) <|
AQ (X := Int × (Int × Int) × LI × LI) (fun y0 =>
bif decide (y0.1 < nI row.length - AE begin level) then
gd (0 <= y0.1) <|
gd (y0.1 < nI row.length - AE begin level) <|
AD (size (AE row (AE begin level + y0.1))) fun y1 =>
gd (0 <= y1.1.1) <|
gd (y1.1.1 < nI y0.2.2.1.length) <|
gd (0 <= y1.1.1) <|
gd (y1.1.1 < nI y0.2.2.2.length) <|
gd (0 <= y1.1.1) <|
gd (y1.1.1 < nI y0.2.2.1.length) <|
gd (inK .i64 (y0.1 + 1)) <|
some (Sum.inl (y0.1 + 1, (min2 y0.2.1.1 y1.1.1, y0.2.1.2), y0.2.2.1.set y1.1.1.toNat 0, y0.2.2.2.set y1.1.1.toNat (AE y0.2.2.1 y1.1.1)))
else
gd (0 <= AE begin level) <|
gd (AE begin level <= nI row.length) <|
gd (0 <= level) <|
gd (level <= nI begin.length) <|
some (Sum.inr ((), ((y0.2.2.1, y0.2.2.2, y0.2.1.1, List.take (Int.toNat (AE begin level)) row, List.take level.toNat begin, AE begin level, ()), ()), ()))) (nn) (0, (cold, done), is, old)
def back (level : Int) (is : LI) (old : LI) (cold : Int) (row : LI) (begin : LI) (done : Int) : Option (Unit × ((LI × LI × Int × LI × LI × Int × Unit) × Unit) × Unit) := AIp AK level is old cold row begin done
def keep (c : LI) (all : LLI) (ix : Int) (watch : LLI) : Option ((Int × Unit) × ((LLI × Int × LLI × Unit) × Unit) × Unit) :=
gd ((all.length + 1) * 24 <= lim) <|
gd (all.length + 1 <= lim) <|
gd (inK .i64 (nI (all ++ [c]).length - 1)) <|
gd (0 < nI c.length) <|
AD (at_ (AE c 0)) fun y0 =>
gd (0 < nI c.length) <|
AD (at_ (AE c 0)) fun y1 =>
gd (0 <= y1.1.1) <|
gd (y1.1.1 < nI watch.length) <|
gd ((List.length (Ao watch y1.1.1) + [nI (all ++ [c]).length - 1].length) * 8 <= lim) <|
gd (List.length (Ao watch y1.1.1) + [nI (all ++ [c]).length - 1].length <= lim) <|
gd (0 <= y0.1.1) <|
gd (y0.1.1 < nI watch.length) <|
gd (y1.1.1 = y0.1.1) <|
gd (1 < nI c.length) <|
AD (at_ (AE c 1)) fun y2 =>
gd (1 < nI c.length) <|
AD (at_ (AE c 1)) fun y3 =>
gd (0 <= y3.1.1) <|
gd (y3.1.1 < nI (watch.set y0.1.1.toNat (Ao watch y1.1.1 ++ [nI (all ++ [c]).length - 1])).length) <|
gd ((List.length (Ao (watch.set y0.1.1.toNat (Ao watch y1.1.1 ++ [nI (all ++ [c]).length - 1])) y3.1.1) + [nI (all ++ [c]).length - 1].length) * 8 <= lim) <|
gd (List.length (Ao (watch.set y0.1.1.toNat (Ao watch y1.1.1 ++ [nI (all ++ [c]).length - 1])) y3.1.1) + [nI (all ++ [c]).length - 1].length <= lim) <|
gd (0 <= y2.1.1) <|
gd (y2.1.1 < nI (watch.set y0.1.1.toNat (Ao watch y1.1.1 ++ [nI (all ++ [c]).length - 1])).length) <|
gd (y3.1.1 = y2.1.1) <|
some ((nI (all ++ [c]).length - 1, ()), ((all ++ [c], nI all.length, (watch.set y0.1.1.toNat (Ao watch y1.1.1 ++ [nI (all ++ [c]).length - 1])).set y2.1.1.toNat (Ao (watch.set y0.1.1.toNat (Ao watch y1.1.1 ++ [nI (all ++ [c]).length - 1])) y3.1.1 ++ [nI (all ++ [c]).length - 1]), ()), ()), ())
end AL
end
section
namespace AL
open Go
def forget (answer : Int) (core : LI) (model : List Bool) : Option (Unit × ((Int × LI × List Bool × Unit) × Unit) × Unit) :=
some ((), ((0, [], [], ()), ()), ())
def AJo (x : Int) (vars : Int) : Option ((Bool × Unit) × (Unit × (Int × Unit) × Unit) × Unit) :=
bif x == 0 then
some ((true, ()), ((), (vars, ()), ()), ())
else
gd (inK .i64 (0 - vars)) <|
bif bif false then true else decide (x < 0 - vars) then
some ((true, ()), ((), (vars, ()), ()), ())
else
some ((bif false then true else decide (x > vars), ()), ((), (vars, ()), ()), ())
def HM (nn : Nat)  (s : LI) (vars : Int) : Option ((Int × Unit) × (Unit × (Int × Unit) × Unit) × Unit) :=
AQ (X := Int × Int) (fun y0 =>
bif decide (y0.1 < nI s.length) then
gd (0 <= y0.1) <|
gd (y0.1 < nI s.length) <|
AD (AJo (AE s y0.1) y0.2) fun y1 =>
bif y1.1.1 then
some (Sum.inr ((y0.1, ()), ((), (y1.2.1.2.1.1, ()), ()), ()))
else
gd (inK .i64 (y0.1 + 1)) <|
some (Sum.inl (y0.1 + 1, y1.2.1.2.1.1))
else
some (Sum.inr ((-1, ()), ((), (y0.2, ()), ()), ()))) (nn) (0, vars)
def IQ (s : LI) (vars : Int) : Option ((Int × Unit) × (Unit × (Int × Unit) × Unit) × Unit) := HM AK s vars
def Dm (s : LI) (vars : Int) : Option ((Bool × Unit) × (Unit × (Int × Unit) × Unit) × Unit) :=
AD (IQ s vars) fun y0 =>
some ((decide (y0.1.1 >= 0), ()), ((), (y0.2.1.2.1.1, ()), ()), ())
def own (l : LI) (vars : Int) : Option ((Bool × Unit) × ((Int × Unit) × Unit) × Unit) :=
AD (Dm l vars) fun y0 =>
some ((!y0.1.1, ()), ((y0.2.1.2.1.1, ()), ()), ())
def Z7 (nn : Nat)  (s : LI) (v : Int) : Option ((Int × Unit) × Unit × Unit) :=
AQ (X := Int) (fun y0 =>
bif decide (y0 < nI s.length) then
gd (0 <= y0) <|
gd (y0 < nI s.length) <|
bif v == AE s y0 then
some (Sum.inr ((y0, ()), (), ()))
else
gd (inK .i64 (y0 + 1)) <|
some (Sum.inl (y0 + 1))
else
some (Sum.inr ((-1, ()), (), ()))) (nn) 0
def ADu (s : LI) (v : Int) : Option ((Int × Unit) × Unit × Unit) := Z7 AK s v
def EW (s : LI) (v : Int) : Option ((Bool × Unit) × Unit × Unit) :=
AD (ADu s v) fun y0 =>
some ((decide (y0.1.1 >= 0), ()), (), ())
def AIq (nn : Nat)  (vars : Int) (is : LI) (old : LI) (hot : LI) (warm : LI) (cold : Int) : Option ((Int × Unit) × ((Int × LI × LI × LI × LI × Int × Unit) × Unit) × Unit) :=
AQ (X := Int × Int) (fun y0 =>
bif decide (y0.2 < nI warm.length) then
gd (0 <= y0.2) <|
gd (y0.2 < nI warm.length) <|
gd (0 <= AE warm y0.2) <|
gd (AE warm y0.2 < nI is.length) <|
bif AE is (AE warm y0.2) == 0 then
bif y0.1 == 0 then
gd (inK .i64 (y0.2 + 1)) <|
some (Sum.inl (AE warm y0.2, y0.2 + 1))
else
gd (0 <= AE warm y0.2) <|
gd (AE warm y0.2 < nI hot.length) <|
gd (0 <= y0.1) <|
gd (y0.1 < nI hot.length) <|
bif bif false then true else decide (AE hot (AE warm y0.2) > AE hot y0.1) then
gd (inK .i64 (y0.2 + 1)) <|
some (Sum.inl (AE warm y0.2, y0.2 + 1))
else
gd (0 <= AE warm y0.2) <|
gd (AE warm y0.2 < nI hot.length) <|
gd (0 <= y0.1) <|
gd (y0.1 < nI hot.length) <|
bif AE hot (AE warm y0.2) == AE hot y0.1 then
bif bif true then bif false then true else bif true then decide (AE warm y0.2 < y0.1) else false else false then
gd (inK .i64 (y0.2 + 1)) <|
some (Sum.inl (AE warm y0.2, y0.2 + 1))
else
gd (inK .i64 (y0.2 + 1)) <|
some (Sum.inl (y0.1, y0.2 + 1))
else
gd (inK .i64 (y0.2 + 1)) <|
some (Sum.inl (y0.1, y0.2 + 1))
else
gd (inK .i64 (y0.2 + 1)) <|
some (Sum.inl (y0.1, y0.2 + 1))
else
AQ (X := Int × Int × LI × LI × LI × LI × Int) (fun y1 =>
bif y1.1 == 0 then
bif bif true then decide (y1.2.2.2.2.2.2 <= y1.2.1) else false then
gd (0 <= y1.2.2.2.2.2.2) <|
gd (y1.2.2.2.2.2.2 < nI y1.2.2.1.length) <|
bif AE y1.2.2.1 y1.2.2.2.2.2.2 == 0 then
gd (0 <= y1.2.2.2.2.2.2) <|
gd (y1.2.2.2.2.2.2 < nI y1.2.2.2.2.1.length) <|
bif bif true then AE y1.2.2.2.2.1 y1.2.2.2.2.2.2 == 0 else false then
gd (inK .i64 (y1.2.2.2.2.2.2 + 1)) <|
some (Sum.inl (y1.2.2.2.2.2.2, y1.2.1, y1.2.2.1, y1.2.2.2.1, y1.2.2.2.2.1, y1.2.2.2.2.2.1, y1.2.2.2.2.2.2 + 1))
else
gd (inK .i64 (y1.2.2.2.2.2.2 + 1)) <|
some (Sum.inl (y1.1, y1.2.1, y1.2.2.1, y1.2.2.2.1, y1.2.2.2.2.1, y1.2.2.2.2.2.1, y1.2.2.2.2.2.2 + 1))
else
gd (inK .i64 (y1.2.2.2.2.2.2 + 1)) <|
some (Sum.inl (y1.1, y1.2.1, y1.2.2.1, y1.2.2.2.1, y1.2.2.2.2.1, y1.2.2.2.2.2.1, y1.2.2.2.2.2.2 + 1))
else
bif decide (y1.1 > 0) then
gd (0 <= y1.1) <|
gd (y1.1 < nI y1.2.2.2.1.length) <|
bif bif true then AE y1.2.2.2.1 y1.1 == 1 else false then
some (Sum.inr (Sum.inr ((y1.1, ()), ((y1.2.1, y1.2.2.1, y1.2.2.2.1, y1.2.2.2.2.1, y1.2.2.2.2.2.1, y1.2.2.2.2.2.2, ()), ()), ())))
else
gd (inK .i64 (0 - y1.1)) <|
some (Sum.inr (Sum.inr ((0 - y1.1, ()), ((y1.2.1, y1.2.2.1, y1.2.2.2.1, y1.2.2.2.2.1, y1.2.2.2.2.2.1, y1.2.2.2.2.2.2, ()), ()), ())))
else
gd (inK .i64 (0 - y1.1)) <|
some (Sum.inr (Sum.inr ((0 - y1.1, ()), ((y1.2.1, y1.2.2.1, y1.2.2.2.1, y1.2.2.2.2.1, y1.2.2.2.2.2.1, y1.2.2.2.2.2.2, ()), ()), ())))
else
bif decide (y1.1 > 0) then
gd (0 <= y1.1) <|
gd (y1.1 < nI y1.2.2.2.1.length) <|
bif bif true then AE y1.2.2.2.1 y1.1 == 1 else false then
some (Sum.inr (Sum.inr ((y1.1, ()), ((y1.2.1, y1.2.2.1, y1.2.2.2.1, y1.2.2.2.2.1, y1.2.2.2.2.2.1, y1.2.2.2.2.2.2, ()), ()), ())))
else
gd (inK .i64 (0 - y1.1)) <|
some (Sum.inr (Sum.inr ((0 - y1.1, ()), ((y1.2.1, y1.2.2.1, y1.2.2.2.1, y1.2.2.2.2.1, y1.2.2.2.2.2.1, y1.2.2.2.2.2.2, ()), ()), ())))
else
gd (inK .i64 (0 - y1.1)) <|
some (Sum.inr (Sum.inr ((0 - y1.1, ()), ((y1.2.1, y1.2.2.1, y1.2.2.2.1, y1.2.2.2.2.1, y1.2.2.2.2.2.1, y1.2.2.2.2.2.2, ()), ()), ())))) (nn) (y0.1, vars, is, old, hot, warm, cold)) (nn) (0, 0)
def pick (vars : Int) (is : LI) (old : LI) (hot : LI) (warm : LI) (cold : Int) : Option ((Int × Unit) × ((Int × LI × LI × LI × LI × Int × Unit) × Unit) × Unit) := AIq AK vars is old hot warm cold
def Ev (s : LI) : Option ((LI × Unit) × Unit × Unit) :=
gd ((([] : LI).length + s.length) * 8 <= lim) <|
gd (([] : LI).length + s.length <= lim) <|
some ((s, ()), (), ())
end AL
end
section
namespace AL
open Go
def more (l : LI) (n : Int) : Option ((LI × Unit) × Unit × Unit) :=
gd (inK .i64 (n - nI l.length)) <|
gd (0 <= n - nI l.length) <|
gd ((l.length + Int.toNat (n - nI l.length)) * 8 <= lim) <|
gd (l.length + Int.toNat (n - nI l.length) <= lim) <|
some ((l ++ List.replicate (Int.toNat (n - nI l.length)) 0, ()), (), ())
def grow (n : Int) (vars : Int) (watch : LLI) (is : LI) (depth : LI) (why : LI) (old : LI) (hot : LI) : Option (Unit × ((Int × LLI × LI × LI × LI × LI × LI × Unit) × Unit) × Unit) :=
gd (inK .i64 (n + 1)) <|
AD (more is (n + 1)) fun y0 =>
gd (inK .i64 (n + 1)) <|
AD (more depth (n + 1)) fun y1 =>
gd (inK .i64 (n + 1)) <|
AD (more why (n + 1)) fun y2 =>
gd (inK .i64 (n + 1)) <|
AD (more old (n + 1)) fun y3 =>
gd (inK .i64 (n + 1)) <|
AD (more hot (n + 1)) fun y4 =>
gd (inK .i64 (2 * n)) <|
gd (inK .i64 (2 * n + 2)) <|
gd (inK .i64 (2 * n + 2 - nI watch.length)) <|
gd (0 <= 2 * n + 2 - nI watch.length) <|
gd ((watch.length + Int.toNat (2 * n + 2 - nI watch.length)) * 24 <= lim) <|
gd (watch.length + Int.toNat (2 * n + 2 - nI watch.length) <= lim) <|
some ((), ((n, watch ++ List.replicate (Int.toNat (2 * n + 2 - nI watch.length)) [], y0.1.1, y1.1.1, y2.1.1, y3.1.1, y4.1.1, ()), ()), ())
def New (n : Int) : Option (Unit × Unit × (Int × LLI × LLI × LI × LI × LI × LI × LI × LI × Int × LI × LI × Int × Bool × LLI × Int × LI × List Bool × Unit) × Unit) :=
AD (grow (min2 (max2 n 0) 1048576) 0 [] [] [] [] [] []) fun y0 =>
some ((), (), (y0.2.1.1.1, [], y0.2.1.1.2.1, y0.2.1.1.2.2.1, y0.2.1.1.2.2.2.1, y0.2.1.1.2.2.2.2.1, y0.2.1.1.2.2.2.2.2.1, y0.2.1.1.2.2.2.2.2.2.1, [], 1, [], [], 0, false, [], 0, [], [], ()), ())
def AKl (nn : Nat)  (c : LI) (vars : Int) (all : LLI) (watch : LLI) (is : LI) (depth : LI) (why : LI) (old : LI) (cold : Int) (row : LI) (begin : LI) (done : Int) (empty : Bool) (answer : Int) (core : LI) (model : List Bool) : Option (Unit × ((Int × LLI × LLI × LI × LI × LI × LI × Int × LI × LI × Int × Bool × Int × LI × List Bool × Unit) × Unit) × Unit) :=
AD (forget answer core model) fun y0 =>
AD (own c vars) fun y1 =>
bif !y1.1.1 then
some ((), ((y1.2.1.1.1, all, watch, is, depth, why, old, cold, row, begin, done, empty, y0.2.1.1.1, y0.2.1.1.2.1, y0.2.1.1.2.2.1, ()), ()), ())
else
AD (back 0 is old cold row begin done) fun y2 =>
AQ (X := Int × (Int × Int × Int × Bool × Int) × LI) (fun y3 =>
bif decide (y3.1 < nI c.length) then
gd (0 <= y3.1) <|
gd (y3.1 < nI c.length) <|
AD (value (AE c y3.1) y2.2.1.1.1) fun y4 =>
bif y4.1.1 == 1 then
some (Sum.inr ((), ((y3.2.1.1, all, watch, y2.2.1.1.1, depth, why, y2.2.1.1.2.1, y3.2.1.2.1, y2.2.1.1.2.2.2.1, y2.2.1.1.2.2.2.2.1, y3.2.1.2.2.1, y3.2.1.2.2.2.1, y3.2.1.2.2.2.2, y0.2.1.1.2.1, y0.2.1.1.2.2.1, ()), ()), ()))
else
gd (inK .i64 (0 - AE c y3.1)) <|
AD (EW c (0 - AE c y3.1)) fun y5 =>
bif bif false then true else y5.1.1 then
some (Sum.inr ((), ((y3.2.1.1, all, watch, y2.2.1.1.1, depth, why, y2.2.1.1.2.1, y3.2.1.2.1, y2.2.1.1.2.2.2.1, y2.2.1.1.2.2.2.2.1, y3.2.1.2.2.1, y3.2.1.2.2.2.1, y3.2.1.2.2.2.2, y0.2.1.1.2.1, y0.2.1.1.2.2.1, ()), ()), ()))
else
AD (value (AE c y3.1) y2.2.1.1.1) fun y6 =>
bif y6.1.1 == 0 then
AD (EW y3.2.2 (AE c y3.1)) fun y7 =>
bif bif true then !y7.1.1 else false then
gd ((y3.2.2.length + [AE c y3.1].length) * 8 <= lim) <|
gd (y3.2.2.length + [AE c y3.1].length <= lim) <|
gd (inK .i64 (y3.1 + 1)) <|
some (Sum.inl (y3.1 + 1, (y3.2.1.1, y3.2.1.2.1, y3.2.1.2.2.1, y3.2.1.2.2.2.1, y3.2.1.2.2.2.2), y3.2.2 ++ [AE c y3.1]))
else
gd (inK .i64 (y3.1 + 1)) <|
some (Sum.inl (y3.1 + 1, (y3.2.1.1, y3.2.1.2.1, y3.2.1.2.2.1, y3.2.1.2.2.2.1, y3.2.1.2.2.2.2), y3.2.2))
else
gd (inK .i64 (y3.1 + 1)) <|
some (Sum.inl (y3.1 + 1, (y3.2.1.1, y3.2.1.2.1, y3.2.1.2.2.1, y3.2.1.2.2.2.1, y3.2.1.2.2.2.2), y3.2.2))
else
bif nI y3.2.2.length == 0 then
some (Sum.inr ((), ((y3.2.1.1, all, watch, y2.2.1.1.1, depth, why, y2.2.1.1.2.1, y3.2.1.2.1, y2.2.1.1.2.2.2.1, y2.2.1.1.2.2.2.2.1, y3.2.1.2.2.1, true, y3.2.1.2.2.2.2, y0.2.1.1.2.1, y0.2.1.1.2.2.1, ()), ()), ()))
else
bif nI y3.2.2.length == 1 then
gd (0 < nI y3.2.2.length) <|
AD (R6 (AE y3.2.2 0) (-1) y2.2.1.1.1 depth why y2.2.1.1.2.2.2.1 y2.2.1.1.2.2.2.2.1) fun y4 =>
some (Sum.inr ((), ((y3.2.1.1, all, watch, y4.2.1.1.1, y4.2.1.1.2.1, y4.2.1.1.2.2.1, y2.2.1.1.2.1, y3.2.1.2.1, y4.2.1.1.2.2.2.1, y2.2.1.1.2.2.2.2.1, y3.2.1.2.2.1, y3.2.1.2.2.2.1, y3.2.1.2.2.2.2, y0.2.1.1.2.1, y0.2.1.1.2.2.1, ()), ()), ()))
else
AD (keep y3.2.2 all 0 watch) fun y4 =>
some (Sum.inr ((), ((y3.2.1.1, y4.2.1.1.1.set y4.2.1.1.2.1.toNat y3.2.2, y4.2.1.1.2.2.1, y2.2.1.1.1, depth, why, y2.2.1.1.2.1, y3.2.1.2.1, y2.2.1.1.2.2.2.1, y2.2.1.1.2.2.2.2.1, y3.2.1.2.2.1, y3.2.1.2.2.2.1, y3.2.1.2.2.2.2, y0.2.1.1.2.1, y0.2.1.1.2.2.1, ()), ()), ()))) (nn) (0, (y1.2.1.1.1, y2.2.1.1.2.2.1, y2.2.1.1.2.2.2.2.2.1, empty, y0.2.1.1.1), [])
def Add (c : LI) (vars : Int) (all : LLI) (watch : LLI) (is : LI) (depth : LI) (why : LI) (old : LI) (cold : Int) (row : LI) (begin : LI) (done : Int) (empty : Bool) (answer : Int) (core : LI) (model : List Bool) : Option (Unit × ((Int × LLI × LLI × LI × LI × LI × LI × Int × LI × LI × Int × Bool × Int × LI × List Bool × Unit) × Unit) × Unit) := AKl AK c vars all watch is depth why old cold row begin done empty answer core model
def Core (core : LI) : Option ((LI × Unit) × ((LI × Unit) × Unit) × Unit) :=
AD (Ev core) fun y0 =>
some ((y0.1.1, ()), ((core, ()), ()), ())
def ADv (nn : Nat)  (proof : LLI) (answer : Int) : Option ((LLI × Unit) × ((LLI × Int × Unit) × Unit) × Unit) :=
bif answer != 2 then
some (([], ()), ((proof, answer, ()), ()), ())
else
AQ (X := Int × LLI) (fun y0 =>
bif decide (y0.1 < nI proof.length) then
gd (0 <= y0.1) <|
gd (y0.1 < nI proof.length) <|
AD (Ev (Ao proof y0.1)) fun y1 =>
gd ((y0.2.length + [y1.1.1].length) * 24 <= lim) <|
gd (y0.2.length + [y1.1.1].length <= lim) <|
gd (inK .i64 (y0.1 + 1)) <|
some (Sum.inl (y0.1 + 1, y0.2 ++ [y1.1.1]))
else
some (Sum.inr ((y0.2, ()), ((proof, answer, ()), ()), ()))) (nn) (0, [])
def Proof (proof : LLI) (answer : Int) : Option ((LLI × Unit) × ((LLI × Int × Unit) × Unit) × Unit) := ADv AK proof answer
def ADw (nn : Nat)  (x : Int) (all : LLI) (why : LI) (row : LI) (begin : LI) : Option ((LI × Unit) × ((LLI × LI × LI × LI × Unit) × Unit) × Unit) :=
AD (size x) fun y0 =>
gd (inK .i64 (nI row.length - 1)) <|
AQ (X := Int × LLI × LI × LI × List (Int × Bool)) (fun y1 =>
bif decide (y1.1 >= 0) then
bif bif true then decide (nI begin.length > 0) else false then
gd (0 < nI begin.length) <|
bif bif true then decide (y1.1 >= AE begin 0) else false then
gd (0 <= y1.1) <|
gd (y1.1 < nI row.length) <|
AD (size (AE row y1.1)) fun y2 =>
bif !Ad Ty.bool.Bl y1.2.2.2.2 y2.1.1 then
gd (inK .i64 (y1.1 - 1)) <|
some (Sum.inl (y1.1 - 1, y1.2.1, y1.2.2.1, y1.2.2.1, y1.2.2.2.2))
else
AD (size (AE row y1.1)) fun y3 =>
gd (0 <= y3.1.1) <|
gd (y3.1.1 < nI why.length) <|
bif AE why y3.1.1 == -1 then
gd ((y1.2.2.1.length + [AE row y1.1].length) * 8 <= lim) <|
gd (y1.2.2.1.length + [AE row y1.1].length <= lim) <|
gd (inK .i64 (y1.1 - 1)) <|
some (Sum.inl (y1.1 - 1, y1.2.1, y1.2.2.1 ++ [AE row y1.1], y1.2.2.1 ++ [AE row y1.1], y1.2.2.2.2))
else
AD (size (AE row y1.1)) fun y4 =>
gd (0 <= y4.1.1) <|
gd (y4.1.1 < nI why.length) <|
gd (0 <= AE why y4.1.1) <|
gd (AE why y4.1.1 < nI y1.2.1.length) <|
AQ (X := Int × List (Int × Bool)) (fun y5 =>
bif decide (y5.1 < nI (List.length (Ao y1.2.1 (AE why y4.1.1)))) then
gd (0 <= y5.1) <|
gd (y5.1 < nI (List.length (Ao y1.2.1 (AE why y4.1.1)))) <|
AD (size (AE (Ao y1.2.1 (AE why y4.1.1)) y5.1)) fun y6 =>
gd (y5.2.length < lim) <|
gd (inK .i64 (y5.1 + 1)) <|
some (Sum.inl (y5.1 + 1, A4 true y5.2 y6.1.1))
else
gd (inK .i64 (y1.1 - 1)) <|
some (Sum.inr (Sum.inl (y1.1 - 1, y1.2.1.set (Int.toNat (AE why y4.1.1)) (Ao y1.2.1 (AE why y4.1.1)), y1.2.2.1, y1.2.2.1, y5.2)))) (nn) (0, y1.2.2.2.2)
else
some (Sum.inr ((y1.2.2.1, ()), ((y1.2.1, why, row, begin, ()), ()), ()))
else
some (Sum.inr ((y1.2.2.1, ()), ((y1.2.1, why, row, begin, ()), ()), ()))
else
some (Sum.inr ((y1.2.2.1, ()), ((y1.2.1, why, row, begin, ()), ()), ()))) (nn) (nI row.length - 1, all, [x], [x], A4 true [] y0.1.1)
def AIr (x : Int) (all : LLI) (why : LI) (row : LI) (begin : LI) : Option ((LI × Unit) × ((LLI × LI × LI × LI × Unit) × Unit) × Unit) := ADw AK x all why row begin
def ADx (nn : Nat)  (n : Int) (all : LLI) (is : LI) (depth : LI) (why : LI) (hot : LI) (warm : LI) (row : LI) (begin : LI) : Option ((LI × Int × Unit) × ((LLI × LI × LI × LI × LI × LI × LI × LI × Unit) × Unit) × Unit) :=
gd (0 <= n) <|
gd (n < nI all.length) <|
AQ (X := (Int × Int) × (LI × LI × LI × LI × LI) × (LLI × Int) × LI × LI × LI × LI × List (Int × Bool) × LI) (fun y0 =>
AQ (X := (Int × Int) × (LI × LI × LI × LI × LI) × LI × LI × List (Int × Bool) × LI × LI) (fun y1 =>
bif decide (y1.1.1 < nI y0.2.2.2.1.length) then
gd (0 <= y1.1.1) <|
gd (y1.1.1 < nI y0.2.2.2.1.length) <|
AD (size (AE y0.2.2.2.1 y1.1.1)) fun y2 =>
bif Ad Ty.bool.Bl y1.2.2.2.2.1 y2.1.1 then
gd (inK .i64 (y1.1.1 + 1)) <|
some (Sum.inl ((y1.1.1 + 1, y1.1.2), (y1.2.1.1, y1.2.1.2.1, y1.2.1.2.2.1, y1.2.1.2.2.2.1, y1.2.1.2.2.2.2), y1.2.2.1, y1.2.2.2.1, y1.2.2.2.2.1, y1.2.2.2.2.2.1, y1.2.2.2.2.2.1))
else
AD (value (AE y0.2.2.2.1 y1.1.1) y1.2.1.1) fun y3 =>
bif bif false then true else y3.1.1 != -1 then
gd (inK .i64 (y1.1.1 + 1)) <|
some (Sum.inl ((y1.1.1 + 1, y1.1.2), (y1.2.1.1, y1.2.1.2.1, y1.2.1.2.2.1, y1.2.1.2.2.2.1, y1.2.1.2.2.2.2), y1.2.2.1, y1.2.2.2.1, y1.2.2.2.2.1, y1.2.2.2.2.2.1, y1.2.2.2.2.2.1))
else
gd (0 <= y2.1.1) <|
gd (y2.1.1 < nI y1.2.1.2.1.length) <|
bif bif false then true else AE y1.2.1.2.1 y2.1.1 == 0 then
gd (inK .i64 (y1.1.1 + 1)) <|
some (Sum.inl ((y1.1.1 + 1, y1.1.2), (y1.2.1.1, y1.2.1.2.1, y1.2.1.2.2.1, y1.2.1.2.2.2.1, y1.2.1.2.2.2.2), y1.2.2.1, y1.2.2.2.1, y1.2.2.2.2.1, y1.2.2.2.2.2.1, y1.2.2.2.2.2.1))
else
gd (y1.2.2.2.2.1.length < lim) <|
gd (0 <= y2.1.1) <|
gd (y2.1.1 < nI y1.2.2.1.length) <|
bif AE y1.2.2.1 y2.1.1 == 0 then
gd ((y1.2.2.2.1.length + [y2.1.1].length) * 8 <= lim) <|
gd (y1.2.2.2.1.length + [y2.1.1].length <= lim) <|
gd (0 <= y2.1.1) <|
gd (y2.1.1 < nI y1.2.2.1.length) <|
gd (inK .i64 (AE y1.2.2.1 y2.1.1 + 1)) <|
gd (0 <= y2.1.1) <|
gd (y2.1.1 < nI y1.2.2.1.length) <|
gd (0 <= y2.1.1) <|
gd (y2.1.1 < nI y1.2.1.2.1.length) <|
bif AE y1.2.1.2.1 y2.1.1 == nI y1.2.1.2.2.2.2.length then
gd (inK .i64 (y1.1.2 + 1)) <|
gd (inK .i64 (y1.1.1 + 1)) <|
some (Sum.inl ((y1.1.1 + 1, y1.1.2 + 1), (y1.2.1.1, y1.2.1.2.1, y1.2.1.2.2.1, y1.2.1.2.2.2.1, y1.2.1.2.2.2.2), y1.2.2.1.set y2.1.1.toNat (AE y1.2.2.1 y2.1.1 + 1), y1.2.2.2.1 ++ [y2.1.1], A4 true y1.2.2.2.2.1 y2.1.1, y1.2.2.2.2.2.1, y1.2.2.2.2.2.1))
else
gd ((y1.2.2.2.2.2.1.length + [AE y0.2.2.2.1 y1.1.1].length) * 8 <= lim) <|
gd (y1.2.2.2.2.2.1.length + [AE y0.2.2.2.1 y1.1.1].length <= lim) <|
gd (inK .i64 (y1.1.1 + 1)) <|
some (Sum.inl ((y1.1.1 + 1, y1.1.2), (y1.2.1.1, y1.2.1.2.1, y1.2.1.2.2.1, y1.2.1.2.2.2.1, y1.2.1.2.2.2.2), y1.2.2.1.set y2.1.1.toNat (AE y1.2.2.1 y2.1.1 + 1), y1.2.2.2.1 ++ [y2.1.1], A4 true y1.2.2.2.2.1 y2.1.1, y1.2.2.2.2.2.1 ++ [AE y0.2.2.2.1 y1.1.1], y1.2.2.2.2.2.1 ++ [AE y0.2.2.2.1 y1.1.1]))
else
gd (0 <= y2.1.1) <|
gd (y2.1.1 < nI y1.2.2.1.length) <|
gd (inK .i64 (AE y1.2.2.1 y2.1.1 + 1)) <|
gd (0 <= y2.1.1) <|
gd (y2.1.1 < nI y1.2.2.1.length) <|
gd (0 <= y2.1.1) <|
gd (y2.1.1 < nI y1.2.1.2.1.length) <|
bif AE y1.2.1.2.1 y2.1.1 == nI y1.2.1.2.2.2.2.length then
gd (inK .i64 (y1.1.2 + 1)) <|
gd (inK .i64 (y1.1.1 + 1)) <|
some (Sum.inl ((y1.1.1 + 1, y1.1.2 + 1), (y1.2.1.1, y1.2.1.2.1, y1.2.1.2.2.1, y1.2.1.2.2.2.1, y1.2.1.2.2.2.2), y1.2.2.1.set y2.1.1.toNat (AE y1.2.2.1 y2.1.1 + 1), y1.2.2.2.1, A4 true y1.2.2.2.2.1 y2.1.1, y1.2.2.2.2.2.1, y1.2.2.2.2.2.1))
else
gd ((y1.2.2.2.2.2.1.length + [AE y0.2.2.2.1 y1.1.1].length) * 8 <= lim) <|
gd (y1.2.2.2.2.2.1.length + [AE y0.2.2.2.1 y1.1.1].length <= lim) <|
gd (inK .i64 (y1.1.1 + 1)) <|
some (Sum.inl ((y1.1.1 + 1, y1.1.2), (y1.2.1.1, y1.2.1.2.1, y1.2.1.2.2.1, y1.2.1.2.2.2.1, y1.2.1.2.2.2.2), y1.2.2.1.set y2.1.1.toNat (AE y1.2.2.1 y2.1.1 + 1), y1.2.2.2.1, A4 true y1.2.2.2.2.1 y2.1.1, y1.2.2.2.2.2.1 ++ [AE y0.2.2.2.1 y1.1.1], y1.2.2.2.2.2.1 ++ [AE y0.2.2.2.1 y1.1.1]))
else
gd (inK .i64 (y0.1.2 - 1)) <|
AQ (X := Int) (fun y2 =>
gd (0 <= y2) <|
gd (y2 < nI y1.2.1.2.2.2.1.length) <|
AD (size (AE y1.2.1.2.2.2.1 y2)) fun y3 =>
bif !Ad Ty.bool.Bl y1.2.2.2.2.1 y3.1.1 then
gd (inK .i64 (y2 - 1)) <|
some (Sum.inl (y2 - 1))
else
gd (0 <= y2) <|
gd (y2 < nI y1.2.1.2.2.2.1.length) <|
gd (inK .i64 (y1.1.2 - 1)) <|
bif y1.1.2 - 1 == 0 then
gd (inK .i64 (0 - AE y1.2.1.2.2.2.1 y2)) <|
gd (0 < nI y1.2.2.2.2.2.1.length) <|
AQ (X := (Int × Int) × LI) (fun y4 =>
bif decide (y4.1.2 < nI y4.2.length) then
gd (0 <= y4.1.2) <|
gd (y4.1.2 < nI y4.2.length) <|
AD (size (AE y4.2 y4.1.2)) fun y5 =>
gd (0 <= y5.1.1) <|
gd (y5.1.1 < nI y1.2.1.2.1.length) <|
bif decide (AE y1.2.1.2.1 y5.1.1 > y4.1.1) then
gd (0 <= y4.1.2) <|
gd (y4.1.2 < nI y4.2.length) <|
gd (1 < nI y4.2.length) <|
gd (1 < nI y4.2.length) <|
gd (0 <= y4.1.2) <|
gd (y4.1.2 < nI (y4.2.set 1 (AE y4.2 y4.1.2)).length) <|
gd (inK .i64 (y4.1.2 + 1)) <|
some (Sum.inl ((AE y1.2.1.2.1 y5.1.1, y4.1.2 + 1), (y4.2.set 1 (AE y4.2 y4.1.2)).set y4.1.2.toNat (AE y4.2 1)))
else
gd (inK .i64 (y4.1.2 + 1)) <|
some (Sum.inl ((y4.1.1, y4.1.2 + 1), y4.2))
else
some (Sum.inr (Sum.inr (Sum.inr (Sum.inr ((y4.2, y4.1.1, ()), ((y0.2.2.1.1.set y0.2.2.1.2.toNat y0.2.2.2.1, y1.2.1.1, y1.2.1.2.1, y1.2.1.2.2.1, y1.2.2.1, y1.2.2.2.1, y1.2.1.2.2.2.1, y1.2.1.2.2.2.2, ()), ()), ())))))) (nn) ((0, 1), y1.2.2.2.2.2.1.set 0 (0 - AE y1.2.1.2.2.2.1 y2))
else
AD (size (AE y1.2.1.2.2.2.1 y2)) fun y4 =>
gd (0 <= y4.1.1) <|
gd (y4.1.1 < nI y1.2.1.2.2.1.length) <|
gd (0 <= AE y1.2.1.2.2.1 y4.1.1) <|
gd (AE y1.2.1.2.2.1 y4.1.1 < nI y0.2.2.1.1.length) <|
some (Sum.inr (Sum.inr (Sum.inl ((y1.1.2 - 1, y2), (y1.2.1.1, y1.2.1.2.1, y1.2.1.2.2.1, y1.2.1.2.2.2.1, y1.2.1.2.2.2.2), (y0.2.2.1.1.set y0.2.2.1.2.toNat y0.2.2.2.1, AE y1.2.1.2.2.1 y4.1.1), Ao (y0.2.2.1.1.set y0.2.2.1.2.toNat y0.2.2.2.1) (AE y1.2.1.2.2.1 y4.1.1), Ao (y0.2.2.1.1.set y0.2.2.1.2.toNat y0.2.2.2.1) (AE y1.2.1.2.2.1 y4.1.1), y1.2.2.1, y1.2.2.2.1, y1.2.2.2.2.1, y1.2.2.2.2.2.1))))) (nn) (y0.1.2 - 1)) (nn) ((0, y0.1.1), (y0.2.1.1, y0.2.1.2.1, y0.2.1.2.2.1, y0.2.1.2.2.2.1, y0.2.1.2.2.2.2), y0.2.2.2.2.2.1, y0.2.2.2.2.2.2.1, y0.2.2.2.2.2.2.2.1, y0.2.2.2.2.2.2.2.2, y0.2.2.2.2.2.2.2.2)) (nn) ((0, nI row.length), (is, depth, why, row, begin), (all, n), Ao all n, Ao all n, hot, warm, [], [0])
def AIs (n : Int) (all : LLI) (is : LI) (depth : LI) (why : LI) (hot : LI) (warm : LI) (row : LI) (begin : LI) : Option ((LI × Int × Unit) × ((LLI × LI × LI × LI × LI × LI × LI × LI × Unit) × Unit) × Unit) := ADx AK n all is depth why hot warm row begin
def AIt (nn : Nat)  (all : LLI) (watch : LLI) (is : LI) (depth : LI) (why : LI) (row : LI) (begin : LI) (done : Int) : Option ((Int × Unit) × ((LLI × LLI × LI × LI × LI × LI × LI × Int × Unit) × Unit) × Unit) :=
AQ (X := (LI × Int) × LLI × LLI × LI × LI × LI × LI) (fun y0 =>
bif decide (y0.1.2 < nI y0.2.2.2.2.2.2.length) then
gd (0 <= y0.1.2) <|
gd (y0.1.2 < nI y0.2.2.2.2.2.2.length) <|
gd (inK .i64 (0 - AE y0.2.2.2.2.2.2 y0.1.2)) <|
gd (inK .i64 (y0.1.2 + 1)) <|
AD (at_ (0 - AE y0.2.2.2.2.2.2 y0.1.2)) fun y1 =>
gd (0 <= y1.1.1) <|
gd (y1.1.1 < nI y0.2.2.1.length) <|
Nd (X := (Int × Int × Int) × (LI × Int) × LLI × (LLI × Int) × LI × LI × LI × LI × LI) (
AQ (X := (Int × Int) × (LI × Int) × LLI × (LLI × Int) × LI × LI × LI × LI × LI) (fun y2 =>
bif decide (y2.1.2 < nI (List.length (Ao y0.2.2.1 y1.1.1))) then
gd (0 <= y2.1.2) <|
gd (y2.1.2 < nI y2.2.2.2.2.1.length) <|
gd (0 <= AE y2.2.2.2.2.1 y2.1.2) <|
gd (AE y2.2.2.2.2.1 y2.1.2 < nI y2.2.2.1.length) <|
Nd (X := LI) (
gd (0 < nI (List.length (Ao y2.2.2.1 (AE y2.2.2.2.2.1 y2.1.2)))) <|
bif AE (Ao y2.2.2.1 (AE y2.2.2.2.2.1 y2.1.2)) 0 == 0 - AE y0.2.2.2.2.2.2 y0.1.2 then
gd (1 < nI (List.length (Ao y2.2.2.1 (AE y2.2.2.2.2.1 y2.1.2)))) <|
gd (0 < nI (List.length (Ao y2.2.2.1 (AE y2.2.2.2.2.1 y2.1.2)))) <|
gd (0 < nI (List.length (Ao y2.2.2.1 (AE y2.2.2.2.2.1 y2.1.2)))) <|
gd (1 < nI (List.set (Ao y2.2.2.1 (AE y2.2.2.2.2.1 y2.1.2)) 0 (AE (Ao y2.2.2.1 (AE y2.2.2.2.2.1 y2.1.2)) 1)).length) <|
some (Sum.inl ((List.set (Ao y2.2.2.1 (AE y2.2.2.2.2.1 y2.1.2)) 0 (AE (Ao y2.2.2.1 (AE y2.2.2.2.2.1 y2.1.2)) 1)).set 1 (AE (Ao y2.2.2.1 (AE y2.2.2.2.2.1 y2.1.2)) 0)))
else
some (Sum.inl (Ao y2.2.2.1 (AE y2.2.2.2.2.1 y2.1.2)))) fun y3 =>
gd (0 < nI y3.length) <|
AD (value (AE y3 0) y2.2.2.2.2.2.1) fun y4 =>
bif y4.1.1 == 1 then
gd (0 <= y2.1.1) <|
gd (y2.1.1 < nI y2.2.2.2.2.1.length) <|
gd (inK .i64 (y2.1.1 + 1)) <|
gd (inK .i64 (y2.1.2 + 1)) <|
some (Sum.inl ((y2.1.1 + 1, y2.1.2 + 1), (y2.2.1.1, y2.2.1.2), y2.2.2.1.set (Int.toNat (AE y2.2.2.2.2.1 y2.1.2)) y3, (y2.2.2.2.1.1, y2.2.2.2.1.2), y2.2.2.2.2.1.set y2.1.1.toNat (AE y2.2.2.2.2.1 y2.1.2), y2.2.2.2.2.2.1, y2.2.2.2.2.2.2.1, y2.2.2.2.2.2.2.2.1, y2.2.2.2.2.2.2.2.2))
else
Nd (X := Int × LI × Int) (
AQ (X := Int × LI × Int) (fun y5 =>
bif decide (y5.1 < nI y3.length) then
gd (0 <= y5.1) <|
gd (y5.1 < nI y3.length) <|
AD (value (AE y3 y5.1) y2.2.2.2.2.2.1) fun y6 =>
bif y6.1.1 != -1 then
gd (0 <= y5.1) <|
gd (y5.1 < nI y3.length) <|
gd (1 < nI y3.length) <|
gd (1 < nI y3.length) <|
gd (0 <= y5.1) <|
gd (y5.1 < nI (y3.set 1 (AE y3 y5.1)).length) <|
gd (1 < nI ((y3.set 1 (AE y3 y5.1)).set y5.1.toNat (AE y3 1)).length) <|
AD (at_ (AE ((y3.set 1 (AE y3 y5.1)).set y5.1.toNat (AE y3 1)) 1)) fun y7 =>
gd (1 < nI ((y3.set 1 (AE y3 y5.1)).set y5.1.toNat (AE y3 1)).length) <|
AD (at_ (AE ((y3.set 1 (AE y3 y5.1)).set y5.1.toNat (AE y3 1)) 1)) fun y8 =>
gd (0 <= y8.1.1) <|
gd (y8.1.1 < nI y2.2.2.2.1.1.length) <|
gd (y2.2.2.2.1.2 ≠ y8.1.1) <|
gd ((List.length (Ao y2.2.2.2.1.1 y8.1.1) + [AE y2.2.2.2.2.1 y2.1.2].length) * 8 <= lim) <|
gd (List.length (Ao y2.2.2.2.1.1 y8.1.1) + [AE y2.2.2.2.2.1 y2.1.2].length <= lim) <|
gd (0 <= y7.1.1) <|
gd (y7.1.1 < nI y2.2.2.2.1.1.length) <|
gd (y8.1.1 = y7.1.1) <|
gd (y2.2.2.2.1.2 ≠ y7.1.1) <|
gd (inK .i64 (y2.1.2 + 1)) <|
some (Sum.inr (Sum.inr (Sum.inl ((y2.1.1, y2.1.2 + 1), (y5.2.1, y5.2.2), y2.2.2.1.set (Int.toNat (AE y2.2.2.2.2.1 y2.1.2)) ((y3.set 1 (AE y3 y5.1)).set y5.1.toNat (AE y3 1)), (y2.2.2.2.1.1.set y7.1.1.toNat (Ao y2.2.2.2.1.1 y8.1.1 ++ [AE y2.2.2.2.2.1 y2.1.2]), y2.2.2.2.1.2), y2.2.2.2.2.1, y2.2.2.2.2.2.1, y2.2.2.2.2.2.2.1, y2.2.2.2.2.2.2.2.1, y2.2.2.2.2.2.2.2.2))))
else
gd (inK .i64 (y5.1 + 1)) <|
some (Sum.inl (y5.1 + 1, y5.2.1, y5.2.2))
else
some (Sum.inr (Sum.inl (y5.1, y5.2.1, y5.2.2)))) (nn) (2, y2.2.1.1, y2.2.1.2)) fun y5 =>
gd (0 <= y2.1.1) <|
gd (y2.1.1 < nI y2.2.2.2.2.1.length) <|
gd (inK .i64 (y2.1.1 + 1)) <|
gd (0 < nI y3.length) <|
AD (value (AE y3 0) y2.2.2.2.2.2.1) fun y6 =>
bif y6.1.1 == -1 then
gd (0 <= y2.1.1 + 1) <|
gd (y2.1.1 + 1 <= nI (y2.2.2.2.2.1.set y2.1.1.toNat (AE y2.2.2.2.2.1 y2.1.2)).length) <|
gd (nI (y2.2.2.2.2.1.set y2.1.1.toNat (AE y2.2.2.2.2.1 y2.1.2)).length <= nI (y2.2.2.2.2.1.set y2.1.1.toNat (AE y2.2.2.2.2.1 y2.1.2)).length) <|
gd (inK .i64 (y2.1.2 + 1)) <|
gd (0 <= y2.1.2 + 1) <|
gd (y2.1.2 + 1 <= nI (y2.2.2.2.2.1.set y2.1.1.toNat (AE y2.2.2.2.2.1 y2.1.2)).length) <|
gd (nI (y2.2.2.2.2.1.set y2.1.1.toNat (AE y2.2.2.2.2.1 y2.1.2)).length <= nI (y2.2.2.2.2.1.set y2.1.1.toNat (AE y2.2.2.2.2.1 y2.1.2)).length) <|
gd ((List.drop (Int.toNat (y2.1.2 + 1)) (List.take (nI (y2.2.2.2.2.1.set y2.1.1.toNat (AE y2.2.2.2.2.1 y2.1.2)).length).toNat (y2.2.2.2.2.1.set y2.1.1.toNat (AE y2.2.2.2.2.1 y2.1.2)))).length <= lim) <|
gd (inK .i64 (y2.1.1 + 1 + nI ((List.drop (Int.toNat (y2.1.2 + 1)) (List.take (nI (y2.2.2.2.2.1.set y2.1.1.toNat (AE y2.2.2.2.2.1 y2.1.2)).length).toNat (y2.2.2.2.2.1.set y2.1.1.toNat (AE y2.2.2.2.2.1 y2.1.2)))).length.min (((some (nI (y2.2.2.2.2.1.set y2.1.1.toNat (AE y2.2.2.2.2.1 y2.1.2)).length)).getD (nI (y2.2.2.2.2.1.set y2.1.1.toNat (AE y2.2.2.2.2.1 y2.1.2)).length)).toNat - Int.toNat (y2.1.1 + 1))))) <|
AD (at_ (0 - AE y0.2.2.2.2.2.2 y0.1.2)) fun y7 =>
gd (0 <= y2.1.1 + 1 + nI ((List.drop (Int.toNat (y2.1.2 + 1)) (List.take (nI (y2.2.2.2.2.1.set y2.1.1.toNat (AE y2.2.2.2.2.1 y2.1.2)).length).toNat (y2.2.2.2.2.1.set y2.1.1.toNat (AE y2.2.2.2.2.1 y2.1.2)))).length.min (((some (nI (y2.2.2.2.2.1.set y2.1.1.toNat (AE y2.2.2.2.2.1 y2.1.2)).length)).getD (nI (y2.2.2.2.2.1.set y2.1.1.toNat (AE y2.2.2.2.2.1 y2.1.2)).length)).toNat - Int.toNat (y2.1.1 + 1)))) <|
gd (y2.1.1 + 1 + nI ((List.drop (Int.toNat (y2.1.2 + 1)) (List.take (nI (y2.2.2.2.2.1.set y2.1.1.toNat (AE y2.2.2.2.2.1 y2.1.2)).length).toNat (y2.2.2.2.2.1.set y2.1.1.toNat (AE y2.2.2.2.2.1 y2.1.2)))).length.min (((some (nI (y2.2.2.2.2.1.set y2.1.1.toNat (AE y2.2.2.2.2.1 y2.1.2)).length)).getD (nI (y2.2.2.2.2.1.set y2.1.1.toNat (AE y2.2.2.2.2.1 y2.1.2)).length)).toNat - Int.toNat (y2.1.1 + 1))) <= nI (List.take (Int.toNat (y2.1.1 + 1)) (y2.2.2.2.2.1.set y2.1.1.toNat (AE y2.2.2.2.2.1 y2.1.2)) ++ List.take ((List.drop (Int.toNat (y2.1.2 + 1)) (List.take (nI (y2.2.2.2.2.1.set y2.1.1.toNat (AE y2.2.2.2.2.1 y2.1.2)).length).toNat (y2.2.2.2.2.1.set y2.1.1.toNat (AE y2.2.2.2.2.1 y2.1.2)))).length.min (((some (nI (y2.2.2.2.2.1.set y2.1.1.toNat (AE y2.2.2.2.2.1 y2.1.2)).length)).getD (nI (y2.2.2.2.2.1.set y2.1.1.toNat (AE y2.2.2.2.2.1 y2.1.2)).length)).toNat - Int.toNat (y2.1.1 + 1))) (List.drop (Int.toNat (y2.1.2 + 1)) (List.take (nI (y2.2.2.2.2.1.set y2.1.1.toNat (AE y2.2.2.2.2.1 y2.1.2)).length).toNat (y2.2.2.2.2.1.set y2.1.1.toNat (AE y2.2.2.2.2.1 y2.1.2)))) ++ List.drop (Int.toNat (y2.1.1 + 1) + (List.drop (Int.toNat (y2.1.2 + 1)) (List.take (nI (y2.2.2.2.2.1.set y2.1.1.toNat (AE y2.2.2.2.2.1 y2.1.2)).length).toNat (y2.2.2.2.2.1.set y2.1.1.toNat (AE y2.2.2.2.2.1 y2.1.2)))).length.min (((some (nI (y2.2.2.2.2.1.set y2.1.1.toNat (AE y2.2.2.2.2.1 y2.1.2)).length)).getD (nI (y2.2.2.2.2.1.set y2.1.1.toNat (AE y2.2.2.2.2.1 y2.1.2)).length)).toNat - Int.toNat (y2.1.1 + 1))) (y2.2.2.2.2.1.set y2.1.1.toNat (AE y2.2.2.2.2.1 y2.1.2))).length) <|
gd (0 <= y7.1.1) <|
gd (y7.1.1 < nI y2.2.2.2.1.1.length) <|
gd (y2.2.2.2.1.2 = y7.1.1) <|
some (Sum.inr (Sum.inr (Sum.inr ((AE y2.2.2.2.2.1 y2.1.2, ()), ((y2.2.2.1.set (Int.toNat (AE y2.2.2.2.2.1 y2.1.2)) y3, y2.2.2.2.1.1.set y7.1.1.toNat (List.take (Int.toNat (y2.1.1 + 1 + nI ((List.drop (Int.toNat (y2.1.2 + 1)) (List.take (nI (y2.2.2.2.2.1.set y2.1.1.toNat (AE y2.2.2.2.2.1 y2.1.2)).length).toNat (y2.2.2.2.2.1.set y2.1.1.toNat (AE y2.2.2.2.2.1 y2.1.2)))).length.min (((some (nI (y2.2.2.2.2.1.set y2.1.1.toNat (AE y2.2.2.2.2.1 y2.1.2)).length)).getD (nI (y2.2.2.2.2.1.set y2.1.1.toNat (AE y2.2.2.2.2.1 y2.1.2)).length)).toNat - Int.toNat (y2.1.1 + 1))))) (List.take (Int.toNat (y2.1.1 + 1)) (y2.2.2.2.2.1.set y2.1.1.toNat (AE y2.2.2.2.2.1 y2.1.2)) ++ List.take ((List.drop (Int.toNat (y2.1.2 + 1)) (List.take (nI (y2.2.2.2.2.1.set y2.1.1.toNat (AE y2.2.2.2.2.1 y2.1.2)).length).toNat (y2.2.2.2.2.1.set y2.1.1.toNat (AE y2.2.2.2.2.1 y2.1.2)))).length.min (((some (nI (y2.2.2.2.2.1.set y2.1.1.toNat (AE y2.2.2.2.2.1 y2.1.2)).length)).getD (nI (y2.2.2.2.2.1.set y2.1.1.toNat (AE y2.2.2.2.2.1 y2.1.2)).length)).toNat - Int.toNat (y2.1.1 + 1))) (List.drop (Int.toNat (y2.1.2 + 1)) (List.take (nI (y2.2.2.2.2.1.set y2.1.1.toNat (AE y2.2.2.2.2.1 y2.1.2)).length).toNat (y2.2.2.2.2.1.set y2.1.1.toNat (AE y2.2.2.2.2.1 y2.1.2)))) ++ List.drop (Int.toNat (y2.1.1 + 1) + (List.drop (Int.toNat (y2.1.2 + 1)) (List.take (nI (y2.2.2.2.2.1.set y2.1.1.toNat (AE y2.2.2.2.2.1 y2.1.2)).length).toNat (y2.2.2.2.2.1.set y2.1.1.toNat (AE y2.2.2.2.2.1 y2.1.2)))).length.min (((some (nI (y2.2.2.2.2.1.set y2.1.1.toNat (AE y2.2.2.2.2.1 y2.1.2)).length)).getD (nI (y2.2.2.2.2.1.set y2.1.1.toNat (AE y2.2.2.2.2.1 y2.1.2)).length)).toNat - Int.toNat (y2.1.1 + 1))) (y2.2.2.2.2.1.set y2.1.1.toNat (AE y2.2.2.2.2.1 y2.1.2)))), y2.2.2.2.2.2.1, y2.2.2.2.2.2.2.1, y2.2.2.2.2.2.2.2.1, y2.2.2.2.2.2.2.2.2, y5.2.1, y5.2.2, ()), ()), ()))))
else
gd (0 < nI y3.length) <|
AD (R6 (AE y3 0) (AE y2.2.2.2.2.1 y2.1.2) y2.2.2.2.2.2.1 y2.2.2.2.2.2.2.1 y2.2.2.2.2.2.2.2.1 y2.2.2.2.2.2.2.2.2 y5.2.1) fun y7 =>
gd (inK .i64 (y2.1.2 + 1)) <|
some (Sum.inl ((y2.1.1 + 1, y2.1.2 + 1), (y5.2.1, y5.2.2), y2.2.2.1.set (Int.toNat (AE y2.2.2.2.2.1 y2.1.2)) y3, (y2.2.2.2.1.1, y2.2.2.2.1.2), y2.2.2.2.2.1.set y2.1.1.toNat (AE y2.2.2.2.2.1 y2.1.2), y7.2.1.1.1, y7.2.1.1.2.1, y7.2.1.1.2.2.1, y7.2.1.1.2.2.2.1))
else
some (Sum.inr (Sum.inl ((y2.1.1, nI (List.length (Ao y0.2.2.1 y1.1.1)), y2.1.2), (y2.2.1.1, y2.2.1.2), y2.2.2.1, (y2.2.2.2.1.1, y2.2.2.2.1.2), y2.2.2.2.2.1, y2.2.2.2.2.2.1, y2.2.2.2.2.2.2.1, y2.2.2.2.2.2.2.2.1, y2.2.2.2.2.2.2.2.2)))) (nn) ((0, 0), (y0.1.1, y0.1.2 + 1), y0.2.1, (y0.2.2.1, y1.1.1), Ao y0.2.2.1 y1.1.1, y0.2.2.2.1, y0.2.2.2.2.1, y0.2.2.2.2.2.1, y0.2.2.2.2.2.2)) fun y2 =>
AD (at_ (0 - AE y0.2.2.2.2.2.2 y0.1.2)) fun y3 =>
gd (0 <= y2.1.1) <|
gd (y2.1.1 <= nI y2.2.2.2.2.1.length) <|
gd (0 <= y3.1.1) <|
gd (y3.1.1 < nI y2.2.2.2.1.1.length) <|
gd (y2.2.2.2.1.2 = y3.1.1) <|
some (Sum.inl ((y2.2.1.1, y2.2.1.2), y2.2.2.1, y2.2.2.2.1.1.set y3.1.1.toNat (List.take y2.1.1.toNat y2.2.2.2.2.1), y2.2.2.2.2.2.1, y2.2.2.2.2.2.2.1, y2.2.2.2.2.2.2.2.1, y2.2.2.2.2.2.2.2.2))
else
some (Sum.inr ((-1, ()), ((y0.2.1, y0.2.2.1, y0.2.2.2.1, y0.2.2.2.2.1, y0.2.2.2.2.2.1, y0.2.2.2.2.2.2, y0.1.1, y0.1.2, ()), ()), ()))) (nn) ((begin, done), all, watch, is, depth, why, row)
def unit (all : LLI) (watch : LLI) (is : LI) (depth : LI) (why : LI) (row : LI) (begin : LI) (done : Int) : Option ((Int × Unit) × ((LLI × LLI × LI × LI × LI × LI × LI × Int × Unit) × Unit) × Unit) := AIt AK all watch is depth why row begin done
end AL
end
section
namespace AL
open Go
def take (n : Int) (all : LLI) (watch : LLI) (is : LI) (depth : LI) (why : LI) (old : LI) (hot : LI) (warm : LI) (cold : Int) (row : LI) (begin : LI) (done : Int) (proof : LLI) : Option (Unit × ((LLI × LLI × LI × LI × LI × LI × LI × LI × Int × LI × LI × Int × LLI × Unit) × Unit) × Unit) :=
AD (AIs n all is depth why hot warm row begin) fun y0 =>
AD (Ev y0.1.1) fun y1 =>
gd ((proof.length + [y1.1.1].length) * 24 <= lim) <|
gd (proof.length + [y1.1.1].length <= lim) <|
AD (back y0.1.2.1 is old cold row begin done) fun y2 =>
bif nI y0.1.1.length == 1 then
gd (0 < nI y0.1.1.length) <|
AD (R6 (AE y0.1.1 0) (-1) y2.2.1.1.1 depth why y2.2.1.1.2.2.2.1 y2.2.1.1.2.2.2.2.1) fun y3 =>
some ((), ((y0.2.1.1.1, watch, y3.2.1.1.1, y3.2.1.1.2.1, y3.2.1.1.2.2.1, y2.2.1.1.2.1, y0.2.1.1.2.2.2.2.1, y0.2.1.1.2.2.2.2.2.1, y2.2.1.1.2.2.1, y3.2.1.1.2.2.2.1, y2.2.1.1.2.2.2.2.1, y2.2.1.1.2.2.2.2.2.1, proof ++ [y1.1.1], ()), ()), ())
else
gd (0 < nI y0.1.1.length) <|
AD (keep y0.1.1 y0.2.1.1.1 0 watch) fun y3 =>
AD (R6 (AE y0.1.1 0) y3.1.1 y2.2.1.1.1 depth why y2.2.1.1.2.2.2.1 y2.2.1.1.2.2.2.2.1) fun y4 =>
some ((), ((y3.2.1.1.1.set y3.2.1.1.2.1.toNat y0.1.1, y3.2.1.1.2.2.1, y4.2.1.1.1, y4.2.1.1.2.1, y4.2.1.1.2.2.1, y2.2.1.1.2.1, y0.2.1.1.2.2.2.2.1, y0.2.1.1.2.2.2.2.2.1, y2.2.1.1.2.2.1, y4.2.1.1.2.2.2.1, y2.2.1.1.2.2.2.2.1, y2.2.1.1.2.2.2.2.2.1, proof ++ [y1.1.1], ()), ()), ())
def Z8 (nn : Nat)  (assume : LI) (fuel : Int) (vars : Int) (all : LLI) (watch : LLI) (is : LI) (depth : LI) (why : LI) (old : LI) (hot : LI) (warm : LI) (cold : Int) (row : LI) (begin : LI) (done : Int) (empty : Bool) (proof : LLI) (core : LI) : Option ((Int × Unit) × ((Int × LLI × LLI × LI × LI × LI × LI × LI × LI × Int × LI × LI × Int × Bool × LLI × LI × Unit) × Unit) × Unit) :=
AQ (X := Int × (Int × Int × Int × Bool) × LLI × LLI × LI × LI × LI × LI × LI × LI × LI × LI × LLI) (fun y0 =>
AD (unit y0.2.2.1 y0.2.2.2.1 y0.2.2.2.2.1 y0.2.2.2.2.2.1 y0.2.2.2.2.2.2.1 y0.2.2.2.2.2.2.2.2.2.2.1 y0.2.2.2.2.2.2.2.2.2.2.2.1 y0.2.1.2.2.1) fun y1 =>
bif y1.1.1 != -1 then
bif nI y0.2.2.2.2.2.2.2.2.2.2.2.1.length == 0 then
some (Sum.inr ((2, ()), ((y0.2.1.1, y1.2.1.1.1, y1.2.1.1.2.1, y1.2.1.1.2.2.1, y1.2.1.1.2.2.2.1, y1.2.1.1.2.2.2.2.1, y0.2.2.2.2.2.2.2.1, y0.2.2.2.2.2.2.2.2.1, y0.2.2.2.2.2.2.2.2.2.1, y0.2.1.2.1, y1.2.1.1.2.2.2.2.2.1, y0.2.2.2.2.2.2.2.2.2.2.2.1, y1.2.1.1.2.2.2.2.2.2.2.1, true, y0.2.2.2.2.2.2.2.2.2.2.2.2, core, ()), ()), ()))
else
bif decide (fuel >= 0) then
bif bif true then decide (y0.1 >= fuel) else false then
some (Sum.inr ((3, ()), ((y0.2.1.1, y1.2.1.1.1, y1.2.1.1.2.1, y1.2.1.1.2.2.1, y1.2.1.1.2.2.2.1, y1.2.1.1.2.2.2.2.1, y0.2.2.2.2.2.2.2.1, y0.2.2.2.2.2.2.2.2.1, y0.2.2.2.2.2.2.2.2.2.1, y0.2.1.2.1, y1.2.1.1.2.2.2.2.2.1, y0.2.2.2.2.2.2.2.2.2.2.2.1, y1.2.1.1.2.2.2.2.2.2.2.1, y0.2.1.2.2.2, y0.2.2.2.2.2.2.2.2.2.2.2.2, core, ()), ()), ()))
else
AD (take y1.1.1 y1.2.1.1.1 y1.2.1.1.2.1 y1.2.1.1.2.2.1 y1.2.1.1.2.2.2.1 y1.2.1.1.2.2.2.2.1 y0.2.2.2.2.2.2.2.1 y0.2.2.2.2.2.2.2.2.1 y0.2.2.2.2.2.2.2.2.2.1 y0.2.1.2.1 y1.2.1.1.2.2.2.2.2.1 y0.2.2.2.2.2.2.2.2.2.2.2.1 y1.2.1.1.2.2.2.2.2.2.2.1 y0.2.2.2.2.2.2.2.2.2.2.2.2) fun y2 =>
gd (inK .i64 (y0.1 + 1)) <|
some (Sum.inl (y0.1 + 1, (y0.2.1.1, y2.2.1.1.2.2.2.2.2.2.2.2.1, y2.2.1.1.2.2.2.2.2.2.2.2.2.2.2.1, y0.2.1.2.2.2), y2.2.1.1.1, y2.2.1.1.2.1, y2.2.1.1.2.2.1, y2.2.1.1.2.2.2.1, y2.2.1.1.2.2.2.2.1, y2.2.1.1.2.2.2.2.2.1, y2.2.1.1.2.2.2.2.2.2.1, y2.2.1.1.2.2.2.2.2.2.2.1, y2.2.1.1.2.2.2.2.2.2.2.2.2.1, y2.2.1.1.2.2.2.2.2.2.2.2.2.2.1, y2.2.1.1.2.2.2.2.2.2.2.2.2.2.2.2.1))
else
AD (take y1.1.1 y1.2.1.1.1 y1.2.1.1.2.1 y1.2.1.1.2.2.1 y1.2.1.1.2.2.2.1 y1.2.1.1.2.2.2.2.1 y0.2.2.2.2.2.2.2.1 y0.2.2.2.2.2.2.2.2.1 y0.2.2.2.2.2.2.2.2.2.1 y0.2.1.2.1 y1.2.1.1.2.2.2.2.2.1 y0.2.2.2.2.2.2.2.2.2.2.2.1 y1.2.1.1.2.2.2.2.2.2.2.1 y0.2.2.2.2.2.2.2.2.2.2.2.2) fun y2 =>
gd (inK .i64 (y0.1 + 1)) <|
some (Sum.inl (y0.1 + 1, (y0.2.1.1, y2.2.1.1.2.2.2.2.2.2.2.2.1, y2.2.1.1.2.2.2.2.2.2.2.2.2.2.2.1, y0.2.1.2.2.2), y2.2.1.1.1, y2.2.1.1.2.1, y2.2.1.1.2.2.1, y2.2.1.1.2.2.2.1, y2.2.1.1.2.2.2.2.1, y2.2.1.1.2.2.2.2.2.1, y2.2.1.1.2.2.2.2.2.2.1, y2.2.1.1.2.2.2.2.2.2.2.1, y2.2.1.1.2.2.2.2.2.2.2.2.2.1, y2.2.1.1.2.2.2.2.2.2.2.2.2.2.1, y2.2.1.1.2.2.2.2.2.2.2.2.2.2.2.2.1))
else
AQ (X := (Int × Int × Int × Bool) × LI) (fun y2 =>
bif decide (nI y2.2.length < nI assume.length) then
gd (nI y2.2.length < nI assume.length) <|
AD (value (AE assume (nI y2.2.length)) y1.2.1.1.2.2.1) fun y3 =>
bif y3.1.1 == -1 then
AD (AIr (AE assume (nI y2.2.length)) y1.2.1.1.1 y1.2.1.1.2.2.2.2.1 y1.2.1.1.2.2.2.2.2.1 y2.2) fun y4 =>
some (Sum.inr (Sum.inr ((2, ()), ((y2.1.1, y4.2.1.1.1, y1.2.1.1.2.1, y1.2.1.1.2.2.1, y1.2.1.1.2.2.2.1, y1.2.1.1.2.2.2.2.1, y0.2.2.2.2.2.2.2.1, y0.2.2.2.2.2.2.2.2.1, y0.2.2.2.2.2.2.2.2.2.1, y2.1.2.1, y1.2.1.1.2.2.2.2.2.1, y2.2, y2.1.2.2.1, y2.1.2.2.2, y0.2.2.2.2.2.2.2.2.2.2.2.2, y4.1.1, ()), ()), ())))
else
bif y3.1.1 == 0 then
bif AE assume (nI y2.2.length) == 0 then
AD (pick y2.1.1 y1.2.1.1.2.2.1 y0.2.2.2.2.2.2.2.1 y0.2.2.2.2.2.2.2.2.1 y0.2.2.2.2.2.2.2.2.2.1 y2.1.2.1) fun y4 =>
bif y4.1.1 == 0 then
some (Sum.inr (Sum.inr ((1, ()), ((y4.2.1.1.1, y1.2.1.1.1, y1.2.1.1.2.1, y1.2.1.1.2.2.1, y1.2.1.1.2.2.2.1, y1.2.1.1.2.2.2.2.1, y0.2.2.2.2.2.2.2.1, y0.2.2.2.2.2.2.2.2.1, y0.2.2.2.2.2.2.2.2.2.1, y4.2.1.1.2.2.2.2.2.1, y1.2.1.1.2.2.2.2.2.1, y2.2, y2.1.2.2.1, y2.1.2.2.2, y0.2.2.2.2.2.2.2.2.2.2.2.2, core, ()), ()), ())))
else
gd ((y2.2.length + [nI y1.2.1.1.2.2.2.2.2.1.length].length) * 8 <= lim) <|
gd (y2.2.length + [nI y1.2.1.1.2.2.2.2.2.1.length].length <= lim) <|
AD (R6 y4.1.1 (-1) y1.2.1.1.2.2.1 y1.2.1.1.2.2.2.1 y1.2.1.1.2.2.2.2.1 y1.2.1.1.2.2.2.2.2.1 (y2.2 ++ [nI y1.2.1.1.2.2.2.2.2.1.length])) fun y5 =>
some (Sum.inr (Sum.inl (y0.1, (y4.2.1.1.1, y4.2.1.1.2.2.2.2.2.1, y2.1.2.2.1, y2.1.2.2.2), y1.2.1.1.1, y1.2.1.1.2.1, y5.2.1.1.1, y5.2.1.1.2.1, y5.2.1.1.2.2.1, y0.2.2.2.2.2.2.2.1, y0.2.2.2.2.2.2.2.2.1, y0.2.2.2.2.2.2.2.2.2.1, y5.2.1.1.2.2.2.1, y2.2 ++ [nI y1.2.1.1.2.2.2.2.2.1.length], y0.2.2.2.2.2.2.2.2.2.2.2.2)))
else
bif AE assume (nI y2.2.length) == 0 then
some (Sum.inr (Sum.inr ((1, ()), ((y2.1.1, y1.2.1.1.1, y1.2.1.1.2.1, y1.2.1.1.2.2.1, y1.2.1.1.2.2.2.1, y1.2.1.1.2.2.2.2.1, y0.2.2.2.2.2.2.2.1, y0.2.2.2.2.2.2.2.2.1, y0.2.2.2.2.2.2.2.2.2.1, y2.1.2.1, y1.2.1.1.2.2.2.2.2.1, y2.2, y2.1.2.2.1, y2.1.2.2.2, y0.2.2.2.2.2.2.2.2.2.2.2.2, core, ()), ()), ())))
else
gd ((y2.2.length + [nI y1.2.1.1.2.2.2.2.2.1.length].length) * 8 <= lim) <|
gd (y2.2.length + [nI y1.2.1.1.2.2.2.2.2.1.length].length <= lim) <|
AD (R6 (AE assume (nI y2.2.length)) (-1) y1.2.1.1.2.2.1 y1.2.1.1.2.2.2.1 y1.2.1.1.2.2.2.2.1 y1.2.1.1.2.2.2.2.2.1 (y2.2 ++ [nI y1.2.1.1.2.2.2.2.2.1.length])) fun y4 =>
some (Sum.inr (Sum.inl (y0.1, (y2.1.1, y2.1.2.1, y2.1.2.2.1, y2.1.2.2.2), y1.2.1.1.1, y1.2.1.1.2.1, y4.2.1.1.1, y4.2.1.1.2.1, y4.2.1.1.2.2.1, y0.2.2.2.2.2.2.2.1, y0.2.2.2.2.2.2.2.2.1, y0.2.2.2.2.2.2.2.2.2.1, y4.2.1.1.2.2.2.1, y2.2 ++ [nI y1.2.1.1.2.2.2.2.2.1.length], y0.2.2.2.2.2.2.2.2.2.2.2.2)))
else
gd ((y2.2.length + [nI y1.2.1.1.2.2.2.2.2.1.length].length) * 8 <= lim) <|
gd (y2.2.length + [nI y1.2.1.1.2.2.2.2.2.1.length].length <= lim) <|
some (Sum.inl ((y2.1.1, y2.1.2.1, y2.1.2.2.1, y2.1.2.2.2), y2.2 ++ [nI y1.2.1.1.2.2.2.2.2.1.length]))
else
AD (pick y2.1.1 y1.2.1.1.2.2.1 y0.2.2.2.2.2.2.2.1 y0.2.2.2.2.2.2.2.2.1 y0.2.2.2.2.2.2.2.2.2.1 y2.1.2.1) fun y3 =>
bif y3.1.1 == 0 then
some (Sum.inr (Sum.inr ((1, ()), ((y3.2.1.1.1, y1.2.1.1.1, y1.2.1.1.2.1, y1.2.1.1.2.2.1, y1.2.1.1.2.2.2.1, y1.2.1.1.2.2.2.2.1, y0.2.2.2.2.2.2.2.1, y0.2.2.2.2.2.2.2.2.1, y0.2.2.2.2.2.2.2.2.2.1, y3.2.1.1.2.2.2.2.2.1, y1.2.1.1.2.2.2.2.2.1, y2.2, y2.1.2.2.1, y2.1.2.2.2, y0.2.2.2.2.2.2.2.2.2.2.2.2, core, ()), ()), ())))
else
gd ((y2.2.length + [nI y1.2.1.1.2.2.2.2.2.1.length].length) * 8 <= lim) <|
gd (y2.2.length + [nI y1.2.1.1.2.2.2.2.2.1.length].length <= lim) <|
AD (R6 y3.1.1 (-1) y1.2.1.1.2.2.1 y1.2.1.1.2.2.2.1 y1.2.1.1.2.2.2.2.1 y1.2.1.1.2.2.2.2.2.1 (y2.2 ++ [nI y1.2.1.1.2.2.2.2.2.1.length])) fun y4 =>
some (Sum.inr (Sum.inl (y0.1, (y3.2.1.1.1, y3.2.1.1.2.2.2.2.2.1, y2.1.2.2.1, y2.1.2.2.2), y1.2.1.1.1, y1.2.1.1.2.1, y4.2.1.1.1, y4.2.1.1.2.1, y4.2.1.1.2.2.1, y0.2.2.2.2.2.2.2.1, y0.2.2.2.2.2.2.2.2.1, y0.2.2.2.2.2.2.2.2.2.1, y4.2.1.1.2.2.2.1, y2.2 ++ [nI y1.2.1.1.2.2.2.2.2.1.length], y0.2.2.2.2.2.2.2.2.2.2.2.2)))) (nn) ((y0.2.1.1, y0.2.1.2.1, y1.2.1.1.2.2.2.2.2.2.2.1, y0.2.1.2.2.2), y0.2.2.2.2.2.2.2.2.2.2.2.1)) (nn) (0, (vars, cold, done, empty), all, watch, is, depth, why, old, hot, warm, row, begin, proof)
def search (assume : LI) (fuel : Int) (vars : Int) (all : LLI) (watch : LLI) (is : LI) (depth : LI) (why : LI) (old : LI) (hot : LI) (warm : LI) (cold : Int) (row : LI) (begin : LI) (done : Int) (empty : Bool) (proof : LLI) (core : LI) : Option ((Int × Unit) × ((Int × LLI × LLI × LI × LI × LI × LI × LI × LI × Int × LI × LI × Int × Bool × LLI × LI × Unit) × Unit) × Unit) := Z8 AK assume fuel vars all watch is depth why old hot warm cold row begin done empty proof core
def AKm (nn : Nat)  (assume : LI) (fuel : Int) (vars : Int) (all : LLI) (watch : LLI) (is : LI) (depth : LI) (why : LI) (old : LI) (hot : LI) (warm : LI) (cold : Int) (row : LI) (begin : LI) (done : Int) (empty : Bool) (proof : LLI) (answer : Int) (core : LI) (model : List Bool) : Option ((Int × Unit) × ((Int × LLI × LLI × LI × LI × LI × LI × LI × LI × Int × LI × LI × Int × Bool × LLI × Int × LI × List Bool × Unit) × Unit) × Unit) :=
AD (forget answer core model) fun y0 =>
AD (own assume vars) fun y1 =>
bif !y1.1.1 then
some ((0, ()), ((y1.2.1.1.1, all, watch, is, depth, why, old, hot, warm, cold, row, begin, done, empty, proof, y0.2.1.1.1, y0.2.1.1.2.1, y0.2.1.1.2.2.1, ()), ()), ())
else
AD (back 0 is old cold row begin done) fun y2 =>
Nd (X := (Int × Int × Int × Bool × Int) × LLI × LLI × LI × LI × LI × LI × LI × LI × LI × LI × LLI × LI) (
bif !empty then
AD (search assume fuel y1.2.1.1.1 all watch y2.2.1.1.1 depth why y2.2.1.1.2.1 hot warm y2.2.1.1.2.2.1 y2.2.1.1.2.2.2.1 y2.2.1.1.2.2.2.2.1 y2.2.1.1.2.2.2.2.2.1 empty proof y0.2.1.1.2.1) fun y3 =>
some (Sum.inl ((y3.2.1.1.1, y3.2.1.1.2.2.2.2.2.2.2.2.2.1, y3.2.1.1.2.2.2.2.2.2.2.2.2.2.2.2.1, y3.2.1.1.2.2.2.2.2.2.2.2.2.2.2.2.2.1, y3.1.1), y3.2.1.1.2.1, y3.2.1.1.2.2.1, y3.2.1.1.2.2.2.1, y3.2.1.1.2.2.2.2.1, y3.2.1.1.2.2.2.2.2.1, y3.2.1.1.2.2.2.2.2.2.1, y3.2.1.1.2.2.2.2.2.2.2.1, y3.2.1.1.2.2.2.2.2.2.2.2.1, y3.2.1.1.2.2.2.2.2.2.2.2.2.2.1, y3.2.1.1.2.2.2.2.2.2.2.2.2.2.2.1, y3.2.1.1.2.2.2.2.2.2.2.2.2.2.2.2.2.2.1, y3.2.1.1.2.2.2.2.2.2.2.2.2.2.2.2.2.2.2.1))
else
some (Sum.inl ((y1.2.1.1.1, y2.2.1.1.2.2.1, y2.2.1.1.2.2.2.2.2.1, empty, 2), all, watch, y2.2.1.1.1, depth, why, y2.2.1.1.2.1, hot, warm, y2.2.1.1.2.2.2.1, y2.2.1.1.2.2.2.2.1, proof, y0.2.1.1.2.1))) fun y3 =>
bif y3.1.2.2.2.2 == 1 then
AQ (X := Int × (Int × Int × Int × Bool × Int) × List Bool) (fun y4 =>
bif decide (y4.1 <= y4.2.1.1) then
gd (0 <= y4.1) <|
gd (y4.1 < nI y3.2.2.2.1.length) <|
gd ((y4.2.2.length + [AE y3.2.2.2.1 y4.1 == 1].length) * 1 <= lim) <|
gd (y4.2.2.length + [AE y3.2.2.2.1 y4.1 == 1].length <= lim) <|
gd (inK .i64 (y4.1 + 1)) <|
some (Sum.inl (y4.1 + 1, (y4.2.1.1, y4.2.1.2.1, y4.2.1.2.2.1, y4.2.1.2.2.2.1, y4.2.1.2.2.2.2), y4.2.2 ++ [AE y3.2.2.2.1 y4.1 == 1]))
else
AD (back 0 y3.2.2.2.1 y3.2.2.2.2.2.2.1 y4.2.1.2.1 y3.2.2.2.2.2.2.2.2.2.1 y3.2.2.2.2.2.2.2.2.2.2.1 y4.2.1.2.2.1) fun y5 =>
some (Sum.inr ((y4.2.1.2.2.2.2, ()), ((y4.2.1.1, y3.2.1, y3.2.2.1, y5.2.1.1.1, y3.2.2.2.2.1, y3.2.2.2.2.2.1, y5.2.1.1.2.1, y3.2.2.2.2.2.2.2.1, y3.2.2.2.2.2.2.2.2.1, y5.2.1.1.2.2.1, y5.2.1.1.2.2.2.1, y5.2.1.1.2.2.2.2.1, y5.2.1.1.2.2.2.2.2.1, y4.2.1.2.2.2.1, y3.2.2.2.2.2.2.2.2.2.2.2.1, y4.2.1.2.2.2.2, y3.2.2.2.2.2.2.2.2.2.2.2.2, y4.2.2, ()), ()), ()))) (nn) (1, (y3.1.1, y3.1.2.1, y3.1.2.2.1, y3.1.2.2.2.1, y3.1.2.2.2.2), y0.2.1.1.2.2.1)
else
bif y3.1.2.2.2.2 == 2 then
AQ (X := Int × LI) (fun y4 =>
bif decide (y4.1 < nI assume.length) then
gd (0 <= y4.1) <|
gd (y4.1 < nI assume.length) <|
AD (EW y3.2.2.2.2.2.2.2.2.2.2.2.2 (AE assume y4.1)) fun y5 =>
bif y5.1.1 then
AD (EW y4.2 (AE assume y4.1)) fun y6 =>
bif bif true then !y6.1.1 else false then
gd ((y4.2.length + [AE assume y4.1].length) * 8 <= lim) <|
gd (y4.2.length + [AE assume y4.1].length <= lim) <|
gd (inK .i64 (y4.1 + 1)) <|
some (Sum.inl (y4.1 + 1, y4.2 ++ [AE assume y4.1]))
else
gd (inK .i64 (y4.1 + 1)) <|
some (Sum.inl (y4.1 + 1, y4.2))
else
gd (inK .i64 (y4.1 + 1)) <|
some (Sum.inl (y4.1 + 1, y4.2))
else
AD (back 0 y3.2.2.2.1 y3.2.2.2.2.2.2.1 y3.1.2.1 y3.2.2.2.2.2.2.2.2.2.1 y3.2.2.2.2.2.2.2.2.2.2.1 y3.1.2.2.1) fun y5 =>
some (Sum.inr ((y3.1.2.2.2.2, ()), ((y3.1.1, y3.2.1, y3.2.2.1, y5.2.1.1.1, y3.2.2.2.2.1, y3.2.2.2.2.2.1, y5.2.1.1.2.1, y3.2.2.2.2.2.2.2.1, y3.2.2.2.2.2.2.2.2.1, y5.2.1.1.2.2.1, y5.2.1.1.2.2.2.1, y5.2.1.1.2.2.2.2.1, y5.2.1.1.2.2.2.2.2.1, y3.1.2.2.2.1, y3.2.2.2.2.2.2.2.2.2.2.2.1, y3.1.2.2.2.2, y4.2, y0.2.1.1.2.2.1, ()), ()), ()))) (nn) (0, [])
else
AD (back 0 y3.2.2.2.1 y3.2.2.2.2.2.2.1 y3.1.2.1 y3.2.2.2.2.2.2.2.2.2.1 y3.2.2.2.2.2.2.2.2.2.2.1 y3.1.2.2.1) fun y4 =>
some ((y3.1.2.2.2.2, ()), ((y3.1.1, y3.2.1, y3.2.2.1, y4.2.1.1.1, y3.2.2.2.2.1, y3.2.2.2.2.2.1, y4.2.1.1.2.1, y3.2.2.2.2.2.2.2.1, y3.2.2.2.2.2.2.2.2.1, y4.2.1.1.2.2.1, y4.2.1.1.2.2.2.1, y4.2.1.1.2.2.2.2.1, y4.2.1.1.2.2.2.2.2.1, y3.1.2.2.2.1, y3.2.2.2.2.2.2.2.2.2.2.2.1, y3.1.2.2.2.2, y3.2.2.2.2.2.2.2.2.2.2.2.2, y0.2.1.1.2.2.1, ()), ()), ())
def Ask (assume : LI) (fuel : Int) (vars : Int) (all : LLI) (watch : LLI) (is : LI) (depth : LI) (why : LI) (old : LI) (hot : LI) (warm : LI) (cold : Int) (row : LI) (begin : LI) (done : Int) (empty : Bool) (proof : LLI) (answer : Int) (core : LI) (model : List Bool) : Option ((Int × Unit) × ((Int × LLI × LLI × LI × LI × LI × LI × LI × LI × Int × LI × LI × Int × Bool × LLI × Int × LI × List Bool × Unit) × Unit) × Unit) := AKm AK assume fuel vars all watch is depth why old hot warm cold row begin done empty proof answer core model
end AL
end
section
namespace AL
open Go
def aOf (a : Int) (b : Int) : Option (((Int × Int × Unit) × Unit) × Unit × Unit) :=
some (((min2 a b, max2 a b, ()), ()), (), ())
def aR1 (p : Int) (q : Int) : Option ((Int × Unit) × Unit × Unit) :=
some ((0, ()), (), ())
def aR2 (p : Int) (q : Int) : Option ((Int × Unit) × Unit × Unit) :=
some ((q, ()), (), ())
def aR3 (p : Int) (q : Int) : Option ((Bool × Unit) × Unit × Unit) :=
some ((p == 0, ()), (), ())
def aR4 (p : Int) (q : Int) : Option ((Bool × Unit) × Unit × Unit) :=
some ((IntKind.i64.wrap (nI (BitVec.ofInt 64 p ^^^ BitVec.ofInt 64 1).toNat) == q, ()), (), ())
def aR5 (p : Int) (q : Int) : Option ((Bool × Unit) × Unit × Unit) :=
bif p == 1 then
some ((true, ()), (), ())
else
some ((bif false then true else p == q, ()), (), ())
def XX : Option ((Unit × Unit) × Unit × Unit) :=
some (((), ()), (), ())
def N1 (p : Int) (q : Int) : Option ((Int × Bool × Unit) × Unit × Unit) :=
AD (XX) fun y0 =>
AD (aR3 p q) fun y1 =>
bif y1.1.1 then
AD (aR1 p q) fun y2 =>
some ((y2.1.1, true, ()), (), ())
else
AD (aR4 p q) fun y2 =>
bif y2.1.1 then
AD (aR1 p q) fun y3 =>
some ((y3.1.1, true, ()), (), ())
else
AD (aR5 p q) fun y3 =>
bif y3.1.1 then
AD (aR2 p q) fun y4 =>
some ((y4.1.1, true, ()), (), ())
else
some ((0, false, ()), (), ())
def R7 (nn : Nat)  (l : L2) (p : Int) (q : Int) : Option ((Int × Unit) × Unit × Unit) :=
AQ (X := Int) (fun y0 =>
bif decide (y0 < nI l.length) then
gd (0 <= y0) <|
gd (y0 < nI l.length) <|
bif p == (get AR l y0).1 && q == (get AR l y0).2.1 then
some (Sum.inr ((y0, ()), (), ()))
else
gd (inK .i64 (y0 + 1)) <|
some (Sum.inl (y0 + 1))
else
some (Sum.inr ((-1, ()), (), ()))) (nn) 0
def R8 (l : L2) (p : Int) (q : Int) : Option ((Int × Unit) × Unit × Unit) := R7 AK l p q
def N2 (s : L2) : Option ((L2 × Unit) × Unit × Unit) :=
gd ((([] : L2).length + s.length) * 16 <= lim) <|
gd (([] : L2).length + s.length <= lim) <|
some ((s, ()), (), ())
def ADy (gi : Int) (ga : L2) (a : Int) (b : Int) : Option (((Int × L2 × Unit) × Int × Unit) × Unit × Unit) :=
AD (aOf a b) fun y0 =>
AD (N1 y0.1.1.1 y0.1.1.2.1) fun y1 =>
bif y1.1.2.1 then
some (((gi, ga, ()), y1.1.1, ()), (), ())
else
AD (R8 ga y0.1.1.1 y0.1.1.2.1) fun y2 =>
bif decide (y2.1.1 < 0) then
AD (N2 ga) fun y3 =>
gd ((y3.1.1.length + [(y0.1.1.1, y0.1.1.2.1, ())].length) * 16 <= lim) <|
gd (y3.1.1.length + [(y0.1.1.1, y0.1.1.2.1, ())].length <= lim) <|
gd (inK .i64 (gi + 1)) <|
gd (inK .i64 (gi + 1 + nI ga.length)) <|
some (((gi, y3.1.1 ++ [(y0.1.1.1, y0.1.1.2.1, ())], ()), IntKind.i64.wrap ((gi + 1 + nI ga.length) * 2 ^ 1), ()), (), ())
else
gd (inK .i64 (gi + 1)) <|
gd (inK .i64 (gi + 1 + y2.1.1)) <|
some (((gi, ga, ()), IntKind.i64.wrap ((gi + 1 + y2.1.1) * 2 ^ 1), ()), (), ())
def Mg (a : Int) (b : Int) (gi : Int) (ga : L2) : Option ((Int × Unit) × ((Int × L2 × Unit) × Unit) × Unit) :=
AD (ADy gi ga a b) fun y0 =>
some ((y0.1.2.1, ()), ((y0.1.1.1, y0.1.1.2.1, ()), ()), ())
def mOr (a : Int) (b : Int) (gi : Int) (ga : L2) : Option ((Int × Unit) × ((Int × L2 × Unit) × Unit) × Unit) :=
AD (Mg (IntKind.i64.wrap (nI (BitVec.ofInt 64 a ^^^ BitVec.ofInt 64 1).toNat)) (IntKind.i64.wrap (nI (BitVec.ofInt 64 b ^^^ BitVec.ofInt 64 1).toNat)) gi ga) fun y0 =>
some ((IntKind.i64.wrap (nI (BitVec.ofInt 64 y0.1.1 ^^^ BitVec.ofInt 64 1).toNat), ()), ((y0.2.1.1.1, y0.2.1.1.2.1, ()), ()), ())
def R9 (a : Int) (b : Int) (gi : Int) (ga : L2) : Option ((Int × Unit) × ((Int × L2 × Unit) × Unit) × Unit) :=
AD (Mg a (IntKind.i64.wrap (nI (BitVec.ofInt 64 b ^^^ BitVec.ofInt 64 1).toNat)) gi ga) fun y0 =>
AD (Mg (IntKind.i64.wrap (nI (BitVec.ofInt 64 a ^^^ BitVec.ofInt 64 1).toNat)) b y0.2.1.1.1 y0.2.1.1.2.1) fun y1 =>
AD (mOr y0.1.1 y1.1.1 y1.2.1.1.1 y1.2.1.1.2.1) fun y2 =>
some ((y2.1.1, ()), ((y2.2.1.1.1, y2.2.1.1.2.1, ()), ()), ())
def XY (i : Int) (a : Int) (b : Int) (gi : Int) (ga : L2) : Option ((Int × Unit) × ((Int × L2 × Unit) × Unit) × Unit) :=
AD (Mg i a gi ga) fun y0 =>
AD (Mg (IntKind.i64.wrap (nI (BitVec.ofInt 64 i ^^^ BitVec.ofInt 64 1).toNat)) b y0.2.1.1.1 y0.2.1.1.2.1) fun y1 =>
AD (mOr y0.1.1 y1.1.1 y1.2.1.1.1 y1.2.1.1.2.1) fun y2 =>
some ((y2.1.1, ()), ((y2.2.1.1.1, y2.2.1.1.2.1, ()), ()), ())
def N3 (nn : Nat)  (l : LI) : Option ((LI × Unit) × Unit × Unit) :=
AD (Ev l) fun y0 =>
AQ (X := Int × LI) (fun y1 =>
bif decide (y1.1 < nI y0.1.1.length) then
gd (0 <= y1.1) <|
gd (y1.1 < nI y1.2.length) <|
gd (0 <= y1.1) <|
gd (y1.1 < nI y1.2.length) <|
gd (inK .i64 (y1.1 + 1)) <|
some (Sum.inl (y1.1 + 1, y1.2.set y1.1.toNat (IntKind.i64.wrap (nI (BitVec.ofInt 64 (AE y1.2 y1.1) ^^^ BitVec.ofInt 64 1).toNat))))
else
some (Sum.inr ((y1.2, ()), (), ()))) (nn) (0, y0.1.1)
def GN (l : LI) : Option ((LI × Unit) × Unit × Unit) := N3 AK l
def ADz (nn : Nat)  (a : LI) (b : LI) (ci : Int) (gi : Int) (ga : L2) : Option ((LI × Unit) × ((Int × L2 × Unit) × Unit) × Unit) :=
gd (nI a.length <= nI a.length) <|
gd ((nI a.length).toNat * 8 <= lim) <|
gd (nI a.length <= nI lim) <|
AQ (X := (Int × Int) × (Int × L2) × LI) (fun y0 =>
bif decide (y0.1.2 < nI a.length) then
gd (0 <= y0.1.2) <|
gd (y0.1.2 < nI a.length) <|
gd (0 <= y0.1.2) <|
gd (y0.1.2 < nI b.length) <|
AD (R9 (AE a y0.1.2) (AE b y0.1.2) y0.2.1.1 y0.2.1.2) fun y1 =>
AD (R9 y1.1.1 y0.1.1 y1.2.1.1.1 y1.2.1.1.2.1) fun y2 =>
gd (0 <= y0.1.2) <|
gd (y0.1.2 < nI y0.2.2.length) <|
gd (0 <= y0.1.2) <|
gd (y0.1.2 < nI a.length) <|
AD (XY y1.1.1 y0.1.1 (AE a y0.1.2) y2.2.1.1.1 y2.2.1.1.2.1) fun y3 =>
gd (inK .i64 (y0.1.2 + 1)) <|
some (Sum.inl ((y3.1.1, y0.1.2 + 1), (y3.2.1.1.1, y3.2.1.1.2.1), y0.2.2.set y0.1.2.toNat y2.1.1))
else
some (Sum.inr ((y0.2.2, ()), ((y0.2.1.1, y0.2.1.2, ()), ()), ()))) (nn) ((ci, 0), (gi, ga), List.replicate (nI a.length).toNat 0)
def ABQ (a : LI) (b : LI) (ci : Int) (gi : Int) (ga : L2) : Option ((LI × Unit) × ((Int × L2 × Unit) × Unit) × Unit) := ADz AK a b ci gi ga
def Z9 (nn : Nat)  (gi : Int) (ga : L2) (a : LI) (b : LI) : Option ((LI × Unit) × ((Int × L2 × LI × LI × Unit) × Unit) × Unit) :=
gd (nI a.length <= nI a.length) <|
gd ((nI a.length).toNat * 8 <= lim) <|
gd (nI a.length <= nI lim) <|
AQ (X := Int × (Int × L2 × LI × LI) × LI) (fun y0 =>
bif decide (y0.1 < nI (List.replicate (nI a.length).toNat (0 : Int)).length) then
gd (0 <= y0.1) <|
gd (y0.1 < nI y0.2.1.2.2.1.length) <|
gd (0 <= y0.1) <|
gd (y0.1 < nI y0.2.1.2.2.2.length) <|
AD (Mg (AE y0.2.1.2.2.1 y0.1) (AE y0.2.1.2.2.2 y0.1) y0.2.1.1 y0.2.1.2.1) fun y1 =>
gd (0 <= y0.1) <|
gd (y0.1 < nI y0.2.2.length) <|
gd (inK .i64 (y0.1 + 1)) <|
some (Sum.inl (y0.1 + 1, (y1.2.1.1.1, y1.2.1.1.2.1, y0.2.1.2.2.1, y0.2.1.2.2.2), y0.2.2.set y0.1.toNat y1.1.1))
else
some (Sum.inr ((y0.2.2, ()), ((y0.2.1.1, y0.2.1.2.1, y0.2.1.2.2.1, y0.2.1.2.2.2, ()), ()), ()))) (nn) (0, (gi, ga, a, b), List.replicate (nI a.length).toNat 0)
def N4 (gi : Int) (ga : L2) (a : LI) (b : LI) : Option ((LI × Unit) × ((Int × L2 × LI × LI × Unit) × Unit) × Unit) := Z9 AK gi ga a b
def AD0 (nn : Nat)  (l : LI) (gi : Int) (ga : L2) : Option ((Int × Unit) × ((Int × L2 × Unit) × Unit) × Unit) :=
AQ (X := (Int × Int) × Int × L2) (fun y0 =>
bif decide (y0.1.2 < nI l.length) then
gd (0 <= y0.1.2) <|
gd (y0.1.2 < nI l.length) <|
AD (mOr y0.1.1 (AE l y0.1.2) y0.2.1 y0.2.2) fun y1 =>
gd (inK .i64 (y0.1.2 + 1)) <|
some (Sum.inl ((y1.1.1, y0.1.2 + 1), y1.2.1.1.1, y1.2.1.1.2.1))
else
some (Sum.inr ((y0.1.1, ()), ((y0.2.1, y0.2.2, ()), ()), ()))) (nn) ((0, 0), gi, ga)
def ABR (l : LI) (gi : Int) (ga : L2) : Option ((Int × Unit) × ((Int × L2 × Unit) × Unit) × Unit) := AD0 AK l gi ga
def SA (nn : Nat)  (like : Int) (gi : Int) (ga : L2) (a : LI) (b : LI) : Option ((LI × Unit) × ((Int × L2 × LI × LI × Unit) × Unit) × Unit) :=
AQ (X := (Int × Int) × Int × L2 × LI × LI) (fun y0 =>
bif decide (y0.1.2 < nI a.length) then
gd (0 <= y0.1.2) <|
gd (y0.1.2 < nI y0.2.2.2.1.length) <|
gd (0 <= y0.1.2) <|
gd (y0.1.2 < nI y0.2.2.2.2.length) <|
AD (R9 (AE y0.2.2.2.1 y0.1.2) (AE y0.2.2.2.2 y0.1.2) y0.2.1 y0.2.2.1) fun y1 =>
gd (0 <= y0.1.2) <|
gd (y0.1.2 < nI y0.2.2.2.2.length) <|
AD (XY y1.1.1 (AE y0.2.2.2.2 y0.1.2) y0.1.1 y1.2.1.1.1 y1.2.1.1.2.1) fun y2 =>
gd (y0.2.2.2.2 = y0.2.2.2.2) <|
gd (y0.2.2.2.2 = y0.2.2.2.2) <|
gd (inK .i64 (y0.1.2 + 1)) <|
some (Sum.inl ((y2.1.1, y0.1.2 + 1), y2.2.1.1.1, y2.2.1.1.2.1, y0.2.2.2.1, y0.2.2.2.2))
else
some (Sum.inr (([y0.1.1], ()), ((y0.2.1, y0.2.2.1, y0.2.2.2.1, y0.2.2.2.2, ()), ()), ()))) (nn) ((like, 0), gi, ga, a, b)
def N5 (like : Int) (gi : Int) (ga : L2) (a : LI) (b : LI) : Option ((LI × Unit) × ((Int × L2 × LI × LI × Unit) × Unit) × Unit) := SA AK like gi ga a b
def AD1 (nn : Nat)  (gi : Int) (ga : L2) (w : Int) (n : Int) : Option ((LI × Unit) × ((Int × L2 × Int × Int × Unit) × Unit) × Unit) :=
gd (0 <= w) <|
gd (w <= w) <|
gd (w.toNat * 8 <= lim) <|
gd (w <= nI lim) <|
AQ (X := Int × LI) (fun y0 =>
bif decide (y0.1 < nI (List.replicate w.toNat (0 : Int)).length) then
gd (0 <= y0.1) <|
gd (0 <= y0.1) <|
gd (y0.1 < nI y0.2.length) <|
gd (inK .i64 (y0.1 + 1)) <|
some (Sum.inl (y0.1 + 1, y0.2.set y0.1.toNat (IntKind.i64.wrap (nI (BitVec.ofInt 64 (n.fdiv (2 ^ min y0.1.toNat 64)) &&& BitVec.ofInt 64 1).toNat))))
else
some (Sum.inr ((y0.2, ()), ((gi, ga, w, n, ()), ()), ()))) (nn) (0, List.replicate w.toNat 0)
def AHT (gi : Int) (ga : L2) (w : Int) (n : Int) : Option ((LI × Unit) × ((Int × L2 × Int × Int × Unit) × Unit) × Unit) := AD1 AK gi ga w n
def AD2 (gi : Int) (ga : L2) (a : LI) : Option ((LI × Unit) × ((Int × L2 × LI × Unit) × Unit) × Unit) :=
AD (GN a) fun y0 =>
some ((y0.1.1, ()), ((gi, ga, a, ()), ()), ())
def N6 (gi : Int) (ga : L2) (a : LI) : Option ((LI × Unit) × ((Int × L2 × LI × Unit) × Unit) × Unit) :=
AD (ABR a gi ga) fun y0 =>
some (([y0.1.1], ()), ((y0.2.1.1.1, y0.2.1.1.2.1, a, ()), ()), ())
def Jv (gi : Int) (ga : L2) (a : LI) : Option ((LI × Unit) × ((Int × L2 × LI × Unit) × Unit) × Unit) :=
AD (GN a) fun y0 =>
AD (ABR y0.1.1 gi ga) fun y1 =>
some (([IntKind.i64.wrap (nI (BitVec.ofInt 64 y1.1.1 ^^^ BitVec.ofInt 64 1).toNat)], ()), ((y1.2.1.1.1, y1.2.1.1.2.1, a, ()), ()), ())
def SB (gi : Int) (ga : L2) (a : LI) (b : LI) : Option ((LI × Unit) × ((Int × L2 × LI × LI × Unit) × Unit) × Unit) :=
AD (N4 gi ga a b) fun y0 =>
some ((y0.1.1, ()), ((y0.2.1.1.1, y0.2.1.1.2.1, y0.2.1.1.2.2.1, y0.2.1.1.2.2.2.1, ()), ()), ())
def AD3 (gi : Int) (ga : L2) (a : LI) (b : LI) : Option ((LI × Unit) × ((Int × L2 × LI × LI × Unit) × Unit) × Unit) :=
AD (ABQ a b 0 gi ga) fun y0 =>
some ((y0.1.1, ()), ((y0.2.1.1.1, y0.2.1.1.2.1, a, b, ()), ()), ())
def AD4 (gi : Int) (ga : L2) (a : LI) (b : LI) : Option ((LI × Unit) × ((Int × L2 × LI × LI × Unit) × Unit) × Unit) :=
AD (GN b) fun y0 =>
AD (ABQ a y0.1.1 1 gi ga) fun y1 =>
some ((y1.1.1, ()), ((y1.2.1.1.1, y1.2.1.1.2.1, a, b, ()), ()), ())
def AD5 (nn : Nat)  (gi : Int) (ga : L2) (a : LI) (b : LI) : Option ((LI × Unit) × ((Int × L2 × LI × LI × Unit) × Unit) × Unit) :=
gd (nI a.length <= nI a.length) <|
gd ((nI a.length).toNat * 8 <= lim) <|
gd (nI a.length <= nI lim) <|
AQ (X := Int × (Int × L2 × LI × LI) × LI × LI) (fun y0 =>
bif decide (y0.1 < nI b.length) then
gd (0 <= y0.1) <|
gd (y0.1 < nI b.length) <|
gd (nI a.length <= nI a.length) <|
gd ((nI a.length).toNat * 8 <= lim) <|
gd (nI a.length <= nI lim) <|
AQ (X := Int × (Int × L2 × LI × LI) × LI) (fun y1 =>
bif decide (y1.1 < nI a.length) then
gd (inK .i64 (y1.1 - y0.1)) <|
gd (0 <= y1.1 - y0.1) <|
gd (y1.1 - y0.1 < nI y1.2.1.2.2.1.length) <|
AD (Mg (AE y1.2.1.2.2.1 (y1.1 - y0.1)) (AE b y0.1) y1.2.1.1 y1.2.1.2.1) fun y2 =>
gd (0 <= y1.1) <|
gd (y1.1 < nI y1.2.2.length) <|
gd (inK .i64 (y1.1 + 1)) <|
some (Sum.inl (y1.1 + 1, (y2.2.1.1.1, y2.2.1.1.2.1, y1.2.1.2.2.1, y1.2.1.2.2.2), y1.2.2.set y1.1.toNat y2.1.1))
else
AD (ABQ y0.2.2.1 y1.2.2 0 y1.2.1.1 y1.2.1.2.1) fun y2 =>
gd (inK .i64 (y0.1 + 1)) <|
some (Sum.inr (Sum.inl (y0.1 + 1, (y2.2.1.1.1, y2.2.1.1.2.1, y1.2.1.2.2.1, y1.2.1.2.2.2), y2.1.1, y2.1.1)))) (nn) (y0.1, (y0.2.1.1, y0.2.1.2.1, y0.2.1.2.2.1, y0.2.1.2.2.2), List.replicate (nI a.length).toNat 0)
else
some (Sum.inr ((y0.2.2.1, ()), ((y0.2.1.1, y0.2.1.2.1, y0.2.1.2.2.1, y0.2.1.2.2.2, ()), ()), ()))) (nn) (0, (gi, ga, a, b), List.replicate (nI a.length).toNat 0, List.replicate (nI a.length).toNat 0)
def AHU (gi : Int) (ga : L2) (a : LI) (b : LI) : Option ((LI × Unit) × ((Int × L2 × LI × LI × Unit) × Unit) × Unit) := AD5 AK gi ga a b
def mLt (gi : Int) (ga : L2) (a : LI) (b : LI) : Option ((LI × Unit) × ((Int × L2 × LI × LI × Unit) × Unit) × Unit) :=
AD (N5 0 gi ga a b) fun y0 =>
some ((y0.1.1, ()), ((y0.2.1.1.1, y0.2.1.1.2.1, y0.2.1.1.2.2.1, y0.2.1.1.2.2.2.1, ()), ()), ())
def mLe (gi : Int) (ga : L2) (a : LI) (b : LI) : Option ((LI × Unit) × ((Int × L2 × LI × LI × Unit) × Unit) × Unit) :=
AD (N5 1 gi ga a b) fun y0 =>
some ((y0.1.1, ()), ((y0.2.1.1.1, y0.2.1.1.2.1, y0.2.1.1.2.2.1, y0.2.1.1.2.2.2.1, ()), ()), ())
def SC (nn : Nat)  (gi : Int) (ga : L2) (a : LI) (b : LI) (c : LI) : Option ((LI × Unit) × ((Int × L2 × LI × LI × LI × Unit) × Unit) × Unit) :=
gd (nI b.length <= nI b.length) <|
gd ((nI b.length).toNat * 8 <= lim) <|
gd (nI b.length <= nI lim) <|
AQ (X := Int × (Int × L2 × LI × LI × LI) × LI) (fun y0 =>
bif decide (y0.1 < nI (List.replicate (nI b.length).toNat (0 : Int)).length) then
gd (0 < nI y0.2.1.2.2.1.length) <|
gd (0 <= y0.1) <|
gd (y0.1 < nI y0.2.1.2.2.2.1.length) <|
gd (0 <= y0.1) <|
gd (y0.1 < nI y0.2.1.2.2.2.2.length) <|
AD (XY (AE y0.2.1.2.2.1 0) (AE y0.2.1.2.2.2.1 y0.1) (AE y0.2.1.2.2.2.2 y0.1) y0.2.1.1 y0.2.1.2.1) fun y1 =>
gd (0 <= y0.1) <|
gd (y0.1 < nI y0.2.2.length) <|
gd (inK .i64 (y0.1 + 1)) <|
some (Sum.inl (y0.1 + 1, (y1.2.1.1.1, y1.2.1.1.2.1, y0.2.1.2.2.1, y0.2.1.2.2.2.1, y0.2.1.2.2.2.2), y0.2.2.set y0.1.toNat y1.1.1))
else
some (Sum.inr ((y0.2.2, ()), ((y0.2.1.1, y0.2.1.2.1, y0.2.1.2.2.1, y0.2.1.2.2.2.1, y0.2.1.2.2.2.2, ()), ()), ()))) (nn) (0, (gi, ga, a, b, c), List.replicate (nI b.length).toNat 0)
def SD (gi : Int) (ga : L2) (a : LI) (b : LI) (c : LI) : Option ((LI × Unit) × ((Int × L2 × LI × LI × LI × Unit) × Unit) × Unit) := SC AK gi ga a b c
def N7 (gi : Int) (ga : L2) (n : Int) (lo : Int) (a : LI) : Option ((LI × Unit) × ((Int × L2 × Int × Int × LI × Unit) × Unit) × Unit) :=
gd (inK .i64 (n + 1)) <|
gd (0 <= lo) <|
gd (lo <= n + 1) <|
gd (n + 1 <= nI a.length) <|
AD (Ev (List.drop lo.toNat (List.take (Int.toNat (n + 1)) a))) fun y0 =>
some ((y0.1.1, ()), ((gi, ga, n, lo, a, ()), ()), ())
end AL
end
section
namespace AL
open Go
def U9 (n : Int) : Option ((LI × Unit) × Unit × Unit) :=
bif decide (n < 0) then
none   else
gd (inK .i64 (n - (0 - 0))) <|
bif decide (n - (0 - 0) > 0) then
gd (0 <= n - (0 - 0)) <|
gd ((0 + Int.toNat (n - (0 - 0))) * 8 <= lim) <|
gd (0 + Int.toNat (n - (0 - 0)) <= lim) <|
some ((List.take 0 ([] ++ List.replicate (Int.toNat (n - (0 - 0))) 0), ()), (), ())
else
some (([], ()), (), ())
def N8 (nn : Nat)  (l : LLI) : Option ((LI × Unit) × Unit × Unit) :=
AQ (X := Int × Int) (fun y0 =>
bif decide (y0.2 < nI l.length) then
gd (0 <= y0.2) <|
gd (y0.2 < nI l.length) <|
gd (inK .i64 (y0.1 + nI (List.length (Ao l y0.2)))) <|
bif decide (y0.1 + nI (List.length (Ao l y0.2)) < 0) then
none       else
gd (inK .i64 (y0.2 + 1)) <|
some (Sum.inl (y0.1 + nI (List.length (Ao l y0.2)), y0.2 + 1))
else
AD (U9 y0.1) fun y1 =>
AQ (X := Int × LI × LI) (fun y2 =>
bif decide (y2.1 < nI l.length) then
gd (0 <= y2.1) <|
gd (y2.1 < nI l.length) <|
gd ((y2.2.1.length + List.length (Ao l y2.1)) * 8 <= lim) <|
gd (y2.2.1.length + List.length (Ao l y2.1) <= lim) <|
gd (inK .i64 (y2.1 + 1)) <|
some (Sum.inl (y2.1 + 1, y2.2.1 ++ Ao l y2.1, y2.2.1 ++ Ao l y2.1))
else
some (Sum.inr (Sum.inr ((y2.2.1, ()), (), ())))) (nn) (0, y1.1.1, y1.1.1)) (nn) (0, 0)
def Mv (l : LLI) : Option ((LI × Unit) × Unit × Unit) := N8 AK l
def AAA (nn : Nat)  (gi : Int) (ga : L2) (a : LI) (b : LI) : Option ((LI × Unit) × ((Int × L2 × LI × LI × Unit) × Unit) × Unit) :=
gd (nI a.length <= nI a.length) <|
gd ((nI a.length).toNat * 8 <= lim) <|
gd (nI a.length <= nI lim) <|
AQ (X := Int × (Int × L2 × LI × LI) × LI) (fun y0 =>
bif decide (y0.1 < nI (List.replicate (nI a.length).toNat (0 : Int)).length) then
gd (0 <= y0.1) <|
gd (y0.1 < nI y0.2.1.2.2.1.length) <|
gd (0 <= y0.1) <|
gd (y0.1 < nI y0.2.1.2.2.2.length) <|
AD (mOr (AE y0.2.1.2.2.1 y0.1) (AE y0.2.1.2.2.2 y0.1) y0.2.1.1 y0.2.1.2.1) fun y1 =>
gd (0 <= y0.1) <|
gd (y0.1 < nI y0.2.2.length) <|
gd (inK .i64 (y0.1 + 1)) <|
some (Sum.inl (y0.1 + 1, (y1.2.1.1.1, y1.2.1.1.2.1, y0.2.1.2.2.1, y0.2.1.2.2.2), y0.2.2.set y0.1.toNat y1.1.1))
else
some (Sum.inr ((y0.2.2, ()), ((y0.2.1.1, y0.2.1.2.1, y0.2.1.2.2.1, y0.2.1.2.2.2, ()), ()), ()))) (nn) (0, (gi, ga, a, b), List.replicate (nI a.length).toNat 0)
def N9 (gi : Int) (ga : L2) (a : LI) (b : LI) : Option ((LI × Unit) × ((Int × L2 × LI × LI × Unit) × Unit) × Unit) := AAA AK gi ga a b
def AAB (nn : Nat)  (gi : Int) (ga : L2) (a : LI) (b : LI) : Option ((LI × Unit) × ((Int × L2 × LI × LI × Unit) × Unit) × Unit) :=
gd (nI a.length <= nI a.length) <|
gd ((nI a.length).toNat * 8 <= lim) <|
gd (nI a.length <= nI lim) <|
AQ (X := Int × (Int × L2 × LI × LI) × LI) (fun y0 =>
bif decide (y0.1 < nI (List.replicate (nI a.length).toNat (0 : Int)).length) then
gd (0 <= y0.1) <|
gd (y0.1 < nI y0.2.1.2.2.1.length) <|
gd (0 <= y0.1) <|
gd (y0.1 < nI y0.2.1.2.2.2.length) <|
AD (R9 (AE y0.2.1.2.2.1 y0.1) (AE y0.2.1.2.2.2 y0.1) y0.2.1.1 y0.2.1.2.1) fun y1 =>
gd (0 <= y0.1) <|
gd (y0.1 < nI y0.2.2.length) <|
gd (inK .i64 (y0.1 + 1)) <|
some (Sum.inl (y0.1 + 1, (y1.2.1.1.1, y1.2.1.1.2.1, y0.2.1.2.2.1, y0.2.1.2.2.2), y0.2.2.set y0.1.toNat y1.1.1))
else
some (Sum.inr ((y0.2.2, ()), ((y0.2.1.1, y0.2.1.2.1, y0.2.1.2.2.1, y0.2.1.2.2.2, ()), ()), ()))) (nn) (0, (gi, ga, a, b), List.replicate (nI a.length).toNat 0)
def LD (gi : Int) (ga : L2) (a : LI) (b : LI) : Option ((LI × Unit) × ((Int × L2 × LI × LI × Unit) × Unit) × Unit) := AAB AK gi ga a b
def AAC (gi : Int) (ga : L2) (a : LI) (b : LI) : Option ((LI × Unit) × ((Int × L2 × LI × LI × Unit) × Unit) × Unit) :=
AD (N9 gi ga a b) fun y0 =>
some ((y0.1.1, ()), ((y0.2.1.1.1, y0.2.1.1.2.1, y0.2.1.1.2.2.1, y0.2.1.1.2.2.2.1, ()), ()), ())
def SE (gi : Int) (ga : L2) (a : LI) (b : LI) : Option ((LI × Unit) × ((Int × L2 × LI × LI × Unit) × Unit) × Unit) :=
AD (LD gi ga a b) fun y0 =>
some ((y0.1.1, ()), ((y0.2.1.1.1, y0.2.1.1.2.1, y0.2.1.1.2.2.1, y0.2.1.1.2.2.2.1, ()), ()), ())
def mNe (gi : Int) (ga : L2) (a : LI) (b : LI) : Option ((LI × Unit) × ((Int × L2 × LI × LI × Unit) × Unit) × Unit) :=
AD (LD gi ga a b) fun y0 =>
AD (ABR y0.1.1 y0.2.1.1.1 y0.2.1.1.2.1) fun y1 =>
some (([y1.1.1], ()), ((y1.2.1.1.1, y1.2.1.1.2.1, y0.2.1.1.2.2.1, y0.2.1.1.2.2.2.1, ()), ()), ())
def mEq (gi : Int) (ga : L2) (a : LI) (b : LI) : Option ((LI × Unit) × ((Int × L2 × LI × LI × Unit) × Unit) × Unit) :=
AD (mNe gi ga a b) fun y0 =>
AD (GN y0.1.1) fun y1 =>
some ((y1.1.1, ()), ((y0.2.1.1.1, y0.2.1.1.2.1, y0.2.1.1.2.2.1, y0.2.1.1.2.2.2.1, ()), ()), ())
def AD6 (gi : Int) (ga : L2) (a : LI) (b : LI) : Option ((LI × Unit) × ((Int × L2 × LI × LI × Unit) × Unit) × Unit) :=
AD (Mv [b, a]) fun y0 =>
some ((y0.1.1, ()), ((gi, ga, a, b, ()), ()), ())
def CG : Option ((Unit × Unit) × Unit × Unit) :=
some (((), ()), (), ())
def AKn (gi : Int) (ga : L2) (op : Int) (w : Int) (na : Int) (nb : Int) (nc : Int) (n : Int) (lo : Int) (a : LI) (b : LI) (c : LI) : Option (((Int × L2 × Unit) × LI × Unit) × Unit × Unit) :=
AD (CG) fun y0 =>
AD (AHT gi ga w n) fun y1 =>
some (((y1.2.1.1.1, y1.2.1.1.2.1, ()), y1.1.1, ()), (), ())
def AKo (gi : Int) (ga : L2) (op : Int) (w : Int) (na : Int) (nb : Int) (nc : Int) (n : Int) (lo : Int) (a : LI) (b : LI) (c : LI) : Option (((Int × L2 × Unit) × LI × Unit) × Unit × Unit) :=
AD (CG) fun y0 =>
AD (AD2 gi ga a) fun y1 =>
some (((y1.2.1.1.1, y1.2.1.1.2.1, ()), y1.1.1, ()), (), ())
def AKp (gi : Int) (ga : L2) (op : Int) (w : Int) (na : Int) (nb : Int) (nc : Int) (n : Int) (lo : Int) (a : LI) (b : LI) (c : LI) : Option (((Int × L2 × Unit) × LI × Unit) × Unit × Unit) :=
AD (CG) fun y0 =>
AD (N6 gi ga a) fun y1 =>
some (((y1.2.1.1.1, y1.2.1.1.2.1, ()), y1.1.1, ()), (), ())
def AKq (gi : Int) (ga : L2) (op : Int) (w : Int) (na : Int) (nb : Int) (nc : Int) (n : Int) (lo : Int) (a : LI) (b : LI) (c : LI) : Option (((Int × L2 × Unit) × LI × Unit) × Unit × Unit) :=
AD (CG) fun y0 =>
AD (Jv gi ga a) fun y1 =>
some (((y1.2.1.1.1, y1.2.1.1.2.1, ()), y1.1.1, ()), (), ())
def AKr (gi : Int) (ga : L2) (op : Int) (w : Int) (na : Int) (nb : Int) (nc : Int) (n : Int) (lo : Int) (a : LI) (b : LI) (c : LI) : Option (((Int × L2 × Unit) × LI × Unit) × Unit × Unit) :=
AD (CG) fun y0 =>
AD (SB gi ga a b) fun y1 =>
some (((y1.2.1.1.1, y1.2.1.1.2.1, ()), y1.1.1, ()), (), ())
def AKs (gi : Int) (ga : L2) (op : Int) (w : Int) (na : Int) (nb : Int) (nc : Int) (n : Int) (lo : Int) (a : LI) (b : LI) (c : LI) : Option (((Int × L2 × Unit) × LI × Unit) × Unit × Unit) :=
AD (CG) fun y0 =>
AD (AAC gi ga a b) fun y1 =>
some (((y1.2.1.1.1, y1.2.1.1.2.1, ()), y1.1.1, ()), (), ())
def AKt (gi : Int) (ga : L2) (op : Int) (w : Int) (na : Int) (nb : Int) (nc : Int) (n : Int) (lo : Int) (a : LI) (b : LI) (c : LI) : Option (((Int × L2 × Unit) × LI × Unit) × Unit × Unit) :=
AD (CG) fun y0 =>
AD (SE gi ga a b) fun y1 =>
some (((y1.2.1.1.1, y1.2.1.1.2.1, ()), y1.1.1, ()), (), ())
def AKu (gi : Int) (ga : L2) (op : Int) (w : Int) (na : Int) (nb : Int) (nc : Int) (n : Int) (lo : Int) (a : LI) (b : LI) (c : LI) : Option (((Int × L2 × Unit) × LI × Unit) × Unit × Unit) :=
AD (CG) fun y0 =>
AD (AD3 gi ga a b) fun y1 =>
some (((y1.2.1.1.1, y1.2.1.1.2.1, ()), y1.1.1, ()), (), ())
def AIu (gi : Int) (ga : L2) (op : Int) (w : Int) (na : Int) (nb : Int) (nc : Int) (n : Int) (lo : Int) (a : LI) (b : LI) (c : LI) : Option (((Int × L2 × Unit) × LI × Unit) × Unit × Unit) :=
AD (CG) fun y0 =>
AD (AD4 gi ga a b) fun y1 =>
some (((y1.2.1.1.1, y1.2.1.1.2.1, ()), y1.1.1, ()), (), ())
def AIv (gi : Int) (ga : L2) (op : Int) (w : Int) (na : Int) (nb : Int) (nc : Int) (n : Int) (lo : Int) (a : LI) (b : LI) (c : LI) : Option (((Int × L2 × Unit) × LI × Unit) × Unit × Unit) :=
AD (CG) fun y0 =>
AD (AHU gi ga a b) fun y1 =>
some (((y1.2.1.1.1, y1.2.1.1.2.1, ()), y1.1.1, ()), (), ())
def AIw (gi : Int) (ga : L2) (op : Int) (w : Int) (na : Int) (nb : Int) (nc : Int) (n : Int) (lo : Int) (a : LI) (b : LI) (c : LI) : Option (((Int × L2 × Unit) × LI × Unit) × Unit × Unit) :=
AD (CG) fun y0 =>
AD (mEq gi ga a b) fun y1 =>
some (((y1.2.1.1.1, y1.2.1.1.2.1, ()), y1.1.1, ()), (), ())
def AIx (gi : Int) (ga : L2) (op : Int) (w : Int) (na : Int) (nb : Int) (nc : Int) (n : Int) (lo : Int) (a : LI) (b : LI) (c : LI) : Option (((Int × L2 × Unit) × LI × Unit) × Unit × Unit) :=
AD (CG) fun y0 =>
AD (mNe gi ga a b) fun y1 =>
some (((y1.2.1.1.1, y1.2.1.1.2.1, ()), y1.1.1, ()), (), ())
def AIy (gi : Int) (ga : L2) (op : Int) (w : Int) (na : Int) (nb : Int) (nc : Int) (n : Int) (lo : Int) (a : LI) (b : LI) (c : LI) : Option (((Int × L2 × Unit) × LI × Unit) × Unit × Unit) :=
AD (CG) fun y0 =>
AD (mLt gi ga a b) fun y1 =>
some (((y1.2.1.1.1, y1.2.1.1.2.1, ()), y1.1.1, ()), (), ())
def AIz (gi : Int) (ga : L2) (op : Int) (w : Int) (na : Int) (nb : Int) (nc : Int) (n : Int) (lo : Int) (a : LI) (b : LI) (c : LI) : Option (((Int × L2 × Unit) × LI × Unit) × Unit × Unit) :=
AD (CG) fun y0 =>
AD (mLe gi ga a b) fun y1 =>
some (((y1.2.1.1.1, y1.2.1.1.2.1, ()), y1.1.1, ()), (), ())
def AI0 (gi : Int) (ga : L2) (op : Int) (w : Int) (na : Int) (nb : Int) (nc : Int) (n : Int) (lo : Int) (a : LI) (b : LI) (c : LI) : Option (((Int × L2 × Unit) × LI × Unit) × Unit × Unit) :=
AD (CG) fun y0 =>
AD (SD gi ga a b c) fun y1 =>
some (((y1.2.1.1.1, y1.2.1.1.2.1, ()), y1.1.1, ()), (), ())
def AI1 (gi : Int) (ga : L2) (op : Int) (w : Int) (na : Int) (nb : Int) (nc : Int) (n : Int) (lo : Int) (a : LI) (b : LI) (c : LI) : Option (((Int × L2 × Unit) × LI × Unit) × Unit × Unit) :=
AD (CG) fun y0 =>
AD (AD6 gi ga a b) fun y1 =>
some (((y1.2.1.1.1, y1.2.1.1.2.1, ()), y1.1.1, ()), (), ())
def AI2 (gi : Int) (ga : L2) (op : Int) (w : Int) (na : Int) (nb : Int) (nc : Int) (n : Int) (lo : Int) (a : LI) (b : LI) (c : LI) : Option (((Int × L2 × Unit) × LI × Unit) × Unit × Unit) :=
AD (CG) fun y0 =>
AD (N7 gi ga n lo a) fun y1 =>
some (((y1.2.1.1.1, y1.2.1.1.2.1, ()), y1.1.1, ()), (), ())
def bDo (gi : Int) (ga : L2) (op : Int) (w : Int) (na : Int) (nb : Int) (nc : Int) (n : Int) (lo : Int) (a : LI) (b : LI) (c : LI) : Option (((Int × L2 × Unit) × LI × Unit) × Unit × Unit) :=
Me op [(1, AKn gi ga op w na nb nc n lo a b c), (3, AKo gi ga op w na nb nc n lo a b c), (4, AKp gi ga op w na nb nc n lo a b c), (5, AKq gi ga op w na nb nc n lo a b c), (6, AKr gi ga op w na nb nc n lo a b c), (7, AKs gi ga op w na nb nc n lo a b c), (8, AKt gi ga op w na nb nc n lo a b c), (9, AKu gi ga op w na nb nc n lo a b c), (10, AIu gi ga op w na nb nc n lo a b c), (11, AIv gi ga op w na nb nc n lo a b c), (12, AIw gi ga op w na nb nc n lo a b c), (13, AIx gi ga op w na nb nc n lo a b c), (14, AIy gi ga op w na nb nc n lo a b c), (15, AIz gi ga op w na nb nc n lo a b c), (16, AI0 gi ga op w na nb nc n lo a b c), (17, AI1 gi ga op w na nb nc n lo a b c), (18, AI2 gi ga op w na nb nc n lo a b c)]
end AL
end
section
namespace AL
open Go
def AJp (ins : Int) : Option (((Int × L2 × Unit) × Unit) × Unit × Unit) :=
some (((ins, [], ()), ()), (), ())
def XZ (nn : Nat)  (l : LI) (nn_ : LN) : Option ((Int × Unit) × ((LN × Unit) × Unit) × Unit) :=
AQ (X := Int × Int) (fun y0 =>
bif decide (y0.2 < nI l.length) then
gd (0 <= y0.2) <|
gd (y0.2 < nI l.length) <|
gd (0 <= AE l y0.2) <|
gd (AE l y0.2 < nI nn_.length) <|
gd (inK .i64 (y0.1 + (get AB nn_ (AE l y0.2)).2.1)) <|
gd (inK .i64 (y0.2 + 1)) <|
some (Sum.inl (y0.1 + (get AB nn_ (AE l y0.2)).2.1, y0.2 + 1))
else
some (Sum.inr ((y0.1, ()), ((nn_, ()), ()), ()))) (nn) (0, 0)
def VA (l : LI) (nn_ : LN) : Option ((Int × Unit) × ((LN × Unit) × Unit) × Unit) := XZ AK l nn_
def Xa (nn : Nat)  (pos : Int) (first : Int) (nn_ : LN) (bits_ : List (Int × LI)) : Option ((Int × Unit) × ((LN × List (Int × LI) × Unit) × Unit) × Unit) :=
gd (0 <= pos) <|
gd (pos < nI nn_.length) <|
AQ (X := (Int × Int) × LI) (fun y0 =>
bif decide (y0.1.2 < (get AB nn_ pos).2.1) then
gd (inK .i64 (2 * y0.1.1)) <|
gd ((y0.2.length + [2 * y0.1.1].length) * 8 <= lim) <|
gd (y0.2.length + [2 * y0.1.1].length <= lim) <|
gd (inK .i64 (y0.1.1 + 1)) <|
gd (inK .i64 (y0.1.2 + 1)) <|
some (Sum.inl ((y0.1.1 + 1, y0.1.2 + 1), y0.2 ++ [2 * y0.1.1]))
else
gd (bits_.length < lim) <|
some (Sum.inr ((y0.1.1, ()), ((nn_, A4 y0.2 bits_ pos, ()), ()), ()))) (nn) ((first, 0), [])
def AAD (pos : Int) (first : Int) (nn_ : LN) (bits_ : List (Int × LI)) : Option ((Int × Unit) × ((LN × List (Int × LI) × Unit) × Unit) × Unit) := Xa AK pos first nn_ bits_
def LF (nn : Nat)  (nn_ : LN) (ni : LP) (nc : LC) (np : LQ) (nm : LP) : Option ((LI × Unit) × Unit × Unit) :=
gd (nI nc.length <= nI nc.length) <|
gd ((nI nc.length).toNat * 8 <= lim) <|
gd (nI nc.length <= nI lim) <|
AQ (X := Int × LI) (fun y0 =>
bif decide (y0.1 < nI nc.length) then
gd (0 <= y0.1) <|
gd (y0.1 < nI nc.length) <|
gd (0 <= y0.1) <|
gd (y0.1 < nI y0.2.length) <|
gd (inK .i64 (y0.1 + 1)) <|
some (Sum.inl (y0.1 + 1, y0.2.set y0.1.toNat (get AW nc y0.1).2.2.2.1))
else
some (Sum.inr ((y0.2, ()), (), ()))) (nn) (0, List.replicate (nI nc.length).toNat 0)
def Jw (nn_ : LN) (ni : LP) (nc : LC) (np : LQ) (nm : LP) : Option ((LI × Unit) × Unit × Unit) := LF AK nn_ ni nc np nm
def OA (nn : Nat)  (n : Int) (w : Int) : Option ((List Bool × Unit) × Unit × Unit) :=
gd (0 <= w) <|
gd (w <= w) <|
gd (w.toNat * 1 <= lim) <|
gd (w <= nI lim) <|
AQ (X := Int × List Bool) (fun y0 =>
bif decide (y0.1 < w) then
gd (0 <= y0.1) <|
gd (0 <= y0.1) <|
gd (y0.1 < nI y0.2.length) <|
gd (inK .i64 (y0.1 + 1)) <|
some (Sum.inl (y0.1 + 1, y0.2.set y0.1.toNat (IntKind.i64.wrap (nI (BitVec.ofInt 64 (n.fdiv (2 ^ min y0.1.toNat 64)) &&& BitVec.ofInt 64 1).toNat) == 1)))
else
some (Sum.inr ((y0.2, ()), (), ()))) (nn) (0, List.replicate w.toNat false)
def Mw (n : Int) (w : Int) : Option ((List Bool × Unit) × Unit × Unit) := OA AK n w
def AD7 (w : Int) : Option ((Int × Unit) × Unit × Unit) :=
gd (0 <= w) <|
gd (inK .i64 (IntKind.i64.wrap (1 * 2 ^ min w.toNat 64) - 1)) <|
some ((IntKind.i64.wrap (1 * 2 ^ min w.toNat 64) - 1, ()), (), ())
def LG (nn : Nat)  (cl : L3) (nn_ : LT) (ni : LN) (nc : LP) (np : LC) (nm : LQ) (bits_ : LP) (ci : List (Int × LI)) : Option (Unit × ((L3 × LT × LN × LP × LC × LQ × LP × List (Int × LI) × Unit) × Unit) × Unit) :=
AD (Jw ni nc np nm bits_) fun y0 =>
AQ (X := Int × (NET) × LT) (fun y1 =>
bif decide (y1.1 < nI np.length) then
gd (0 <= y1.1) <|
gd (y1.1 < nI np.length) <|
gd (0 <= y1.1) <|
gd (y1.1 < nI y0.1.1.length) <|
gd (0 <= (get AW np y1.1).2.1) <|
gd ((get AW np y1.1).2.1 < nI y1.2.1.1.length) <|
AD (Mw (AE y0.1.1 y1.1) (get ((Ty.int IntKind.i64).pair ((Ty.int IntKind.i64).pair ((Ty.int IntKind.i64).pair ((Ty.int IntKind.i64).pair ((Ty.int IntKind.i64).pair ((Ty.int IntKind.i64).pair ((Ty.int IntKind.i64).pair Ty.unit))))))) y1.2.1.1 (get AW np y1.1).2.1).2.1) fun y2 =>
AQ (X := Int × (NET) × LT) (fun y3 =>
bif decide (y3.1 < nI y2.1.1.length) then
gd (0 <= y3.1) <|
gd (y3.1 < nI y2.1.1.length) <|
gd (inK .i64 (nI cl.length + nI y3.2.2.length)) <|
gd (inK .i64 (nI cl.length + nI y3.2.2.length + 1)) <|
gd (0 <= y3.1) <|
gd (y3.1 < nI (List.length (Ad int.sl.Bl ci (get AW np y1.1).2.2.1))) <|
gd ((y3.2.2.length + [(nI cl.length + nI y3.2.2.length + 1, AE (Ad int.sl.Bl ci (get AW np y1.1).2.2.1) y3.1, CB y2.1.1 y3.1, y1.1, y3.1, ())].length) * 40 <= lim) <|
gd (y3.2.2.length + [(nI cl.length + nI y3.2.2.length + 1, AE (Ad int.sl.Bl ci (get AW np y1.1).2.2.1) y3.1, CB y2.1.1 y3.1, y1.1, y3.1, ())].length <= lim) <|
gd (inK .i64 (y3.1 + 1)) <|
some (Sum.inl (y3.1 + 1, (y3.2.1.1, y3.2.1.2.1, y3.2.1.2.2.1, y3.2.1.2.2.2.1, y3.2.1.2.2.2.2), y3.2.2 ++ [(nI cl.length + nI y3.2.2.length + 1, AE (Ad int.sl.Bl ci (get AW np y1.1).2.2.1) y3.1, CB y2.1.1 y3.1, y1.1, y3.1, ())]))
else
gd (inK .i64 (y1.1 + 1)) <|
some (Sum.inr (Sum.inl (y1.1 + 1, (y3.2.1.1, y3.2.1.2.1, y3.2.1.2.2.1, y3.2.1.2.2.2.1, y3.2.1.2.2.2.2), y3.2.2)))) (nn) (0, (y1.2.1.1, y1.2.1.2.1, y1.2.1.2.2.1, y1.2.1.2.2.2.1, y1.2.1.2.2.2.2), y1.2.2)
else
some (Sum.inr ((), ((cl, y1.2.2, y1.2.1.1, y1.2.1.2.1, y1.2.1.2.2.1, y1.2.1.2.2.2.1, y1.2.1.2.2.2.2, ci, ()), ()), ()))) (nn) (0, (ni, nc, np, nm, bits_), nn_)
def Jx (cl : L3) (nn_ : LT) (ni : LN) (nc : LP) (np : LC) (nm : LQ) (bits_ : LP) (ci : List (Int × LI)) : Option (Unit × ((L3 × LT × LN × LP × LC × LQ × LP × List (Int × LI) × Unit) × Unit) × Unit) := LG AK cl nn_ ni nc np nm bits_ ci
def SF (nn : Nat)  (gi : Int) (ga : L2) (nn_ : LN) (bits_ : List (Int × LI)) : Option (Unit × ((Int × L2 × LN × List (Int × LI) × Unit) × Unit) × Unit) :=
AQ (X := Int × (Int × L2 × LN) × List (Int × LI)) (fun y0 =>
bif decide (y0.1 < nI nn_.length) then
gd (0 <= y0.1) <|
gd (y0.1 < nI nn_.length) <|
bif BF y0.2.2 y0.1 then
gd (inK .i64 (y0.1 + 1)) <|
some (Sum.inl (y0.1 + 1, (y0.2.1.1, y0.2.1.2.1, y0.2.1.2.2), y0.2.2))
else
AD (bDo y0.2.1.1 y0.2.1.2.1 (get AB nn_ y0.1).1 (get AB nn_ y0.1).2.1 (get AB nn_ y0.1).2.2.1 (get AB nn_ y0.1).2.2.2.1 (get AB nn_ y0.1).2.2.2.2.1 (get AB nn_ y0.1).2.2.2.2.2.1 (get AB nn_ y0.1).2.2.2.2.2.2.1 (Ad (Ty.int IntKind.i64).sl.Bl y0.2.2 (get AB nn_ y0.1).2.2.1) (Ad (Ty.int IntKind.i64).sl.Bl y0.2.2 (get AB nn_ y0.1).2.2.2.1) (Ad (Ty.int IntKind.i64).sl.Bl y0.2.2 (get AB nn_ y0.1).2.2.2.2.1)) fun y1 =>
gd (y0.2.2.length < lim) <|
gd (inK .i64 (y0.1 + 1)) <|
some (Sum.inl (y0.1 + 1, (y1.1.1.1, y1.1.1.2.1, y0.2.1.2.2), A4 y1.1.2.1 y0.2.2 y0.1))
else
some (Sum.inr ((), ((y0.2.1.1, y0.2.1.2.1, y0.2.1.2.2, y0.2.2, ()), ()), ()))) (nn) (0, (gi, ga, nn_), bits_)
def SG (gi : Int) (ga : L2) (nn_ : LN) (bits_ : List (Int × LI)) : Option (Unit × ((Int × L2 × LN × List (Int × LI) × Unit) × Unit) × Unit) := SF AK gi ga nn_ bits_
def OB (nn : Nat)  (nn_ : LN) (ni : LP) (nc : LC) (np : LQ) (nm : LP) : Option (((Int × L2 × L3 × LT × L3 × Unit) × Unit) × Unit × Unit) :=
AQ (X := Int × (Int × NET) × LI × L3) (fun y0 =>
bif decide (y0.1 < nI ni.length) then
gd (0 <= y0.1) <|
gd (y0.1 < nI ni.length) <|
gd ((y0.2.2.1.length + [(get Ar ni y0.1).2.1].length) * 8 <= lim) <|
gd (y0.2.2.1.length + [(get Ar ni y0.1).2.1].length <= lim) <|
gd (0 <= (get Ar ni y0.1).2.1) <|
gd ((get Ar ni y0.1).2.1 < nI nn_.length) <|
AQ (X := Int × (Int × NET) × L3) (fun y1 =>
bif decide (y1.1 < (get AB nn_ (get Ar ni y0.1).2.1).2.1) then
gd (inK .i64 (nI y1.2.2.length + 1)) <|
gd ((y1.2.2.length + [(nI y1.2.2.length + 1, y0.1, y1.1, ())].length) * 24 <= lim) <|
gd (y1.2.2.length + [(nI y1.2.2.length + 1, y0.1, y1.1, ())].length <= lim) <|
gd (inK .i64 (y1.1 + 1)) <|
some (Sum.inl (y1.1 + 1, (y1.2.1.1, y1.2.1.2.1, y1.2.1.2.2.1, y1.2.1.2.2.2.1, y1.2.1.2.2.2.2.1, y1.2.1.2.2.2.2.2), y1.2.2 ++ [(nI y1.2.2.length + 1, y0.1, y1.1, ())]))
else
gd (inK .i64 (y0.1 + 1)) <|
some (Sum.inr (Sum.inl (y0.1 + 1, (y1.2.1.1, y1.2.1.2.1, y1.2.1.2.2.1, y1.2.1.2.2.2.1, y1.2.1.2.2.2.2.1, y1.2.1.2.2.2.2.2), y0.2.2.1 ++ [(get Ar ni y0.1).2.1], y1.2.2)))) (nn) (0, (y0.2.1.1, y0.2.1.2.1, y0.2.1.2.2.1, y0.2.1.2.2.2.1, y0.2.1.2.2.2.2.1, y0.2.1.2.2.2.2.2), y0.2.2.2)
else
AQ (X := Int × LI) (fun y1 =>
bif decide (y1.1 < nI nc.length) then
gd (0 <= y1.1) <|
gd (y1.1 < nI nc.length) <|
gd ((y1.2.length + [(get AW nc y1.1).2.1].length) * 8 <= lim) <|
gd (y1.2.length + [(get AW nc y1.1).2.1].length <= lim) <|
gd (inK .i64 (y1.1 + 1)) <|
some (Sum.inl (y1.1 + 1, y1.2 ++ [(get AW nc y1.1).2.1]))
else
AD (VA y0.2.2.1 y0.2.1.2.1) fun y2 =>
AD (VA y1.2 y0.2.1.2.1) fun y3 =>
gd (inK .i64 (y2.1.1 + y3.1.1)) <|
AD (AJp (y2.1.1 + y3.1.1)) fun y4 =>
gd ((y0.2.2.1.length + y1.2.length) * 8 <= lim) <|
gd (y0.2.2.1.length + y1.2.length <= lim) <|
AQ (X := (Int × Int) × (Int × L2 × NET) × List (Int × LI)) (fun y5 =>
bif decide (y5.1.2 < nI (y0.2.2.1 ++ y1.2).length) then
gd (0 <= y5.1.2) <|
gd (y5.1.2 < nI (y0.2.2.1 ++ y1.2).length) <|
AD (AAD (AE (y0.2.2.1 ++ y1.2) y5.1.2) y5.1.1 y5.2.1.2.2.1 y5.2.2) fun y6 =>
gd (inK .i64 (y5.1.2 + 1)) <|
some (Sum.inl ((y6.1.1, y5.1.2 + 1), (y5.2.1.1, y5.2.1.2.1, y5.2.1.2.2.1, y5.2.1.2.2.2.1, y5.2.1.2.2.2.2.1, y5.2.1.2.2.2.2.2.1, y5.2.1.2.2.2.2.2.2), y6.2.1.1.2.1))
else
AD (SG y5.2.1.1 y5.2.1.2.1 y5.2.1.2.2.1 y5.2.2) fun y6 =>
AD (Jx y0.2.2.2 [] y6.2.1.1.2.2.1 y5.2.1.2.2.2.1 y5.2.1.2.2.2.2.1 y5.2.1.2.2.2.2.2.1 y5.2.1.2.2.2.2.2.2 y6.2.1.1.2.2.2.1) fun y7 =>
AQ (X := Int × (Int × L2 × NET) × L3) (fun y8 =>
bif decide (y8.1 < nI np.length) then
gd (0 <= y8.1) <|
gd (y8.1 < nI np.length) <|
gd (0 < nI (List.length (Ad int.sl.Bl y7.2.1.1.2.2.2.2.2.2.2.1 (get Ax np y8.1).2.2.1))) <|
gd ((y8.2.2.length + [((get Ax np y8.1).1, AE (Ad int.sl.Bl y7.2.1.1.2.2.2.2.2.2.2.1 (get Ax np y8.1).2.2.1) 0, y8.1, ())].length) * 24 <= lim) <|
gd (y8.2.2.length + [((get Ax np y8.1).1, AE (Ad int.sl.Bl y7.2.1.1.2.2.2.2.2.2.2.1 (get Ax np y8.1).2.2.1) 0, y8.1, ())].length <= lim) <|
gd (inK .i64 (y8.1 + 1)) <|
some (Sum.inl (y8.1 + 1, (y8.2.1.1, y8.2.1.2.1, y8.2.1.2.2.1, y8.2.1.2.2.2.1, y8.2.1.2.2.2.2.1, y8.2.1.2.2.2.2.2.1, y8.2.1.2.2.2.2.2.2), y8.2.2 ++ [((get Ax np y8.1).1, AE (Ad int.sl.Bl y7.2.1.1.2.2.2.2.2.2.2.1 (get Ax np y8.1).2.2.1) 0, y8.1, ())]))
else
some (Sum.inr (Sum.inr (Sum.inr (Sum.inr (((y8.2.1.1, y8.2.1.2.1, y7.2.1.1.1, y7.2.1.1.2.1, y8.2.2, ()), ()), (), ())))))) (nn) (0, (y6.2.1.1.1, y6.2.1.1.2.1, y6.2.1.1.2.2.1, y5.2.1.2.2.2.1, y5.2.1.2.2.2.2.1, y5.2.1.2.2.2.2.2.1, y5.2.1.2.2.2.2.2.2), [])) (nn) ((1, 0), (y4.1.1.1, y4.1.1.2.1, y0.2.1.2.1, y0.2.1.2.2.1, y0.2.1.2.2.2.1, y0.2.1.2.2.2.2.1, y0.2.1.2.2.2.2.2), [])) (nn) (0, [])) (nn) (0, (0, nn_, ni, nc, np, nm), [], [])
def DZ (nn_ : LN) (ni : LP) (nc : LC) (np : LQ) (nm : LP) : Option (((Int × L2 × L3 × LT × L3 × Unit) × Unit) × Unit × Unit) := OB AK nn_ ni nc np nm
def OC (nn : Nat)  (gi : Int) (ga : L2) (ci : L3) (cl : LT) (co : L3) (cells : LI) : Option ((List Bool × Unit) × Unit × Unit) :=
AQ (X := Int × List Bool) (fun y0 =>
bif decide (y0.1 < nI cl.length) then
gd (0 <= y0.1) <|
gd (y0.1 < nI cl.length) <|
bif decide ((get AU cl y0.1).2.2.2.1 < nI cells.length) then
bif bif true then decide ((get AU cl y0.1).2.2.2.2.1 < 16) else false then
gd (0 <= (get AU cl y0.1).2.2.2.1) <|
gd ((get AU cl y0.1).2.2.2.1 < nI cells.length) <|
gd (0 <= (get AU cl y0.1).2.2.2.2.1) <|
gd ((y0.2.length + [bif true then IntKind.i64.wrap (nI (BitVec.ofInt 64 (Int.fdiv (AE cells (get AU cl y0.1).2.2.2.1) (2 ^ min (Int.toNat (get AU cl y0.1).2.2.2.2.1) 64)) &&& BitVec.ofInt 64 1).toNat) == 1 else false].length) * 1 <= lim) <|
gd (y0.2.length + [bif true then IntKind.i64.wrap (nI (BitVec.ofInt 64 (Int.fdiv (AE cells (get AU cl y0.1).2.2.2.1) (2 ^ min (Int.toNat (get AU cl y0.1).2.2.2.2.1) 64)) &&& BitVec.ofInt 64 1).toNat) == 1 else false].length <= lim) <|
gd (inK .i64 (y0.1 + 1)) <|
some (Sum.inl (y0.1 + 1, y0.2 ++ [bif true then IntKind.i64.wrap (nI (BitVec.ofInt 64 (Int.fdiv (AE cells (get AU cl y0.1).2.2.2.1) (2 ^ min (Int.toNat (get AU cl y0.1).2.2.2.2.1) 64)) &&& BitVec.ofInt 64 1).toNat) == 1 else false]))
else
gd ((y0.2.length + 1) * 1 <= lim) <|
gd (y0.2.length + 1 <= lim) <|
gd (inK .i64 (y0.1 + 1)) <|
some (Sum.inl (y0.1 + 1, y0.2 ++ [false]))
else
gd ((y0.2.length + 1) * 1 <= lim) <|
gd (y0.2.length + 1 <= lim) <|
gd (inK .i64 (y0.1 + 1)) <|
some (Sum.inl (y0.1 + 1, y0.2 ++ [false]))
else
some (Sum.inr ((y0.2, ()), (), ()))) (nn) (0, [])
def GO (gi : Int) (ga : L2) (ci : L3) (cl : LT) (co : L3) (cells : LI) : Option ((List Bool × Unit) × Unit × Unit) := OC AK gi ga ci cl co cells
def Xb (nn : Nat)  (l : LLI) (state : List Bool) : Option ((Bool × Unit) × Unit × Unit) :=
AQ (X := Int) (fun y0 =>
bif decide (y0 < nI l.length) then
AQ (X := Bool × Int) (fun y1 =>
gd (0 <= y0) <|
gd (y0 < nI l.length) <|
bif decide (y1.2 < nI (List.length (Ao l y0))) then
gd (0 <= y0) <|
gd (y0 < nI l.length) <|
gd (0 <= y1.2) <|
gd (y1.2 < nI (List.length (Ao l y0))) <|
gd (0 <= y0) <|
gd (y0 < nI l.length) <|
gd (0 <= y1.2) <|
gd (y1.2 < nI (List.length (Ao l y0))) <|
gd (inK .i64 (0 - AE (Ao l y0) y1.2)) <|
bif decide (max2 (AE (Ao l y0) y1.2) (0 - AE (Ao l y0) y1.2) < 1) then
some (Sum.inr (Sum.inr ((false, ()), (), ())))
else
bif bif false then true else decide (max2 (AE (Ao l y0) y1.2) (0 - AE (Ao l y0) y1.2) > nI state.length) then
some (Sum.inr (Sum.inr ((false, ()), (), ())))
else
bif y1.1 then
gd (inK .i64 (y1.2 + 1)) <|
some (Sum.inl (true, y1.2 + 1))
else
gd (inK .i64 (max2 (AE (Ao l y0) y1.2) (0 - AE (Ao l y0) y1.2) - 1)) <|
gd (0 <= max2 (AE (Ao l y0) y1.2) (0 - AE (Ao l y0) y1.2) - 1) <|
gd (max2 (AE (Ao l y0) y1.2) (0 - AE (Ao l y0) y1.2) - 1 < nI state.length) <|
gd (0 <= y0) <|
gd (y0 < nI l.length) <|
gd (0 <= y1.2) <|
gd (y1.2 < nI (List.length (Ao l y0))) <|
gd (inK .i64 (y1.2 + 1)) <|
some (Sum.inl (bif false then true else CB state (max2 (AE (Ao l y0) y1.2) (0 - AE (Ao l y0) y1.2) - 1) == decide (AE (Ao l y0) y1.2 > 0), y1.2 + 1))
else
bif !y1.1 then
some (Sum.inr (Sum.inr ((false, ()), (), ())))
else
gd (inK .i64 (y0 + 1)) <|
some (Sum.inr (Sum.inl (y0 + 1)))) (nn) (false, 0)
else
some (Sum.inr ((true, ()), (), ()))) (nn) 0
def OD (l : LLI) (state : List Bool) : Option ((Bool × Unit) × Unit × Unit) := Xb AK l state
def OE (nn : Nat)  (nn_ : LN) (ni : LP) (nc : LC) (np : LQ) (nm : LP) (nums : LI) : Option ((LI × Unit) × Unit × Unit) :=
AQ (X := Int × LI) (fun y0 =>
bif decide (y0.1 < nI nc.length) then
bif decide (y0.1 < nI nums.length) then
gd (0 <= y0.1) <|
gd (y0.1 < nI nums.length) <|
gd (0 <= y0.1) <|
gd (y0.1 < nI nc.length) <|
gd (0 <= (get AW nc y0.1).2.1) <|
gd ((get AW nc y0.1).2.1 < nI nn_.length) <|
gd (0 <= (get AB nn_ (get AW nc y0.1).2.1).2.1) <|
gd (IntKind.i64.wrap (1 * 2 ^ min (Int.toNat (get AB nn_ (get AW nc y0.1).2.1).2.1) 64) ≠ 0) <|
gd ((y0.2.length + [(IntKind.i64.wrap (get (Ty.int IntKind.u16) nums y0.1)).tmod (IntKind.i64.wrap (1 * 2 ^ min (Int.toNat (get AB nn_ (get AW nc y0.1).2.1).2.1) 64))].length) * 8 <= lim) <|
gd (y0.2.length + [(IntKind.i64.wrap (get (Ty.int IntKind.u16) nums y0.1)).tmod (IntKind.i64.wrap (1 * 2 ^ min (Int.toNat (get AB nn_ (get AW nc y0.1).2.1).2.1) 64))].length <= lim) <|
gd (inK .i64 (y0.1 + 1)) <|
some (Sum.inl (y0.1 + 1, y0.2 ++ [(IntKind.i64.wrap (get (Ty.int IntKind.u16) nums y0.1)).tmod (IntKind.i64.wrap (1 * 2 ^ min (Int.toNat (get AB nn_ (get AW nc y0.1).2.1).2.1) 64))]))
else
gd ((y0.2.length + 1) * 8 <= lim) <|
gd (y0.2.length + 1 <= lim) <|
gd (inK .i64 (y0.1 + 1)) <|
some (Sum.inl (y0.1 + 1, y0.2 ++ [0]))
else
some (Sum.inr ((y0.2, ()), (), ()))) (nn) (0, [])
def GP (nn_ : LN) (ni : LP) (nc : LC) (np : LQ) (nm : LP) (nums : LI) : Option ((LI × Unit) × Unit × Unit) := OE AK nn_ ni nc np nm nums
def SH (nn : Nat)  (state : List Bool) : Option ((LI × Unit) × Unit × Unit) :=
AQ (X := Int × LI) (fun y0 =>
bif decide (y0.1 < nI state.length) then
gd (0 <= y0.1) <|
gd (y0.1 < nI state.length) <|
bif CB state y0.1 then
gd (inK .i64 (y0.1 + 1)) <|
gd ((y0.2.length + [y0.1 + 1].length) * 8 <= lim) <|
gd (y0.2.length + [y0.1 + 1].length <= lim) <|
gd (inK .i64 (y0.1 + 1)) <|
some (Sum.inl (y0.1 + 1, y0.2 ++ [y0.1 + 1]))
else
gd (inK .i64 (0 - y0.1)) <|
gd (inK .i64 (0 - y0.1 - 1)) <|
gd ((y0.2.length + [0 - y0.1 - 1].length) * 8 <= lim) <|
gd (y0.2.length + [0 - y0.1 - 1].length <= lim) <|
gd (inK .i64 (y0.1 + 1)) <|
some (Sum.inl (y0.1 + 1, y0.2 ++ [0 - y0.1 - 1]))
else
some (Sum.inr ((y0.2, ()), (), ()))) (nn) (0, [])
def Ew (state : List Bool) : Option ((LI × Unit) × Unit × Unit) := SH AK state
def HN (nn : Nat)  (l : LI) : Option ((LI × Unit) × Unit × Unit) :=
AQ (X := Int × LI) (fun y0 =>
bif decide (y0.1 < nI l.length) then
gd (0 <= y0.1) <|
gd (y0.1 < nI l.length) <|
gd (inK .i64 (0 - AE l y0.1)) <|
gd ((y0.2.length + [0 - AE l y0.1].length) * 8 <= lim) <|
gd (y0.2.length + [0 - AE l y0.1].length <= lim) <|
gd (inK .i64 (y0.1 + 1)) <|
some (Sum.inl (y0.1 + 1, y0.2 ++ [0 - AE l y0.1]))
else
some (Sum.inr ((y0.2, ()), (), ()))) (nn) (0, [])
def C7 (l : LI) : Option ((LI × Unit) × Unit × Unit) := HN AK l
def Xc (nn : Nat)  (a : List Bool) (b : List Bool) : Option ((Bool × Unit) × Unit × Unit) :=
bif nI a.length != nI b.length then
some ((false, ()), (), ())
else
AQ (X := Int) (fun y0 =>
bif decide (y0 < nI a.length) then
gd (0 <= y0) <|
gd (y0 < nI a.length) <|
gd (0 <= y0) <|
gd (y0 < nI b.length) <|
bif !CB a y0 == CB b y0 then
some (Sum.inr ((false, ()), (), ()))
else
gd (inK .i64 (y0 + 1)) <|
some (Sum.inl (y0 + 1))
else
some (Sum.inr ((true, ()), (), ()))) (nn) 0
def OF (a : List Bool) (b : List Bool) : Option ((Bool × Unit) × Unit × Unit) := Xc AK a b
def LH (nn : Nat)  (nn_ : LN) (ni : LP) (nc : LC) (np : LQ) (nm : LP) : Option (((LN × LP × LC × LQ × LP × Unit) × Unit) × Unit × Unit) :=
AQ (X := Int × (LN × LQ × LP) × LP) (fun y0 =>
bif decide (y0.1 < nI ni.length) then
gd (inK .i64 (65 + y0.1.tmod 64)) <|
gd (0 <= y0.1) <|
gd (y0.1 < nI ni.length) <|
gd ((y0.2.2.length + [((ByteArray.mk #[105]).append (strOfNums [IntKind.u8.wrap (65 + y0.1.tmod 64)]), (get Ar ni y0.1).2.1, ())].length) * 24 <= lim) <|
gd (y0.2.2.length + [((ByteArray.mk #[105]).append (strOfNums [IntKind.u8.wrap (65 + y0.1.tmod 64)]), (get Ar ni y0.1).2.1, ())].length <= lim) <|
gd (inK .i64 (y0.1 + 1)) <|
some (Sum.inl (y0.1 + 1, (y0.2.1.1, y0.2.1.2.1, y0.2.1.2.2), y0.2.2 ++ [((ByteArray.mk #[105]).append (strOfNums [IntKind.u8.wrap (65 + y0.1.tmod 64)]), (get Ar ni y0.1).2.1, ())]))
else
AQ (X := Int × (LN × LQ × LP) × LC) (fun y1 =>
bif decide (y1.1 < nI nc.length) then
gd (0 <= y1.1) <|
gd (y1.1 < nI nc.length) <|
gd (inK .i64 (65 + y1.1.tmod 64)) <|
gd ((y1.2.2.length + [((ByteArray.mk #[99]).append (strOfNums [IntKind.u8.wrap (65 + y1.1.tmod 64)]), (get AW nc y1.1).2.1, (get AW nc y1.1).2.2.1, (get AW nc y1.1).2.2.2.1, ())].length) * 40 <= lim) <|
gd (y1.2.2.length + [((ByteArray.mk #[99]).append (strOfNums [IntKind.u8.wrap (65 + y1.1.tmod 64)]), (get AW nc y1.1).2.1, (get AW nc y1.1).2.2.1, (get AW nc y1.1).2.2.2.1, ())].length <= lim) <|
gd (inK .i64 (y1.1 + 1)) <|
some (Sum.inl (y1.1 + 1, (y1.2.1.1, y1.2.1.2.1, y1.2.1.2.2), y1.2.2 ++ [((ByteArray.mk #[99]).append (strOfNums [IntKind.u8.wrap (65 + y1.1.tmod 64)]), (get AW nc y1.1).2.1, (get AW nc y1.1).2.2.1, (get AW nc y1.1).2.2.2.1, ())]))
else
AQ (X := Int × (LN × LP) × LQ) (fun y2 =>
bif decide (y2.1 < nI np.length) then
gd (0 <= y2.1) <|
gd (y2.1 < nI np.length) <|
gd (inK .i64 (65 + y2.1.tmod 64)) <|
gd ((y2.2.2.length + [((get Ax np y2.1).1, (ByteArray.mk #[112]).append (strOfNums [IntKind.u8.wrap (65 + y2.1.tmod 64)]), (get Ax np y2.1).2.2.1, ())].length) * 32 <= lim) <|
gd (y2.2.2.length + [((get Ax np y2.1).1, (ByteArray.mk #[112]).append (strOfNums [IntKind.u8.wrap (65 + y2.1.tmod 64)]), (get Ax np y2.1).2.2.1, ())].length <= lim) <|
gd (inK .i64 (y2.1 + 1)) <|
some (Sum.inl (y2.1 + 1, (y2.2.1.1, y2.2.1.2), y2.2.2 ++ [((get Ax np y2.1).1, (ByteArray.mk #[112]).append (strOfNums [IntKind.u8.wrap (65 + y2.1.tmod 64)]), (get Ax np y2.1).2.2.1, ())]))
else
some (Sum.inr (Sum.inr (Sum.inr (((y2.2.1.1, y0.2.2, y1.2.2, y2.2.2, y2.2.1.2, ()), ()), (), ()))))) (nn) (0, (y1.2.1.1, y1.2.1.2.2), [])) (nn) (0, (y0.2.1.1, y0.2.1.2.1, y0.2.1.2.2), [])) (nn) (0, (nn_, np, nm), [])
def Ex (nn_ : LN) (ni : LP) (nc : LC) (np : LQ) (nm : LP) : Option (((LN × LP × LC × LQ × LP × Unit) × Unit) × Unit × Unit) := LH AK nn_ ni nc np nm
def Xd (nn : Nat)  (nn_ : LN) (ni : LP) (nc : LC) (np : LQ) (nm : LP) (gi : Int) (ga : L2) (ci : L3) (cl : LT) (co : L3) : Option ((Bool × Unit) × Unit × Unit) :=
AQ (X := Int × Int × Int) (fun y0 =>
bif decide (y0.2.2 < nI cl.length) then
gd (0 <= y0.2.2) <|
gd (y0.2.2 < nI cl.length) <|
bif decide ((get AU cl y0.2.2).2.2.2.2.1 < 0) then
some (Sum.inr ((false, ()), (), ()))
else
bif bif false then true else decide ((get AU cl y0.2.2).2.2.2.1 < y0.1) then
some (Sum.inr ((false, ()), (), ()))
else
bif (get AU cl y0.2.2).2.2.2.1 == y0.1 then
bif bif false then true else bif true then decide ((get AU cl y0.2.2).2.2.2.2.1 <= y0.2.1) else false then
some (Sum.inr ((false, ()), (), ()))
else
bif bif false then true else decide ((get AU cl y0.2.2).2.2.2.1 < 0) then
some (Sum.inr ((false, ()), (), ()))
else
bif bif false then true else decide ((get AU cl y0.2.2).2.2.2.1 >= nI nc.length) then
some (Sum.inr ((false, ()), (), ()))
else
gd (inK .i64 (y0.2.2 + 1)) <|
some (Sum.inl ((get AU cl y0.2.2).2.2.2.1, (get AU cl y0.2.2).2.2.2.2.1, y0.2.2 + 1))
else
bif bif false then true else decide ((get AU cl y0.2.2).2.2.2.1 < 0) then
some (Sum.inr ((false, ()), (), ()))
else
bif bif false then true else decide ((get AU cl y0.2.2).2.2.2.1 >= nI nc.length) then
some (Sum.inr ((false, ()), (), ()))
else
gd (inK .i64 (y0.2.2 + 1)) <|
some (Sum.inl ((get AU cl y0.2.2).2.2.2.1, (get AU cl y0.2.2).2.2.2.2.1, y0.2.2 + 1))
else
some (Sum.inr ((true, ()), (), ()))) (nn) (-1, 0, 0)
def VB (nn_ : LN) (ni : LP) (nc : LC) (np : LQ) (nm : LP) (gi : Int) (ga : L2) (ci : L3) (cl : LT) (co : L3) : Option ((Bool × Unit) × Unit × Unit) := Xd AK nn_ ni nc np nm gi ga ci cl co
end AL
end
section
namespace AL
open Go
def AJq (x : Int) : Option ((Int × Unit) × Unit × Unit) :=
gd (inK .i64 (0 - x)) <|
some ((max2 (max2 x (0 - x)) 0, ()), (), ())
def AAE (nn : Nat)  (l : LLI) (vars : Int) : Option ((Bool × Unit) × Unit × Unit) :=
bif decide (vars < 0) then
some ((false, ()), (), ())
else
bif bif false then true else decide (vars > 1048576) then
some ((false, ()), (), ())
else
AQ (X := Int) (fun y0 =>
bif decide (y0 < nI l.length) then
gd (0 <= y0) <|
gd (y0 < nI l.length) <|
AQ (X := Int) (fun y1 =>
bif decide (y1 < nI (List.length (Ao l y0))) then
gd (0 <= y1) <|
gd (y1 < nI (List.length (Ao l y0))) <|
AD (AJq (AE (Ao l y0) y1)) fun y2 =>
bif y2.1.1 == 0 then
some (Sum.inr (Sum.inr ((false, ()), (), ())))
else
bif bif false then true else decide (y2.1.1 > vars) then
some (Sum.inr (Sum.inr ((false, ()), (), ())))
else
gd (inK .i64 (y1 + 1)) <|
some (Sum.inl (y1 + 1))
else
gd (inK .i64 (y0 + 1)) <|
some (Sum.inr (Sum.inl (y0 + 1)))) (nn) 0
else
some (Sum.inr ((true, ()), (), ()))) (nn) 0
def I9 (l : LLI) (vars : Int) : Option ((Bool × Unit) × Unit × Unit) := AAE AK l vars
def AD8 (nn : Nat)  (c : LI) (taken : List (Int × Bool)) (ch : Int) (v : Int) : Option ((Bool × Unit) × ((List (Int × Bool) × (Int × Int) × Unit) × Unit) × Unit) :=
AQ (X := Int × Int) (fun y0 =>
bif decide (y0.2 < nI c.length) then
gd (0 <= y0.2) <|
gd (y0.2 < nI c.length) <|
bif Ad Ty.bool.Bl taken (AE c y0.2) then
some (Sum.inr ((true, ()), ((taken, (ch, v), ()), ()), ()))
else
gd (inK .i64 (0 - AE c y0.2)) <|
bif !Ad Ty.bool.Bl taken (0 - AE c y0.2) then
bif bif true then y0.1 != 0 else false then
bif bif true then y0.1 != AE c y0.2 else false then
some (Sum.inr ((true, ()), ((taken, (ch, v), ()), ()), ()))
else
gd (inK .i64 (0 - AE c y0.2)) <|
bif !Ad Ty.bool.Bl taken (0 - AE c y0.2) then
gd (inK .i64 (y0.2 + 1)) <|
some (Sum.inl (AE c y0.2, y0.2 + 1))
else
gd (inK .i64 (y0.2 + 1)) <|
some (Sum.inl (y0.1, y0.2 + 1))
else
gd (inK .i64 (0 - AE c y0.2)) <|
bif !Ad Ty.bool.Bl taken (0 - AE c y0.2) then
gd (inK .i64 (y0.2 + 1)) <|
some (Sum.inl (AE c y0.2, y0.2 + 1))
else
gd (inK .i64 (y0.2 + 1)) <|
some (Sum.inl (y0.1, y0.2 + 1))
else
gd (inK .i64 (0 - AE c y0.2)) <|
bif !Ad Ty.bool.Bl taken (0 - AE c y0.2) then
gd (inK .i64 (y0.2 + 1)) <|
some (Sum.inl (AE c y0.2, y0.2 + 1))
else
gd (inK .i64 (y0.2 + 1)) <|
some (Sum.inl (y0.1, y0.2 + 1))
else
bif y0.1 != 0 then
AD (Ql taken ch v y0.1) fun y1 =>
some (Sum.inr ((bif true then y1.1 else false, ()), ((y1.2.1, (ch, y1.2.2), ()), ()), ()))
else
some (Sum.inr ((false, ()), ((taken, (ch, v), ()), ()), ()))) (nn) (0, 0)
def VC (c : LI) (taken : List (Int × Bool)) (ch : Int) (v : Int) : Option ((Bool × Unit) × ((List (Int × Bool) × (Int × Int) × Unit) × Unit) × Unit) := AD8 AK c taken ch v
end AL
end
section
namespace AL
open Go
def AD9 (nn : Nat) (vpRight : LLI -> Int -> Option ((Bool × Unit) × Unit × Unit)) (vplook : LI -> List (Int × Bool) -> Int -> Int -> Option ((Bool × Unit) × ((List (Int × Bool) × (Int × Int) × Unit) × Unit) × Unit)) (l : LLI) (vars : Int) (known : LI) : Option ((LI × Bool × Unit) × Unit × Unit) :=
AD (vpRight l vars) fun y0 =>
bif !y0.1.1 then
some (([], false, ()), (), ())
else
AD (vpRight [known] vars) fun y1 =>
bif bif false then true else !y1.1.1 then
some (([], false, ()), (), ())
else
AQ (X := Int × Int) (fun y2 =>
bif decide (y2.2 < nI l.length) then
gd (0 <= y2.2) <|
gd (y2.2 < nI l.length) <|
some (Sum.inl (IntKind.i64.wrap (y2.1 + nI (List.length (Ao l y2.2))), IntKind.i64.wrap (y2.2 + 1)))
else
gd (0 <= y2.1) <|
gd (y2.1 <= IntKind.i64.max) <|
gd (nI 8 * y2.1 <= 2 ^ 48 - 112) <|
AQ (X := Int × Int) (fun y3 =>
bif decide (y3.1 < nI l.length) then
gd (0 <= y3.1) <|
gd (y3.1 < nI l.length) <|
AQ (X := Int × Int) (fun y4 =>
bif decide (y4.1 < nI (List.length (Ao l y3.1))) then
gd (0 <= y4.1) <|
gd (y4.1 < nI (List.length (Ao l y3.1))) <|
gd (0 <= y4.2) <|
gd ((y4.2 + 1) * 8 <= nI lim) <|
some (Sum.inl (IntKind.i64.wrap (y4.1 + 1), y4.2 + 1))
else
some (Sum.inr (Sum.inl (IntKind.i64.wrap (y3.1 + 1), y4.2)))) (nn) (0, y3.2)
else
AQ (X := Int × List (Int × Bool) × Int × Int) (fun y4 =>
bif decide (y4.1 < nI known.length) then
gd (0 <= y4.1) <|
gd (y4.1 < nI known.length) <|
AD (Ql y4.2.1 y4.2.2.1 y4.2.2.2 (AE known y4.1)) fun y5 =>
bif !y5.1 then
some (Sum.inr (Sum.inr (Sum.inr (([], false, ()), (), ()))))
else
some (Sum.inl (IntKind.i64.wrap (y4.1 + 1), y5.2.1, y4.2.2.1, y5.2.2))
else
AQ (X := Int × LLI × List (Int × Bool) × Int × Int) (fun y5 =>
bif decide (y5.1 < nI l.length) then
gd (0 <= y5.1) <|
gd (y5.1 < nI l.length) <|
AD (vplook (Ao l y5.1) y5.2.2.1 y5.2.2.2.1 y5.2.2.2.2) fun y6 =>
bif !y6.1.1 then
some (Sum.inr (Sum.inr (Sum.inr (Sum.inr (([], false, ()), (), ())))))
else
some (Sum.inl (IntKind.i64.wrap (y5.1 + 1), y5.2.1, y6.2.1.1.1, y6.2.1.1.2.1.1, y6.2.1.1.2.1.2))
else
none ) (nn) (0, l, y4.2.1, y4.2.2.1, y4.2.2.2)) (nn) (0, [], y2.1, 0)) (nn) (0, 0)) (nn) (IntKind.i64.wrap (nI known.length + 1), 0)
def AI3 (l : LLI) (vars : Int) (known : LI) : Option ((LI × Bool × Unit) × Unit × Unit) := AD9 AK I9 VC l vars known
def SI (nn : Nat)  (l : LLI) (proof : LLI) : Option (Unit × ((LLI × Unit) × (LLI × Unit) × Unit) × Unit) :=
gd ((0 + l.length) * 24 <= lim) <|
gd (0 + l.length <= lim) <|
AQ (X := Unit) (fun y0 =>
bif decide (0 < nI proof.length) then
gd (0 < nI proof.length) <|
none     else
some (Sum.inr ((), ((l, ()), (proof, ()), ()), ()))) (nn) ()
def Ck (l : LLI) (proof : LLI) : Option (Unit × ((LLI × Unit) × (LLI × Unit) × Unit) × Unit) := SI AK l proof
def grown (l : LLI) (proof : LLI) : Option ((Unit × Unit) × Unit × (LLI × Unit) × (LLI × Unit) × Unit) :=
some (((), ()), (), (l, ()), (proof, ()), ())
def Bj (known : LI) (l : LLI) (vars : Int) : Option ((Bool × Unit) × ((LLI × Unit) × (Int × Unit) × Unit) × Unit) :=
AD (I9 l vars) fun y0 =>
bif !y0.1.1 then
some ((false, ()), ((l, ()), (vars, ()), ()), ())
else
AD (I9 [known] vars) fun y1 =>
bif bif false then true else !y1.1.1 then
some ((false, ()), ((l, ()), (vars, ()), ()), ())
else
AD (AI3 l vars known) fun y2 =>
some ((!y2.1.2.1, ()), ((l, ()), (vars, ()), ()), ())
def Mx (l : LLI) (vars : Int) : Option ((Unit × Unit) × Unit × (LLI × Unit) × (Int × Unit) × Unit) :=
some (((), ()), (), (l, ()), (vars, ()), ())
end AL
end
section
namespace AL
open Go
def mask (w : Int) : Option ((Int × Unit) × Unit × Unit) :=
gd (0 <= w) <|
gd (inK .i64 (IntKind.i64.wrap (1 * 2 ^ min w.toNat 64) - 1)) <|
some ((IntKind.i64.wrap (1 * 2 ^ min w.toNat 64) - 1, ()), (), ())
def OG (nn_ : LN) (ni : LP) (nc : LC) (np : LQ) (nm : LP) : Option ((Bool × Unit) × Unit × Unit) :=
bif decide (nI nn_.length > 300) then
some ((true, ()), (), ())
else
bif bif false then true else decide (nI ni.length > 100) then
some ((true, ()), (), ())
else
bif bif false then true else decide (nI nc.length > 300) then
some ((true, ()), (), ())
else
bif bif false then true else decide (nI np.length > 40) then
some ((true, ()), (), ())
else
some ((bif false then true else decide (nI nm.length > 300), ()), (), ())
def Jy (nn_ : LN) (ni : LP) (nc : LC) (np : LQ) (nm : LP) (pos : Int) (lim_ : Int) : Option ((Int × Unit) × Unit × Unit) :=
bif decide (pos < 0) then
some ((0, ()), (), ())
else
bif bif false then true else decide (pos >= lim_) then
some ((0, ()), (), ())
else
gd (0 <= pos) <|
gd (pos < nI nn_.length) <|
some (((get AB nn_ pos).2.1, ()), (), ())
def operands (op : Int) : Option ((Int × Unit) × Unit × Unit) :=
bif op == 1 then
some ((0, ()), (), ())
else
bif op == 21 then
some ((0, ()), (), ())
else
bif op == 22 then
some ((0, ()), (), ())
else
bif op == 3 then
some ((1, ()), (), ())
else
bif op == 4 then
some ((1, ()), (), ())
else
bif op == 5 then
some ((1, ()), (), ())
else
bif op == 18 then
some ((1, ()), (), ())
else
bif op == 6 then
some ((2, ()), (), ())
else
bif op == 7 then
some ((2, ()), (), ())
else
bif op == 8 then
some ((2, ()), (), ())
else
bif op == 9 then
some ((2, ()), (), ())
else
bif op == 10 then
some ((2, ()), (), ())
else
bif op == 11 then
some ((2, ()), (), ())
else
bif op == 12 then
some ((2, ()), (), ())
else
bif op == 13 then
some ((2, ()), (), ())
else
bif op == 14 then
some ((2, ()), (), ())
else
bif op == 15 then
some ((2, ()), (), ())
else
bif op == 17 then
some ((2, ()), (), ())
else
bif op == 16 then
some ((3, ()), (), ())
else
some ((-1, ()), (), ())
def Fk (nn_ : LN) (ni : LP) (nc : LC) (np : LQ) (nm : LP) (i : Int) : Option ((Bool × Unit) × Unit × Unit) :=
gd (0 <= i) <|
gd (i < nI nn_.length) <|
AD (Jy nn_ ni nc np nm (get AB nn_ i).2.2.1 i) fun y0 =>
AD (Jy nn_ ni nc np nm (get AB nn_ i).2.2.2.1 i) fun y1 =>
AD (Jy nn_ ni nc np nm (get AB nn_ i).2.2.2.2.1 i) fun y2 =>
bif (get AB nn_ i).2.2.2.2.2.1 == 0 then
bif (get AB nn_ i).1 == 1 then
bif decide ((get AB nn_ i).2.2.2.2.2.1 >= 0) then
AD (mask (get AB nn_ i).2.1) fun y3 =>
bif bif true then decide ((get AB nn_ i).2.2.2.2.2.1 <= y3.1.1) else false then
some ((bif true then (get AB nn_ i).2.2.2.2.2.2.1 == 0 else false, ()), (), ())
else
some ((false, ()), (), ())
else
some ((false, ()), (), ())
else
bif (get AB nn_ i).1 == 21 then
some ((bif true then (get AB nn_ i).2.2.2.2.2.2.1 == 0 else false, ()), (), ())
else
bif (get AB nn_ i).1 == 22 then
some ((bif true then (get AB nn_ i).2.2.2.2.2.2.1 == 0 else false, ()), (), ())
else
bif (get AB nn_ i).1 == 3 then
bif bif true then (get AB nn_ i).2.2.2.2.2.2.1 == 0 else false then
some ((bif true then y0.1.1 == (get AB nn_ i).2.1 else false, ()), (), ())
else
some ((false, ()), (), ())
else
bif (get AB nn_ i).1 == 4 then
bif (get AB nn_ i).2.2.2.2.2.1 == 0 then
bif bif true then (get AB nn_ i).2.1 == 1 else false then
bif bif true then y0.1.1 == (get AB nn_ i).2.2.2.2.2.2.1 else false then
some ((bif true then decide (y0.1.1 > 0) else false, ()), (), ())
else
some ((false, ()), (), ())
else
some ((false, ()), (), ())
else
some ((false, ()), (), ())
else
bif (get AB nn_ i).1 == 5 then
bif (get AB nn_ i).2.2.2.2.2.1 == 0 then
bif bif true then (get AB nn_ i).2.1 == 1 else false then
bif bif true then y0.1.1 == (get AB nn_ i).2.2.2.2.2.2.1 else false then
some ((bif true then decide (y0.1.1 > 0) else false, ()), (), ())
else
some ((false, ()), (), ())
else
some ((false, ()), (), ())
else
some ((false, ()), (), ())
else
bif (get AB nn_ i).1 == 6 then
bif bif true then (get AB nn_ i).2.2.2.2.2.2.1 == 0 else false then
bif bif true then y0.1.1 == (get AB nn_ i).2.1 else false then
some ((bif true then y1.1.1 == (get AB nn_ i).2.1 else false, ()), (), ())
else
some ((false, ()), (), ())
else
some ((false, ()), (), ())
else
bif (get AB nn_ i).1 == 7 then
bif bif true then (get AB nn_ i).2.2.2.2.2.2.1 == 0 else false then
bif bif true then y0.1.1 == (get AB nn_ i).2.1 else false then
some ((bif true then y1.1.1 == (get AB nn_ i).2.1 else false, ()), (), ())
else
some ((false, ()), (), ())
else
some ((false, ()), (), ())
else
bif (get AB nn_ i).1 == 8 then
bif bif true then (get AB nn_ i).2.2.2.2.2.2.1 == 0 else false then
bif bif true then y0.1.1 == (get AB nn_ i).2.1 else false then
some ((bif true then y1.1.1 == (get AB nn_ i).2.1 else false, ()), (), ())
else
some ((false, ()), (), ())
else
some ((false, ()), (), ())
else
bif (get AB nn_ i).1 == 9 then
bif bif true then (get AB nn_ i).2.2.2.2.2.2.1 == 0 else false then
bif bif true then y0.1.1 == (get AB nn_ i).2.1 else false then
some ((bif true then y1.1.1 == (get AB nn_ i).2.1 else false, ()), (), ())
else
some ((false, ()), (), ())
else
some ((false, ()), (), ())
else
bif (get AB nn_ i).1 == 10 then
bif bif true then (get AB nn_ i).2.2.2.2.2.2.1 == 0 else false then
bif bif true then y0.1.1 == (get AB nn_ i).2.1 else false then
some ((bif true then y1.1.1 == (get AB nn_ i).2.1 else false, ()), (), ())
else
some ((false, ()), (), ())
else
some ((false, ()), (), ())
else
bif (get AB nn_ i).1 == 11 then
bif bif true then (get AB nn_ i).2.2.2.2.2.2.1 == 0 else false then
bif bif true then y0.1.1 == (get AB nn_ i).2.1 else false then
some ((bif true then y1.1.1 == (get AB nn_ i).2.1 else false, ()), (), ())
else
some ((false, ()), (), ())
else
some ((false, ()), (), ())
else
bif (get AB nn_ i).1 == 12 then
bif (get AB nn_ i).2.2.2.2.2.1 == 0 then
bif bif true then (get AB nn_ i).2.1 == 1 else false then
bif bif true then y0.1.1 == (get AB nn_ i).2.2.2.2.2.2.1 else false then
bif bif true then y1.1.1 == (get AB nn_ i).2.2.2.2.2.2.1 else false then
some ((bif true then decide (y0.1.1 > 0) else false, ()), (), ())
else
some ((false, ()), (), ())
else
some ((false, ()), (), ())
else
some ((false, ()), (), ())
else
some ((false, ()), (), ())
else
bif (get AB nn_ i).1 == 13 then
bif (get AB nn_ i).2.2.2.2.2.1 == 0 then
bif bif true then (get AB nn_ i).2.1 == 1 else false then
bif bif true then y0.1.1 == (get AB nn_ i).2.2.2.2.2.2.1 else false then
bif bif true then y1.1.1 == (get AB nn_ i).2.2.2.2.2.2.1 else false then
some ((bif true then decide (y0.1.1 > 0) else false, ()), (), ())
else
some ((false, ()), (), ())
else
some ((false, ()), (), ())
else
some ((false, ()), (), ())
else
some ((false, ()), (), ())
else
bif (get AB nn_ i).1 == 14 then
bif (get AB nn_ i).2.2.2.2.2.1 == 0 then
bif bif true then (get AB nn_ i).2.1 == 1 else false then
bif bif true then y0.1.1 == (get AB nn_ i).2.2.2.2.2.2.1 else false then
bif bif true then y1.1.1 == (get AB nn_ i).2.2.2.2.2.2.1 else false then
some ((bif true then decide (y0.1.1 > 0) else false, ()), (), ())
else
some ((false, ()), (), ())
else
some ((false, ()), (), ())
else
some ((false, ()), (), ())
else
some ((false, ()), (), ())
else
bif (get AB nn_ i).1 == 15 then
bif (get AB nn_ i).2.2.2.2.2.1 == 0 then
bif bif true then (get AB nn_ i).2.1 == 1 else false then
bif bif true then y0.1.1 == (get AB nn_ i).2.2.2.2.2.2.1 else false then
bif bif true then y1.1.1 == (get AB nn_ i).2.2.2.2.2.2.1 else false then
some ((bif true then decide (y0.1.1 > 0) else false, ()), (), ())
else
some ((false, ()), (), ())
else
some ((false, ()), (), ())
else
some ((false, ()), (), ())
else
some ((false, ()), (), ())
else
bif (get AB nn_ i).1 == 16 then
bif bif true then (get AB nn_ i).2.2.2.2.2.2.1 == 0 else false then
bif bif true then y0.1.1 == 1 else false then
bif bif true then y1.1.1 == (get AB nn_ i).2.1 else false then
some ((bif true then y2.1.1 == (get AB nn_ i).2.1 else false, ()), (), ())
else
some ((false, ()), (), ())
else
some ((false, ()), (), ())
else
some ((false, ()), (), ())
else
bif (get AB nn_ i).1 == 17 then
bif bif true then (get AB nn_ i).2.2.2.2.2.2.1 == 0 else false then
bif bif true then decide (y0.1.1 > 0) else false then
bif bif true then decide (y1.1.1 > 0) else false then
gd (inK .i64 (y0.1.1 + y1.1.1)) <|
some ((bif true then y0.1.1 + y1.1.1 == (get AB nn_ i).2.1 else false, ()), (), ())
else
some ((false, ()), (), ())
else
some ((false, ()), (), ())
else
some ((false, ()), (), ())
else
bif decide ((get AB nn_ i).2.2.2.2.2.2.1 >= 0) then
bif bif true then decide ((get AB nn_ i).2.2.2.2.2.2.1 <= (get AB nn_ i).2.2.2.2.2.1) else false then
bif bif true then decide ((get AB nn_ i).2.2.2.2.2.1 < y0.1.1) else false then
gd (inK .i64 ((get AB nn_ i).2.2.2.2.2.1 - (get AB nn_ i).2.2.2.2.2.2.1)) <|
gd (inK .i64 ((get AB nn_ i).2.2.2.2.2.1 - (get AB nn_ i).2.2.2.2.2.2.1 + 1)) <|
some ((bif true then (get AB nn_ i).2.1 == (get AB nn_ i).2.2.2.2.2.1 - (get AB nn_ i).2.2.2.2.2.2.1 + 1 else false, ()), (), ())
else
some ((false, ()), (), ())
else
some ((false, ()), (), ())
else
some ((false, ()), (), ())
else
bif (get AB nn_ i).1 == 1 then
bif decide ((get AB nn_ i).2.2.2.2.2.1 >= 0) then
AD (mask (get AB nn_ i).2.1) fun y3 =>
bif bif true then decide ((get AB nn_ i).2.2.2.2.2.1 <= y3.1.1) else false then
some ((bif true then (get AB nn_ i).2.2.2.2.2.2.1 == 0 else false, ()), (), ())
else
some ((false, ()), (), ())
else
some ((false, ()), (), ())
else
bif (get AB nn_ i).1 == 21 then
some ((false, ()), (), ())
else
bif (get AB nn_ i).1 == 22 then
some ((false, ()), (), ())
else
bif (get AB nn_ i).1 == 3 then
some ((false, ()), (), ())
else
bif (get AB nn_ i).1 == 4 then
bif (get AB nn_ i).2.2.2.2.2.1 == 0 then
bif bif true then (get AB nn_ i).2.1 == 1 else false then
bif bif true then y0.1.1 == (get AB nn_ i).2.2.2.2.2.2.1 else false then
some ((bif true then decide (y0.1.1 > 0) else false, ()), (), ())
else
some ((false, ()), (), ())
else
some ((false, ()), (), ())
else
some ((false, ()), (), ())
else
bif (get AB nn_ i).1 == 5 then
bif (get AB nn_ i).2.2.2.2.2.1 == 0 then
bif bif true then (get AB nn_ i).2.1 == 1 else false then
bif bif true then y0.1.1 == (get AB nn_ i).2.2.2.2.2.2.1 else false then
some ((bif true then decide (y0.1.1 > 0) else false, ()), (), ())
else
some ((false, ()), (), ())
else
some ((false, ()), (), ())
else
some ((false, ()), (), ())
else
bif (get AB nn_ i).1 == 6 then
some ((false, ()), (), ())
else
bif (get AB nn_ i).1 == 7 then
some ((false, ()), (), ())
else
bif (get AB nn_ i).1 == 8 then
some ((false, ()), (), ())
else
bif (get AB nn_ i).1 == 9 then
some ((false, ()), (), ())
else
bif (get AB nn_ i).1 == 10 then
some ((false, ()), (), ())
else
bif (get AB nn_ i).1 == 11 then
some ((false, ()), (), ())
else
bif (get AB nn_ i).1 == 12 then
bif (get AB nn_ i).2.2.2.2.2.1 == 0 then
bif bif true then (get AB nn_ i).2.1 == 1 else false then
bif bif true then y0.1.1 == (get AB nn_ i).2.2.2.2.2.2.1 else false then
bif bif true then y1.1.1 == (get AB nn_ i).2.2.2.2.2.2.1 else false then
some ((bif true then decide (y0.1.1 > 0) else false, ()), (), ())
else
some ((false, ()), (), ())
else
some ((false, ()), (), ())
else
some ((false, ()), (), ())
else
some ((false, ()), (), ())
else
bif (get AB nn_ i).1 == 13 then
bif (get AB nn_ i).2.2.2.2.2.1 == 0 then
bif bif true then (get AB nn_ i).2.1 == 1 else false then
bif bif true then y0.1.1 == (get AB nn_ i).2.2.2.2.2.2.1 else false then
bif bif true then y1.1.1 == (get AB nn_ i).2.2.2.2.2.2.1 else false then
some ((bif true then decide (y0.1.1 > 0) else false, ()), (), ())
else
some ((false, ()), (), ())
else
some ((false, ()), (), ())
else
some ((false, ()), (), ())
else
some ((false, ()), (), ())
else
bif (get AB nn_ i).1 == 14 then
bif (get AB nn_ i).2.2.2.2.2.1 == 0 then
bif bif true then (get AB nn_ i).2.1 == 1 else false then
bif bif true then y0.1.1 == (get AB nn_ i).2.2.2.2.2.2.1 else false then
bif bif true then y1.1.1 == (get AB nn_ i).2.2.2.2.2.2.1 else false then
some ((bif true then decide (y0.1.1 > 0) else false, ()), (), ())
else
some ((false, ()), (), ())
else
some ((false, ()), (), ())
else
some ((false, ()), (), ())
else
some ((false, ()), (), ())
else
bif (get AB nn_ i).1 == 15 then
bif (get AB nn_ i).2.2.2.2.2.1 == 0 then
bif bif true then (get AB nn_ i).2.1 == 1 else false then
bif bif true then y0.1.1 == (get AB nn_ i).2.2.2.2.2.2.1 else false then
bif bif true then y1.1.1 == (get AB nn_ i).2.2.2.2.2.2.1 else false then
some ((bif true then decide (y0.1.1 > 0) else false, ()), (), ())
else
some ((false, ()), (), ())
else
some ((false, ()), (), ())
else
some ((false, ()), (), ())
else
some ((false, ()), (), ())
else
bif (get AB nn_ i).1 == 16 then
some ((false, ()), (), ())
else
bif (get AB nn_ i).1 == 17 then
some ((false, ()), (), ())
else
bif decide ((get AB nn_ i).2.2.2.2.2.2.1 >= 0) then
bif bif true then decide ((get AB nn_ i).2.2.2.2.2.2.1 <= (get AB nn_ i).2.2.2.2.2.1) else false then
bif bif true then decide ((get AB nn_ i).2.2.2.2.2.1 < y0.1.1) else false then
gd (inK .i64 ((get AB nn_ i).2.2.2.2.2.1 - (get AB nn_ i).2.2.2.2.2.2.1)) <|
gd (inK .i64 ((get AB nn_ i).2.2.2.2.2.1 - (get AB nn_ i).2.2.2.2.2.2.1 + 1)) <|
some ((bif true then (get AB nn_ i).2.1 == (get AB nn_ i).2.2.2.2.2.1 - (get AB nn_ i).2.2.2.2.2.2.1 + 1 else false, ()), (), ())
else
some ((false, ()), (), ())
else
some ((false, ()), (), ())
else
some ((false, ()), (), ())
def VD (nn_ : LN) (ni : LP) (nc : LC) (np : LQ) (nm : LP) (i : Int) : Option ((Bool × Unit) × Unit × Unit) :=
gd (0 <= i) <|
gd (i < nI nn_.length) <|
AD (operands (get AB nn_ i).1) fun y0 =>
bif decide ((get AB nn_ i).2.1 < 1) then
some ((false, ()), (), ())
else
bif bif false then true else decide ((get AB nn_ i).2.1 > 16) then
some ((false, ()), (), ())
else
bif bif false then true else decide (y0.1.1 < 0) then
some ((false, ()), (), ())
else
bif decide (y0.1.1 < 1) then
bif bif false then true else bif true then (get AB nn_ i).2.2.1 != 0 else false then
some ((false, ()), (), ())
else
bif decide (y0.1.1 < 2) then
bif bif false then true else bif true then (get AB nn_ i).2.2.2.1 != 0 else false then
some ((false, ()), (), ())
else
bif decide (y0.1.1 < 3) then
bif bif false then true else bif true then (get AB nn_ i).2.2.2.2.1 != 0 else false then
some ((false, ()), (), ())
else
AD (Fk nn_ ni nc np nm i) fun y1 =>
some ((y1.1.1, ()), (), ())
else
AD (Fk nn_ ni nc np nm i) fun y1 =>
some ((y1.1.1, ()), (), ())
else
bif decide (y0.1.1 < 3) then
bif bif false then true else bif true then (get AB nn_ i).2.2.2.2.1 != 0 else false then
some ((false, ()), (), ())
else
AD (Fk nn_ ni nc np nm i) fun y1 =>
some ((y1.1.1, ()), (), ())
else
AD (Fk nn_ ni nc np nm i) fun y1 =>
some ((y1.1.1, ()), (), ())
else
bif decide (y0.1.1 < 2) then
bif bif false then true else bif true then (get AB nn_ i).2.2.2.1 != 0 else false then
some ((false, ()), (), ())
else
bif decide (y0.1.1 < 3) then
bif bif false then true else bif true then (get AB nn_ i).2.2.2.2.1 != 0 else false then
some ((false, ()), (), ())
else
AD (Fk nn_ ni nc np nm i) fun y1 =>
some ((y1.1.1, ()), (), ())
else
AD (Fk nn_ ni nc np nm i) fun y1 =>
some ((y1.1.1, ()), (), ())
else
bif decide (y0.1.1 < 3) then
bif bif false then true else bif true then (get AB nn_ i).2.2.2.2.1 != 0 else false then
some ((false, ()), (), ())
else
AD (Fk nn_ ni nc np nm i) fun y1 =>
some ((y1.1.1, ()), (), ())
else
AD (Fk nn_ ni nc np nm i) fun y1 =>
some ((y1.1.1, ()), (), ())
def JA (nn_ : LN) (ni : LP) (nc : LC) (np : LQ) (nm : LP) (pos : Int) : Option ((Int × Unit) × Unit × Unit) :=
AD (Jy nn_ ni nc np nm pos (nI nn_.length)) fun y0 =>
some ((y0.1.1, ()), (), ())
def Xe (nn : Nat)  (nn_ : LN) (ni : LP) (nc : LC) (np : LQ) (nm : LP) : Option ((Bool × Unit) × Unit × Unit) :=
AQ (X := Int × Int × Int) (fun y0 =>
bif decide (y0.2.2 < nI nn_.length) then
gd (0 <= y0.2.2) <|
gd (y0.2.2 < nI nn_.length) <|
bif (get AB nn_ y0.2.2).1 == 21 then
bif decide (y0.1 >= nI ni.length) then
some (Sum.inr ((false, ()), (), ()))
else
gd (0 <= y0.1) <|
gd (y0.1 < nI ni.length) <|
bif bif false then true else (get Ar ni y0.1).2.1 != y0.2.2 then
some (Sum.inr ((false, ()), (), ()))
else
gd (inK .i64 (y0.1 + 1)) <|
gd (0 <= y0.2.2) <|
gd (y0.2.2 < nI nn_.length) <|
bif (get AB nn_ y0.2.2).1 == 22 then
bif decide (y0.2.1 >= nI nc.length) then
some (Sum.inr ((false, ()), (), ()))
else
gd (0 <= y0.2.1) <|
gd (y0.2.1 < nI nc.length) <|
bif bif false then true else (get AW nc y0.2.1).2.1 != y0.2.2 then
some (Sum.inr ((false, ()), (), ()))
else
gd (inK .i64 (y0.2.1 + 1)) <|
gd (inK .i64 (y0.2.2 + 1)) <|
some (Sum.inl (y0.1 + 1, y0.2.1 + 1, y0.2.2 + 1))
else
gd (inK .i64 (y0.2.2 + 1)) <|
some (Sum.inl (y0.1 + 1, y0.2.1, y0.2.2 + 1))
else
gd (0 <= y0.2.2) <|
gd (y0.2.2 < nI nn_.length) <|
bif (get AB nn_ y0.2.2).1 == 22 then
bif decide (y0.2.1 >= nI nc.length) then
some (Sum.inr ((false, ()), (), ()))
else
gd (0 <= y0.2.1) <|
gd (y0.2.1 < nI nc.length) <|
bif bif false then true else (get AW nc y0.2.1).2.1 != y0.2.2 then
some (Sum.inr ((false, ()), (), ()))
else
gd (inK .i64 (y0.2.1 + 1)) <|
gd (inK .i64 (y0.2.2 + 1)) <|
some (Sum.inl (y0.1, y0.2.1 + 1, y0.2.2 + 1))
else
gd (inK .i64 (y0.2.2 + 1)) <|
some (Sum.inl (y0.1, y0.2.1, y0.2.2 + 1))
else
bif y0.1 == nI ni.length then
some (Sum.inr ((bif true then y0.2.1 == nI nc.length else false, ()), (), ()))
else
some (Sum.inr ((false, ()), (), ()))) (nn) (0, 0, 0)
def AAF (nn_ : LN) (ni : LP) (nc : LC) (np : LQ) (nm : LP) : Option ((Bool × Unit) × Unit × Unit) := Xe AK nn_ ni nc np nm
def SJ (nn : Nat)  (nn_ : LN) (ni : LP) (nc : LC) (np : LQ) (nm : LP) : Option ((Bool × Unit) × Unit × Unit) :=
bif decide (nI nn_.length > 4000) then
some ((false, ()), (), ())
else
bif bif false then true else decide (nI ni.length > 64) then
some ((false, ()), (), ())
else
bif bif false then true else decide (nI nc.length > 256) then
some ((false, ()), (), ())
else
bif bif false then true else decide (nI np.length > 16) then
some ((false, ()), (), ())
else
AQ (X := Int) (fun y0 =>
bif decide (y0 < nI nn_.length) then
AD (VD nn_ ni nc np nm y0) fun y1 =>
bif !y1.1.1 then
some (Sum.inr ((false, ()), (), ()))
else
gd (inK .i64 (y0 + 1)) <|
some (Sum.inl (y0 + 1))
else
AD (AAF nn_ ni nc np nm) fun y1 =>
bif !y1.1.1 then
some (Sum.inr ((false, ()), (), ()))
else
AQ (X := Int × Int) (fun y2 =>
bif decide (y2.2 < nI nc.length) then
gd (0 <= y2.2) <|
gd (y2.2 < nI nc.length) <|
gd (0 <= (get AW nc y2.2).2.1) <|
gd ((get AW nc y2.2).2.1 < nI nn_.length) <|
gd (inK .i64 (y2.1 + (get AB nn_ (get AW nc y2.2).2.1).2.1)) <|
AD (JA nn_ ni nc np nm (get AW nc y2.2).2.2.1) fun y3 =>
bif y3.1.1 != (get AB nn_ (get AW nc y2.2).2.1).2.1 then
some (Sum.inr (Sum.inr ((false, ()), (), ())))
else
bif bif false then true else decide ((get AW nc y2.2).2.2.2.1 < 0) then
some (Sum.inr (Sum.inr ((false, ()), (), ())))
else
AD (mask (get AB nn_ (get AW nc y2.2).2.1).2.1) fun y4 =>
bif bif false then true else decide ((get AW nc y2.2).2.2.2.1 > y4.1.1) then
some (Sum.inr (Sum.inr ((false, ()), (), ())))
else
gd (inK .i64 (y2.2 + 1)) <|
some (Sum.inl (y2.1 + (get AB nn_ (get AW nc y2.2).2.1).2.1, y2.2 + 1))
else
AQ (X := Int) (fun y3 =>
bif decide (y3 < nI np.length) then
gd (0 <= y3) <|
gd (y3 < nI np.length) <|
bif decide ((get Ax np y3).1 < 8) then
some (Sum.inr (Sum.inr (Sum.inr ((false, ()), (), ()))))
else
bif bif false then true else decide ((get Ax np y3).1 > 10) then
some (Sum.inr (Sum.inr (Sum.inr ((false, ()), (), ()))))
else
AD (JA nn_ ni nc np nm (get Ax np y3).2.2.1) fun y4 =>
bif bif false then true else y4.1.1 != 1 then
some (Sum.inr (Sum.inr (Sum.inr ((false, ()), (), ()))))
else
gd (inK .i64 (y3 + 1)) <|
some (Sum.inl (y3 + 1))
else
AQ (X := Int) (fun y4 =>
bif decide (y4 < nI nm.length) then
gd (0 <= y4) <|
gd (y4 < nI nm.length) <|
AD (JA nn_ ni nc np nm (get Ar nm y4).2.1) fun y5 =>
bif y5.1.1 == 0 then
some (Sum.inr (Sum.inr (Sum.inr (Sum.inr ((false, ()), (), ())))))
else
gd (inK .i64 (y4 + 1)) <|
some (Sum.inl (y4 + 1))
else
some (Sum.inr (Sum.inr (Sum.inr (Sum.inr ((decide (y2.1 <= 256), ()), (), ())))))) (nn) 0) (nn) 0) (nn) (0, 0)) (nn) 0
def SK (nn_ : LN) (ni : LP) (nc : LC) (np : LQ) (nm : LP) : Option ((Bool × Unit) × Unit × Unit) := SJ AK nn_ ni nc np nm
def Fl (xo : Int) (xw : Int) (xa : Int) (xb : Int) (xc : Int) (xn : Int) (xl : Int) : Option ((Int × Unit) × Unit × Unit) :=
bif xo == 1 then
some ((0, ()), (), ())
else
bif xo == 21 then
some ((0, ()), (), ())
else
bif xo == 22 then
some ((0, ()), (), ())
else
bif xo == 11 then
gd (inK .i64 (20 * xw)) <|
gd (inK .i64 (20 * xw * xw)) <|
some ((20 * xw * xw, ()), (), ())
else
bif xo == 4 then
gd (inK .i64 (20 * xl)) <|
some ((20 * xl, ()), (), ())
else
bif xo == 5 then
gd (inK .i64 (20 * xl)) <|
some ((20 * xl, ()), (), ())
else
bif xo == 12 then
gd (inK .i64 (20 * xl)) <|
some ((20 * xl, ()), (), ())
else
bif xo == 13 then
gd (inK .i64 (20 * xl)) <|
some ((20 * xl, ()), (), ())
else
bif xo == 14 then
gd (inK .i64 (20 * xl)) <|
some ((20 * xl, ()), (), ())
else
bif xo == 15 then
gd (inK .i64 (20 * xl)) <|
some ((20 * xl, ()), (), ())
else
gd (inK .i64 (20 * xw)) <|
some ((20 * xw, ()), (), ())
def LJ (nn : Nat)  (nn_ : LN) (ni : LP) (nc : LC) (np : LQ) (nm : LP) : Option ((Int × Unit) × Unit × Unit) :=
AQ (X := Int × Int) (fun y0 =>
bif decide (y0.2 < nI nn_.length) then
gd (0 <= y0.2) <|
gd (y0.2 < nI nn_.length) <|
AD (Fl (get AB nn_ y0.2).1 (get AB nn_ y0.2).2.1 (get AB nn_ y0.2).2.2.1 (get AB nn_ y0.2).2.2.2.1 (get AB nn_ y0.2).2.2.2.2.1 (get AB nn_ y0.2).2.2.2.2.2.1 (get AB nn_ y0.2).2.2.2.2.2.2.1) fun y1 =>
gd (inK .i64 (y0.1 + y1.1.1)) <|
gd (inK .i64 (y0.2 + 1)) <|
some (Sum.inl (y0.1 + y1.1.1, y0.2 + 1))
else
some (Sum.inr ((y0.1, ()), (), ()))) (nn) (0, 0)
def Jz (nn_ : LN) (ni : LP) (nc : LC) (np : LQ) (nm : LP) : Option ((Int × Unit) × Unit × Unit) := LJ AK nn_ ni nc np nm
def SL (nn : Nat)  (gi : Int) (ga : L2) (a : Int) (b : Int) (ahead : Int) : Option ((Int × Unit) × Unit × Unit) :=
AQ (X := Int) (fun y0 =>
bif decide (y0 < ahead) then
gd (0 <= y0) <|
gd (y0 < nI ga.length) <|
bif (get AR ga y0).1 == a then
gd (0 <= y0) <|
gd (y0 < nI ga.length) <|
bif bif true then (get AR ga y0).2.1 == b else false then
some (Sum.inr ((y0, ()), (), ()))
else
gd (inK .i64 (y0 + 1)) <|
some (Sum.inl (y0 + 1))
else
gd (inK .i64 (y0 + 1)) <|
some (Sum.inl (y0 + 1))
else
some (Sum.inr ((-1, ()), (), ()))) (nn) 0
def SM (gi : Int) (ga : L2) (a : Int) (b : Int) (ahead : Int) : Option ((Int × Unit) × Unit × Unit) := SL AK gi ga a b ahead
end AL
end
section
namespace AL
open Go
def OH (nn : Nat)  (gi : Int) (ga : L2) : Option ((Bool × Unit) × Unit × Unit) :=
bif decide (gi < 0) then
some ((false, ()), (), ())
else
bif bif false then true else decide (gi > 1048576) then
some ((false, ()), (), ())
else
bif bif false then true else decide (nI ga.length > 1048576) then
some ((false, ()), (), ())
else
gd (inK .i64 (gi + nI ga.length)) <|
bif bif false then true else decide (gi + nI ga.length > 1048576) then
some ((false, ()), (), ())
else
AQ (X := Int) (fun y0 =>
bif decide (y0 < nI ga.length) then
gd (0 <= y0) <|
gd (y0 < nI ga.length) <|
gd (0 <= y0) <|
gd (y0 < nI ga.length) <|
bif decide ((get AR ga y0).1 < 2) then
some (Sum.inr ((false, ()), (), ()))
else
bif bif false then true else decide ((get AR ga y0).2.1 <= (get AR ga y0).1) then
some (Sum.inr ((false, ()), (), ()))
else
gd (inK .i64 (gi + y0)) <|
bif bif false then true else decide (IntKind.i64.wrap (Int.tdiv (get AR ga y0).2.1 2) > gi + y0) then
some (Sum.inr ((false, ()), (), ()))
else
bif bif false then true else IntKind.i64.wrap (Int.tdiv (get AR ga y0).1 2) == IntKind.i64.wrap (Int.tdiv (get AR ga y0).2.1 2) then
some (Sum.inr ((false, ()), (), ()))
else
AD (SM gi ga (get AR ga y0).1 (get AR ga y0).2.1 y0) fun y1 =>
bif bif false then true else decide (y1.1.1 >= 0) then
some (Sum.inr ((false, ()), (), ()))
else
gd (inK .i64 (y0 + 1)) <|
some (Sum.inl (y0 + 1))
else
some (Sum.inr ((true, ()), (), ()))) (nn) 0
def My (gi : Int) (ga : L2) : Option ((Bool × Unit) × Unit × Unit) := OH AK gi ga
def Qt (a : Int) (b : Int) (c : Int) (d : Int) : Option ((Bool × Unit) × Unit × Unit) :=
bif decide (a < c) then
some ((true, ()), (), ())
else
bif a == c then
some ((bif false then true else bif true then decide (b < d) else false, ()), (), ())
else
some ((bif false then true else false, ()), (), ())
def literal (gi : Int) (ga : L2) (x : Int) : Option ((Bool × Unit) × Unit × Unit) :=
bif decide (x >= 0) then
gd (inK .i64 (gi + nI ga.length)) <|
some ((bif true then decide (IntKind.i64.wrap (x.tdiv 2) <= gi + nI ga.length) else false, ()), (), ())
else
some ((false, ()), (), ())
def OI (nn : Nat)  (gi : Int) (ga : L2) (ci : L3) (cl : LT) (co : L3) : Option ((Bool × Unit) × Unit × Unit) :=
AD (My gi ga) fun y0 =>
bif !y0.1.1 then
some ((false, ()), (), ())
else
bif bif false then true else decide (nI cl.length > 256) then
some ((false, ()), (), ())
else
gd (inK .i64 (nI ci.length + nI cl.length)) <|
bif bif false then true else nI ci.length + nI cl.length != gi then
some ((false, ()), (), ())
else
AQ (X := Int) (fun y1 =>
bif decide (y1 < nI ci.length) then
gd (0 <= y1) <|
gd (y1 < nI ci.length) <|
gd (inK .i64 (y1 + 1)) <|
bif (get CL ci y1).1 != y1 + 1 then
some (Sum.inr ((false, ()), (), ()))
else
bif bif false then true else decide ((get CL ci y1).2.1 < 0) then
some (Sum.inr ((false, ()), (), ()))
else
bif bif false then true else decide ((get CL ci y1).2.2.1 < 0) then
some (Sum.inr ((false, ()), (), ()))
else
bif decide (y1 > 0) then
gd (inK .i64 (y1 - 1)) <|
gd (0 <= y1 - 1) <|
gd (y1 - 1 < nI ci.length) <|
gd (inK .i64 (y1 - 1)) <|
gd (0 <= y1 - 1) <|
gd (y1 - 1 < nI ci.length) <|
AD (Qt (get CL ci (y1 - 1)).2.1 (get CL ci (y1 - 1)).2.2.1 (get CL ci y1).2.1 (get CL ci y1).2.2.1) fun y2 =>
bif bif false then true else bif true then !y2.1.1 else false then
some (Sum.inr ((false, ()), (), ()))
else
gd (inK .i64 (y1 + 1)) <|
some (Sum.inl (y1 + 1))
else
gd (inK .i64 (y1 + 1)) <|
some (Sum.inl (y1 + 1))
else
AQ (X := Int) (fun y2 =>
bif decide (y2 < nI cl.length) then
gd (0 <= y2) <|
gd (y2 < nI cl.length) <|
gd (inK .i64 (nI ci.length + y2)) <|
gd (inK .i64 (nI ci.length + y2 + 1)) <|
bif (get AU cl y2).1 != nI ci.length + y2 + 1 then
some (Sum.inr (Sum.inr ((false, ()), (), ())))
else
bif bif false then true else decide ((get AU cl y2).2.2.2.1 < 0) then
some (Sum.inr (Sum.inr ((false, ()), (), ())))
else
bif bif false then true else decide ((get AU cl y2).2.2.2.2.1 < 0) then
some (Sum.inr (Sum.inr ((false, ()), (), ())))
else
AD (literal gi ga (get AU cl y2).2.1) fun y3 =>
bif bif false then true else !y3.1.1 then
some (Sum.inr (Sum.inr ((false, ()), (), ())))
else
bif decide (y2 > 0) then
gd (inK .i64 (y2 - 1)) <|
gd (0 <= y2 - 1) <|
gd (y2 - 1 < nI cl.length) <|
gd (inK .i64 (y2 - 1)) <|
gd (0 <= y2 - 1) <|
gd (y2 - 1 < nI cl.length) <|
AD (Qt (get AU cl (y2 - 1)).2.2.2.1 (get AU cl (y2 - 1)).2.2.2.2.1 (get AU cl y2).2.2.2.1 (get AU cl y2).2.2.2.2.1) fun y4 =>
bif bif false then true else bif true then !y4.1.1 else false then
some (Sum.inr (Sum.inr ((false, ()), (), ())))
else
gd (inK .i64 (y2 + 1)) <|
some (Sum.inl (y2 + 1))
else
gd (inK .i64 (y2 + 1)) <|
some (Sum.inl (y2 + 1))
else
AQ (X := Int) (fun y3 =>
bif decide (y3 < nI co.length) then
gd (0 <= y3) <|
gd (y3 < nI co.length) <|
bif decide ((get Et co y3).1 < 8) then
some (Sum.inr (Sum.inr (Sum.inr ((false, ()), (), ()))))
else
bif bif false then true else decide ((get Et co y3).1 > 10) then
some (Sum.inr (Sum.inr (Sum.inr ((false, ()), (), ()))))
else
bif bif false then true else decide ((get Et co y3).2.2.1 < 0) then
some (Sum.inr (Sum.inr (Sum.inr ((false, ()), (), ()))))
else
AD (literal gi ga (get Et co y3).2.1) fun y4 =>
bif bif false then true else !y4.1.1 then
some (Sum.inr (Sum.inr (Sum.inr ((false, ()), (), ()))))
else
gd (inK .i64 (y3 + 1)) <|
some (Sum.inl (y3 + 1))
else
some (Sum.inr (Sum.inr (Sum.inr ((true, ()), (), ()))))) (nn) 0) (nn) 0) (nn) 0
def Da (gi : Int) (ga : L2) (ci : L3) (cl : LT) (co : L3) : Option ((Bool × Unit) × Unit × Unit) := OI AK gi ga ci cl co
end AL
end
section
namespace AL
open Go
def OJ (nn : Nat)  (gi : Int) (ga : L2) (ci : L3) (cl : LT) (co : L3) : Option ((List Bool × Unit) × Unit × Unit) :=
gd (nI cl.length <= nI cl.length) <|
gd ((nI cl.length).toNat * 1 <= lim) <|
gd (nI cl.length <= nI lim) <|
AQ (X := Int × List Bool) (fun y0 =>
bif decide (y0.1 < nI cl.length) then
gd (0 <= y0.1) <|
gd (y0.1 < nI cl.length) <|
gd (0 <= y0.1) <|
gd (y0.1 < nI y0.2.length) <|
gd (inK .i64 (y0.1 + 1)) <|
some (Sum.inl (y0.1 + 1, y0.2.set y0.1.toNat (get AU cl y0.1).2.2.1))
else
some (Sum.inr ((y0.2, ()), (), ()))) (nn) (0, List.replicate (nI cl.length).toNat false)
def Qu (gi : Int) (ga : L2) (ci : L3) (cl : LT) (co : L3) : Option ((List Bool × Unit) × Unit × Unit) := OJ AK gi ga ci cl co
end AL
end
section
namespace AL
open Go
def HO (l : LLI) (vars : Int) (proof : LLI) (assume : LI) : Option ((Bool × Unit) × Unit × Unit) :=
bif proof.isEmpty then
gd ((0 + l.length) * 24 <= lim) <|
gd (0 + l.length <= lim) <|
gd ((l.length + 0) * 24 <= lim) <|
gd (l.length + 0 <= lim) <|
AD (Bj assume (l ++ []) vars) fun y =>
some ((y.1.1, ()), (), ())
else none
def AEA (l : Int) (off : Int) : Option ((Int × Unit) × Unit × Unit) :=
gd (inK .i64 (off + 1)) <|
gd (inK .i64 (off + 1 + l.fdiv (2 ^ 1))) <|
gd (inK .i64 (2 * IntKind.i64.wrap (nI (BitVec.ofInt 64 l &&& BitVec.ofInt 64 1).toNat))) <|
gd (inK .i64 (1 - 2 * IntKind.i64.wrap (nI (BitVec.ofInt 64 l &&& BitVec.ofInt 64 1).toNat))) <|
gd (inK .i64 ((off + 1 + l.fdiv (2 ^ 1)) * (1 - 2 * IntKind.i64.wrap (nI (BitVec.ofInt 64 l &&& BitVec.ofInt 64 1).toNat)))) <|
some (((off + 1 + l.fdiv (2 ^ 1)) * (1 - 2 * IntKind.i64.wrap (nI (BitVec.ofInt 64 l &&& BitVec.ofInt 64 1).toNat)), ()), (), ())
def IS (l : Int) (off : Int) : Option ((Int × Unit) × Unit × Unit) :=
AD (AEA l off) fun y0 =>
some ((y0.1.1, ()), (), ())
def SN (ins : Int) (ands : L2) : Option ((Int × Unit) × Unit × Unit) :=
gd (inK .i64 (1 + ins)) <|
gd (inK .i64 (1 + ins + nI ands.length)) <|
some ((1 + ins + nI ands.length, ()), (), ())
def Dn (l : LI) (c : LLI) : Option (Unit × ((LLI × Unit) × Unit) × Unit) :=
gd ((c.length + [l].length) * 24 <= lim) <|
gd (c.length + [l].length <= lim) <|
some ((), ((c ++ [l], ()), ()), ())
def MC (nn : Nat)  (ins : Int) (ands : L2) (off : Int) : Option ((LLI × Unit) × Unit × Unit) :=
AD (IS 0 off) fun y0 =>
gd (inK .i64 (0 - y0.1.1)) <|
AD (Dn [0 - y0.1.1] []) fun y1 =>
AQ (X := Int × LLI) (fun y2 =>
bif decide (y2.1 < nI ands.length) then
gd (0 <= y2.1) <|
gd (y2.1 < nI ands.length) <|
gd (inK .i64 (1 + ins)) <|
gd (inK .i64 (1 + ins + y2.1)) <|
gd (inK .i64 (2 * (1 + ins + y2.1))) <|
AD (IS (2 * (1 + ins + y2.1)) off) fun y3 =>
AD (IS (get AR ands y2.1).1 off) fun y4 =>
AD (IS (get AR ands y2.1).2.1 off) fun y5 =>
gd (inK .i64 (0 - y3.1.1)) <|
AD (Dn [0 - y3.1.1, y4.1.1] y2.2) fun y6 =>
gd (inK .i64 (0 - y3.1.1)) <|
AD (Dn [0 - y3.1.1, y5.1.1] y6.2.1.1.1) fun y7 =>
gd (inK .i64 (0 - y4.1.1)) <|
gd (inK .i64 (0 - y5.1.1)) <|
AD (Dn [y3.1.1, 0 - y4.1.1, 0 - y5.1.1] y7.2.1.1.1) fun y8 =>
gd (inK .i64 (y2.1 + 1)) <|
some (Sum.inl (y2.1 + 1, y8.2.1.1.1))
else
some (Sum.inr ((y2.2, ()), (), ()))) (nn) (0, y1.2.1.1.1)
def OK (ins : Int) (ands : L2) (off : Int) : Option ((LLI × Unit) × Unit × Unit) := MC AK ins ands off
def AAG (c : LI) (aall : LLI) (vars : Int) (all : LLI) (watch : LLI) (is : LI) (depth : LI) (why : LI) (old : LI) (cold : Int) (row : LI) (begin : LI) (done : Int) (empty : Bool) (answer : Int) (core : LI) (model : List Bool) : Option (Unit × ((LLI × Unit) × (Int × LLI × LLI × LI × LI × LI × LI × Int × LI × LI × Int × Bool × Int × LI × List Bool × Unit) × Unit) × Unit) :=
AD (Add c vars all watch is depth why old cold row begin done empty answer core model) fun y0 =>
gd ((aall.length + [c].length) * 24 <= lim) <|
gd (aall.length + [c].length <= lim) <|
some ((), ((aall ++ [c], ()), (y0.2.1.1.1, y0.2.1.1.2.1, y0.2.1.1.2.2.1, y0.2.1.1.2.2.2.1, y0.2.1.1.2.2.2.2.1, y0.2.1.1.2.2.2.2.2.1, y0.2.1.1.2.2.2.2.2.2.1, y0.2.1.1.2.2.2.2.2.2.2.1, y0.2.1.1.2.2.2.2.2.2.2.2.1, y0.2.1.1.2.2.2.2.2.2.2.2.2.1, y0.2.1.1.2.2.2.2.2.2.2.2.2.2.1, y0.2.1.1.2.2.2.2.2.2.2.2.2.2.2.1, y0.2.1.1.2.2.2.2.2.2.2.2.2.2.2.2.1, y0.2.1.1.2.2.2.2.2.2.2.2.2.2.2.2.2.1, y0.2.1.1.2.2.2.2.2.2.2.2.2.2.2.2.2.2.1, ()), ()), ())
def Qv (nn : Nat)  (vars : Int) (clauses : LLI) : Option (Unit × Unit × (Int × LLI × Unit) × (Int × LLI × LLI × LI × LI × LI × LI × LI × LI × Int × LI × LI × Int × Bool × LLI × Int × LI × List Bool × Unit) × Unit) :=
AD (New vars) fun y0 =>
AQ (X := Int × Int × (Int × Int × Int × Bool × Int) × LLI × LLI × LI × LI × LI × LI × LI × LI × LI × List Bool × LLI) (fun y1 =>
bif decide (y1.1 < nI clauses.length) then
gd (0 <= y1.1) <|
gd (y1.1 < nI clauses.length) <|
AD (AAG (Ao clauses y1.1) y1.2.2.2.2.2.2.2.2.2.2.2.2.2 y1.2.2.1.1 y1.2.2.2.1 y1.2.2.2.2.1 y1.2.2.2.2.2.1 y1.2.2.2.2.2.2.1 y1.2.2.2.2.2.2.2.1 y1.2.2.2.2.2.2.2.2.1 y1.2.2.1.2.1 y1.2.2.2.2.2.2.2.2.2.1 y1.2.2.2.2.2.2.2.2.2.2.1 y1.2.2.1.2.2.1 y1.2.2.1.2.2.2.1 y1.2.2.1.2.2.2.2 y1.2.2.2.2.2.2.2.2.2.2.2.1 y1.2.2.2.2.2.2.2.2.2.2.2.2.1) fun y2 =>
gd (inK .i64 (y1.1 + 1)) <|
some (Sum.inl (y1.1 + 1, y1.2.1, (y2.2.1.2.1.1, y2.2.1.2.1.2.2.2.2.2.2.2.1, y2.2.1.2.1.2.2.2.2.2.2.2.2.2.2.1, y2.2.1.2.1.2.2.2.2.2.2.2.2.2.2.2.1, y2.2.1.2.1.2.2.2.2.2.2.2.2.2.2.2.2.1), y2.2.1.2.1.2.1, y2.2.1.2.1.2.2.1, y2.2.1.2.1.2.2.2.1, y2.2.1.2.1.2.2.2.2.1, y2.2.1.2.1.2.2.2.2.2.1, y2.2.1.2.1.2.2.2.2.2.2.1, y2.2.1.2.1.2.2.2.2.2.2.2.2.1, y2.2.1.2.1.2.2.2.2.2.2.2.2.2.1, y2.2.1.2.1.2.2.2.2.2.2.2.2.2.2.2.2.2.1, y2.2.1.2.1.2.2.2.2.2.2.2.2.2.2.2.2.2.2.1, y2.2.1.1.1))
else
some (Sum.inr ((), (), (y1.2.1, y1.2.2.2.2.2.2.2.2.2.2.2.2.2, ()), (y1.2.2.1.1, y1.2.2.2.1, y1.2.2.2.2.1, y1.2.2.2.2.2.1, y1.2.2.2.2.2.2.1, y1.2.2.2.2.2.2.2.1, y1.2.2.2.2.2.2.2.2.1, y0.2.2.1.2.2.2.2.2.2.2.1, y0.2.2.1.2.2.2.2.2.2.2.2.1, y1.2.2.1.2.1, y1.2.2.2.2.2.2.2.2.2.1, y1.2.2.2.2.2.2.2.2.2.2.1, y1.2.2.1.2.2.1, y1.2.2.1.2.2.2.1, y0.2.2.1.2.2.2.2.2.2.2.2.2.2.2.2.2.2.1, y1.2.2.1.2.2.2.2, y1.2.2.2.2.2.2.2.2.2.2.2.1, y1.2.2.2.2.2.2.2.2.2.2.2.2.1, ()), ()))) (nn) (0, vars, (y0.2.2.1.1, y0.2.2.1.2.2.2.2.2.2.2.2.2.1, y0.2.2.1.2.2.2.2.2.2.2.2.2.2.2.2.1, y0.2.2.1.2.2.2.2.2.2.2.2.2.2.2.2.2.1, y0.2.2.1.2.2.2.2.2.2.2.2.2.2.2.2.2.2.2.1), y0.2.2.1.2.1, y0.2.2.1.2.2.1, y0.2.2.1.2.2.2.1, y0.2.2.1.2.2.2.2.1, y0.2.2.1.2.2.2.2.2.1, y0.2.2.1.2.2.2.2.2.2.1, y0.2.2.1.2.2.2.2.2.2.2.2.2.2.1, y0.2.2.1.2.2.2.2.2.2.2.2.2.2.2.1, y0.2.2.1.2.2.2.2.2.2.2.2.2.2.2.2.2.2.2.2.1, y0.2.2.1.2.2.2.2.2.2.2.2.2.2.2.2.2.2.2.2.2.1, [])
def VE (vars : Int) (clauses : LLI) : Option (Unit × Unit × (Int × LLI × Unit) × (Int × LLI × LLI × LI × LI × LI × LI × LI × LI × Int × LI × LI × Int × Bool × LLI × Int × LI × List Bool × Unit) × Unit) := Qv AK vars clauses
def Mz (assume : LI) (avars : Int) (aall : LLI) (vars : Int) (all : LLI) (watch : LLI) (is : LI) (depth : LI) (why : LI) (old : LI) (hot : LI) (warm : LI) (cold : Int) (row : LI) (begin : LI) (done : Int) (empty : Bool) (proof : LLI) (answer : Int) (core : LI) (model : List Bool) : Option ((Bool × Unit) × ((Int × LLI × Unit) × (Int × LLI × LLI × LI × LI × LI × LI × LI × LI × Int × LI × LI × Int × Bool × LLI × Int × LI × List Bool × Unit) × Unit) × Unit) :=
AD (Ask assume (-1) vars all watch is depth why old hot warm cold row begin done empty proof answer core model) fun y0 =>
bif y0.1.1 == 2 then
AD (Proof y0.2.1.1.2.2.2.2.2.2.2.2.2.2.2.2.2.2.1 y0.2.1.1.2.2.2.2.2.2.2.2.2.2.2.2.2.2.2.1) fun y1 =>
AD (Core y0.2.1.1.2.2.2.2.2.2.2.2.2.2.2.2.2.2.2.2.1) fun y2 =>
AD (HO aall avars y1.1.1 y2.1.1) fun y3 =>
some ((bif true then y3.1.1 else false, ()), ((avars, aall, ()), (y0.2.1.1.1, y0.2.1.1.2.1, y0.2.1.1.2.2.1, y0.2.1.1.2.2.2.1, y0.2.1.1.2.2.2.2.1, y0.2.1.1.2.2.2.2.2.1, y0.2.1.1.2.2.2.2.2.2.1, y0.2.1.1.2.2.2.2.2.2.2.1, y0.2.1.1.2.2.2.2.2.2.2.2.1, y0.2.1.1.2.2.2.2.2.2.2.2.2.1, y0.2.1.1.2.2.2.2.2.2.2.2.2.2.1, y0.2.1.1.2.2.2.2.2.2.2.2.2.2.2.1, y0.2.1.1.2.2.2.2.2.2.2.2.2.2.2.2.1, y0.2.1.1.2.2.2.2.2.2.2.2.2.2.2.2.2.1, y1.2.1.1.1, y1.2.1.1.2.1, y0.2.1.1.2.2.2.2.2.2.2.2.2.2.2.2.2.2.2.2.1, y0.2.1.1.2.2.2.2.2.2.2.2.2.2.2.2.2.2.2.2.2.1, ()), ()), ())
else
some ((false, ()), ((avars, aall, ()), (y0.2.1.1.1, y0.2.1.1.2.1, y0.2.1.1.2.2.1, y0.2.1.1.2.2.2.1, y0.2.1.1.2.2.2.2.1, y0.2.1.1.2.2.2.2.2.1, y0.2.1.1.2.2.2.2.2.2.1, y0.2.1.1.2.2.2.2.2.2.2.1, y0.2.1.1.2.2.2.2.2.2.2.2.1, y0.2.1.1.2.2.2.2.2.2.2.2.2.1, y0.2.1.1.2.2.2.2.2.2.2.2.2.2.1, y0.2.1.1.2.2.2.2.2.2.2.2.2.2.2.1, y0.2.1.1.2.2.2.2.2.2.2.2.2.2.2.2.1, y0.2.1.1.2.2.2.2.2.2.2.2.2.2.2.2.2.1, y0.2.1.1.2.2.2.2.2.2.2.2.2.2.2.2.2.2.1, y0.2.1.1.2.2.2.2.2.2.2.2.2.2.2.2.2.2.2.1, y0.2.1.1.2.2.2.2.2.2.2.2.2.2.2.2.2.2.2.2.1, y0.2.1.1.2.2.2.2.2.2.2.2.2.2.2.2.2.2.2.2.2.1, ()), ()), ())
def AJr (gi : Int) (ga : L2) (ci : L3) (cl : LT) (co : L3) (out : Int) : Option ((Int × Unit) × Unit × Unit) :=
gd (0 <= out) <|
gd (out < nI co.length) <|
gd (0 <= out) <|
gd (out < nI co.length) <|
bif (get Et co out).1 == 8 then
some ((IntKind.i64.wrap (nI (BitVec.ofInt 64 (get Et co out).2.1 ^^^ BitVec.ofInt 64 1).toNat), ()), (), ())
else
some (((get Et co out).2.1, ()), (), ())
def AAH (nn : Nat)  (gi : Int) (ga : L2) (ci : L3) (cl : LT) (co : L3) : Option ((LI × Unit) × Unit × Unit) :=
AQ (X := Int × LI) (fun y0 =>
bif decide (y0.1 < nI co.length) then
gd (0 <= y0.1) <|
gd (y0.1 < nI co.length) <|
bif (get Et co y0.1).1 == 9 then
gd ((y0.2.length + [(get Et co y0.1).2.1].length) * 8 <= lim) <|
gd (y0.2.length + [(get Et co y0.1).2.1].length <= lim) <|
gd (inK .i64 (y0.1 + 1)) <|
some (Sum.inl (y0.1 + 1, y0.2 ++ [(get Et co y0.1).2.1]))
else
gd (inK .i64 (y0.1 + 1)) <|
some (Sum.inl (y0.1 + 1, y0.2))
else
some (Sum.inr ((y0.2, ()), (), ()))) (nn) (0, [])
def AEB (gi : Int) (ga : L2) (ci : L3) (cl : LT) (co : L3) : Option ((LI × Unit) × Unit × Unit) := AAH AK gi ga ci cl co
def Xf (n : Int) (state : List Bool) : Option ((Bool × Unit) × ((List Bool × Unit) × Unit) × Unit) :=
gd (inK .i64 (0 - n)) <|
gd (inK .i64 (max2 n (0 - n) - 1)) <|
gd (0 <= max2 n (0 - n) - 1) <|
gd (max2 n (0 - n) - 1 < nI state.length) <|
some ((CB state (max2 n (0 - n) - 1) == decide (n > 0), ()), ((state, ()), ()), ())
def Fm (nn : Nat)  (s : LI) (state : List Bool) : Option ((Int × Unit) × ((List Bool × Unit) × Unit) × Unit) :=
AQ (X := Int × List Bool) (fun y0 =>
bif decide (y0.1 < nI s.length) then
gd (0 <= y0.1) <|
gd (y0.1 < nI s.length) <|
AD (Xf (AE s y0.1) y0.2) fun y1 =>
bif y1.1.1 then
some (Sum.inr ((y0.1, ()), ((y0.2, ()), ()), ()))
else
gd (inK .i64 (y0.1 + 1)) <|
some (Sum.inl (y0.1 + 1, y0.2))
else
some (Sum.inr ((-1, ()), ((y0.2, ()), ()), ()))) (nn) (0, state)
def Ge (s : LI) (state : List Bool) : Option ((Int × Unit) × ((List Bool × Unit) × Unit) × Unit) := Fm AK s state
def C8 (s : LI) (state : List Bool) : Option ((Bool × Unit) × ((List Bool × Unit) × Unit) × Unit) :=
AD (Ge s state) fun y0 =>
some ((decide (y0.1.1 >= 0), ()), ((state, ()), ()), ())
def meets (x : LI) (state : List Bool) : Option ((Bool × Unit) × Unit × Unit) :=
AD (C8 x state) fun y0 =>
some ((y0.1.1, ()), (), ())
def AJs (lv : Int) (ln : Int) (li : Bool) (lc_ : Int) (lb_ : Int) : Option ((Int × Unit) × Unit × Unit) :=
gd (inK .i64 (2 * lv)) <|
some ((2 * lv, ()), (), ())
def AEC (lv : Int) (ln : Int) (li : Bool) (lc_ : Int) (lb_ : Int) : Option ((Int × Unit) × Unit × Unit) :=
some ((ln, ()), (), ())
def OL (gi : Int) (ga : L2) (ci : L3) (cl : LT) (co : L3) (n : Int) : Option ((Int × Unit) × Unit × Unit) :=
gd (inK .i64 (0 - n)) <|
gd (inK .i64 (max2 n (0 - n) - 1)) <|
gd (0 <= max2 n (0 - n) - 1) <|
gd (max2 n (0 - n) - 1 < nI cl.length) <|
AD (AJs (get AU cl (max2 n (0 - n) - 1)).1 (get AU cl (max2 n (0 - n) - 1)).2.1 (get AU cl (max2 n (0 - n) - 1)).2.2.1 (get AU cl (max2 n (0 - n) - 1)).2.2.2.1 (get AU cl (max2 n (0 - n) - 1)).2.2.2.2.1) fun y0 =>
AD (IS y0.1.1 0) fun y1 =>
bif decide (n < 0) then
gd (inK .i64 (0 - y1.1.1)) <|
some ((0 - y1.1.1, ()), (), ())
else
some ((y1.1.1, ()), (), ())
def J0 (gi : Int) (ga : L2) (ci : L3) (cl : LT) (co : L3) (n : Int) : Option ((Int × Unit) × Unit × Unit) :=
gd (inK .i64 (0 - n)) <|
gd (inK .i64 (max2 n (0 - n) - 1)) <|
gd (0 <= max2 n (0 - n) - 1) <|
gd (max2 n (0 - n) - 1 < nI cl.length) <|
AD (AEC (get AU cl (max2 n (0 - n) - 1)).1 (get AU cl (max2 n (0 - n) - 1)).2.1 (get AU cl (max2 n (0 - n) - 1)).2.2.1 (get AU cl (max2 n (0 - n) - 1)).2.2.2.1 (get AU cl (max2 n (0 - n) - 1)).2.2.2.2.1) fun y0 =>
AD (IS y0.1.1 0) fun y1 =>
bif decide (n < 0) then
gd (inK .i64 (0 - y1.1.1)) <|
some ((0 - y1.1.1, ()), (), ())
else
some ((y1.1.1, ()), (), ())
def AED (nn : Nat)  (l : LI) : Option ((LI × Unit) × Unit × Unit) :=
AQ (X := Int × LI) (fun y0 =>
bif decide (y0.1 < nI l.length) then
gd (0 <= y0.1) <|
gd (y0.1 < nI l.length) <|
AD (IS (AE l y0.1) 0) fun y1 =>
gd ((y0.2.length + [y1.1.1].length) * 8 <= lim) <|
gd (y0.2.length + [y1.1.1].length <= lim) <|
gd (inK .i64 (y0.1 + 1)) <|
some (Sum.inl (y0.1 + 1, y0.2 ++ [y1.1.1]))
else
some (Sum.inr ((y0.2, ()), (), ()))) (nn) (0, [])
def AI4 (l : LI) : Option ((LI × Unit) × Unit × Unit) := AED AK l
def AI5 (nn : Nat)  (gi : Int) (ga : L2) (ci : L3) (cl : LT) (co : L3) (out : Int) (inv : LLI) : Option ((Int × Unit) × Unit × Unit) :=
AD (Qu gi ga ci cl co) fun y0 =>
AQ (X := Int × Int) (fun y1 =>
bif decide (y1.2 < nI inv.length) then
gd (0 <= y1.2) <|
gd (y1.2 < nI inv.length) <|
AQ (X := Int) (fun y2 =>
bif decide (y2 < nI (List.length (Ao inv y1.2))) then
gd (0 <= y2) <|
gd (y2 < nI (List.length (Ao inv y1.2))) <|
bif AE (Ao inv y1.2) y2 == 0 then
some (Sum.inr (Sum.inr ((4, ()), (), ())))
else
bif bif false then true else decide (AE (Ao inv y1.2) y2 > nI cl.length) then
some (Sum.inr (Sum.inr ((4, ()), (), ())))
else
gd (inK .i64 (0 - nI cl.length)) <|
bif bif false then true else decide (AE (Ao inv y1.2) y2 < 0 - nI cl.length) then
some (Sum.inr (Sum.inr ((4, ()), (), ())))
else
gd (inK .i64 (y2 + 1)) <|
some (Sum.inl (y2 + 1))
else
AD (meets (Ao inv y1.2) y0.1.1) fun y3 =>
bif !y3.1.1 then
gd (inK .i64 (y1.2 + 1)) <|
some (Sum.inr (Sum.inl (1, y1.2 + 1)))
else
gd (inK .i64 (y1.2 + 1)) <|
some (Sum.inr (Sum.inl (y1.1, y1.2 + 1)))) (nn) 0
else
bif y1.1 != 0 then
some (Sum.inr ((y1.1, ()), (), ()))
else
AD (SN gi ga) fun y2 =>
AD (OK gi ga 0) fun y3 =>
AD (VE y2.1.1 y3.1.1) fun y4 =>
AQ (X := Int × Int × (Int × Int × Int × Bool × Int) × LLI × LLI × LI × LI × LI × LI × LI × LI × LI × List Bool × LLI) (fun y5 =>
bif decide (y5.1 < nI inv.length) then
gd (0 <= y5.1) <|
gd (y5.1 < nI inv.length) <|
AQ (X := Int × LI) (fun y6 =>
bif decide (y6.1 < nI (List.length (Ao inv y5.1))) then
gd (0 <= y6.1) <|
gd (y6.1 < nI (List.length (Ao inv y5.1))) <|
AD (OL gi ga ci cl co (AE (Ao inv y5.1) y6.1)) fun y7 =>
gd ((y6.2.length + [y7.1.1].length) * 8 <= lim) <|
gd (y6.2.length + [y7.1.1].length <= lim) <|
gd (inK .i64 (y6.1 + 1)) <|
some (Sum.inl (y6.1 + 1, y6.2 ++ [y7.1.1]))
else
AD (AAG y6.2 y5.2.2.2.2.2.2.2.2.2.2.2.2.2 y5.2.2.1.1 y5.2.2.2.1 y5.2.2.2.2.1 y5.2.2.2.2.2.1 y5.2.2.2.2.2.2.1 y5.2.2.2.2.2.2.2.1 y5.2.2.2.2.2.2.2.2.1 y5.2.2.1.2.1 y5.2.2.2.2.2.2.2.2.2.1 y5.2.2.2.2.2.2.2.2.2.2.1 y5.2.2.1.2.2.1 y5.2.2.1.2.2.2.1 y5.2.2.1.2.2.2.2 y5.2.2.2.2.2.2.2.2.2.2.2.1 y5.2.2.2.2.2.2.2.2.2.2.2.2.1) fun y7 =>
gd (inK .i64 (y5.1 + 1)) <|
some (Sum.inr (Sum.inl (y5.1 + 1, y5.2.1, (y7.2.1.2.1.1, y7.2.1.2.1.2.2.2.2.2.2.2.1, y7.2.1.2.1.2.2.2.2.2.2.2.2.2.2.1, y7.2.1.2.1.2.2.2.2.2.2.2.2.2.2.2.1, y7.2.1.2.1.2.2.2.2.2.2.2.2.2.2.2.2.1), y7.2.1.2.1.2.1, y7.2.1.2.1.2.2.1, y7.2.1.2.1.2.2.2.1, y7.2.1.2.1.2.2.2.2.1, y7.2.1.2.1.2.2.2.2.2.1, y7.2.1.2.1.2.2.2.2.2.2.1, y7.2.1.2.1.2.2.2.2.2.2.2.2.1, y7.2.1.2.1.2.2.2.2.2.2.2.2.2.1, y7.2.1.2.1.2.2.2.2.2.2.2.2.2.2.2.2.2.1, y7.2.1.2.1.2.2.2.2.2.2.2.2.2.2.2.2.2.2.1, y7.2.1.1.1)))) (nn) (0, [])
else
AD (AEB gi ga ci cl co) fun y6 =>
AD (AI4 y6.1.1) fun y7 =>
AQ (X := Int × Int × (Int × Int × Int × Bool × Int) × LLI × LLI × LI × LI × LI × LI × LI × LI × LI × LI × LLI × LI × List Bool × LLI) (fun y8 =>
bif decide (y8.1 < nI inv.length) then
gd (0 <= y8.1) <|
gd (y8.1 < nI inv.length) <|
AD (Ev y7.1.1) fun y9 =>
AQ (X := Int × LI × LI) (fun y10 =>
bif decide (y10.1 < nI (List.length (Ao inv y8.1))) then
gd (0 <= y10.1) <|
gd (y10.1 < nI (List.length (Ao inv y8.1))) <|
AD (J0 gi ga ci cl co (AE (Ao inv y8.1) y10.1)) fun y11 =>
gd (inK .i64 (0 - y11.1.1)) <|
gd ((y10.2.1.length + [0 - y11.1.1].length) * 8 <= lim) <|
gd (y10.2.1.length + [0 - y11.1.1].length <= lim) <|
gd (inK .i64 (y10.1 + 1)) <|
some (Sum.inl (y10.1 + 1, y10.2.1 ++ [0 - y11.1.1], y10.2.1 ++ [0 - y11.1.1]))
else
AD (Mz y10.2.1 y8.2.1 y8.2.2.2.2.2.2.2.2.2.2.2.2.2.2.2.2 y8.2.2.1.1 y8.2.2.2.1 y8.2.2.2.2.1 y8.2.2.2.2.2.1 y8.2.2.2.2.2.2.1 y8.2.2.2.2.2.2.2.1 y8.2.2.2.2.2.2.2.2.1 y8.2.2.2.2.2.2.2.2.2.1 y8.2.2.2.2.2.2.2.2.2.2.1 y8.2.2.1.2.1 y8.2.2.2.2.2.2.2.2.2.2.2.1 y8.2.2.2.2.2.2.2.2.2.2.2.2.1 y8.2.2.1.2.2.1 y8.2.2.1.2.2.2.1 y8.2.2.2.2.2.2.2.2.2.2.2.2.2.1 y8.2.2.1.2.2.2.2 y8.2.2.2.2.2.2.2.2.2.2.2.2.2.2.1 y8.2.2.2.2.2.2.2.2.2.2.2.2.2.2.2.1) fun y11 =>
bif !y11.1.1 then
some (Sum.inr (Sum.inr (Sum.inr (Sum.inr ((2, ()), (), ())))))
else
gd (inK .i64 (y8.1 + 1)) <|
some (Sum.inr (Sum.inl (y8.1 + 1, y11.2.1.1.1, (y11.2.1.2.1.1, y11.2.1.2.1.2.2.2.2.2.2.2.2.2.1, y11.2.1.2.1.2.2.2.2.2.2.2.2.2.2.2.2.1, y11.2.1.2.1.2.2.2.2.2.2.2.2.2.2.2.2.2.1, y11.2.1.2.1.2.2.2.2.2.2.2.2.2.2.2.2.2.2.2.1), y11.2.1.2.1.2.1, y11.2.1.2.1.2.2.1, y11.2.1.2.1.2.2.2.1, y11.2.1.2.1.2.2.2.2.1, y11.2.1.2.1.2.2.2.2.2.1, y11.2.1.2.1.2.2.2.2.2.2.1, y11.2.1.2.1.2.2.2.2.2.2.2.1, y11.2.1.2.1.2.2.2.2.2.2.2.2.1, y11.2.1.2.1.2.2.2.2.2.2.2.2.2.2.1, y11.2.1.2.1.2.2.2.2.2.2.2.2.2.2.2.1, y11.2.1.2.1.2.2.2.2.2.2.2.2.2.2.2.2.2.2.1, y11.2.1.2.1.2.2.2.2.2.2.2.2.2.2.2.2.2.2.2.2.1, y11.2.1.2.1.2.2.2.2.2.2.2.2.2.2.2.2.2.2.2.2.2.1, y11.2.1.1.2.1)))) (nn) (0, y9.1.1, y9.1.1)
else
AD (AJr gi ga ci cl co out) fun y9 =>
AD (IS y9.1.1 0) fun y10 =>
gd ((y7.1.1.length + [y10.1.1].length) * 8 <= lim) <|
gd (y7.1.1.length + [y10.1.1].length <= lim) <|
AD (Mz (y7.1.1 ++ [y10.1.1]) y8.2.1 y8.2.2.2.2.2.2.2.2.2.2.2.2.2.2.2.2 y8.2.2.1.1 y8.2.2.2.1 y8.2.2.2.2.1 y8.2.2.2.2.2.1 y8.2.2.2.2.2.2.1 y8.2.2.2.2.2.2.2.1 y8.2.2.2.2.2.2.2.2.1 y8.2.2.2.2.2.2.2.2.2.1 y8.2.2.2.2.2.2.2.2.2.2.1 y8.2.2.1.2.1 y8.2.2.2.2.2.2.2.2.2.2.2.1 y8.2.2.2.2.2.2.2.2.2.2.2.2.1 y8.2.2.1.2.2.1 y8.2.2.1.2.2.2.1 y8.2.2.2.2.2.2.2.2.2.2.2.2.2.1 y8.2.2.1.2.2.2.2 y8.2.2.2.2.2.2.2.2.2.2.2.2.2.2.1 y8.2.2.2.2.2.2.2.2.2.2.2.2.2.2.2.1) fun y11 =>
bif !y11.1.1 then
some (Sum.inr (Sum.inr (Sum.inr ((3, ()), (), ()))))
else
some (Sum.inr (Sum.inr (Sum.inr ((0, ()), (), ()))))) (nn) (0, y5.2.1, (y5.2.2.1.1, y5.2.2.1.2.1, y5.2.2.1.2.2.1, y5.2.2.1.2.2.2.1, y5.2.2.1.2.2.2.2), y5.2.2.2.1, y5.2.2.2.2.1, y5.2.2.2.2.2.1, y5.2.2.2.2.2.2.1, y5.2.2.2.2.2.2.2.1, y5.2.2.2.2.2.2.2.2.1, y4.2.2.2.1.2.2.2.2.2.2.2.1, y4.2.2.2.1.2.2.2.2.2.2.2.2.1, y5.2.2.2.2.2.2.2.2.2.1, y5.2.2.2.2.2.2.2.2.2.2.1, y4.2.2.2.1.2.2.2.2.2.2.2.2.2.2.2.2.2.2.1, y5.2.2.2.2.2.2.2.2.2.2.2.1, y5.2.2.2.2.2.2.2.2.2.2.2.2.1, y5.2.2.2.2.2.2.2.2.2.2.2.2.2)) (nn) (0, y4.2.2.1.1, (y4.2.2.2.1.1, y4.2.2.2.1.2.2.2.2.2.2.2.2.2.1, y4.2.2.2.1.2.2.2.2.2.2.2.2.2.2.2.2.1, y4.2.2.2.1.2.2.2.2.2.2.2.2.2.2.2.2.2.1, y4.2.2.2.1.2.2.2.2.2.2.2.2.2.2.2.2.2.2.2.1), y4.2.2.2.1.2.1, y4.2.2.2.1.2.2.1, y4.2.2.2.1.2.2.2.1, y4.2.2.2.1.2.2.2.2.1, y4.2.2.2.1.2.2.2.2.2.1, y4.2.2.2.1.2.2.2.2.2.2.1, y4.2.2.2.1.2.2.2.2.2.2.2.2.2.2.1, y4.2.2.2.1.2.2.2.2.2.2.2.2.2.2.2.1, y4.2.2.2.1.2.2.2.2.2.2.2.2.2.2.2.2.2.2.2.2.1, y4.2.2.2.1.2.2.2.2.2.2.2.2.2.2.2.2.2.2.2.2.2.1, y4.2.2.1.2.1)) (nn) (0, 0)
def AEE (gi : Int) (ga : L2) (ci : L3) (cl : LT) (co : L3) (out : Int) (inv : LLI) : Option ((Int × Unit) × Unit × Unit) := AI5 AK gi ga ci cl co out inv
end AL
end
section
namespace AL
open Go
def M0 (s : ByteArray) (pos : Int) : Option ((ByteArray × Unit) × Unit × Unit) :=
some ((s, ()), (), ())
def J1 (s : ByteArray) (pos : Int) (nx : Int) (rs : Int) : Option ((ByteArray × Unit) × Unit × Unit) :=
some ((s, ()), (), ())
def OM (nn : Nat)  (l : LP) : Option ((Bool × Unit) × Unit × Unit) :=
AQ (X := Int × List (ByteArray × Int)) (fun y0 =>
bif decide (y0.1 < nI l.length) then
gd (0 <= y0.1) <|
gd (y0.1 < nI l.length) <|
AD (M0 (get Ar l y0.1).1 (get Ar l y0.1).2.1) fun y1 =>
gd (inK .i64 (Ad (Ty.int IntKind.i64).Bl y0.2 y1.1.1 + 1)) <|
gd (y0.2.length < lim) <|
bif decide (Ad (Ty.int IntKind.i64).Bl (A4 (Ad (Ty.int IntKind.i64).Bl y0.2 y1.1.1 + 1) y0.2 y1.1.1) y1.1.1 > 1) then
some (Sum.inr ((false, ()), (), ()))
else
gd (y1.1.1.size < 4294967281) <|
gd (I7 y1.1.1 = true) <|
bif bif false then true else Lib.containsAny y1.1.1.data.toList (ByteArray.mk #[32, 10, 61, 124, 126, 58]).data.toList then
some (Sum.inr ((false, ()), (), ()))
else
gd (inK .i64 (y0.1 + 1)) <|
some (Sum.inl (y0.1 + 1, A4 (Ad (Ty.int IntKind.i64).Bl y0.2 y1.1.1 + 1) y0.2 y1.1.1))
else
some (Sum.inr ((true, ()), (), ()))) (nn) (0, [])
def M3 (l : LP) : Option ((Bool × Unit) × Unit × Unit) := OM AK l
def ON (nn : Nat)  (l : LC) : Option ((Bool × Unit) × Unit × Unit) :=
AQ (X := Int × List (ByteArray × Int)) (fun y0 =>
bif decide (y0.1 < nI l.length) then
gd (0 <= y0.1) <|
gd (y0.1 < nI l.length) <|
AD (J1 (get AW l y0.1).1 (get AW l y0.1).2.1 (get AW l y0.1).2.2.1 (get AW l y0.1).2.2.2.1) fun y1 =>
gd (inK .i64 (Ad (Ty.int IntKind.i64).Bl y0.2 y1.1.1 + 1)) <|
gd (y0.2.length < lim) <|
bif decide (Ad (Ty.int IntKind.i64).Bl (A4 (Ad (Ty.int IntKind.i64).Bl y0.2 y1.1.1 + 1) y0.2 y1.1.1) y1.1.1 > 1) then
some (Sum.inr ((false, ()), (), ()))
else
gd (y1.1.1.size < 4294967281) <|
gd (I7 y1.1.1 = true) <|
bif bif false then true else Lib.containsAny y1.1.1.data.toList (ByteArray.mk #[32, 10, 61, 124, 126, 58]).data.toList then
some (Sum.inr ((false, ()), (), ()))
else
gd (inK .i64 (y0.1 + 1)) <|
some (Sum.inl (y0.1 + 1, A4 (Ad (Ty.int IntKind.i64).Bl y0.2 y1.1.1 + 1) y0.2 y1.1.1))
else
some (Sum.inr ((true, ()), (), ()))) (nn) (0, [])
def M4 (l : LC) : Option ((Bool × Unit) × Unit × Unit) := ON AK l
def JB (nn_ : LN) (ni : LP) (nc : LC) (np : LQ) (nm : LP) : Option ((Bool × Unit) × Unit × Unit) :=
AD (M3 ni) fun y0 =>
bif y0.1.1 then
AD (M4 nc) fun y1 =>
some ((bif true then y1.1.1 else false, ()), (), ())
else
some ((false, ()), (), ())
def ABS (nn_ : LN) (ni : LP) (nc : LC) (np : LQ) (nm : LP) (xv : Int) (xn : Int) (xi : Bool) (xc : Int) (xb : Int) : Option ((ByteArray × Unit) × Unit × Unit) :=
gd (0 <= xc) <|
gd (xc < nI nc.length) <|
gd (ByteArray.size (get AW nc xc).1 + 1 <= lim) <|
gd (0 <= xb) <|
gd (xb < 100) <|
gd ((ByteArray.append (get AW nc xc).1 (ByteArray.mk #[91])).size + (DX xb).size <= lim) <|
gd (((ByteArray.append (get AW nc xc).1 (ByteArray.mk #[91])).append (DX xb)).size + 1 <= lim) <|
some ((((ByteArray.append (get AW nc xc).1 (ByteArray.mk #[91])).append (DX xb)).append (ByteArray.mk #[93]), ()), (), ())
def VF (pos : Int) (s : ByteArray) (pm : List (ByteArray × Int)) : Option ((Int × Bool × Unit) × ((List (ByteArray × Int) × Unit) × Unit) × Unit) :=
bif XV s (ByteArray.mk #[126]) then
gd (inK .i64 (0 - Ad (Ty.int IntKind.i64).Bl pm (LB s (ByteArray.mk #[126])))) <|
some ((0 - Ad (Ty.int IntKind.i64).Bl pm (LB s (ByteArray.mk #[126])), decide (Ad (Ty.int IntKind.i64).Bl pm (LB s (ByteArray.mk #[126])) > 0), ()), ((pm, ()), ()), ())
else
some ((Ad (Ty.int IntKind.i64).Bl pm (LB s (ByteArray.mk #[126])), decide (Ad (Ty.int IntKind.i64).Bl pm (LB s (ByteArray.mk #[126])) > 0), ()), ((pm, ()), ()), ())
def Xg (nn : Nat)  (s : ByteArray) (by_ : ByteArray) (pm : List (ByteArray × Int)) : Option ((LI × Bool × Unit) × ((List (ByteArray × Int) × Unit) × Unit) × Unit) :=
gd (s.size < 4294967281) <|
gd (1 <= by_.size) <|
AQ (X := Int × List (ByteArray × Int) × LI) (fun y0 =>
bif decide (y0.1 < nI (B5 s by_).length) then
gd (0 <= y0.1) <|
gd (y0.1 < nI (B5 s by_).length) <|
AD (VF y0.1 (get Ty.str (B5 s by_) y0.1) y0.2.1) fun y1 =>
bif !y1.1.2.1 then
some (Sum.inr (([], false, ()), ((y0.2.1, ()), ()), ()))
else
gd ((y0.2.2.length + [y1.1.1].length) * 8 <= lim) <|
gd (y0.2.2.length + [y1.1.1].length <= lim) <|
gd (inK .i64 (y0.1 + 1)) <|
some (Sum.inl (y0.1 + 1, y0.2.1, y0.2.2 ++ [y1.1.1]))
else
some (Sum.inr ((y0.2.2, true, ()), ((y0.2.1, ()), ()), ()))) (nn) (0, pm, [])
def AAI (s : ByteArray) (by_ : ByteArray) (pm : List (ByteArray × Int)) : Option ((LI × Bool × Unit) × ((List (ByteArray × Int) × Unit) × Unit) × Unit) := Xg AK s by_ pm
def Xh (nn : Nat)  (nn_ : LN) (ni : LP) (nc : LC) (np : LQ) (nm : LP) (gi : Int) (ga : L2) (ci : L3) (cl : LT) (co : L3) (s : ByteArray) : Option ((LI × Bool × Unit) × Unit × Unit) :=
AD (JB nn_ ni nc np nm) fun y0 =>
bif !y0.1.1 then
some (([], false, ()), (), ())
else
AD (VB nn_ ni nc np nm gi ga ci cl co) fun y1 =>
bif bif false then true else !y1.1.1 then
some (([], false, ()), (), ())
else
bif s.toList == (ByteArray.mk #[102, 97, 108, 115, 101]).toList then
some (([], true, ()), (), ())
else
AQ (X := Int × List (ByteArray × Int)) (fun y2 =>
bif decide (y2.1 < nI cl.length) then
gd (0 <= y2.1) <|
gd (y2.1 < nI cl.length) <|
AD (ABS nn_ ni nc np nm (get AU cl y2.1).1 (get AU cl y2.1).2.1 (get AU cl y2.1).2.2.1 (get AU cl y2.1).2.2.2.1 (get AU cl y2.1).2.2.2.2.1) fun y3 =>
gd (inK .i64 (y2.1 + 1)) <|
gd (y2.2.length < lim) <|
gd (inK .i64 (y2.1 + 1)) <|
some (Sum.inl (y2.1 + 1, A4 (y2.1 + 1) y2.2 y3.1.1))
else
AD (AAI s (ByteArray.mk #[32, 124, 32]) y2.2) fun y3 =>
some (Sum.inr ((y3.1.1, y3.1.2.1, ()), (), ()))) (nn) (0, [])
def HP (nn_ : LN) (ni : LP) (nc : LC) (np : LQ) (nm : LP) (gi : Int) (ga : L2) (ci : L3) (cl : LT) (co : L3) (s : ByteArray) : Option ((LI × Bool × Unit) × Unit × Unit) := Xh AK nn_ ni nc np nm gi ga ci cl co s
def OO (nn : Nat)  (nn_ : LN) (ni : LP) (nc : LC) (np : LQ) (nm : LP) (gi : Int) (ga : L2) (ci : L3) (cl : LT) (co : L3) (l : LI) : Option ((ByteArray × Unit) × Unit × Unit) :=
AD (JB nn_ ni nc np nm) fun y0 =>
bif !y0.1.1 then
some (((ByteArray.mk #[]), ()), (), ())
else
AD (VB nn_ ni nc np nm gi ga ci cl co) fun y1 =>
bif bif false then true else !y1.1.1 then
some (((ByteArray.mk #[]), ()), (), ())
else
bif nI l.length == 0 then
some (((ByteArray.mk #[102, 97, 108, 115, 101]), ()), (), ())
else
AQ (X := Int × List ByteArray) (fun y2 =>
bif decide (y2.1 < nI l.length) then
gd (0 <= y2.1) <|
gd (y2.1 < nI l.length) <|
gd (inK .i64 (0 - AE l y2.1)) <|
bif decide (max2 (AE l y2.1) (0 - AE l y2.1) < 1) then
some (Sum.inr (((ByteArray.mk #[]), ()), (), ()))
else
bif bif false then true else decide (max2 (AE l y2.1) (0 - AE l y2.1) > nI cl.length) then
some (Sum.inr (((ByteArray.mk #[]), ()), (), ()))
else
gd (inK .i64 (max2 (AE l y2.1) (0 - AE l y2.1) - 1)) <|
gd (0 <= max2 (AE l y2.1) (0 - AE l y2.1) - 1) <|
gd (max2 (AE l y2.1) (0 - AE l y2.1) - 1 < nI cl.length) <|
AD (ABS nn_ ni nc np nm (get AU cl (max2 (AE l y2.1) (0 - AE l y2.1) - 1)).1 (get AU cl (max2 (AE l y2.1) (0 - AE l y2.1) - 1)).2.1 (get AU cl (max2 (AE l y2.1) (0 - AE l y2.1) - 1)).2.2.1 (get AU cl (max2 (AE l y2.1) (0 - AE l y2.1) - 1)).2.2.2.1 (get AU cl (max2 (AE l y2.1) (0 - AE l y2.1) - 1)).2.2.2.2.1) fun y3 =>
bif decide (AE l y2.1 < 0) then
gd (1 + y3.1.1.size <= lim) <|
gd ((y2.2.length + [(ByteArray.mk #[126]).append y3.1.1].length) * 16 <= lim) <|
gd (y2.2.length + [(ByteArray.mk #[126]).append y3.1.1].length <= lim) <|
gd (inK .i64 (y2.1 + 1)) <|
some (Sum.inl (y2.1 + 1, y2.2 ++ [(ByteArray.mk #[126]).append y3.1.1]))
else
gd ((y2.2.length + [y3.1.1].length) * 16 <= lim) <|
gd (y2.2.length + [y3.1.1].length <= lim) <|
gd (inK .i64 (y2.1 + 1)) <|
some (Sum.inl (y2.1 + 1, y2.2 ++ [y3.1.1]))
else
gd (0 < y2.2.length) <|
gd ((DY y2.2 (ByteArray.mk #[32, 124, 32])).size <= lim) <|
some (Sum.inr ((DY y2.2 (ByteArray.mk #[32, 124, 32]), ()), (), ()))) (nn) (0, [])
def GQ (nn_ : LN) (ni : LP) (nc : LC) (np : LQ) (nm : LP) (gi : Int) (ga : L2) (ci : L3) (cl : LT) (co : L3) (l : LI) : Option ((ByteArray × Unit) × Unit × Unit) := OO AK nn_ ni nc np nm gi ga ci cl co l
end AL
end
section
namespace AL
open Go
def SO (s : ByteArray) : Option ((Int × Bool × Unit) × Unit × Unit) :=
AD (ADq s) fun y0 =>
gd (s.size <= 18) <|
gd (inK .i64 y0) <|
bif bif true then decide (y0 >= 0) else false then
bif bif true then decide (y0 <= 65535) else false then
gd (0 <= y0) <|
gd (y0 < 100) <|
some ((y0, bif true then (DX y0).toList == s.toList else false, ()), (), ())
else
some ((y0, false, ()), (), ())
else
some ((y0, false, ()), (), ())
def Xi (k : Int) (s : ByteArray) (nn_ : LN) (ni : LP) (nc : LC) (np : LQ) (nm : LP) : Option ((Int × Bool × Unit) × ((LN × LP × LC × LQ × LP × Unit) × Unit) × Unit) :=
bif decide (k >= nI ni.length) then
some ((0, false, ()), ((nn_, ni, nc, np, nm, ()), ()), ())
else
gd (0 <= k) <|
gd (k < nI ni.length) <|
gd (ByteArray.size (get Ar ni k).1 + 1 <= lim) <|
bif !XV s (ByteArray.append (get Ar ni k).1 (ByteArray.mk #[61])) then
some ((0, false, ()), ((nn_, ni, nc, np, nm, ()), ()), ())
else
AD (SO (LB s (ByteArray.append (get Ar ni k).1 (ByteArray.mk #[61])))) fun y0 =>
some ((y0.1.1, y0.1.2.1, ()), ((nn_, ni, nc, np, nm, ()), ()), ())
def AEF (nn : Nat)  (s : ByteArray) (by_ : ByteArray) (nn_ : LN) (ni : LP) (nc : LC) (np : LQ) (nm : LP) : Option ((LI × Bool × Unit) × ((LN × LP × LC × LQ × LP × Unit) × Unit) × Unit) :=
gd (s.size < 4294967281) <|
gd (1 <= by_.size) <|
AQ (X := Int × (NET) × LI) (fun y0 =>
bif decide (y0.1 < nI (B5 s by_).length) then
gd (0 <= y0.1) <|
gd (y0.1 < nI (B5 s by_).length) <|
AD (Xi y0.1 (get Ty.str (B5 s by_) y0.1) y0.2.1.1 y0.2.1.2.1 y0.2.1.2.2.1 y0.2.1.2.2.2.1 y0.2.1.2.2.2.2) fun y1 =>
bif !y1.1.2.1 then
some (Sum.inr (([], false, ()), ((y0.2.1.1, y0.2.1.2.1, y0.2.1.2.2.1, y0.2.1.2.2.2.1, y0.2.1.2.2.2.2, ()), ()), ()))
else
gd ((y0.2.2.length + [y1.1.1].length) * 8 <= lim) <|
gd (y0.2.2.length + [y1.1.1].length <= lim) <|
gd (inK .i64 (y0.1 + 1)) <|
some (Sum.inl (y0.1 + 1, (y0.2.1.1, y0.2.1.2.1, y0.2.1.2.2.1, y0.2.1.2.2.2.1, y0.2.1.2.2.2.2), y0.2.2 ++ [y1.1.1]))
else
some (Sum.inr ((y0.2.2, true, ()), ((y0.2.1.1, y0.2.1.2.1, y0.2.1.2.2.1, y0.2.1.2.2.2.1, y0.2.1.2.2.2.2, ()), ()), ()))) (nn) (0, (nn_, ni, nc, np, nm), [])
def AI6 (s : ByteArray) (by_ : ByteArray) (nn_ : LN) (ni : LP) (nc : LC) (np : LQ) (nm : LP) : Option ((LI × Bool × Unit) × ((LN × LP × LC × LQ × LP × Unit) × Unit) × Unit) := AEF AK s by_ nn_ ni nc np nm
def AEG (i : Int) (s : ByteArray) (nn_ : LN) (ni : LP) (nc : LC) (np : LQ) (nm : LP) : Option ((LI × Bool × Unit) × ((LN × LP × LC × LQ × LP × Unit) × Unit) × Unit) :=
gd (0 <= i) <|
gd (i < 100) <|
gd ((DX i).size + 1 <= lim) <|
bif s.toList == ((DX i).append (ByteArray.mk #[58])).toList then
some (([], nI ni.length == 0, ()), ((nn_, ni, nc, np, nm, ()), ()), ())
else
gd (((DX i).append (ByteArray.mk #[58])).size + 1 <= lim) <|
bif !XV s (((DX i).append (ByteArray.mk #[58])).append (ByteArray.mk #[32])) then
some (([], false, ()), ((nn_, ni, nc, np, nm, ()), ()), ())
else
AD (AI6 (LB s (((DX i).append (ByteArray.mk #[58])).append (ByteArray.mk #[32]))) (ByteArray.mk #[32]) nn_ ni nc np nm) fun y0 =>
bif y0.1.2.1 then
some ((y0.1.1, bif true then nI y0.1.1.length == nI ni.length else false, ()), ((nn_, ni, nc, np, nm, ()), ()), ())
else
some ((y0.1.1, false, ()), ((nn_, ni, nc, np, nm, ()), ()), ())
def AEH (nn : Nat)  (s : ByteArray) (by_ : ByteArray) (nn_ : LN) (ni : LP) (nc : LC) (np : LQ) (nm : LP) : Option ((LLI × Bool × Unit) × ((LN × LP × LC × LQ × LP × Unit) × Unit) × Unit) :=
gd (s.size < 4294967281) <|
gd (1 <= by_.size) <|
AQ (X := Int × (NET) × LLI) (fun y0 =>
bif decide (y0.1 < nI (B5 s by_).length) then
gd (0 <= y0.1) <|
gd (y0.1 < nI (B5 s by_).length) <|
AD (AEG y0.1 (get Ty.str (B5 s by_) y0.1) y0.2.1.1 y0.2.1.2.1 y0.2.1.2.2.1 y0.2.1.2.2.2.1 y0.2.1.2.2.2.2) fun y1 =>
bif !y1.1.2.1 then
some (Sum.inr (([], false, ()), ((y0.2.1.1, y0.2.1.2.1, y0.2.1.2.2.1, y0.2.1.2.2.2.1, y0.2.1.2.2.2.2, ()), ()), ()))
else
gd ((y0.2.2.length + [y1.1.1].length) * 24 <= lim) <|
gd (y0.2.2.length + [y1.1.1].length <= lim) <|
gd (inK .i64 (y0.1 + 1)) <|
some (Sum.inl (y0.1 + 1, (y0.2.1.1, y0.2.1.2.1, y0.2.1.2.2.1, y0.2.1.2.2.2.1, y0.2.1.2.2.2.2), y0.2.2 ++ [y1.1.1]))
else
some (Sum.inr ((y0.2.2, true, ()), ((y0.2.1.1, y0.2.1.2.1, y0.2.1.2.2.1, y0.2.1.2.2.2.1, y0.2.1.2.2.2.2, ()), ()), ()))) (nn) (0, (nn_, ni, nc, np, nm), [])
def AEI (s : ByteArray) (by_ : ByteArray) (nn_ : LN) (ni : LP) (nc : LC) (np : LQ) (nm : LP) : Option ((LLI × Bool × Unit) × ((LN × LP × LC × LQ × LP × Unit) × Unit) × Unit) := AEH AK s by_ nn_ ni nc np nm
def Qw (nn_ : LN) (ni : LP) (nc : LC) (np : LQ) (nm : LP) (s : ByteArray) : Option ((LLI × Bool × Unit) × Unit × Unit) :=
AD (JB nn_ ni nc np nm) fun y0 =>
bif !y0.1.1 then
some (([], false, ()), (), ())
else
bif !s.toList == (ByteArray.mk #[]).toList then
bif bif false then true else bif true then !Lib.hasSuffix s.data.toList (ByteArray.mk #[10]).data.toList else false then
some (([], false, ()), (), ())
else
bif s.toList == (ByteArray.mk #[]).toList then
some (([], true, ()), (), ())
else
AD (AEI (Qq s (ByteArray.mk #[10])) (ByteArray.mk #[10]) nn_ ni nc np nm) fun y1 =>
some ((y1.1.1, y1.1.2.1, ()), (), ())
else
bif s.toList == (ByteArray.mk #[]).toList then
some (([], true, ()), (), ())
else
AD (AEI (Qq s (ByteArray.mk #[10])) (ByteArray.mk #[10]) nn_ ni nc np nm) fun y1 =>
some ((y1.1.1, y1.1.2.1, ()), (), ())
def AAJ (b : Bool) : Option ((Int × Unit) × Unit × Unit) :=
bif b then
some ((1, ()), (), ())
else
some ((0, ()), (), ())
def vW8 (a : Int) (b : Int) : Option ((Int × Unit) × Unit × Unit) :=
gd (inK .i64 (a + b)) <|
some ((a + b, ()), (), ())
def AJt (a : Int) (b : Int) : Option ((Bool × Unit) × Unit × Unit) :=
some ((a != b, ()), (), ())
def AJu (a : Int) (b : Int) : Option ((Bool × Unit) × Unit × Unit) :=
some ((decide (a < b), ()), (), ())
def vW1 (op : Int) (w : Int) (na : Int) (nb : Int) (nc : Int) (n : Int) (lo : Int) (a : Int) (b : Int) (c : Int) (wb : Int) : Option ((Int × Unit) × Unit × Unit) :=
some ((n, ()), (), ())
def AJv (op : Int) (w : Int) (na : Int) (nb : Int) (nc : Int) (n : Int) (lo : Int) (a : Int) (b : Int) (c : Int) (wb : Int) : Option ((Int × Unit) × Unit × Unit) :=
gd (0 <= wb) <|
some ((IntKind.i64.wrap (nI (BitVec.ofInt 64 (IntKind.i64.wrap (a * 2 ^ min wb.toNat 64)) ||| BitVec.ofInt 64 b).toNat), ()), (), ())
def AAK (op : Int) (w : Int) (na : Int) (nb : Int) (nc : Int) (n : Int) (lo : Int) (a : Int) (b : Int) (c : Int) (wb : Int) (f : Nat) : Option ((Int × Unit) × Unit × Unit) :=
AD (vW8 a b) fun y0 =>
AD (AD7 w) fun y1 =>
some ((IntKind.i64.wrap (nI (BitVec.ofInt 64 y0.1.1 &&& BitVec.ofInt 64 y1.1.1).toNat), ()), (), ())
def AAL (op : Int) (w : Int) (na : Int) (nb : Int) (nc : Int) (n : Int) (lo : Int) (a : Int) (b : Int) (c : Int) (wb : Int) (f : Nat) : Option ((Int × Unit) × Unit × Unit) :=
Me (nI f) [((213 : Int), AAK op w na nb nc n lo a b c wb f)]
def AJw (f : Nat) : Option (((Nat × Unit) × Unit) × Unit × Unit) :=
some (((f, ()), ()), (), ())
def OP (op : Int) (w : Int) (na : Int) (nb : Int) (nc : Int) (n : Int) (lo : Int) (a : Int) (b : Int) (c : Int) (wb : Int) (f : Nat) : Option ((Int × Unit) × Unit × Unit) :=
AD (AJt a b) fun y0 =>
AD (AAJ y0.1.1) fun y1 =>
some ((y1.1.1, ()), (), ())
def OQ (op : Int) (w : Int) (na : Int) (nb : Int) (nc : Int) (n : Int) (lo : Int) (a : Int) (b : Int) (c : Int) (wb : Int) (f : Nat) : Option ((Int × Unit) × Unit × Unit) :=
AD (AJu a b) fun y0 =>
AD (AAJ y0.1.1) fun y1 =>
some ((y1.1.1, ()), (), ())
def J2 (op : Int) (w : Int) (na : Int) (nb : Int) (nc : Int) (n : Int) (lo : Int) (a : Int) (b : Int) (c : Int) (wb : Int) (f : Nat) : Option ((Int × Unit) × Unit × Unit) :=
Me (nI f) [((217 : Int), OP op w na nb nc n lo a b c wb f), ((218 : Int), OQ op w na nb nc n lo a b c wb f)]
def Xj (f : Nat) : Option (((Nat × Unit) × Unit) × Unit × Unit) :=
some (((f, ()), ()), (), ())
def JC : Option ((Unit × Unit) × Unit × Unit) :=
some (((), ()), (), ())
def AI7 (op : Int) (w : Int) (na : Int) (nb : Int) (nc : Int) (n : Int) (lo : Int) (a : Int) (b : Int) (c : Int) (wb : Int) : Option ((Int × Unit) × Unit × Unit) :=
AD (JC) fun y0 =>
AD (vW1 1 w na nb nc n lo a b c wb) fun y1 =>
some ((y1.1.1, ()), (), ())
def AI8 (op : Int) (w : Int) (na : Int) (nb : Int) (nc : Int) (n : Int) (lo : Int) (a : Int) (b : Int) (c : Int) (wb : Int) : Option ((Int × Unit) × Unit × Unit) :=
AD (JC) fun y0 =>
AD (AAL 9 w na nb nc n lo a b c wb 213) fun y1 =>
some ((y1.1.1, ()), (), ())
def AEJ (op : Int) (w : Int) (na : Int) (nb : Int) (nc : Int) (n : Int) (lo : Int) (a : Int) (b : Int) (c : Int) (wb : Int) : Option ((Int × Unit) × Unit × Unit) :=
AD (JC) fun y0 =>
AD (J2 13 w na nb nc n lo a b c wb 217) fun y1 =>
some ((y1.1.1, ()), (), ())
def AEK (op : Int) (w : Int) (na : Int) (nb : Int) (nc : Int) (n : Int) (lo : Int) (a : Int) (b : Int) (c : Int) (wb : Int) : Option ((Int × Unit) × Unit × Unit) :=
AD (JC) fun y0 =>
AD (J2 14 w na nb nc n lo a b c wb 218) fun y1 =>
some ((y1.1.1, ()), (), ())
def AEL (op : Int) (w : Int) (na : Int) (nb : Int) (nc : Int) (n : Int) (lo : Int) (a : Int) (b : Int) (c : Int) (wb : Int) : Option ((Int × Unit) × Unit × Unit) :=
AD (JC) fun y0 =>
AD (AJv 17 w na nb nc n lo a b c wb) fun y1 =>
some ((y1.1.1, ()), (), ())
def vDo (op : Int) (w : Int) (na : Int) (nb : Int) (nc : Int) (n : Int) (lo : Int) (a : Int) (b : Int) (c : Int) (wb : Int) : Option ((Int × Unit) × Unit × Unit) :=
Me op [((1 : Int), AI7 op w na nb nc n lo a b c wb), ((9 : Int), AI8 op w na nb nc n lo a b c wb), ((13 : Int), AEJ op w na nb nc n lo a b c wb), ((14 : Int), AEK op w na nb nc n lo a b c wb), ((17 : Int), AEL op w na nb nc n lo a b c wb)]
def VG (nn : Nat)  (nn_ : LN) (ni : LP) (nc : LC) (np : LQ) (nm : LP) (st : LI) (ins : LI) : Option ((LI × Unit) × Unit × Unit) :=
gd (nI nn_.length <= nI nn_.length) <|
gd ((nI nn_.length).toNat * 8 <= lim) <|
gd (nI nn_.length <= nI lim) <|
AQ (X := Int × LI) (fun y0 =>
bif decide (y0.1 < nI ni.length) then
gd (0 <= y0.1) <|
gd (y0.1 < nI ni.length) <|
gd (0 <= y0.1) <|
gd (y0.1 < nI ins.length) <|
gd (0 <= (get Ar ni y0.1).2.1) <|
gd ((get Ar ni y0.1).2.1 < nI y0.2.length) <|
gd (inK .i64 (y0.1 + 1)) <|
some (Sum.inl (y0.1 + 1, y0.2.set (Int.toNat (get Ar ni y0.1).2.1) (AE ins y0.1)))
else
AQ (X := Int × LI) (fun y1 =>
bif decide (y1.1 < nI nc.length) then
gd (0 <= y1.1) <|
gd (y1.1 < nI nc.length) <|
gd (0 <= y1.1) <|
gd (y1.1 < nI st.length) <|
gd (0 <= (get AW nc y1.1).2.1) <|
gd ((get AW nc y1.1).2.1 < nI y1.2.length) <|
gd (inK .i64 (y1.1 + 1)) <|
some (Sum.inl (y1.1 + 1, y1.2.set (Int.toNat (get AW nc y1.1).2.1) (AE st y1.1)))
else
AQ (X := Int × LI) (fun y2 =>
bif decide (y2.1 < nI nn_.length) then
gd (0 <= y2.1) <|
gd (y2.1 < nI nn_.length) <|
bif (get AB nn_ y2.1).1 != 21 then
bif bif true then (get AB nn_ y2.1).1 != 22 else false then
gd (0 <= (get AB nn_ y2.1).2.2.1) <|
gd ((get AB nn_ y2.1).2.2.1 < nI y2.2.length) <|
gd (0 <= (get AB nn_ y2.1).2.2.2.1) <|
gd ((get AB nn_ y2.1).2.2.2.1 < nI y2.2.length) <|
gd (0 <= (get AB nn_ y2.1).2.2.2.2.1) <|
gd ((get AB nn_ y2.1).2.2.2.2.1 < nI y2.2.length) <|
gd (0 <= (get AB nn_ y2.1).2.2.2.1) <|
gd ((get AB nn_ y2.1).2.2.2.1 < nI nn_.length) <|
AD (vDo (get AB nn_ y2.1).1 (get AB nn_ y2.1).2.1 (get AB nn_ y2.1).2.2.1 (get AB nn_ y2.1).2.2.2.1 (get AB nn_ y2.1).2.2.2.2.1 (get AB nn_ y2.1).2.2.2.2.2.1 (get AB nn_ y2.1).2.2.2.2.2.2.1 (AE y2.2 (get AB nn_ y2.1).2.2.1) (AE y2.2 (get AB nn_ y2.1).2.2.2.1) (AE y2.2 (get AB nn_ y2.1).2.2.2.2.1) (get AB nn_ (get AB nn_ y2.1).2.2.2.1).2.1) fun y3 =>
gd (0 <= y2.1) <|
gd (y2.1 < nI y2.2.length) <|
gd (inK .i64 (y2.1 + 1)) <|
some (Sum.inl (y2.1 + 1, y2.2.set y2.1.toNat y3.1.1))
else
gd (inK .i64 (y2.1 + 1)) <|
some (Sum.inl (y2.1 + 1, y2.2))
else
gd (inK .i64 (y2.1 + 1)) <|
some (Sum.inl (y2.1 + 1, y2.2))
else
some (Sum.inr (Sum.inr (Sum.inr ((y2.2, ()), (), ()))))) (nn) (0, y1.2)) (nn) (0, y0.2)) (nn) (0, List.replicate (nI nn_.length).toNat 0)
def AAM (nn_ : LN) (ni : LP) (nc : LC) (np : LQ) (nm : LP) (st : LI) (ins : LI) : Option ((LI × Unit) × Unit × Unit) := VG AK nn_ ni nc np nm st ins
def Qx (nn : Nat)  (nn_ : LN) (ni : LP) (nc : LC) (np : LQ) (nm : LP) (st : LI) (ins : LI) : Option ((LI × Unit) × Unit × Unit) :=
AD (AAM nn_ ni nc np nm st ins) fun y0 =>
gd (nI nc.length <= nI nc.length) <|
gd ((nI nc.length).toNat * 8 <= lim) <|
gd (nI nc.length <= nI lim) <|
AQ (X := Int × LI) (fun y1 =>
bif decide (y1.1 < nI nc.length) then
gd (0 <= y1.1) <|
gd (y1.1 < nI nc.length) <|
gd (0 <= (get AW nc y1.1).2.2.1) <|
gd ((get AW nc y1.1).2.2.1 < nI y0.1.1.length) <|
gd (0 <= y1.1) <|
gd (y1.1 < nI y1.2.length) <|
gd (inK .i64 (y1.1 + 1)) <|
some (Sum.inl (y1.1 + 1, y1.2.set y1.1.toNat (AE y0.1.1 (get AW nc y1.1).2.2.1)))
else
some (Sum.inr ((y1.2, ()), (), ()))) (nn) (0, List.replicate (nI nc.length).toNat 0)
def AEM (nn_ : LN) (ni : LP) (nc : LC) (np : LQ) (nm : LP) (st : LI) (ins : LI) : Option ((LI × Unit) × Unit × Unit) := Qx AK nn_ ni nc np nm st ins
def AAN (nn_ : LN) (ni : LP) (nc : LC) (np : LQ) (nm : LP) (l : LLI) : Option ((Unit × Unit) × Unit × (LN × LP × LC × LQ × LP × Unit) × (LLI × Unit) × Unit) :=
some (((), ()), (), (nn_, ni, nc, np, nm, ()), (l, ()), ())
def Qy (x : Int) : Option ((Int × Unit) × Unit × Unit) :=
some ((max2 x (IntKind.i64.wrap (0 - x)), ()), (), ())
def OR (x : Int) (state : List Bool) : Option ((Bool × Unit) × ((List Bool × Unit) × Unit) × Unit) :=
AD (Qy x) fun y0 =>
bif decide (y0.1.1 > nI state.length) then
some ((true, ()), ((state, ()), ()), ())
else
AD (Qy x) fun y1 =>
gd (inK .i64 (y1.1.1 - 1)) <|
gd (0 <= y1.1.1 - 1) <|
gd (y1.1.1 - 1 < nI state.length) <|
some ((bif false then true else !CB state (y1.1.1 - 1) == decide (x > 0), ()), ((state, ()), ()), ())
def Dp (nn : Nat)  (s : LI) (state : List Bool) : Option ((Int × Unit) × ((List Bool × Unit) × Unit) × Unit) :=
AQ (X := Int × List Bool) (fun y0 =>
bif decide (y0.1 < nI s.length) then
gd (0 <= y0.1) <|
gd (y0.1 < nI s.length) <|
AD (OR (AE s y0.1) y0.2) fun y1 =>
bif y1.1.1 then
some (Sum.inr ((y0.1, ()), ((y0.2, ()), ()), ()))
else
gd (inK .i64 (y0.1 + 1)) <|
some (Sum.inl (y0.1 + 1, y0.2))
else
some (Sum.inr ((-1, ()), ((y0.2, ()), ()), ()))) (nn) (0, state)
def CR (s : LI) (state : List Bool) : Option ((Int × Unit) × ((List Bool × Unit) × Unit) × Unit) := Dp AK s state
def CQ (s : LI) (state : List Bool) : Option ((Bool × Unit) × ((List Bool × Unit) × Unit) × Unit) :=
AD (CR s state) fun y0 =>
some ((decide (y0.1.1 >= 0), ()), ((state, ()), ()), ())
def HQ (l : LI) (state : List Bool) : Option ((Bool × Unit) × Unit × Unit) :=
AD (CQ l state) fun y0 =>
some ((!y0.1.1, ()), (), ())
def Qz (nn : Nat)  (a : LLI) (b : LLI) : Option ((Bool × Unit) × Unit × Unit) :=
bif nI a.length != nI b.length then
some ((false, ()), (), ())
else
AQ (X := Int) (fun y0 =>
bif decide (y0 < nI a.length) then
gd (0 <= y0) <|
gd (y0 < nI a.length) <|
gd (0 <= y0) <|
gd (y0 < nI b.length) <|
bif nI (List.length (Ao a y0)) != nI (List.length (Ao b y0)) then
some (Sum.inr ((false, ()), (), ()))
else
AQ (X := Int) (fun y1 =>
gd (0 <= y0) <|
gd (y0 < nI a.length) <|
bif decide (y1 < nI (List.length (Ao a y0))) then
gd (0 <= y0) <|
gd (y0 < nI a.length) <|
gd (0 <= y1) <|
gd (y1 < nI (List.length (Ao a y0))) <|
gd (0 <= y0) <|
gd (y0 < nI b.length) <|
gd (0 <= y1) <|
gd (y1 < nI (List.length (Ao b y0))) <|
bif AE (Ao a y0) y1 != AE (Ao b y0) y1 then
some (Sum.inr (Sum.inr ((false, ()), (), ())))
else
gd (inK .i64 (y1 + 1)) <|
some (Sum.inl (y1 + 1))
else
gd (inK .i64 (y0 + 1)) <|
some (Sum.inr (Sum.inl (y0 + 1)))) (nn) 0
else
some (Sum.inr ((true, ()), (), ()))) (nn) 0
def HR (a : LLI) (b : LLI) : Option ((Bool × Unit) × Unit × Unit) := Qz AK a b
def Xk (nn : Nat)  (nn_ : LN) (ni : LP) (nc : LC) (np : LQ) (nm : LP) : Option ((Bool × Unit) × Unit × Unit) :=
AD (OG nn_ ni nc np nm) fun y0 =>
bif y0.1.1 then
some ((false, ()), (), ())
else
AD (SK nn_ ni nc np nm) fun y1 =>
bif bif false then true else !y1.1.1 then
some ((false, ()), (), ())
else
AD (Jz nn_ ni nc np nm) fun y2 =>
bif bif false then true else decide (y2.1.1 > 4000) then
some ((false, ()), (), ())
else
AQ (X := Int × Int × Int) (fun y3 =>
bif decide (y3.2.2 < nI nn_.length) then
gd (0 <= y3.2.2) <|
gd (y3.2.2 < nI nn_.length) <|
bif (get AB nn_ y3.2.2).1 == 22 then
gd (0 <= y3.2.2) <|
gd (y3.2.2 < nI nn_.length) <|
gd (inK .i64 (y3.1 + (get AB nn_ y3.2.2).2.1)) <|
gd (0 <= y3.2.2) <|
gd (y3.2.2 < nI nn_.length) <|
bif (get AB nn_ y3.2.2).1 == 21 then
gd (0 <= y3.2.2) <|
gd (y3.2.2 < nI nn_.length) <|
gd (inK .i64 (y3.2.1 + (get AB nn_ y3.2.2).2.1)) <|
gd (inK .i64 (y3.2.2 + 1)) <|
some (Sum.inl (y3.1 + (get AB nn_ y3.2.2).2.1, y3.2.1 + (get AB nn_ y3.2.2).2.1, y3.2.2 + 1))
else
gd (inK .i64 (y3.2.2 + 1)) <|
some (Sum.inl (y3.1 + (get AB nn_ y3.2.2).2.1, y3.2.1, y3.2.2 + 1))
else
gd (0 <= y3.2.2) <|
gd (y3.2.2 < nI nn_.length) <|
bif (get AB nn_ y3.2.2).1 == 21 then
gd (0 <= y3.2.2) <|
gd (y3.2.2 < nI nn_.length) <|
gd (inK .i64 (y3.2.1 + (get AB nn_ y3.2.2).2.1)) <|
gd (inK .i64 (y3.2.2 + 1)) <|
some (Sum.inl (y3.1, y3.2.1 + (get AB nn_ y3.2.2).2.1, y3.2.2 + 1))
else
gd (inK .i64 (y3.2.2 + 1)) <|
some (Sum.inl (y3.1, y3.2.1, y3.2.2 + 1))
else
bif decide (y3.1 <= 8) then
some (Sum.inr ((bif true then decide (y3.2.1 <= 4) else false, ()), (), ()))
else
some (Sum.inr ((false, ()), (), ()))) (nn) (0, 0, 0)
def OS (nn_ : LN) (ni : LP) (nc : LC) (np : LQ) (nm : LP) : Option ((Bool × Unit) × Unit × Unit) := Xk AK nn_ ni nc np nm
def CS : Option (((LN × LP × LC × LQ × LP × Unit) × Unit) × Unit × Unit) :=
some ((([(21, 1, 0, 0, 0, 0, 0, ()), (22, 2, 0, 0, 0, 0, 0, ()), (1, 1, 0, 0, 0, 0, 0, ()), (17, 2, 2, 0, 0, 0, 0, ()), (9, 2, 1, 3, 0, 0, 0, ()), (1, 2, 0, 0, 0, 2, 0, ()), (13, 1, 1, 5, 0, 0, 2, ()), (14, 1, 1, 1, 0, 0, 2, ())], [((ByteArray.mk #[103, 111]), 0, ())], [((ByteArray.mk #[110]), 1, 4, 0, ())], [(8, (ByteArray.mk #[108, 111, 119]), 6, ()), (10, (ByteArray.mk #[111, 100, 100]), 7, ())], [], ()), ()), (), ())
end AL
end
section
namespace AL
open Go
def Hx (nn_ : LN) (ni : LP) (nc : LC) (np : LQ) (nm : LP) (l : LLI) : Option ((LLI × Unit) × Unit × Unit) :=
match CS with
| some y => bif @decide (nn_ = y.1.1.1) ((Ty.sl AB).eqD _ _) && (decide (ni = y.1.1.2.1) && (decide (nc = y.1.1.2.2.1) && (decide (np = y.1.1.2.2.2.1) && (decide (nm = y.1.1.2.2.2.2.1) && decide (l = [[1], [0]]))))) then some (([[0], [1], [1]], ()), (), ()) else none
| none => none
end AL
end
section
namespace AL
open Go
def AAO (vnet30 : Option (((LN × LP × LC × LQ × LP × Unit) × Unit) × Unit × Unit)) (vCompile : LN -> LP -> LC -> LQ -> LP -> Option (((Int × L2 × L3 × LT × L3 × Unit) × Unit) × Unit × Unit)) (vlBack : LN -> LP -> LC -> LQ -> LP -> ByteArray -> Option ((LLI × Bool × Unit) × Unit × Unit)) (vlLits : LN -> LP -> LC -> LQ -> LP -> Int -> L2 -> L3 -> LT -> L3 -> ByteArray -> Option ((LI × Bool × Unit) × Unit × Unit)) (vRight15 : Int -> L2 -> L3 -> LT -> L3 -> Option ((Bool × Unit) × Unit × Unit)) (vsameRows : LLI -> LLI -> Option ((Bool × Unit) × Unit × Unit)) (vsStates : LN -> LP -> LC -> LQ -> LP -> LLI -> Option ((LLI × Unit) × Unit × Unit)) (vcubeOf : List Bool -> Option ((LI × Unit) × Unit × Unit)) (vcInd : Int -> L2 -> L3 -> LT -> L3 -> Int -> LLI -> Option ((Int × Unit) × Unit × Unit)) : Option ((Bool × Unit) × Unit × Unit) :=
AD (vnet30) fun y0 =>
AD (vCompile y0.1.1.1 y0.1.1.2.1 y0.1.1.2.2.1 y0.1.1.2.2.2.1 y0.1.1.2.2.2.2.1) fun y1 =>
AD (vlBack y0.1.1.1 y0.1.1.2.1 y0.1.1.2.2.1 y0.1.1.2.2.2.1 y0.1.1.2.2.2.2.1 (ByteArray.mk #[48, 58, 32, 103, 111, 61, 49, 10, 49, 58, 32, 103, 111, 61, 48, 10])) fun y2 =>
AD (vlLits y0.1.1.1 y0.1.1.2.1 y0.1.1.2.2.1 y0.1.1.2.2.2.1 y0.1.1.2.2.2.2.1 y1.1.1.1 y1.1.1.2.1 y1.1.1.2.2.1 y1.1.1.2.2.2.1 y1.1.1.2.2.2.2.1 (ByteArray.mk #[126, 110, 91, 48, 93, 32, 124, 32, 110, 91, 49, 93])) fun y3 =>
AD (vRight15 y1.1.1.1 y1.1.1.2.1 y1.1.1.2.2.1 y1.1.1.2.2.2.1 y1.1.1.2.2.2.2.1) fun y4 =>
bif y4.1.1 then
bif bif true then y2.1.2.1 else false then
bif bif true then y3.1.2.1 else false then
AD (vsameRows y2.1.1 [[1], [0]]) fun y5 =>
bif bif true then y5.1.1 else false then
AD (vsameRows [y3.1.1] [[-1, 2]]) fun y6 =>
bif bif true then y6.1.1 else false then
AD (vsStates y0.1.1.1 y0.1.1.2.1 y0.1.1.2.2.1 y0.1.1.2.2.2.1 y0.1.1.2.2.2.2.1 y2.1.1) fun y7 =>
AD (vsameRows y7.1.1 [[0], [1], [1]]) fun y8 =>
bif bif true then y8.1.1 else false then
AD (vcubeOf [true, false]) fun y9 =>
AD (vsameRows [y9.1.1] [[1, -2]]) fun y10 =>
bif bif true then y10.1.1 else false then
AD (vcInd y1.1.1.1 y1.1.1.2.1 y1.1.1.2.2.1 y1.1.1.2.2.2.1 y1.1.1.2.2.2.2.1 1 []) fun y11 =>
some ((bif true then y11.1.1 == 0 else false, ()), (), ())
else
some ((false, ()), (), ())
else
some ((false, ()), (), ())
else
some ((false, ()), (), ())
else
some ((false, ()), (), ())
else
some ((false, ()), (), ())
else
some ((false, ()), (), ())
else
some ((false, ()), (), ())
def LK : Option ((Bool × Unit) × Unit × Unit) := AAO CS DZ Qw HP Da HR Hx Ew AEE
def SP (vhead27 : Option ((Bool × Unit) × Unit × Unit)) (vfew27 : LN -> LP -> LC -> LQ -> LP -> Option ((Bool × Unit) × Unit × Unit)) (vunlike30 : LN -> LP -> LC -> LQ -> LP -> Option (((LN × LP × LC × LQ × LP × Unit) × Unit) × Unit × Unit)) (vCompile : LN -> LP -> LC -> LQ -> LP -> Option (((Int × L2 × L3 × LT × L3 × Unit) × Unit) × Unit × Unit)) (vRight15 : Int -> L2 -> L3 -> LT -> L3 -> Option ((Bool × Unit) × Unit × Unit)) (vstate15 : Int -> L2 -> L3 -> LT -> L3 -> LI -> Option ((List Bool × Unit) × Unit × Unit)) (vcells27 : LN -> LP -> LC -> LQ -> LP -> LI -> Option ((LI × Unit) × Unit × Unit)) (vcubeOf : List Bool -> Option ((LI × Unit) × Unit × Unit)) (vcubeClause : LI -> Option ((LI × Unit) × Unit × Unit)) (vlClause : LN -> LP -> LC -> LQ -> LP -> Int -> L2 -> L3 -> LT -> L3 -> LI -> Option ((ByteArray × Unit) × Unit × Unit)) (vlLits : LN -> LP -> LC -> LQ -> LP -> Int -> L2 -> L3 -> LT -> L3 -> ByteArray -> Option ((LI × Bool × Unit) × Unit × Unit)) (vmet26 : LLI -> List Bool -> Option ((Bool × Unit) × Unit × Unit)) (vsame8 : List Bool -> List Bool -> Option ((Bool × Unit) × Unit × Unit)) (vcHolds : LI -> List Bool -> Option ((Bool × Unit) × Unit × Unit)) (nn_ : LN) (ni : LP) (nc : LC) (np : LQ) (nm : LP) (one : LI) (two : LI) : Option ((Bool × Unit) × Unit × Unit) :=
AD (vhead27) fun y0 =>
AD (vfew27 nn_ ni nc np nm) fun y1 =>
bif !y1.1.1 then
some ((y0.1.1, ()), (), ())
else
bif bif false then true else nI nc.length == 0 then
some ((y0.1.1, ()), (), ())
else
AD (vunlike30 nn_ ni nc np nm) fun y2 =>
AD (vCompile y2.1.1.1 y2.1.1.2.1 y2.1.1.2.2.1 y2.1.1.2.2.2.1 y2.1.1.2.2.2.2.1) fun y3 =>
AD (vRight15 y3.1.1.1 y3.1.1.2.1 y3.1.1.2.2.1 y3.1.1.2.2.2.1 y3.1.1.2.2.2.2.1) fun y4 =>
bif !y4.1.1 then
some ((false, ()), (), ())
else
bif bif false then true else nI y3.1.1.2.2.2.1.length == 0 then
some ((false, ()), (), ())
else
AD (vcells27 y2.1.1.1 y2.1.1.2.1 y2.1.1.2.2.1 y2.1.1.2.2.2.1 y2.1.1.2.2.2.2.1 one) fun y5 =>
AD (vstate15 y3.1.1.1 y3.1.1.2.1 y3.1.1.2.2.1 y3.1.1.2.2.2.1 y3.1.1.2.2.2.2.1 y5.1.1) fun y6 =>
AD (vcells27 y2.1.1.1 y2.1.1.2.1 y2.1.1.2.2.1 y2.1.1.2.2.2.1 y2.1.1.2.2.2.2.1 two) fun y7 =>
AD (vstate15 y3.1.1.1 y3.1.1.2.1 y3.1.1.2.2.1 y3.1.1.2.2.2.1 y3.1.1.2.2.2.2.1 y7.1.1) fun y8 =>
AD (vcubeOf y6.1.1) fun y9 =>
AD (vcubeClause y9.1.1) fun y10 =>
AD (vlClause y2.1.1.1 y2.1.1.2.1 y2.1.1.2.2.1 y2.1.1.2.2.2.1 y2.1.1.2.2.2.2.1 y3.1.1.1 y3.1.1.2.1 y3.1.1.2.2.1 y3.1.1.2.2.2.1 y3.1.1.2.2.2.2.1 y10.1.1) fun y11 =>
AD (vlLits y2.1.1.1 y2.1.1.2.1 y2.1.1.2.2.1 y2.1.1.2.2.2.1 y2.1.1.2.2.2.2.1 y3.1.1.1 y3.1.1.2.1 y3.1.1.2.2.1 y3.1.1.2.2.2.1 y3.1.1.2.2.2.2.1 y11.1.1) fun y12 =>
bif y0.1.1 then
bif bif true then y12.1.2.1 else false then
AD (vmet26 [y12.1.1] y6.1.1) fun y13 =>
bif bif true then !y13.1.1 else false then
AD (vmet26 [y12.1.1] y8.1.1) fun y14 =>
AD (vsame8 y6.1.1 y8.1.1) fun y15 =>
bif bif true then y14.1.1 == !y15.1.1 else false then
AD (vcubeClause y12.1.1) fun y16 =>
AD (vcHolds y16.1.1 y6.1.1) fun y17 =>
some ((bif true then y17.1.1 else false, ()), (), ())
else
some ((false, ()), (), ())
else
some ((false, ()), (), ())
else
some ((false, ()), (), ())
else
some ((false, ()), (), ())
def TopOwn (nn_ : LN) (ni : LP) (nc : LC) (np : LQ) (nm : LP) (one : LI) (two : LI) : Option ((Bool × Unit) × Unit × Unit) := SP LK OS Ex DZ Da GO GP Ew C7 GQ HP OD OF HQ nn_ ni nc np nm one two
end AL
end
section
noncomputable section
set_option linter.unusedVariables false
set_option maxHeartbeats 0
set_option maxRecDepth 100000
namespace AL
open Go Go.Proofs
theorem fol : Tryz.prog.follows .mixedOrders = true := by kernel_rfl
abbrev OKs (T : FuncId -> Bp) : Prop := ∀ g, AT Tryz.prog g (T g)
def noL : Nat -> Option Af := fun _ => none
def noJ : Nat -> Option Shape := fun _ => none
theorem fn_A {S0 : FuncId -> Bp} (h : OKs S0) {f : FuncId} {fn : Func} (hf : Tryz.prog.funcs[f]? = some fn) {S : AG} {md : Md} {L : Nat -> Option Af} {J : Nat -> Option Shape} {m : S.args.ty.den -> (AY S.Aa).den -> Option S.oty.den} (he : ∀ xa xo, (S.prog (mkC Tryz.prog S0 md L J) fn xa xo).run = m xa xo)
 (hb : fn.body.isNone = false := by kernel_rfl) (hn : (fn.name == "runtime.NumGoroutine") = false := by kernel_rfl) (hc : Nat.ble S.args.count fn.ntmps = true := by kernel_rfl) : OKs (AH S0 f (S.AF m)) := AKk h fol hf hb hn hc he
def AEN : AG := ⟨.val int <| .nil, [], .val int <| .nil, []⟩
theorem size_eq : ∀  xa xo, (AEN.prog (mkC Tryz.prog noS ⟨false, false⟩ noL noJ) Tryz.f163 xa xo).run = size  xa.1 := by intros; kernel_rfl
def Xl := AH noS 163 (AEN.AF (fun xa xo => size xa.1))
theorem ABT : OKs Xl := fn_A Ny Tryz.func163 size_eq
def AI9 : AG := ⟨.val int <| .nil, [], .val int <| .nil, []⟩
theorem AJx : ∀  xa xo, (AI9.prog (mkC Tryz.prog Xl ⟨false, false⟩ noL noJ) Tryz.f165 xa xo).run = at_  xa.1 := by intros; kernel_rfl
def AEO := AH Xl 165 (AI9.AF (fun xa xo => at_ xa.1))
theorem AEP : OKs AEO := fn_A ABT Tryz.func165 AJx
def AAP : AG := ⟨.obj 0 <| .val int <| .nil, [(186, .skip <| .skip <| .skip <| .AI (.sl int) <| .skip <| .skip <| .skip <| .skip <| .skip <| .skip <| .skip <| .skip <| .skip <| .skip <| .skip <| .skip <| .skip <| .skip <| .nil)], .val int <| .nil, []⟩
theorem AEQ : ∀  xa xo, (AAP.prog (mkC Tryz.prog AEO ⟨false, false⟩ noL noJ) Tryz.f127 xa xo).run = value  xa.1 xo.1.1 := by intros; kernel_rfl
def SQ := AH AEO 127 (AAP.AF (fun xa xo => value xa.1 xo.1.1))
theorem Xm : OKs SQ := fn_A AEP Tryz.func127 AEQ
def AER : AG := ⟨.obj 0 <| .val int <| .val int <| .nil, [(186, .skip <| .skip <| .skip <| .own 3 int <| .own 3 int <| .own 3 int <| .skip <| .skip <| .skip <| .skip <| .own 3 int <| .AI (.sl int) <| .skip <| .skip <| .skip <| .skip <| .skip <| .skip <| .nil)], .nil, []⟩
theorem AHV : ∀  xa xo, (AER.prog (mkC Tryz.prog SQ ⟨false, false⟩ noL noJ) Tryz.f129 xa xo).run = R6  xa.1 xa.2.1 xo.1.1 xo.1.2.1 xo.1.2.2.1 xo.1.2.2.2.1 xo.1.2.2.2.2.1 := by intros; kernel_rfl
def Xn := AH SQ 129 (AER.AF (fun xa xo => R6 xa.1 xa.2.1 xo.1.1 xo.1.2.1 xo.1.2.2.1 xo.1.2.2.2.1 xo.1.2.2.2.2.1))
theorem ABU : OKs Xn := fn_A Xm Tryz.func129 AHV
def AES : AG := ⟨.obj 0 <| .val int <| .nil, [(186, .skip <| .skip <| .skip <| .own 3 int <| .skip <| .skip <| .own 3 int <| .skip <| .skip <| .val int <| .own 3 int <| .own 3 int <| .val int <| .skip <| .skip <| .skip <| .skip <| .skip <| .nil)], .nil, []⟩
def AJy (nn : Nat) : Nat -> Option Af := fun n =>
 bif Nat.beq n 3 then some ⟨{ env := [(29, .dat int)], heap := [(1, .box 186 ((ASh.opq 18).cons ((ASh.opq 19).cons ((ASh.opq 20).cons ((ASh.arr 21).cons ((ASh.opq 22).cons ((ASh.opq 23).cons ((ASh.arr 24).cons ((ASh.opq 25).cons ((ASh.opq 26).cons ((ASh.dat int).cons ((ASh.arr 28).cons ((ASh.arr 29).cons ((ASh.dat int).cons ((ASh.opq 31).cons ((ASh.opq 32).cons ((ASh.opq 33).cons ((ASh.opq 34).cons ((ASh.opq 35).cons ASh.nil))))))))))))))))))), (21, .arr 3 int), (24, .arr 3 int)], keep := [0, 1, 4, 27, 28], AN := [28, 29] }, fun _ => nn⟩ else
 none
theorem back_eq : ∀ (nn : Nat)  xa xo, (AES.prog (mkC Tryz.prog Xn ⟨false, false⟩ (AJy nn) noJ) Tryz.f126 xa xo).run = AIp nn xa.1 xo.1.1 xo.1.2.1 xo.1.2.2.1 xo.1.2.2.2.1 xo.1.2.2.2.2.1 xo.1.2.2.2.2.2.1 := by intros; kernel_rfl
def Xo := AH Xn 126 (AES.AF (fun xa xo => back xa.1 xo.1.1 xo.1.2.1 xo.1.2.2.1 xo.1.2.2.2.1 xo.1.2.2.2.2.1 xo.1.2.2.2.2.2.1))
theorem ABV : OKs Xo := fn_A ABU Tryz.func126 (back_eq AK)
def AET : AG := ⟨.obj 0 <| .Cr int <| .nil, [(186, .skip <| .Ch 43 3 int 17 <| .By 43 3 int <| .skip <| .skip <| .skip <| .skip <| .skip <| .skip <| .skip <| .skip <| .skip <| .skip <| .skip <| .skip <| .skip <| .skip <| .skip <| .nil)], .val int <| .nil, []⟩
theorem AHW : ∀  xa xo, (AET.prog (mkC Tryz.prog Xo ⟨false, false⟩ noL noJ) Tryz.f130 xa xo).run = keep  xa.1 xo.1.1 xo.1.2.1 xo.1.2.2.1 := by intros; kernel_rfl
def Xp := AH Xo 130 (AET.AF (fun xa xo => keep xa.1 xo.1.1 xo.1.2.1 xo.1.2.2.1))
theorem ABW : OKs Xp := fn_A ABV Tryz.func130 AHW
end AL
end
end
section
noncomputable section
set_option linter.unusedVariables false
set_option maxHeartbeats 0
set_option maxRecDepth 100000
namespace AL
open Go Go.Proofs
def VH : AG := ⟨.obj 0 <| .nil, [(186, .skip <| .skip <| .skip <| .skip <| .skip <| .skip <| .skip <| .skip <| .skip <| .skip <| .skip <| .skip <| .skip <| .skip <| .skip <| .val int <| .own 3 int <| .own 4 .bool <| .nil)], .nil, []⟩
theorem ABX : ∀  xa xo, (VH.prog (mkC Tryz.prog Xp ⟨false, false⟩ noL noJ) Tryz.f124 xa xo).run = forget  xo.1.1 xo.1.2.1 xo.1.2.2.1 := by intros; kernel_rfl
def OT := AH Xp 124 (VH.AF (fun xa xo => forget xo.1.1 xo.1.2.1 xo.1.2.2.1))
theorem VI : OKs OT := fn_A ABW Tryz.func124 ABX
def AEU : AG := ⟨.val int <| .obj 0 <| .nil, [(162, .obj 1 <| .nil), (186, .val int <| .skip <| .skip <| .skip <| .skip <| .skip <| .skip <| .skip <| .skip <| .skip <| .skip <| .skip <| .skip <| .skip <| .skip <| .skip <| .skip <| .skip <| .nil)], .val .bool <| .nil, []⟩
theorem AHX : ∀  xa xo, (AEU.prog (mkC Tryz.prog OT ⟨false, false⟩ noL noJ) Tryz.f162 xa xo).run = AJo  xa.1 xo.2.1.1 := by intros; kernel_rfl
def Xq := AH OT 162 (AEU.AF (fun xa xo => AJo xa.1 xo.2.1.1))
theorem ABY : OKs Xq := fn_A VI Tryz.func162 AHX
def Gf : AG := ⟨.val (.sl int) <| .clo 162 (.obj 0 <| .nil) <| .nil, [(162, .obj 1 <| .nil), (186, .val int <| .skip <| .skip <| .skip <| .skip <| .skip <| .skip <| .skip <| .skip <| .skip <| .skip <| .skip <| .skip <| .skip <| .skip <| .skip <| .skip <| .skip <| .nil)], .val int <| .nil, []⟩
def Mh (nn : Nat) : Nat -> Option Af := fun n =>
 bif Nat.beq n 2 then some ⟨{ env := [(8, .dat int)], heap := [(1, .box 162 ((ASh.ref 2 0).cons ASh.nil)), (2, .box 186 ((ASh.dat int).cons ((ASh.opq 20).cons ((ASh.opq 21).cons ((ASh.opq 22).cons ((ASh.opq 23).cons ((ASh.opq 24).cons ((ASh.opq 25).cons ((ASh.opq 26).cons ((ASh.opq 27).cons ((ASh.opq 28).cons ((ASh.opq 29).cons ((ASh.opq 30).cons ((ASh.opq 31).cons ((ASh.opq 32).cons ((ASh.opq 33).cons ((ASh.opq 34).cons ((ASh.opq 35).cons ((ASh.opq 36).cons ASh.nil)))))))))))))))))))], keep := [0, 1, 4, 7], AN := [] }, fun _ => nn⟩ else
 none
theorem LL : ∀ (nn : Nat)  xa xo, (Gf.prog (mkC Tryz.prog Xq ⟨false, false⟩ (Mh nn) noJ) Tryz.f95 xa xo).run = HM nn xa.1 xo.2.1.1 := by intros; kernel_rfl
def EF := AH Xq 95 (Gf.AF (fun xa xo => IQ xa.1 xo.2.1.1))
theorem JD : OKs EF := fn_A ABY Tryz.func95 (LL AK)
def Ey : AG := ⟨.val (.sl int) <| .clo 162 (.obj 0 <| .nil) <| .nil, [(162, .obj 1 <| .nil), (186, .val int <| .skip <| .skip <| .skip <| .skip <| .skip <| .skip <| .skip <| .skip <| .skip <| .skip <| .skip <| .skip <| .skip <| .skip <| .skip <| .skip <| .skip <| .nil)], .val .bool <| .nil, []⟩
theorem H8 : ∀  xa xo, (Ey.prog (mkC Tryz.prog EF ⟨false, false⟩ noL noJ) Tryz.f45 xa xo).run = Dm  xa.1 xo.2.1.1 := by intros; kernel_rfl
def C9 := AH EF 45 (Ey.AF (fun xa xo => Dm xa.1 xo.2.1.1))
theorem Gk : OKs C9 := fn_A JD Tryz.func45 H8
def AJA : AG := ⟨.obj 0 <| .val (.sl int) <| .nil, [(186, .val int <| .skip <| .skip <| .skip <| .skip <| .skip <| .skip <| .skip <| .skip <| .skip <| .skip <| .skip <| .skip <| .skip <| .skip <| .skip <| .skip <| .skip <| .nil)], .val .bool <| .nil, []⟩
theorem AJz : ∀  xa xo, (AJA.prog (mkC Tryz.prog C9 ⟨false, false⟩ noL noJ) Tryz.f125 xa xo).run = own  xa.1 xo.1.1 := by intros; kernel_rfl
def AEV := AH C9 125 (AJA.AF (fun xa xo => own xa.1 xo.1.1))
theorem AEW : OKs AEV := fn_A Gk Tryz.func125 AJz
def VJ : AG := ⟨.AI (.sl int) <| .val int <| .nil, [], .val int <| .nil, []⟩
def AEX (nn : Nat) : Nat -> Option Af := fun n =>
 bif Nat.beq n 2 then some ⟨{ env := [(8, .dat int)], heap := [], keep := [0, 1, 4, 7], AN := [] }, fun _ => nn⟩ else
 none
theorem ABZ : ∀ (nn : Nat)  xa xo, (VJ.prog (mkC Tryz.prog AEV ⟨false, false⟩ (AEX nn) noJ) Tryz.f164 xa xo).run = Z7 nn xa.1 xa.2.1 := by intros; kernel_rfl
def OU := AH AEV 164 (VJ.AF (fun xa xo => ADu xa.1 xa.2.1))
theorem VK : OKs OU := fn_A AEW Tryz.func164 (ABZ AK)
def MD : AG := ⟨.AI (.sl int) <| .val int <| .nil, [], .val .bool <| .nil, []⟩
theorem SR : ∀  xa xo, (MD.prog (mkC Tryz.prog OU ⟨false, false⟩ noL noJ) Tryz.f128 xa xo).run = EW  xa.1 xa.2.1 := by intros; kernel_rfl
def HS := AH OU 128 (MD.AF (fun xa xo => EW xa.1 xa.2.1))
theorem OV : OKs HS := fn_A VK Tryz.func128 SR
def AEY : AG := ⟨.obj 0 <| .nil, [(186, .val int <| .skip <| .skip <| .AI (.sl int) <| .skip <| .skip <| .AI (.sl int) <| .AI (.sl int) <| .AI (.sl int) <| .val int <| .skip <| .skip <| .skip <| .skip <| .skip <| .skip <| .skip <| .skip <| .nil)], .val int <| .nil, []⟩
def AJ0 (nn : Nat) : Nat -> Option Af := fun n =>
 bif Nat.beq n 3 then some ⟨{ env := [(3, .dat int), (11, .dat int)], heap := [], keep := [0, 2, 9, 10], AN := [1] }, fun _ => nn⟩ else
 bif Nat.beq n 8 then some ⟨{ env := [(3, .dat int)], heap := [(1, .box 186 ((ASh.dat int).cons ((ASh.opq 18).cons ((ASh.opq 19).cons ((ASh.idn 20 int.sl).cons ((ASh.opq 21).cons ((ASh.opq 22).cons ((ASh.idn 23 int.sl).cons ((ASh.idn 24 int.sl).cons ((ASh.idn 25 int.sl).cons ((ASh.dat int).cons ((ASh.opq 27).cons ((ASh.opq 28).cons ((ASh.opq 29).cons ((ASh.opq 30).cons ((ASh.opq 31).cons ((ASh.opq 32).cons ((ASh.opq 33).cons ((ASh.opq 34).cons ASh.nil)))))))))))))))))))], keep := [0, 2, 9, 10, 11], AN := [] }, fun _ => nn⟩ else
 none
theorem AHY : ∀ (nn : Nat)  xa xo, (AEY.prog (mkC Tryz.prog HS ⟨false, false⟩ (AJ0 nn) noJ) Tryz.f169 xa xo).run = AIq nn xo.1.1 xo.1.2.1 xo.1.2.2.1 xo.1.2.2.2.1 xo.1.2.2.2.2.1 xo.1.2.2.2.2.2.1 := by intros; kernel_rfl
def SS := AH HS 169 (AEY.AF (fun xa xo => pick xo.1.1 xo.1.2.1 xo.1.2.2.1 xo.1.2.2.2.1 xo.1.2.2.2.2.1 xo.1.2.2.2.2.2.1))
theorem ABa : OKs SS := fn_A OV Tryz.func169 (AHY AK)
def Ez : AG := ⟨.AI (.sl int) <| .nil, [], .own 3 int <| .nil, []⟩
theorem ABb (s : LI) (y : Ez.oty.den) : Ez.Qk (mkC Tryz.prog SS ⟨false, false⟩ (fun _ => none) (fun _ => none)) Tryz.f66 (s, ()) () y =
 ((s = [] -> some (([], ()), (), ()) = some y) /\ (([] : LI).length + s.length) * 8 <= lim /\ ([] : LI).length + s.length <= lim /\ some (([] ++ s, ()), (), ()) = some y) := by kernel_rfl
theorem ABc (xa : Ez.args.ty.den) (xo : (AY Ez.Aa).den) (y : Ez.oty.den) (h : Ev xa.1 = some y) : Ez.Qk (mkC Tryz.prog SS ⟨false, false⟩ (fun _ => none) (fun _ => none)) Tryz.f66 xa xo y := by
 have e := ABb xa.1 y
 refine e.mpr ?_
 unfold Ev at h
 obtain ⟨h1, h⟩ := Hw.1 h
 obtain ⟨h2, h⟩ := Hw.1 h
 refine ⟨fun hs => ?_, h1, h2, ?_⟩
 ·rw [hs] at h; exact h
 ·exact h
def OW := AH SS 66 (Ez.AF (fun xa xo => Ev xa.1))
theorem VL : OKs OW := U3 ABa fol Tryz.func66 (by kernel_rfl) (by kernel_rfl) (by kernel_rfl) ABc
end AL
end
end
section
noncomputable section
set_option linter.unusedVariables false
set_option maxHeartbeats 0
set_option maxRecDepth 100000
namespace AL
open Go Go.Proofs
def AEZ : AG := ⟨.own 3 int <| .val int <| .nil, [], .own 3 int <| .nil, []⟩
theorem AHZ : ∀  xa xo, (AEZ.prog (mkC Tryz.prog OW ⟨false, false⟩ noL noJ) Tryz.f161 xa xo).run = more  xa.1 xa.2.1 := by intros; kernel_rfl
def Xr := AH OW 161 (AEZ.AF (fun xa xo => more xa.1 xa.2.1))
theorem ABd : OKs Xr := fn_A VL Tryz.func161 AHZ
def AEa : AG := ⟨.obj 0 <| .val int <| .nil, [(186, .val int <| .skip <| .By 43 3 int <| .own 3 int <| .own 3 int <| .own 3 int <| .own 3 int <| .own 3 int <| .skip <| .skip <| .skip <| .skip <| .skip <| .skip <| .skip <| .skip <| .skip <| .skip <| .nil)], .nil, []⟩
theorem AHa : ∀  xa xo, (AEa.prog (mkC Tryz.prog Xr ⟨false, false⟩ noL noJ) Tryz.f123 xa xo).run = grow  xa.1 xo.1.1 xo.1.2.1 xo.1.2.2.1 xo.1.2.2.2.1 xo.1.2.2.2.2.1 xo.1.2.2.2.2.2.1 xo.1.2.2.2.2.2.2.1 := by intros; kernel_rfl
def Xs := AH Xr 123 (AEa.AF (fun xa xo => grow xa.1 xo.1.1 xo.1.2.1 xo.1.2.2.1 xo.1.2.2.2.1 xo.1.2.2.2.2.1 xo.1.2.2.2.2.2.1 xo.1.2.2.2.2.2.2.1))
theorem ABe : OKs Xs := fn_A ABd Tryz.func123 AHa
def AJB : AG := ⟨.val int <| .nil, [], .obj 0 <| .nil, [(186, .val int <| .By 43 3 int <| .By 43 3 int <| .own 3 int <| .own 3 int <| .own 3 int <| .own 3 int <| .own 3 int <| .own 3 int <| .val int <| .own 3 int <| .own 3 int <| .val int <| .val .bool <| .own 43 (.sl int) <| .val int <| .own 3 int <| .own 4 .bool <| .nil)]⟩
theorem AJ1 : ∀  xa xo, (AJB.prog (mkC Tryz.prog Xs ⟨false, false⟩ noL noJ) Tryz.f101 xa xo).run = New  xa.1 := by intros; kernel_rfl
def AEb := AH Xs 101 (AJB.AF (fun xa xo => New xa.1))
theorem AEc : OKs AEb := fn_A ABe Tryz.func101 AJ1
def AJC : AG := ⟨.obj 0 <| .val (.sl int) <| .nil, [(186, .val int <| .By 43 3 int <| .By 43 3 int <| .own 3 int <| .own 3 int <| .own 3 int <| .own 3 int <| .skip <| .skip <| .val int <| .own 3 int <| .own 3 int <| .val int <| .val .bool <| .skip <| .val int <| .own 3 int <| .own 4 .bool <| .nil)], .nil, []⟩
def AKv (nn : Nat) : Nat -> Option Af := fun n =>
 bif Nat.beq n 5 then some ⟨{ env := [(4, .arr 49), (17, .dat int)], heap := [(1, .box 186 ((ASh.dat int).cons ((ASh.arr 19).cons ((ASh.arr 20).cons ((ASh.arr 533).cons ((ASh.arr 22).cons ((ASh.arr 23).cons ((ASh.arr 536).cons ((ASh.opq 25).cons ((ASh.opq 26).cons ((ASh.dat int).cons ((ASh.arr 540).cons ((ASh.arr 541).cons ((ASh.dat int).cons ((ASh.dat Ty.bool).cons ((ASh.opq 32).cons ((ASh.dat int).cons ((ASh.arr 161).cons ((ASh.arr 162).cons ASh.nil))))))))))))))))))), (49, .arr 3 int)], keep := [0, 1, 15, 16], AN := [19, 20, 533, 22, 23, 536, 540, 541, 161, 162] }, fun _ => nn⟩ else
 none
theorem AJ2 : ∀ (nn : Nat)  xa xo, (AJC.prog (mkC Tryz.prog AEb ⟨false, false⟩ (AKv nn) noJ) Tryz.f103 xa xo).run = AKl nn xa.1 xo.1.1 xo.1.2.1 xo.1.2.2.1 xo.1.2.2.2.1 xo.1.2.2.2.2.1 xo.1.2.2.2.2.2.1 xo.1.2.2.2.2.2.2.1 xo.1.2.2.2.2.2.2.2.1 xo.1.2.2.2.2.2.2.2.2.1 xo.1.2.2.2.2.2.2.2.2.2.1 xo.1.2.2.2.2.2.2.2.2.2.2.1 xo.1.2.2.2.2.2.2.2.2.2.2.2.1 xo.1.2.2.2.2.2.2.2.2.2.2.2.2.1 xo.1.2.2.2.2.2.2.2.2.2.2.2.2.2.1 xo.1.2.2.2.2.2.2.2.2.2.2.2.2.2.2.1 := by intros; kernel_rfl
def AEd := AH AEb 103 (AJC.AF (fun xa xo => Add xa.1 xo.1.1 xo.1.2.1 xo.1.2.2.1 xo.1.2.2.2.1 xo.1.2.2.2.2.1 xo.1.2.2.2.2.2.1 xo.1.2.2.2.2.2.2.1 xo.1.2.2.2.2.2.2.2.1 xo.1.2.2.2.2.2.2.2.2.1 xo.1.2.2.2.2.2.2.2.2.2.1 xo.1.2.2.2.2.2.2.2.2.2.2.1 xo.1.2.2.2.2.2.2.2.2.2.2.2.1 xo.1.2.2.2.2.2.2.2.2.2.2.2.2.1 xo.1.2.2.2.2.2.2.2.2.2.2.2.2.2.1 xo.1.2.2.2.2.2.2.2.2.2.2.2.2.2.2.1))
theorem AEe : OKs AEd := fn_A AEc Tryz.func103 (AJ2 AK)
def AEf : AG := ⟨.obj 0 <| .nil, [(186, .skip <| .skip <| .skip <| .skip <| .skip <| .skip <| .skip <| .skip <| .skip <| .skip <| .skip <| .skip <| .skip <| .skip <| .skip <| .skip <| .AI (.sl int) <| .skip <| .nil)], .own 3 int <| .nil, []⟩
theorem AHb : ∀  xa xo, (AEf.prog (mkC Tryz.prog AEd ⟨false, false⟩ noL noJ) Tryz.f107 xa xo).run = Core  xo.1.1 := by intros; kernel_rfl
def Xt := AH AEd 107 (AEf.AF (fun xa xo => Core xo.1.1))
theorem ABf : OKs Xt := fn_A AEe Tryz.func107 AHb
def AAQ : AG := ⟨.obj 0 <| .nil, [(186, .skip <| .skip <| .skip <| .skip <| .skip <| .skip <| .skip <| .skip <| .skip <| .skip <| .skip <| .skip <| .skip <| .skip <| .own 43 (.sl int) <| .val int <| .skip <| .skip <| .nil)], .own 43 (.sl int) <| .nil, []⟩
def AHc (nn : Nat) : Nat -> Option Af := fun n =>
 bif Nat.beq n 5 then some ⟨{ env := [(3, .arr 49), (16, .dat int)], heap := [(49, .arr 43 int.sl)], keep := [0, 2, 14, 15], AN := [1, 31] }, fun _ => nn⟩ else
 none
theorem AEg : ∀ (nn : Nat)  xa xo, (AAQ.prog (mkC Tryz.prog Xt ⟨false, false⟩ (AHc nn) noJ) Tryz.f106 xa xo).run = ADv nn xo.1.1 xo.1.2.1 := by intros; kernel_rfl
def SU := AH Xt 106 (AAQ.AF (fun xa xo => Proof xo.1.1 xo.1.2.1))
theorem Xu : OKs SU := fn_A ABf Tryz.func106 (AEg AK)
def AAR : AG := ⟨.obj 0 <| .val int <| .nil, [(186, .skip <| .By 43 3 int <| .skip <| .skip <| .skip <| .AI (.sl int) <| .skip <| .skip <| .skip <| .skip <| .AI (.sl int) <| .AI (.sl int) <| .skip <| .skip <| .skip <| .skip <| .skip <| .skip <| .nil)], .own 3 int <| .nil, []⟩
def AHd (nn : Nat) : Nat -> Option Af := fun n =>
 bif Nat.beq n 4 then some ⟨{ env := [(7, .dat int), (5, .arr 192)], heap := [(19, .BC 43 3 int []), (192, .arr 3 int), (192, .arr 3 int), (320, .mp int Ty.bool)], keep := [0, 1, 4, 6], AN := [1] }, fun _ => nn⟩ else
 bif Nat.beq n 11 then some ⟨{ env := [(85, .dat int)], heap := [(320, .mp int Ty.bool)], keep := [0, 1, 4, 5, 6, 7, 8, 83, 84], AN := [1, 19, 4672, 192] }, fun _ => nn⟩ else
 none
theorem AEh : ∀ (nn : Nat)  xa xo, (AAR.prog (mkC Tryz.prog SU ⟨false, false⟩ (AHd nn) noJ) Tryz.f168 xa xo).run = ADw nn xa.1 xo.1.1 xo.1.2.1 xo.1.2.2.1 xo.1.2.2.2.1 := by intros; kernel_rfl
def SV := AH SU 168 (AAR.AF (fun xa xo => AIr xa.1 xo.1.1 xo.1.2.1 xo.1.2.2.1 xo.1.2.2.2.1))
theorem Xv : OKs SV := fn_A Xu Tryz.func168 (AEh AK)
def AAS : AG := ⟨.obj 0 <| .val int <| .nil, [(186, .skip <| .By 43 3 int <| .skip <| .AI (.sl int) <| .AI (.sl int) <| .AI (.sl int) <| .skip <| .own 3 int <| .own 3 int <| .skip <| .AI (.sl int) <| .AI (.sl int) <| .skip <| .skip <| .skip <| .skip <| .skip <| .skip <| .nil)], .own 3 int <| .val int <| .nil, []⟩
def AHe (nn : Nat) : Nat -> Option Af := fun n =>
 bif Nat.beq n 5 then some ⟨{ env := [(7, .arr 320), (8, .dat int), (9, .dat int), (10, .arr 1280)], heap := [(1, .box 186 ((ASh.opq 18).cons ((ASh.arr 19).cons ((ASh.opq 20).cons ((ASh.idn 21 int.sl).cons ((ASh.idn 22 int.sl).cons ((ASh.idn 23 int.sl).cons ((ASh.opq 24).cons ((ASh.arr 25).cons ((ASh.arr 26).cons ((ASh.opq 27).cons ((ASh.idn 28 int.sl).cons ((ASh.idn 29 int.sl).cons ((ASh.opq 30).cons ((ASh.opq 31).cons ((ASh.opq 32).cons ((ASh.opq 33).cons ((ASh.opq 34).cons ((ASh.opq 35).cons ASh.nil))))))))))))))))))), (19, .BC 43 3 int [1280]), (1280, .arr 3 int), (1280, .arr 3 int), (25, .arr 3 int), (26, .arr 3 int), (192, .mp int Ty.bool), (320, .arr 3 int)], keep := [0, 1, 4, 5, 6], AN := [] }, fun _ => nn⟩ else
 bif Nat.beq n 6 then some ⟨{ env := [(34, .dat int), (8, .dat int), (7, .arr 320)], heap := [(1, .box 186 ((ASh.opq 18).cons ((ASh.arr 19).cons ((ASh.opq 20).cons ((ASh.idn 21 int.sl).cons ((ASh.idn 22 int.sl).cons ((ASh.idn 23 int.sl).cons ((ASh.opq 24).cons ((ASh.arr 25).cons ((ASh.arr 26).cons ((ASh.opq 27).cons ((ASh.idn 28 int.sl).cons ((ASh.idn 29 int.sl).cons ((ASh.opq 30).cons ((ASh.opq 31).cons ((ASh.opq 32).cons ((ASh.opq 33).cons ((ASh.opq 34).cons ((ASh.opq 35).cons ASh.nil))))))))))))))))))), (25, .arr 3 int), (26, .arr 3 int), (192, .mp int Ty.bool), (320, .arr 3 int), (320, .arr 3 int)], keep := [0, 1, 4, 5, 6, 9, 10, 32, 33], AN := [19, 1280] }, fun _ => nn⟩ else
 bif Nat.beq n 19 then some ⟨{ env := [(9, .dat int)], heap := [], keep := [0, 1, 4, 5, 6, 7, 8, 10, 32, 33, 34], AN := [1, 19, 1280, 25, 26, 192, 320] }, fun _ => nn⟩ else
 bif Nat.beq n 28 then some ⟨{ env := [(15, .dat int), (16, .dat int)], heap := [(320, .arr 3 int)], keep := [0, 1, 4, 5, 6, 7, 8, 9, 10, 14, 32, 33, 34], AN := [1, 19, 1280, 25, 26, 192] }, fun _ => nn⟩ else
 none
theorem AEi : ∀ (nn : Nat)  xa xo, (AAS.prog (mkC Tryz.prog SV ⟨false, true⟩ (AHe nn) noJ) Tryz.f223 xa xo).run = ADx nn xa.1 xo.1.1 xo.1.2.1 xo.1.2.2.1 xo.1.2.2.2.1 xo.1.2.2.2.2.1 xo.1.2.2.2.2.2.1 xo.1.2.2.2.2.2.2.1 xo.1.2.2.2.2.2.2.2.1 := by intros; kernel_rfl
def SW := AH SV 223 (AAS.AF (fun xa xo => AIs xa.1 xo.1.1 xo.1.2.1 xo.1.2.2.1 xo.1.2.2.2.1 xo.1.2.2.2.2.1 xo.1.2.2.2.2.2.1 xo.1.2.2.2.2.2.2.1 xo.1.2.2.2.2.2.2.2.1))
theorem Xw : OKs SW := fn_A Xv Tryz.func223 (AEi AK)
def AEj : AG := ⟨.obj 0 <| .nil, [(186, .skip <| .By 43 3 int <| .By 43 3 int <| .own 3 int <| .own 3 int <| .own 3 int <| .skip <| .skip <| .skip <| .skip <| .own 3 int <| .AI (.sl int) <| .val int <| .skip <| .skip <| .skip <| .skip <| .skip <| .nil)], .val int <| .nil, []⟩
def AJ3 (nn : Nat) : Nat -> Option Af := fun n =>
 bif Nat.beq n 1 then some ⟨{ env := [], heap := [(1, .box 186 ((ASh.opq 17).cons ((ASh.arr 18).cons ((ASh.arr 19).cons ((ASh.arr 20).cons ((ASh.arr 21).cons ((ASh.arr 22).cons ((ASh.opq 23).cons ((ASh.opq 24).cons ((ASh.opq 25).cons ((ASh.opq 26).cons ((ASh.arr 27).cons ((ASh.idn 28 int.sl).cons ((ASh.dat int).cons ((ASh.opq 30).cons ((ASh.opq 31).cons ((ASh.opq 32).cons ((ASh.opq 33).cons ((ASh.opq 34).cons ASh.nil))))))))))))))))))), (18, .BC 43 3 int []), (19, .BC 43 3 int []), (20, .arr 3 int), (21, .arr 3 int), (22, .arr 3 int), (27, .arr 3 int)], keep := [0, 2], AN := [] }, fun _ => nn⟩ else
 bif Nat.beq n 7 then some ⟨{ env := [(5, .dat int), (48, .dat int)], heap := [(1, .box 186 ((ASh.opq 17).cons ((ASh.arr 18).cons ((ASh.arr 19).cons ((ASh.arr 20).cons ((ASh.arr 21).cons ((ASh.arr 22).cons ((ASh.opq 23).cons ((ASh.opq 24).cons ((ASh.opq 25).cons ((ASh.opq 26).cons ((ASh.arr 27).cons ((ASh.idn 28 int.sl).cons ((ASh.dat int).cons ((ASh.opq 30).cons ((ASh.opq 31).cons ((ASh.opq 32).cons ((ASh.opq 33).cons ((ASh.opq 34).cons ASh.nil))))))))))))))))))), (18, .BC 43 3 int []), (19, .BC 43 3 int [2496]), (2496, .arr 3 int), (20, .arr 3 int), (21, .arr 3 int), (22, .arr 3 int), (27, .arr 3 int)], keep := [0, 2, 3, 4, 46, 47], AN := [] }, fun _ => nn⟩ else
 bif Nat.beq n 16 then some ⟨{ env := [(9, .dat int)], heap := [(1, .box 186 ((ASh.opq 17).cons ((ASh.arr 18).cons ((ASh.arr 19).cons ((ASh.arr 20).cons ((ASh.arr 21).cons ((ASh.arr 22).cons ((ASh.opq 23).cons ((ASh.opq 24).cons ((ASh.opq 25).cons ((ASh.opq 26).cons ((ASh.arr 27).cons ((ASh.idn 28 int.sl).cons ((ASh.dat int).cons ((ASh.opq 30).cons ((ASh.opq 31).cons ((ASh.opq 32).cons ((ASh.opq 33).cons ((ASh.opq 34).cons ASh.nil)))))))))))))))))))], keep := [0, 2, 3, 4, 5, 6, 7, 8, 46, 47, 48], AN := [18, 3648, 19, 2496, 20, 21, 22, 27] }, fun _ => nn⟩ else
 none
def AJ4 : Nat -> Option Shape := fun n =>
 bif Nat.beq n 12 then some ({ env := [], heap := [(3648, .arr 3 int)], keep := [0, 2, 3, 4, 5, 6, 7, 8, 46, 47, 48], AN := [1, 18, 19, 2496, 20, 21, 22, 27] }) else
 bif Nat.beq n 21 then some ({ env := [(9, .dat int)], heap := [(1, .box 186 ((ASh.opq 17).cons ((ASh.arr 18).cons ((ASh.arr 19).cons ((ASh.arr 20).cons ((ASh.arr 21).cons ((ASh.arr 22).cons ((ASh.opq 23).cons ((ASh.opq 24).cons ((ASh.opq 25).cons ((ASh.opq 26).cons ((ASh.arr 27).cons ((ASh.idn 28 int.sl).cons ((ASh.dat int).cons ((ASh.opq 30).cons ((ASh.opq 31).cons ((ASh.opq 32).cons ((ASh.opq 33).cons ((ASh.opq 34).cons ASh.nil)))))))))))))))))))], keep := [0, 2, 3, 4, 5, 6, 7, 8, 46, 47, 48], AN := [18, 3648, 19, 2496, 20, 21, 22, 27] }) else
 bif Nat.beq n 29 then some ({ env := [(5, .dat int), (46, .arr 2496), (47, .dat int), (48, .dat int)], heap := [(1, .box 186 ((ASh.opq 17).cons ((ASh.arr 18).cons ((ASh.arr 19).cons ((ASh.arr 20).cons ((ASh.arr 21).cons ((ASh.arr 22).cons ((ASh.opq 23).cons ((ASh.opq 24).cons ((ASh.opq 25).cons ((ASh.opq 26).cons ((ASh.arr 27).cons ((ASh.idn 28 int.sl).cons ((ASh.dat int).cons ((ASh.opq 30).cons ((ASh.opq 31).cons ((ASh.opq 32).cons ((ASh.opq 33).cons ((ASh.opq 34).cons ASh.nil))))))))))))))))))), (18, .BC 43 3 int []), (19, .BC 43 3 int [2496]), (2496, .arr 3 int), (20, .arr 3 int), (21, .arr 3 int), (22, .arr 3 int), (27, .arr 3 int)], keep := [0, 2, 3, 4], AN := [] }) else
 none
theorem unit_eq : ∀ (nn : Nat)  xa xo, (AEj.prog (mkC Tryz.prog SW ⟨false, false⟩ (AJ3 nn) AJ4) Tryz.f166 xa xo).run = AIt nn xo.1.1 xo.1.2.1 xo.1.2.2.1 xo.1.2.2.2.1 xo.1.2.2.2.2.1 xo.1.2.2.2.2.2.1 xo.1.2.2.2.2.2.2.1 xo.1.2.2.2.2.2.2.2.1 := by intros; kernel_rfl
def Xx := AH SW 166 (AEj.AF (fun xa xo => unit xo.1.1 xo.1.2.1 xo.1.2.2.1 xo.1.2.2.2.1 xo.1.2.2.2.2.1 xo.1.2.2.2.2.2.1 xo.1.2.2.2.2.2.2.1 xo.1.2.2.2.2.2.2.2.1))
theorem ABg : OKs Xx := fn_A Xw Tryz.func166 (unit_eq AK)
end AL
end
end
section
noncomputable section
set_option linter.unusedVariables false
set_option maxHeartbeats 0
set_option maxRecDepth 100000
namespace AL
open Go Go.Proofs
def AEk : AG := ⟨.obj 0 <| .val int <| .nil, [(186, .skip <| .By 43 3 int <| .By 43 3 int <| .own 3 int <| .own 3 int <| .own 3 int <| .own 3 int <| .own 3 int <| .own 3 int <| .val int <| .own 3 int <| .own 3 int <| .val int <| .skip <| .own 43 (.sl int) <| .skip <| .skip <| .skip <| .nil)], .nil, []⟩
theorem AHf : ∀  xa xo, (AEk.prog (mkC Tryz.prog Xx ⟨false, false⟩ noL noJ) Tryz.f167 xa xo).run = take  xa.1 xo.1.1 xo.1.2.1 xo.1.2.2.1 xo.1.2.2.2.1 xo.1.2.2.2.2.1 xo.1.2.2.2.2.2.1 xo.1.2.2.2.2.2.2.1 xo.1.2.2.2.2.2.2.2.1 xo.1.2.2.2.2.2.2.2.2.1 xo.1.2.2.2.2.2.2.2.2.2.1 xo.1.2.2.2.2.2.2.2.2.2.2.1 xo.1.2.2.2.2.2.2.2.2.2.2.2.1 xo.1.2.2.2.2.2.2.2.2.2.2.2.2.1 := by intros; kernel_rfl
def Xy := AH Xx 167 (AEk.AF (fun xa xo => take xa.1 xo.1.1 xo.1.2.1 xo.1.2.2.1 xo.1.2.2.2.1 xo.1.2.2.2.2.1 xo.1.2.2.2.2.2.1 xo.1.2.2.2.2.2.2.1 xo.1.2.2.2.2.2.2.2.1 xo.1.2.2.2.2.2.2.2.2.1 xo.1.2.2.2.2.2.2.2.2.2.1 xo.1.2.2.2.2.2.2.2.2.2.2.1 xo.1.2.2.2.2.2.2.2.2.2.2.2.1 xo.1.2.2.2.2.2.2.2.2.2.2.2.2.1))
theorem ABh : OKs Xy := fn_A ABg Tryz.func167 AHf
def VM : AG := ⟨.obj 0 <| .val (.sl int) <| .val int <| .nil, [(186, .val int <| .By 43 3 int <| .By 43 3 int <| .own 3 int <| .own 3 int <| .own 3 int <| .own 3 int <| .own 3 int <| .own 3 int <| .val int <| .own 3 int <| .own 3 int <| .val int <| .val .bool <| .own 43 (.sl int) <| .skip <| .own 3 int <| .skip <| .nil)], .val int <| .nil, []⟩
def AEl (nn : Nat) : Nat -> Option Af := fun n =>
 bif Nat.beq n 2 then some ⟨{ env := [(7, .dat int)], heap := [(1, .box 186 ((ASh.dat int).cons ((ASh.arr 20).cons ((ASh.arr 21).cons ((ASh.arr 22).cons ((ASh.arr 23).cons ((ASh.arr 24).cons ((ASh.arr 25).cons ((ASh.arr 26).cons ((ASh.arr 27).cons ((ASh.dat int).cons ((ASh.arr 29).cons ((ASh.arr 30).cons ((ASh.dat int).cons ((ASh.dat Ty.bool).cons ((ASh.arr 33).cons ((ASh.opq 34).cons ((ASh.arr 35).cons ((ASh.opq 36).cons ASh.nil))))))))))))))))))), (20, .BC 43 3 int []), (21, .BC 43 3 int []), (22, .arr 3 int), (23, .arr 3 int), (24, .arr 3 int), (25, .arr 3 int), (26, .arr 3 int), (27, .arr 3 int), (29, .arr 3 int), (30, .arr 3 int), (33, .arr 43 int.sl)], keep := [0, 1, 2, 6], AN := [35] }, fun _ => nn⟩ else
 bif Nat.beq n 12 then some ⟨{ env := [], heap := [(1, .box 186 ((ASh.dat int).cons ((ASh.arr 274).cons ((ASh.arr 275).cons ((ASh.arr 276).cons ((ASh.arr 277).cons ((ASh.arr 278).cons ((ASh.arr 25).cons ((ASh.arr 26).cons ((ASh.arr 27).cons ((ASh.dat int).cons ((ASh.arr 283).cons ((ASh.arr 30).cons ((ASh.dat int).cons ((ASh.dat Ty.bool).cons ((ASh.arr 33).cons ((ASh.opq 34).cons ((ASh.arr 35).cons ((ASh.opq 36).cons ASh.nil))))))))))))))))))), (30, .arr 3 int)], keep := [0, 1, 2, 6, 7, 8, 9], AN := [274, 275, 276, 277, 278, 25, 26, 27, 283, 33, 35] }, fun _ => nn⟩ else
 none
theorem ABi : ∀ (nn : Nat)  xa xo, (VM.prog (mkC Tryz.prog Xy ⟨false, false⟩ (AEl nn) noJ) Tryz.f131 xa xo).run = Z8 nn xa.1 xa.2.1 xo.1.1 xo.1.2.1 xo.1.2.2.1 xo.1.2.2.2.1 xo.1.2.2.2.2.1 xo.1.2.2.2.2.2.1 xo.1.2.2.2.2.2.2.1 xo.1.2.2.2.2.2.2.2.1 xo.1.2.2.2.2.2.2.2.2.1 xo.1.2.2.2.2.2.2.2.2.2.1 xo.1.2.2.2.2.2.2.2.2.2.2.1 xo.1.2.2.2.2.2.2.2.2.2.2.2.1 xo.1.2.2.2.2.2.2.2.2.2.2.2.2.1 xo.1.2.2.2.2.2.2.2.2.2.2.2.2.2.1 xo.1.2.2.2.2.2.2.2.2.2.2.2.2.2.2.1 xo.1.2.2.2.2.2.2.2.2.2.2.2.2.2.2.2.1 := by intros; kernel_rfl
def OX := AH Xy 131 (VM.AF (fun xa xo => search xa.1 xa.2.1 xo.1.1 xo.1.2.1 xo.1.2.2.1 xo.1.2.2.2.1 xo.1.2.2.2.2.1 xo.1.2.2.2.2.2.1 xo.1.2.2.2.2.2.2.1 xo.1.2.2.2.2.2.2.2.1 xo.1.2.2.2.2.2.2.2.2.1 xo.1.2.2.2.2.2.2.2.2.2.1 xo.1.2.2.2.2.2.2.2.2.2.2.1 xo.1.2.2.2.2.2.2.2.2.2.2.2.1 xo.1.2.2.2.2.2.2.2.2.2.2.2.2.1 xo.1.2.2.2.2.2.2.2.2.2.2.2.2.2.1 xo.1.2.2.2.2.2.2.2.2.2.2.2.2.2.2.1 xo.1.2.2.2.2.2.2.2.2.2.2.2.2.2.2.2.1))
theorem VN : OKs OX := fn_A ABh Tryz.func131 (ABi AK)
def AJD : AG := ⟨.obj 0 <| .val (.sl int) <| .val int <| .nil, [(186, .val int <| .By 43 3 int <| .By 43 3 int <| .own 3 int <| .own 3 int <| .own 3 int <| .own 3 int <| .own 3 int <| .own 3 int <| .val int <| .own 3 int <| .own 3 int <| .val int <| .val .bool <| .own 43 (.sl int) <| .val int <| .own 3 int <| .own 4 .bool <| .nil)], .val int <| .nil, []⟩
def AKw (nn : Nat) : Nat -> Option Af := fun n =>
 bif Nat.beq n 11 then some ⟨{ env := [(7, .dat int)], heap := [(1, .box 186 ((ASh.dat int).cons ((ASh.arr 49).cons ((ASh.arr 50).cons ((ASh.arr 51).cons ((ASh.arr 52).cons ((ASh.arr 53).cons ((ASh.arr 54).cons ((ASh.arr 55).cons ((ASh.arr 56).cons ((ASh.dat int).cons ((ASh.arr 57).cons ((ASh.arr 58).cons ((ASh.dat int).cons ((ASh.dat Ty.bool).cons ((ASh.arr 59).cons ((ASh.dat int).cons ((ASh.arr 60).cons ((ASh.arr 226).cons ASh.nil))))))))))))))))))), (226, .arr 4 Ty.bool)], keep := [0, 1, 2, 6, 37], AN := [49, 50, 51, 52, 53, 54, 55, 56, 57, 58, 59, 60] }, fun _ => nn⟩ else
 bif Nat.beq n 17 then some ⟨{ env := [(8, .arr 61), (69, .dat int)], heap := [(61, .arr 3 int)], keep := [0, 1, 2, 6, 37, 67, 68], AN := [1, 49, 50, 51, 52, 53, 54, 55, 56, 57, 58, 59, 60, 226] }, fun _ => nn⟩ else
 none
def AKx : Nat -> Option Shape := fun n =>
 bif Nat.beq n 8 then some ({ env := [], heap := [(1, .box 186 ((ASh.dat int).cons ((ASh.arr 49).cons ((ASh.arr 50).cons ((ASh.arr 51).cons ((ASh.arr 52).cons ((ASh.arr 53).cons ((ASh.arr 54).cons ((ASh.arr 55).cons ((ASh.arr 56).cons ((ASh.dat int).cons ((ASh.arr 57).cons ((ASh.arr 58).cons ((ASh.dat int).cons ((ASh.dat Ty.bool).cons ((ASh.arr 59).cons ((ASh.dat int).cons ((ASh.arr 60).cons ((ASh.arr 226).cons ASh.nil))))))))))))))))))), (49, .BC 43 3 int []), (50, .BC 43 3 int []), (51, .arr 3 int), (52, .arr 3 int), (53, .arr 3 int), (54, .arr 3 int), (55, .arr 3 int), (56, .arr 3 int), (57, .arr 3 int), (58, .arr 3 int), (59, .arr 43 int.sl), (60, .arr 3 int)], keep := [0, 1, 2, 6], AN := [226] }) else
 none
theorem AJ5 : ∀ (nn : Nat)  xa xo, (AJD.prog (mkC Tryz.prog OX ⟨false, false⟩ (AKw nn) AKx) Tryz.f104 xa xo).run = AKm nn xa.1 xa.2.1 xo.1.1 xo.1.2.1 xo.1.2.2.1 xo.1.2.2.2.1 xo.1.2.2.2.2.1 xo.1.2.2.2.2.2.1 xo.1.2.2.2.2.2.2.1 xo.1.2.2.2.2.2.2.2.1 xo.1.2.2.2.2.2.2.2.2.1 xo.1.2.2.2.2.2.2.2.2.2.1 xo.1.2.2.2.2.2.2.2.2.2.2.1 xo.1.2.2.2.2.2.2.2.2.2.2.2.1 xo.1.2.2.2.2.2.2.2.2.2.2.2.2.1 xo.1.2.2.2.2.2.2.2.2.2.2.2.2.2.1 xo.1.2.2.2.2.2.2.2.2.2.2.2.2.2.2.1 xo.1.2.2.2.2.2.2.2.2.2.2.2.2.2.2.2.1 xo.1.2.2.2.2.2.2.2.2.2.2.2.2.2.2.2.2.1 xo.1.2.2.2.2.2.2.2.2.2.2.2.2.2.2.2.2.2.1 := by intros; kernel_rfl
def AEm := AH OX 104 (AJD.AF (fun xa xo => Ask xa.1 xa.2.1 xo.1.1 xo.1.2.1 xo.1.2.2.1 xo.1.2.2.2.1 xo.1.2.2.2.2.1 xo.1.2.2.2.2.2.1 xo.1.2.2.2.2.2.2.1 xo.1.2.2.2.2.2.2.2.1 xo.1.2.2.2.2.2.2.2.2.1 xo.1.2.2.2.2.2.2.2.2.2.1 xo.1.2.2.2.2.2.2.2.2.2.2.1 xo.1.2.2.2.2.2.2.2.2.2.2.2.1 xo.1.2.2.2.2.2.2.2.2.2.2.2.2.1 xo.1.2.2.2.2.2.2.2.2.2.2.2.2.2.1 xo.1.2.2.2.2.2.2.2.2.2.2.2.2.2.2.1 xo.1.2.2.2.2.2.2.2.2.2.2.2.2.2.2.2.1 xo.1.2.2.2.2.2.2.2.2.2.2.2.2.2.2.2.2.1 xo.1.2.2.2.2.2.2.2.2.2.2.2.2.2.2.2.2.2.1))
theorem AEn : OKs AEm := fn_A VN Tryz.func104 (AJ5 AK)
end AL
end
end
section
noncomputable section
set_option linter.unusedVariables false
set_option maxHeartbeats 0
set_option maxRecDepth 100000
namespace AL
open Go Go.Proofs
def AJE : AG := ⟨.val int <| .val int <| .nil, [], .agg (.val int <| .val int <| .nil) <| .nil, []⟩
theorem AJ6 : ∀  xa xo, (AJE.prog (mkC Tryz.prog AEm ⟨false, false⟩ noL noJ) Tryz.f253 xa xo).run = aOf  xa.1 xa.2.1 := by intros; kernel_rfl
def AEo := AH AEm 253 (AJE.AF (fun xa xo => aOf xa.1 xa.2.1))
theorem AEp : OKs AEo := fn_A AEn Tryz.func253 AJ6
def AJF : AG := ⟨.agg (.val int <| .val int <| .nil) <| .nil, [], .val int <| .nil, []⟩
theorem AJ7 : ∀  xa xo, (AJF.prog (mkC Tryz.prog AEo ⟨false, false⟩ noL noJ) Tryz.f276 xa xo).run = aR1  xa.1.1 xa.1.2.1 := by intros; kernel_rfl
def AEq := AH AEo 276 (AJF.AF (fun xa xo => aR1 xa.1.1 xa.1.2.1))
theorem AEr : OKs AEq := fn_A AEp Tryz.func276 AJ7
def AJG : AG := ⟨.agg (.val int <| .val int <| .nil) <| .nil, [], .val int <| .nil, []⟩
theorem AJ8 : ∀  xa xo, (AJG.prog (mkC Tryz.prog AEq ⟨false, false⟩ noL noJ) Tryz.f277 xa xo).run = aR2  xa.1.1 xa.1.2.1 := by intros; kernel_rfl
def AEs := AH AEq 277 (AJG.AF (fun xa xo => aR2 xa.1.1 xa.1.2.1))
theorem AEt : OKs AEs := fn_A AEr Tryz.func277 AJ8
def AJH : AG := ⟨.agg (.val int <| .val int <| .nil) <| .nil, [], .val .bool <| .nil, []⟩
theorem AJ9 : ∀  xa xo, (AJH.prog (mkC Tryz.prog AEs ⟨false, false⟩ noL noJ) Tryz.f278 xa xo).run = aR3  xa.1.1 xa.1.2.1 := by intros; kernel_rfl
def AEu := AH AEs 278 (AJH.AF (fun xa xo => aR3 xa.1.1 xa.1.2.1))
theorem AEv : OKs AEu := fn_A AEt Tryz.func278 AJ9
def AJI : AG := ⟨.agg (.val int <| .val int <| .nil) <| .nil, [], .val .bool <| .nil, []⟩
theorem AKA : ∀  xa xo, (AJI.prog (mkC Tryz.prog AEu ⟨false, false⟩ noL noJ) Tryz.f279 xa xo).run = aR4  xa.1.1 xa.1.2.1 := by intros; kernel_rfl
def AEw := AH AEu 279 (AJI.AF (fun xa xo => aR4 xa.1.1 xa.1.2.1))
theorem AEx : OKs AEw := fn_A AEv Tryz.func279 AKA
def AJJ : AG := ⟨.agg (.val int <| .val int <| .nil) <| .nil, [], .val .bool <| .nil, []⟩
theorem AKB : ∀  xa xo, (AJJ.prog (mkC Tryz.prog AEw ⟨false, false⟩ noL noJ) Tryz.f280 xa xo).run = aR5  xa.1.1 xa.1.2.1 := by intros; kernel_rfl
def AEy := AH AEw 280 (AJJ.AF (fun xa xo => aR5 xa.1.1 xa.1.2.1))
theorem AEz : OKs AEy := fn_A AEx Tryz.func280 AKB
def VO : AG := ⟨.nil, [], .DM (.fl 288 3 (.cons (.fn 278 .nil) <| .cons (.fn 276 .nil) <| .cons (.fn 279 .nil) <| .cons (.fn 276 .nil) <| .cons (.fn 280 .nil) <| .cons (.fn 277 .nil) .nil)) <| .nil, []⟩
theorem ABj : ∀  xa xo, (VO.prog (mkC Tryz.prog AEy ⟨false, false⟩ noL noJ) Tryz.f266 xa xo).run = XX   := by intros; kernel_rfl
def OY := AH AEy 266 (VO.AF (fun xa xo => XX ))
theorem ME : OKs OY := fn_A AEz Tryz.func266 ABj
def VP : AG := ⟨.agg (.val int <| .val int <| .nil) <| .nil, [], .val int <| .val .bool <| .nil, []⟩
theorem ABk : ∀  xa xo, (VP.ADe 80 (mkC Tryz.prog OY ⟨false, false⟩ (fun _ => none) (fun _ => none)) Tryz.f254 xa xo).run = N1  xa.1.1 xa.1.2.1 := by intros; kernel_rfl
def OZ := AH OY 254 (VP.AF (fun xa xo => N1 xa.1.1 xa.1.2.1))
theorem VQ : OKs OZ := AJi ME ME fol Tryz.func254 (by kernel_rfl) (by kernel_rfl) (by kernel_rfl) fun xa xo y hy => (ABk xa xo).trans hy
def VR : AG := ⟨.AI (.sl AR) <| .agg (.val int <| .val int <| .nil) <| .nil, [], .val int <| .nil, []⟩
def AE0 (nn : Nat) : Nat -> Option Af := fun n =>
 bif Nat.beq n 2 then some ⟨{ env := [(8, .dat int)], heap := [], keep := [0, 1, 3, 4, 7], AN := [64] }, fun _ => nn⟩ else
 none
theorem ABl : ∀ (nn : Nat)  xa xo, (VR.prog (mkC Tryz.prog OZ ⟨false, false⟩ (AE0 nn) noJ) Tryz.f255 xa xo).run = R7 nn xa.1 xa.2.1.1 xa.2.1.2.1 := by intros; kernel_rfl
def J3 := AH OZ 255 (VR.AF (fun xa xo => R8 xa.1 xa.2.1.1 xa.2.1.2.1))
theorem VS : OKs J3 := fn_A VQ Tryz.func255 (ABl AK)
def E0 : AG := ⟨.AI (.sl AR) <| .nil, [], .own 144 AR <| .nil, []⟩
theorem ABm (s : L2) (y : E0.oty.den) : E0.Qk (mkC Tryz.prog J3 ⟨false, false⟩ (fun _ => none) (fun _ => none)) Tryz.f256 (s, ()) () y =
 ((s = [] -> some (([], ()), (), ()) = some y) /\ (([] : L2).length + s.length) * 16 <= lim /\ ([] : L2).length + s.length <= lim /\ some (([] ++ s, ()), (), ()) = some y) := by kernel_rfl
theorem ABn (xa : E0.args.ty.den) (xo : (AY E0.Aa).den) (y : E0.oty.den) (h : N2 xa.1 = some y) : E0.Qk (mkC Tryz.prog J3 ⟨false, false⟩ (fun _ => none) (fun _ => none)) Tryz.f256 xa xo y := by
 have e := ABm xa.1 y
 refine e.mpr ?_
 unfold N2 at h
 obtain ⟨h1, h⟩ := Hw.1 h
 obtain ⟨h2, h⟩ := Hw.1 h
 refine ⟨fun hs => ?_, h1, h2, ?_⟩
 ·rw [hs] at h; exact h
 ·exact h
def Oa := AH J3 256 (E0.AF (fun xa xo => N2 xa.1))
theorem VT : OKs Oa := U3 VS fol Tryz.func256 (by kernel_rfl) (by kernel_rfl) (by kernel_rfl) ABn
def AE1 : AG := ⟨.agg (.val int <| .val (.sl AR) <| .nil) <| .val int <| .val int <| .nil, [], .agg (.val int <| .val (.sl AR) <| .nil) <| .val int <| .nil, []⟩
theorem AHg : ∀  xa xo, (AE1.prog (mkC Tryz.prog Oa ⟨false, false⟩ noL noJ) Tryz.f229 xa xo).run = ADy  xa.1.1 xa.1.2.1 xa.2.1 xa.2.2.1 := by intros; kernel_rfl
def Xz := AH Oa 229 (AE1.AF (fun xa xo => ADy xa.1.1 xa.1.2.1 xa.2.1 xa.2.2.1))
theorem ABo : OKs Xz := fn_A VT Tryz.func229 AHg
def AE2 : AG := ⟨.obj 0 <| .val int <| .val int <| .nil, [(176, .val int <| .val (.sl AR) <| .skip <| .skip <| .skip <| .skip <| .skip <| .skip <| .skip <| .skip <| .skip <| .skip <| .nil)], .val int <| .nil, []⟩
theorem AHh : ∀  xa xo, (AE2.prog (mkC Tryz.prog Xz ⟨false, false⟩ noL noJ) Tryz.f178 xa xo).run = Mg  xa.1 xa.2.1 xo.1.1 xo.1.2.1 := by intros; kernel_rfl
def X0 := AH Xz 178 (AE2.AF (fun xa xo => Mg xa.1 xa.2.1 xo.1.1 xo.1.2.1))
theorem ABp : OKs X0 := fn_A ABo Tryz.func178 AHh
def AJK : AG := ⟨.obj 0 <| .val int <| .val int <| .nil, [(176, .val int <| .val (.sl AR) <| .skip <| .skip <| .skip <| .skip <| .skip <| .skip <| .skip <| .skip <| .skip <| .skip <| .nil)], .val int <| .nil, []⟩
theorem AKC : ∀  xa xo, (AJK.prog (mkC Tryz.prog X0 ⟨false, false⟩ noL noJ) Tryz.f179 xa xo).run = mOr  xa.1 xa.2.1 xo.1.1 xo.1.2.1 := by intros; kernel_rfl
def AE3 := AH X0 179 (AJK.AF (fun xa xo => mOr xa.1 xa.2.1 xo.1.1 xo.1.2.1))
theorem AE4 : OKs AE3 := fn_A ABp Tryz.func179 AKC
def AE5 : AG := ⟨.obj 0 <| .val int <| .val int <| .nil, [(176, .val int <| .val (.sl AR) <| .skip <| .skip <| .skip <| .skip <| .skip <| .skip <| .skip <| .skip <| .skip <| .skip <| .nil)], .val int <| .nil, []⟩
theorem AHi : ∀  xa xo, (AE5.prog (mkC Tryz.prog AE3 ⟨false, false⟩ noL noJ) Tryz.f180 xa xo).run = R9  xa.1 xa.2.1 xo.1.1 xo.1.2.1 := by intros; kernel_rfl
def X1 := AH AE3 180 (AE5.AF (fun xa xo => R9 xa.1 xa.2.1 xo.1.1 xo.1.2.1))
theorem ABq : OKs X1 := fn_A AE4 Tryz.func180 AHi
def AE6 : AG := ⟨.obj 0 <| .val int <| .val int <| .val int <| .nil, [(176, .val int <| .val (.sl AR) <| .skip <| .skip <| .skip <| .skip <| .skip <| .skip <| .skip <| .skip <| .skip <| .skip <| .nil)], .val int <| .nil, []⟩
theorem AHj : ∀  xa xo, (AE6.prog (mkC Tryz.prog X1 ⟨false, false⟩ noL noJ) Tryz.f183 xa xo).run = XY  xa.1 xa.2.1 xa.2.2.1 xo.1.1 xo.1.2.1 := by intros; kernel_rfl
def X2 := AH X1 183 (AE6.AF (fun xa xo => XY xa.1 xa.2.1 xa.2.2.1 xo.1.1 xo.1.2.1))
theorem ABr : OKs X2 := fn_A ABq Tryz.func183 AHj
def Q0 : AG := ⟨.AI (.sl int) <| .nil, [], .own 3 int <| .nil, []⟩
def ABs (nn : Nat) : Nat -> Option Af := fun n =>
 bif Nat.beq n 3 then some ⟨{ env := [(9, .dat int)], heap := [(192, .arr 3 int)], keep := [0, 2, 3, 8], AN := [] }, fun _ => nn⟩ else
 none
theorem X3 : ∀ (nn : Nat)  xa xo, (Q0.prog (mkC Tryz.prog X2 ⟨false, false⟩ (ABs nn) noJ) Tryz.f175 xa xo).run = N3 nn xa.1 := by intros; kernel_rfl
def LM := AH X2 175 (Q0.AF (fun xa xo => GN xa.1))
theorem SX : OKs LM := fn_A ABr Tryz.func175 (X3 AK)
def AE7 : AG := ⟨.obj 0 <| .val (.sl int) <| .val (.sl int) <| .val int <| .nil, [(176, .val int <| .val (.sl AR) <| .skip <| .skip <| .skip <| .skip <| .skip <| .skip <| .skip <| .skip <| .skip <| .skip <| .nil)], .own 3 int <| .nil, []⟩
def AKD (nn : Nat) : Nat -> Option Af := fun n =>
 bif Nat.beq n 3 then some ⟨{ env := [(3, .dat int), (17, .dat int)], heap := [(1, .box 176 ((ASh.dat int).cons ((ASh.dat (int.pair (int.pair Ty.unit)).sl).cons ((ASh.opq 22).cons ((ASh.opq 23).cons ((ASh.opq 24).cons ((ASh.opq 25).cons ((ASh.opq 26).cons ((ASh.opq 27).cons ((ASh.opq 28).cons ((ASh.opq 29).cons ((ASh.opq 30).cons ((ASh.opq 31).cons ASh.nil))))))))))))), (256, .arr 3 int)], keep := [0, 1, 2, 8, 9, 16], AN := [] }, fun _ => nn⟩ else
 none
theorem AHk : ∀ (nn : Nat)  xa xo, (AE7.prog (mkC Tryz.prog LM ⟨false, false⟩ (AKD nn) noJ) Tryz.f181 xa xo).run = ADz nn xa.1 xa.2.1 xa.2.2.1 xo.1.1 xo.1.2.1 := by intros; kernel_rfl
def X4 := AH LM 181 (AE7.AF (fun xa xo => ABQ xa.1 xa.2.1 xa.2.2.1 xo.1.1 xo.1.2.1))
theorem ABt : OKs X4 := fn_A SX Tryz.func181 (AHk AK)
def J4 : AG := ⟨.obj 0 <| .D4 178 0 <| .nil, [(176, .val int <| .val (.sl AR) <| .skip <| .skip <| .skip <| .skip <| .skip <| .skip <| .skip <| .val (.sl int) <| .val (.sl int) <| .skip <| .nil)], .own 3 int <| .nil, []⟩
def AE8 (nn : Nat) : Nat -> Option Af := fun n =>
 bif Nat.beq n 3 then some ⟨{ env := [(15, .dat int)], heap := [(1, .box 176 ((ASh.dat int).cons ((ASh.dat (int.pair (int.pair Ty.unit)).sl).cons ((ASh.opq 20).cons ((ASh.opq 21).cons ((ASh.opq 22).cons ((ASh.opq 23).cons ((ASh.opq 24).cons ((ASh.opq 25).cons ((ASh.opq 26).cons ((ASh.dat int.sl).cons ((ASh.dat int.sl).cons ((ASh.opq 29).cons ASh.nil))))))))))))), (448, .arr 3 int)], keep := [0, 1, 4, 5, 14], AN := [] }, fun _ => nn⟩ else
 none
theorem ABu : ∀ (nn : Nat)  xa xo, (J4.prog (mkC Tryz.prog X4 ⟨false, false⟩ (AE8 nn) noJ) Tryz.f177 xa xo).run = Z9 nn xo.1.1 xo.1.2.1 xo.1.2.2.1 xo.1.2.2.2.1 := by intros; kernel_rfl
def Ob := AH X4 177 (J4.AF (fun xa xo => N4 xo.1.1 xo.1.2.1 xo.1.2.2.1 xo.1.2.2.2.1))
theorem MF : OKs Ob := fn_A ABt Tryz.func177 (ABu AK)
def AE9 : AG := ⟨.obj 0 <| .val (.sl int) <| .nil, [(176, .val int <| .val (.sl AR) <| .skip <| .skip <| .skip <| .skip <| .skip <| .skip <| .skip <| .skip <| .skip <| .skip <| .nil)], .val int <| .nil, []⟩
def AKE (nn : Nat) : Nat -> Option Af := fun n =>
 bif Nat.beq n 3 then some ⟨{ env := [(5, .dat int), (10, .dat int)], heap := [(1, .box 176 ((ASh.dat int).cons ((ASh.dat (int.pair (int.pair Ty.unit)).sl).cons ((ASh.opq 20).cons ((ASh.opq 21).cons ((ASh.opq 22).cons ((ASh.opq 23).cons ((ASh.opq 24).cons ((ASh.opq 25).cons ((ASh.opq 26).cons ((ASh.opq 27).cons ((ASh.opq 28).cons ((ASh.opq 29).cons ASh.nil)))))))))))))], keep := [0, 1, 4, 8, 9], AN := [] }, fun _ => nn⟩ else
 none
theorem AHl : ∀ (nn : Nat)  xa xo, (AE9.prog (mkC Tryz.prog Ob ⟨false, false⟩ (AKE nn) noJ) Tryz.f176 xa xo).run = AD0 nn xa.1 xo.1.1 xo.1.2.1 := by intros; kernel_rfl
def X5 := AH Ob 176 (AE9.AF (fun xa xo => ABR xa.1 xo.1.1 xo.1.2.1))
theorem ABv : OKs X5 := fn_A MF Tryz.func176 (AHl AK)
def VU : AG := ⟨.obj 0 <| .val int <| .nil, [(176, .val int <| .val (.sl AR) <| .skip <| .skip <| .skip <| .skip <| .skip <| .skip <| .skip <| .val (.sl int) <| .val (.sl int) <| .skip <| .nil)], .own 3 int <| .nil, []⟩
def AFA (nn : Nat) : Nat -> Option Af := fun n =>
 bif Nat.beq n 2 then some ⟨{ env := [(1, .dat int), (11, .dat int)], heap := [(1, .box 176 ((ASh.dat int).cons ((ASh.dat (int.pair (int.pair Ty.unit)).sl).cons ((ASh.opq 20).cons ((ASh.opq 21).cons ((ASh.opq 22).cons ((ASh.opq 23).cons ((ASh.opq 24).cons ((ASh.opq 25).cons ((ASh.opq 26).cons ((ASh.dat int.sl).cons ((ASh.dat int.sl).cons ((ASh.opq 29).cons ASh.nil)))))))))))))], keep := [0, 4, 10], AN := [] }, fun _ => nn⟩ else
 none
theorem ABw : ∀ (nn : Nat)  xa xo, (VU.prog (mkC Tryz.prog X5 ⟨false, false⟩ (AFA nn) noJ) Tryz.f182 xa xo).run = SA nn xa.1 xo.1.1 xo.1.2.1 xo.1.2.2.1 xo.1.2.2.2.1 := by intros; kernel_rfl
def Oc := AH X5 182 (VU.AF (fun xa xo => N5 xa.1 xo.1.1 xo.1.2.1 xo.1.2.2.1 xo.1.2.2.2.1))
theorem VV : OKs Oc := fn_A ABv Tryz.func182 (ABw AK)
def AFB : AG := ⟨.obj 0 <| .nil, [(176, .val int <| .val (.sl AR) <| .skip <| .val int <| .skip <| .skip <| .skip <| .val int <| .skip <| .skip <| .skip <| .skip <| .nil)], .own 3 int <| .nil, []⟩
def AKF (nn : Nat) : Nat -> Option Af := fun n =>
 bif Nat.beq n 3 then some ⟨{ env := [(13, .dat int)], heap := [(448, .arr 3 int)], keep := [0, 2, 3, 12], AN := [1] }, fun _ => nn⟩ else
 none
theorem AHm : ∀ (nn : Nat)  xa xo, (AFB.prog (mkC Tryz.prog Oc ⟨false, false⟩ (AKF nn) noJ) Tryz.f135 xa xo).run = AD1 nn xo.1.1 xo.1.2.1 xo.1.2.2.1 xo.1.2.2.2.1 := by intros; kernel_rfl
def X6 := AH Oc 135 (AFB.AF (fun xa xo => AHT xo.1.1 xo.1.2.1 xo.1.2.2.1 xo.1.2.2.2.1))
theorem ABx : OKs X6 := fn_A VV Tryz.func135 (AHm AK)
def AFC : AG := ⟨.obj 0 <| .nil, [(176, .val int <| .val (.sl AR) <| .skip <| .skip <| .skip <| .skip <| .skip <| .skip <| .skip <| .val (.sl int) <| .skip <| .skip <| .nil)], .own 3 int <| .nil, []⟩
theorem AHn : ∀  xa xo, (AFC.prog (mkC Tryz.prog X6 ⟨false, false⟩ noL noJ) Tryz.f136 xa xo).run = AD2  xo.1.1 xo.1.2.1 xo.1.2.2.1 := by intros; kernel_rfl
def X7 := AH X6 136 (AFC.AF (fun xa xo => AD2 xo.1.1 xo.1.2.1 xo.1.2.2.1))
theorem ABy : OKs X7 := fn_A ABx Tryz.func136 AHn
def VW : AG := ⟨.obj 0 <| .nil, [(176, .val int <| .val (.sl AR) <| .skip <| .skip <| .skip <| .skip <| .skip <| .skip <| .skip <| .val (.sl int) <| .skip <| .skip <| .nil)], .own 3 int <| .nil, []⟩
theorem ABz : ∀  xa xo, (VW.prog (mkC Tryz.prog X7 ⟨false, false⟩ noL noJ) Tryz.f137 xa xo).run = N6  xo.1.1 xo.1.2.1 xo.1.2.2.1 := by intros; kernel_rfl
def Od := AH X7 137 (VW.AF (fun xa xo => N6 xo.1.1 xo.1.2.1 xo.1.2.2.1))
theorem VX : OKs Od := fn_A ABy Tryz.func137 ABz
def Q2 : AG := ⟨.obj 0 <| .nil, [(176, .val int <| .val (.sl AR) <| .skip <| .skip <| .skip <| .skip <| .skip <| .skip <| .skip <| .val (.sl int) <| .skip <| .skip <| .nil)], .own 3 int <| .nil, []⟩
theorem X8 : ∀  xa xo, (Q2.prog (mkC Tryz.prog Od ⟨false, false⟩ noL noJ) Tryz.f138 xa xo).run = Jv  xo.1.1 xo.1.2.1 xo.1.2.2.1 := by intros; kernel_rfl
def LO := AH Od 138 (Q2.AF (fun xa xo => Jv xo.1.1 xo.1.2.1 xo.1.2.2.1))
theorem SY : OKs LO := fn_A VX Tryz.func138 X8
def VY : AG := ⟨.obj 0 <| .nil, [(176, .val int <| .val (.sl AR) <| .skip <| .skip <| .skip <| .skip <| .skip <| .skip <| .skip <| .val (.sl int) <| .val (.sl int) <| .skip <| .nil)], .own 3 int <| .nil, []⟩
theorem AB0 : ∀  xa xo, (VY.prog (mkC Tryz.prog LO ⟨false, false⟩ noL noJ) Tryz.f139 xa xo).run = SB  xo.1.1 xo.1.2.1 xo.1.2.2.1 xo.1.2.2.2.1 := by intros; kernel_rfl
def Oe := AH LO 139 (VY.AF (fun xa xo => SB xo.1.1 xo.1.2.1 xo.1.2.2.1 xo.1.2.2.2.1))
theorem VZ : OKs Oe := fn_A SY Tryz.func139 AB0
def AFD : AG := ⟨.obj 0 <| .nil, [(176, .val int <| .val (.sl AR) <| .skip <| .skip <| .skip <| .skip <| .skip <| .skip <| .skip <| .val (.sl int) <| .val (.sl int) <| .skip <| .nil)], .own 3 int <| .nil, []⟩
theorem AHo : ∀  xa xo, (AFD.prog (mkC Tryz.prog Oe ⟨false, false⟩ noL noJ) Tryz.f142 xa xo).run = AD3  xo.1.1 xo.1.2.1 xo.1.2.2.1 xo.1.2.2.2.1 := by intros; kernel_rfl
def X9 := AH Oe 142 (AFD.AF (fun xa xo => AD3 xo.1.1 xo.1.2.1 xo.1.2.2.1 xo.1.2.2.2.1))
theorem AB1 : OKs X9 := fn_A VZ Tryz.func142 AHo
def AFE : AG := ⟨.obj 0 <| .nil, [(176, .val int <| .val (.sl AR) <| .skip <| .skip <| .skip <| .skip <| .skip <| .skip <| .skip <| .val (.sl int) <| .val (.sl int) <| .skip <| .nil)], .own 3 int <| .nil, []⟩
theorem AHp : ∀  xa xo, (AFE.prog (mkC Tryz.prog X9 ⟨false, false⟩ noL noJ) Tryz.f143 xa xo).run = AD4  xo.1.1 xo.1.2.1 xo.1.2.2.1 xo.1.2.2.2.1 := by intros; kernel_rfl
def YA := AH X9 143 (AFE.AF (fun xa xo => AD4 xo.1.1 xo.1.2.1 xo.1.2.2.1 xo.1.2.2.2.1))
theorem AB2 : OKs YA := fn_A AB1 Tryz.func143 AHp
def AFF : AG := ⟨.obj 0 <| .nil, [(176, .val int <| .val (.sl AR) <| .skip <| .skip <| .skip <| .skip <| .skip <| .skip <| .skip <| .val (.sl int) <| .val (.sl int) <| .skip <| .nil)], .own 3 int <| .nil, []⟩
def AKG (nn : Nat) : Nat -> Option Af := fun n =>
 bif Nat.beq n 4 then some ⟨{ env := [(4, .arr 576), (21, .dat int)], heap := [(1, .box 176 ((ASh.dat int).cons ((ASh.dat (int.pair (int.pair Ty.unit)).sl).cons ((ASh.opq 19).cons ((ASh.opq 20).cons ((ASh.opq 21).cons ((ASh.opq 22).cons ((ASh.opq 23).cons ((ASh.opq 24).cons ((ASh.opq 25).cons ((ASh.dat int.sl).cons ((ASh.dat int.sl).cons ((ASh.opq 28).cons ASh.nil))))))))))))), (576, .arr 3 int), (576, .arr 3 int)], keep := [0, 2, 3, 19, 20], AN := [] }, fun _ => nn⟩ else
 bif Nat.beq n 8 then some ⟨{ env := [(8, .dat int)], heap := [(1, .box 176 ((ASh.dat int).cons ((ASh.dat (int.pair (int.pair Ty.unit)).sl).cons ((ASh.opq 19).cons ((ASh.opq 20).cons ((ASh.opq 21).cons ((ASh.opq 22).cons ((ASh.opq 23).cons ((ASh.opq 24).cons ((ASh.opq 25).cons ((ASh.dat int.sl).cons ((ASh.dat int.sl).cons ((ASh.opq 28).cons ASh.nil))))))))))))), (1536, .arr 3 int)], keep := [0, 2, 3, 4, 5, 6, 7, 19, 20, 21], AN := [576] }, fun _ => nn⟩ else
 none
theorem AHq : ∀ (nn : Nat)  xa xo, (AFF.prog (mkC Tryz.prog YA ⟨false, false⟩ (AKG nn) noJ) Tryz.f144 xa xo).run = AD5 nn xo.1.1 xo.1.2.1 xo.1.2.2.1 xo.1.2.2.2.1 := by intros; kernel_rfl
def YB := AH YA 144 (AFF.AF (fun xa xo => AHU xo.1.1 xo.1.2.1 xo.1.2.2.1 xo.1.2.2.2.1))
theorem AB3 : OKs YB := fn_A AB2 Tryz.func144 (AHq AK)
def AJL : AG := ⟨.obj 0 <| .nil, [(176, .val int <| .val (.sl AR) <| .skip <| .skip <| .skip <| .skip <| .skip <| .skip <| .skip <| .val (.sl int) <| .val (.sl int) <| .skip <| .nil)], .own 3 int <| .nil, []⟩
theorem AKH : ∀  xa xo, (AJL.prog (mkC Tryz.prog YB ⟨false, false⟩ noL noJ) Tryz.f147 xa xo).run = mLt  xo.1.1 xo.1.2.1 xo.1.2.2.1 xo.1.2.2.2.1 := by intros; kernel_rfl
def AFG := AH YB 147 (AJL.AF (fun xa xo => mLt xo.1.1 xo.1.2.1 xo.1.2.2.1 xo.1.2.2.2.1))
theorem AFH : OKs AFG := fn_A AB3 Tryz.func147 AKH
def AJM : AG := ⟨.obj 0 <| .nil, [(176, .val int <| .val (.sl AR) <| .skip <| .skip <| .skip <| .skip <| .skip <| .skip <| .skip <| .val (.sl int) <| .val (.sl int) <| .skip <| .nil)], .own 3 int <| .nil, []⟩
theorem AKI : ∀  xa xo, (AJM.prog (mkC Tryz.prog AFG ⟨false, false⟩ noL noJ) Tryz.f148 xa xo).run = mLe  xo.1.1 xo.1.2.1 xo.1.2.2.1 xo.1.2.2.2.1 := by intros; kernel_rfl
def AFI := AH AFG 148 (AJM.AF (fun xa xo => mLe xo.1.1 xo.1.2.1 xo.1.2.2.1 xo.1.2.2.2.1))
theorem AFJ : OKs AFI := fn_A AFH Tryz.func148 AKI
def Va : AG := ⟨.obj 0 <| .nil, [(176, .val int <| .val (.sl AR) <| .skip <| .skip <| .skip <| .skip <| .skip <| .skip <| .skip <| .val (.sl int) <| .val (.sl int) <| .val (.sl int) <| .nil)], .own 3 int <| .nil, []⟩
def AFK (nn : Nat) : Nat -> Option Af := fun n =>
 bif Nat.beq n 3 then some ⟨{ env := [(13, .dat int)], heap := [(1, .box 176 ((ASh.dat int).cons ((ASh.dat (int.pair (int.pair Ty.unit)).sl).cons ((ASh.opq 19).cons ((ASh.opq 20).cons ((ASh.opq 21).cons ((ASh.opq 22).cons ((ASh.opq 23).cons ((ASh.opq 24).cons ((ASh.opq 25).cons ((ASh.dat int.sl).cons ((ASh.dat int.sl).cons ((ASh.dat int.sl).cons ASh.nil))))))))))))), (448, .arr 3 int)], keep := [0, 2, 3, 12], AN := [] }, fun _ => nn⟩ else
 none
theorem AB4 : ∀ (nn : Nat)  xa xo, (Va.prog (mkC Tryz.prog AFI ⟨false, false⟩ (AFK nn) noJ) Tryz.f149 xa xo).run = SC nn xo.1.1 xo.1.2.1 xo.1.2.2.1 xo.1.2.2.2.1 xo.1.2.2.2.2.1 := by intros; kernel_rfl
def Of := AH AFI 149 (Va.AF (fun xa xo => SD xo.1.1 xo.1.2.1 xo.1.2.2.1 xo.1.2.2.2.1 xo.1.2.2.2.2.1))
theorem Vb : OKs Of := fn_A AFJ Tryz.func149 (AB4 AK)
def Vc : AG := ⟨.obj 0 <| .nil, [(176, .val int <| .val (.sl AR) <| .skip <| .skip <| .skip <| .skip <| .skip <| .val int <| .val int <| .val (.sl int) <| .skip <| .skip <| .nil)], .own 3 int <| .nil, []⟩
theorem AB5 : ∀  xa xo, (Vc.prog (mkC Tryz.prog Of ⟨false, false⟩ noL noJ) Tryz.f151 xa xo).run = N7  xo.1.1 xo.1.2.1 xo.1.2.2.1 xo.1.2.2.2.1 xo.1.2.2.2.2.1 := by intros; kernel_rfl
def Og := AH Of 151 (Vc.AF (fun xa xo => N7 xo.1.1 xo.1.2.1 xo.1.2.2.1 xo.1.2.2.2.1 xo.1.2.2.2.2.1))
theorem Vd : OKs Og := fn_A Vb Tryz.func151 AB5
end AL
end
end
section
noncomputable section
set_option linter.unusedVariables false
set_option maxHeartbeats 0
set_option maxRecDepth 100000
namespace AL
open Go Go.Proofs
def AAT : AG := ⟨.E8 <| .val int <| .nil, [], .own 3 int <| .nil, []⟩
theorem AFL : ∀  xa xo, (AAT.prog (mkC Tryz.prog Og ⟨false, false⟩ noL noJ) Tryz.f230 xa xo).run = U9  xa.1 := by intros; kernel_rfl
def SZ := AH Og 230 (AAT.AF (fun xa xo => U9 xa.1))
theorem YC : OKs SZ := fn_A Vd Tryz.func230 AFL
def Q3 : AG := ⟨.val (.sl (.sl int)) <| .nil, [], .own 3 int <| .nil, []⟩
def AB6 (nn : Nat) : Nat -> Option Af := fun n =>
 bif Nat.beq n 3 then some ⟨{ env := [(3, .dat int), (11, .dat int)], heap := [], keep := [0, 2, 9, 10], AN := [] }, fun _ => nn⟩ else
 bif Nat.beq n 11 then some ⟨{ env := [(6, .arr 512), (27, .dat int)], heap := [(512, .arr 3 int), (512, .arr 3 int)], keep := [0, 2, 3, 9, 10, 11, 25, 26], AN := [] }, fun _ => nn⟩ else
 none
theorem YD : ∀ (nn : Nat)  xa xo, (Q3.prog (mkC Tryz.prog SZ ⟨false, false⟩ (AB6 nn) noJ) Tryz.f184 xa xo).run = N8 nn xa.1 := by intros; kernel_rfl
def LR := AH SZ 184 (Q3.AF (fun xa xo => Mv xa.1))
theorem Sa : OKs LR := fn_A YC Tryz.func184 (YD AK)
def J5 : AG := ⟨.obj 0 <| .D4 179 0 <| .nil, [(176, .val int <| .val (.sl AR) <| .skip <| .skip <| .skip <| .skip <| .skip <| .skip <| .skip <| .val (.sl int) <| .val (.sl int) <| .skip <| .nil)], .own 3 int <| .nil, []⟩
def AFM (nn : Nat) : Nat -> Option Af := fun n =>
 bif Nat.beq n 3 then some ⟨{ env := [(15, .dat int)], heap := [(1, .box 176 ((ASh.dat int).cons ((ASh.dat (int.pair (int.pair Ty.unit)).sl).cons ((ASh.opq 20).cons ((ASh.opq 21).cons ((ASh.opq 22).cons ((ASh.opq 23).cons ((ASh.opq 24).cons ((ASh.opq 25).cons ((ASh.opq 26).cons ((ASh.dat int.sl).cons ((ASh.dat int.sl).cons ((ASh.opq 29).cons ASh.nil))))))))))))), (448, .arr 3 int)], keep := [0, 1, 4, 5, 14], AN := [] }, fun _ => nn⟩ else
 none
theorem AB7 : ∀ (nn : Nat)  xa xo, (J5.prog (mkC Tryz.prog LR ⟨false, false⟩ (AFM nn) noJ) Tryz.f177 xa xo).run = AAA nn xo.1.1 xo.1.2.1 xo.1.2.2.1 xo.1.2.2.2.1 := by intros; kernel_rfl
def Oh := AH LR 177 (J5.AF (fun xa xo => N9 xo.1.1 xo.1.2.1 xo.1.2.2.1 xo.1.2.2.2.1))
theorem MG : OKs Oh := fn_A Sa Tryz.func177 (AB7 AK)
def J6 : AG := ⟨.obj 0 <| .D4 180 0 <| .nil, [(176, .val int <| .val (.sl AR) <| .skip <| .skip <| .skip <| .skip <| .skip <| .skip <| .skip <| .val (.sl int) <| .val (.sl int) <| .skip <| .nil)], .own 3 int <| .nil, []⟩
def AFN (nn : Nat) : Nat -> Option Af := fun n =>
 bif Nat.beq n 3 then some ⟨{ env := [(15, .dat int)], heap := [(1, .box 176 ((ASh.dat int).cons ((ASh.dat (int.pair (int.pair Ty.unit)).sl).cons ((ASh.opq 20).cons ((ASh.opq 21).cons ((ASh.opq 22).cons ((ASh.opq 23).cons ((ASh.opq 24).cons ((ASh.opq 25).cons ((ASh.opq 26).cons ((ASh.dat int.sl).cons ((ASh.dat int.sl).cons ((ASh.opq 29).cons ASh.nil))))))))))))), (448, .arr 3 int)], keep := [0, 1, 4, 5, 14], AN := [] }, fun _ => nn⟩ else
 none
theorem AB8 : ∀ (nn : Nat)  xa xo, (J6.prog (mkC Tryz.prog Oh ⟨false, false⟩ (AFN nn) noJ) Tryz.f177 xa xo).run = AAB nn xo.1.1 xo.1.2.1 xo.1.2.2.1 xo.1.2.2.2.1 := by intros; kernel_rfl
def Ve := AH Oh 177 (J6.AF (fun xa xo => LD xo.1.1 xo.1.2.1 xo.1.2.2.1 xo.1.2.2.2.1))
theorem MH : OKs Ve := fn_A MG Tryz.func177 (AB8 AK)
def JE := AH Ve 177 (AHR 178 (J4.AF (fun xa xo => N4 xo.1.1 xo.1.2.1 xo.1.2.2.1 xo.1.2.2.2.1)) (AHR 179 (J5.AF (fun xa xo => N9 xo.1.1 xo.1.2.1 xo.1.2.2.1 xo.1.2.2.2.1)) (J6.AF (fun xa xo => LD xo.1.1 xo.1.2.1 xo.1.2.2.1 xo.1.2.2.2.1))))
theorem Pk : OKs JE := Ac MH ((Z4 (Ap MF 177 (S := (J4.AF (fun xa xo => N4 xo.1.1 xo.1.2.1 xo.1.2.2.1 xo.1.2.2.2.1))) (by kernel_rfl)) (Z4 (Ap MG 177 (S := (J5.AF (fun xa xo => N9 xo.1.1 xo.1.2.1 xo.1.2.2.1 xo.1.2.2.2.1))) (by kernel_rfl)) (Ap MH 177 (S := (J6.AF (fun xa xo => LD xo.1.1 xo.1.2.1 xo.1.2.2.1 xo.1.2.2.2.1))) (by kernel_rfl)))))
def AAU : AG := ⟨.obj 0 <| .nil, [(176, .val int <| .val (.sl AR) <| .skip <| .skip <| .skip <| .skip <| .skip <| .skip <| .skip <| .val (.sl int) <| .val (.sl int) <| .skip <| .nil)], .own 3 int <| .nil, []⟩
theorem AFO : ∀  xa xo, (AAU.prog (mkC Tryz.prog JE ⟨false, false⟩ noL noJ) Tryz.f140 xa xo).run = AAC  xo.1.1 xo.1.2.1 xo.1.2.2.1 xo.1.2.2.2.1 := by intros; kernel_rfl
def Sb := AH JE 140 (AAU.AF (fun xa xo => AAC xo.1.1 xo.1.2.1 xo.1.2.2.1 xo.1.2.2.2.1))
theorem YE : OKs Sb := fn_A Pk Tryz.func140 AFO
def Vf : AG := ⟨.obj 0 <| .nil, [(176, .val int <| .val (.sl AR) <| .skip <| .skip <| .skip <| .skip <| .skip <| .skip <| .skip <| .val (.sl int) <| .val (.sl int) <| .skip <| .nil)], .own 3 int <| .nil, []⟩
theorem AB9 : ∀  xa xo, (Vf.prog (mkC Tryz.prog Sb ⟨false, false⟩ noL noJ) Tryz.f141 xa xo).run = SE  xo.1.1 xo.1.2.1 xo.1.2.2.1 xo.1.2.2.2.1 := by intros; kernel_rfl
def Oi := AH Sb 141 (Vf.AF (fun xa xo => SE xo.1.1 xo.1.2.1 xo.1.2.2.1 xo.1.2.2.2.1))
theorem Vg : OKs Oi := fn_A YE Tryz.func141 AB9
def AJN : AG := ⟨.obj 0 <| .nil, [(176, .val int <| .val (.sl AR) <| .skip <| .skip <| .skip <| .skip <| .skip <| .skip <| .skip <| .val (.sl int) <| .val (.sl int) <| .skip <| .nil)], .own 3 int <| .nil, []⟩
theorem AKJ : ∀  xa xo, (AJN.prog (mkC Tryz.prog Oi ⟨false, false⟩ noL noJ) Tryz.f146 xa xo).run = mNe  xo.1.1 xo.1.2.1 xo.1.2.2.1 xo.1.2.2.2.1 := by intros; kernel_rfl
def AFP := AH Oi 146 (AJN.AF (fun xa xo => mNe xo.1.1 xo.1.2.1 xo.1.2.2.1 xo.1.2.2.2.1))
theorem AFQ : OKs AFP := fn_A Vg Tryz.func146 AKJ
def AJO : AG := ⟨.obj 0 <| .nil, [(176, .val int <| .val (.sl AR) <| .skip <| .skip <| .skip <| .skip <| .skip <| .skip <| .skip <| .val (.sl int) <| .val (.sl int) <| .skip <| .nil)], .own 3 int <| .nil, []⟩
theorem AKK : ∀  xa xo, (AJO.prog (mkC Tryz.prog AFP ⟨false, false⟩ noL noJ) Tryz.f145 xa xo).run = mEq  xo.1.1 xo.1.2.1 xo.1.2.2.1 xo.1.2.2.2.1 := by intros; kernel_rfl
def AFR := AH AFP 145 (AJO.AF (fun xa xo => mEq xo.1.1 xo.1.2.1 xo.1.2.2.1 xo.1.2.2.2.1))
theorem AFS : OKs AFR := fn_A AFQ Tryz.func145 AKK
def AFT : AG := ⟨.obj 0 <| .nil, [(176, .val int <| .val (.sl AR) <| .skip <| .skip <| .skip <| .skip <| .skip <| .skip <| .skip <| .val (.sl int) <| .val (.sl int) <| .skip <| .nil)], .own 3 int <| .nil, []⟩
theorem AHr : ∀  xa xo, (AFT.prog (mkC Tryz.prog AFR ⟨false, false⟩ noL noJ) Tryz.f150 xa xo).run = AD6  xo.1.1 xo.1.2.1 xo.1.2.2.1 xo.1.2.2.2.1 := by intros; kernel_rfl
def YF := AH AFR 150 (AFT.AF (fun xa xo => AD6 xo.1.1 xo.1.2.1 xo.1.2.2.1 xo.1.2.2.2.1))
theorem ACA : OKs YF := fn_A AFS Tryz.func150 AHr
def Vh : AG := ⟨.nil, [], .DM (.fm (.int .i64) [((1 : Int), AV.fn 135 .nil), ((3 : Int), AV.fn 136 .nil), ((4 : Int), AV.fn 137 .nil), ((5 : Int), AV.fn 138 .nil), ((6 : Int), AV.fn 139 .nil), ((7 : Int), AV.fn 140 .nil), ((8 : Int), AV.fn 141 .nil), ((9 : Int), AV.fn 142 .nil), ((10 : Int), AV.fn 143 .nil), ((11 : Int), AV.fn 144 .nil), ((12 : Int), AV.fn 145 .nil), ((13 : Int), AV.fn 146 .nil), ((14 : Int), AV.fn 147 .nil), ((15 : Int), AV.fn 148 .nil), ((16 : Int), AV.fn 149 .nil), ((17 : Int), AV.fn 150 .nil), ((18 : Int), AV.fn 151 .nil)]) <| .nil, []⟩
theorem ACB : ∀  xa xo, (Vh.prog (mkC Tryz.prog YF ⟨false, false⟩ noL noJ) Tryz.f112 xa xo).run = CG   := by intros; kernel_rfl
def BR := AH YF 112 (Vh.AF (fun xa xo => CG ))
theorem MI : OKs BR := fn_A ACA Tryz.func112 ACB
def YG : AG := ⟨.agg (.val int <| .val (.sl AR) <| .nil) <| .agg (.val int <| .val int <| .val int <| .val int <| .val int <| .val int <| .val int <| .nil) <| .val (.sl int) <| .val (.sl int) <| .val (.sl int) <| .nil, [], .agg (.val int <| .val (.sl AR) <| .nil) <| .val (.sl int) <| .nil, []⟩
theorem AHs : ∀ (xa : YG.args.ty.den) (xo : (AY YG.Aa).den), (YG.prog (mkC Tryz.prog BR ⟨false, false⟩ (fun _ => none) (fun _ => none)) Tryz.f76 ((xa.1, ((1 : Int), xa.2.1.2), xa.2.2)) xo).run = AKn xa.1.1 xa.1.2.1 xa.2.1.1 xa.2.1.2.1 xa.2.1.2.2.1 xa.2.1.2.2.2.1 xa.2.1.2.2.2.2.1 xa.2.1.2.2.2.2.2.1 xa.2.1.2.2.2.2.2.2.1 xa.2.2.1 xa.2.2.2.1 xa.2.2.2.2.1 := by intros; kernel_rfl
def YH : AG := ⟨.agg (.val int <| .val (.sl AR) <| .nil) <| .agg (.val int <| .val int <| .val int <| .val int <| .val int <| .val int <| .val int <| .nil) <| .val (.sl int) <| .val (.sl int) <| .val (.sl int) <| .nil, [], .agg (.val int <| .val (.sl AR) <| .nil) <| .val (.sl int) <| .nil, []⟩
theorem AHt : ∀ (xa : YH.args.ty.den) (xo : (AY YH.Aa).den), (YH.prog (mkC Tryz.prog BR ⟨false, false⟩ (fun _ => none) (fun _ => none)) Tryz.f76 ((xa.1, ((3 : Int), xa.2.1.2), xa.2.2)) xo).run = AKo xa.1.1 xa.1.2.1 xa.2.1.1 xa.2.1.2.1 xa.2.1.2.2.1 xa.2.1.2.2.2.1 xa.2.1.2.2.2.2.1 xa.2.1.2.2.2.2.2.1 xa.2.1.2.2.2.2.2.2.1 xa.2.2.1 xa.2.2.2.1 xa.2.2.2.2.1 := by intros; kernel_rfl
def YI : AG := ⟨.agg (.val int <| .val (.sl AR) <| .nil) <| .agg (.val int <| .val int <| .val int <| .val int <| .val int <| .val int <| .val int <| .nil) <| .val (.sl int) <| .val (.sl int) <| .val (.sl int) <| .nil, [], .agg (.val int <| .val (.sl AR) <| .nil) <| .val (.sl int) <| .nil, []⟩
theorem AHu : ∀ (xa : YI.args.ty.den) (xo : (AY YI.Aa).den), (YI.prog (mkC Tryz.prog BR ⟨false, false⟩ (fun _ => none) (fun _ => none)) Tryz.f76 ((xa.1, ((4 : Int), xa.2.1.2), xa.2.2)) xo).run = AKp xa.1.1 xa.1.2.1 xa.2.1.1 xa.2.1.2.1 xa.2.1.2.2.1 xa.2.1.2.2.2.1 xa.2.1.2.2.2.2.1 xa.2.1.2.2.2.2.2.1 xa.2.1.2.2.2.2.2.2.1 xa.2.2.1 xa.2.2.2.1 xa.2.2.2.2.1 := by intros; kernel_rfl
def YJ : AG := ⟨.agg (.val int <| .val (.sl AR) <| .nil) <| .agg (.val int <| .val int <| .val int <| .val int <| .val int <| .val int <| .val int <| .nil) <| .val (.sl int) <| .val (.sl int) <| .val (.sl int) <| .nil, [], .agg (.val int <| .val (.sl AR) <| .nil) <| .val (.sl int) <| .nil, []⟩
theorem AHv : ∀ (xa : YJ.args.ty.den) (xo : (AY YJ.Aa).den), (YJ.prog (mkC Tryz.prog BR ⟨false, false⟩ (fun _ => none) (fun _ => none)) Tryz.f76 ((xa.1, ((5 : Int), xa.2.1.2), xa.2.2)) xo).run = AKq xa.1.1 xa.1.2.1 xa.2.1.1 xa.2.1.2.1 xa.2.1.2.2.1 xa.2.1.2.2.2.1 xa.2.1.2.2.2.2.1 xa.2.1.2.2.2.2.2.1 xa.2.1.2.2.2.2.2.2.1 xa.2.2.1 xa.2.2.2.1 xa.2.2.2.2.1 := by intros; kernel_rfl
def YK : AG := ⟨.agg (.val int <| .val (.sl AR) <| .nil) <| .agg (.val int <| .val int <| .val int <| .val int <| .val int <| .val int <| .val int <| .nil) <| .val (.sl int) <| .val (.sl int) <| .val (.sl int) <| .nil, [], .agg (.val int <| .val (.sl AR) <| .nil) <| .val (.sl int) <| .nil, []⟩
theorem AHw : ∀ (xa : YK.args.ty.den) (xo : (AY YK.Aa).den), (YK.prog (mkC Tryz.prog BR ⟨false, false⟩ (fun _ => none) (fun _ => none)) Tryz.f76 ((xa.1, ((6 : Int), xa.2.1.2), xa.2.2)) xo).run = AKr xa.1.1 xa.1.2.1 xa.2.1.1 xa.2.1.2.1 xa.2.1.2.2.1 xa.2.1.2.2.2.1 xa.2.1.2.2.2.2.1 xa.2.1.2.2.2.2.2.1 xa.2.1.2.2.2.2.2.2.1 xa.2.2.1 xa.2.2.2.1 xa.2.2.2.2.1 := by intros; kernel_rfl
def YL : AG := ⟨.agg (.val int <| .val (.sl AR) <| .nil) <| .agg (.val int <| .val int <| .val int <| .val int <| .val int <| .val int <| .val int <| .nil) <| .val (.sl int) <| .val (.sl int) <| .val (.sl int) <| .nil, [], .agg (.val int <| .val (.sl AR) <| .nil) <| .val (.sl int) <| .nil, []⟩
theorem AHx : ∀ (xa : YL.args.ty.den) (xo : (AY YL.Aa).den), (YL.prog (mkC Tryz.prog BR ⟨false, false⟩ (fun _ => none) (fun _ => none)) Tryz.f76 ((xa.1, ((7 : Int), xa.2.1.2), xa.2.2)) xo).run = AKs xa.1.1 xa.1.2.1 xa.2.1.1 xa.2.1.2.1 xa.2.1.2.2.1 xa.2.1.2.2.2.1 xa.2.1.2.2.2.2.1 xa.2.1.2.2.2.2.2.1 xa.2.1.2.2.2.2.2.2.1 xa.2.2.1 xa.2.2.2.1 xa.2.2.2.2.1 := by intros; kernel_rfl
def YM : AG := ⟨.agg (.val int <| .val (.sl AR) <| .nil) <| .agg (.val int <| .val int <| .val int <| .val int <| .val int <| .val int <| .val int <| .nil) <| .val (.sl int) <| .val (.sl int) <| .val (.sl int) <| .nil, [], .agg (.val int <| .val (.sl AR) <| .nil) <| .val (.sl int) <| .nil, []⟩
theorem AHy : ∀ (xa : YM.args.ty.den) (xo : (AY YM.Aa).den), (YM.prog (mkC Tryz.prog BR ⟨false, false⟩ (fun _ => none) (fun _ => none)) Tryz.f76 ((xa.1, ((8 : Int), xa.2.1.2), xa.2.2)) xo).run = AKt xa.1.1 xa.1.2.1 xa.2.1.1 xa.2.1.2.1 xa.2.1.2.2.1 xa.2.1.2.2.2.1 xa.2.1.2.2.2.2.1 xa.2.1.2.2.2.2.2.1 xa.2.1.2.2.2.2.2.2.1 xa.2.2.1 xa.2.2.2.1 xa.2.2.2.2.1 := by intros; kernel_rfl
def YN : AG := ⟨.agg (.val int <| .val (.sl AR) <| .nil) <| .agg (.val int <| .val int <| .val int <| .val int <| .val int <| .val int <| .val int <| .nil) <| .val (.sl int) <| .val (.sl int) <| .val (.sl int) <| .nil, [], .agg (.val int <| .val (.sl AR) <| .nil) <| .val (.sl int) <| .nil, []⟩
theorem AHz : ∀ (xa : YN.args.ty.den) (xo : (AY YN.Aa).den), (YN.prog (mkC Tryz.prog BR ⟨false, false⟩ (fun _ => none) (fun _ => none)) Tryz.f76 ((xa.1, ((9 : Int), xa.2.1.2), xa.2.2)) xo).run = AKu xa.1.1 xa.1.2.1 xa.2.1.1 xa.2.1.2.1 xa.2.1.2.2.1 xa.2.1.2.2.2.1 xa.2.1.2.2.2.2.1 xa.2.1.2.2.2.2.2.1 xa.2.1.2.2.2.2.2.2.1 xa.2.2.1 xa.2.2.2.1 xa.2.2.2.2.1 := by intros; kernel_rfl
def Sc : AG := ⟨.agg (.val int <| .val (.sl AR) <| .nil) <| .agg (.val int <| .val int <| .val int <| .val int <| .val int <| .val int <| .val int <| .nil) <| .val (.sl int) <| .val (.sl int) <| .val (.sl int) <| .nil, [], .agg (.val int <| .val (.sl AR) <| .nil) <| .val (.sl int) <| .nil, []⟩
theorem AFU : ∀ (xa : Sc.args.ty.den) (xo : (AY Sc.Aa).den), (Sc.prog (mkC Tryz.prog BR ⟨false, false⟩ (fun _ => none) (fun _ => none)) Tryz.f76 ((xa.1, ((10 : Int), xa.2.1.2), xa.2.2)) xo).run = AIu xa.1.1 xa.1.2.1 xa.2.1.1 xa.2.1.2.1 xa.2.1.2.2.1 xa.2.1.2.2.2.1 xa.2.1.2.2.2.2.1 xa.2.1.2.2.2.2.2.1 xa.2.1.2.2.2.2.2.2.1 xa.2.2.1 xa.2.2.2.1 xa.2.2.2.2.1 := by intros; kernel_rfl
def Sd : AG := ⟨.agg (.val int <| .val (.sl AR) <| .nil) <| .agg (.val int <| .val int <| .val int <| .val int <| .val int <| .val int <| .val int <| .nil) <| .val (.sl int) <| .val (.sl int) <| .val (.sl int) <| .nil, [], .agg (.val int <| .val (.sl AR) <| .nil) <| .val (.sl int) <| .nil, []⟩
theorem AFV : ∀ (xa : Sd.args.ty.den) (xo : (AY Sd.Aa).den), (Sd.prog (mkC Tryz.prog BR ⟨false, false⟩ (fun _ => none) (fun _ => none)) Tryz.f76 ((xa.1, ((11 : Int), xa.2.1.2), xa.2.2)) xo).run = AIv xa.1.1 xa.1.2.1 xa.2.1.1 xa.2.1.2.1 xa.2.1.2.2.1 xa.2.1.2.2.2.1 xa.2.1.2.2.2.2.1 xa.2.1.2.2.2.2.2.1 xa.2.1.2.2.2.2.2.2.1 xa.2.2.1 xa.2.2.2.1 xa.2.2.2.2.1 := by intros; kernel_rfl
def Se : AG := ⟨.agg (.val int <| .val (.sl AR) <| .nil) <| .agg (.val int <| .val int <| .val int <| .val int <| .val int <| .val int <| .val int <| .nil) <| .val (.sl int) <| .val (.sl int) <| .val (.sl int) <| .nil, [], .agg (.val int <| .val (.sl AR) <| .nil) <| .val (.sl int) <| .nil, []⟩
theorem AFW : ∀ (xa : Se.args.ty.den) (xo : (AY Se.Aa).den), (Se.prog (mkC Tryz.prog BR ⟨false, false⟩ (fun _ => none) (fun _ => none)) Tryz.f76 ((xa.1, ((12 : Int), xa.2.1.2), xa.2.2)) xo).run = AIw xa.1.1 xa.1.2.1 xa.2.1.1 xa.2.1.2.1 xa.2.1.2.2.1 xa.2.1.2.2.2.1 xa.2.1.2.2.2.2.1 xa.2.1.2.2.2.2.2.1 xa.2.1.2.2.2.2.2.2.1 xa.2.2.1 xa.2.2.2.1 xa.2.2.2.2.1 := by intros; kernel_rfl
def Sf : AG := ⟨.agg (.val int <| .val (.sl AR) <| .nil) <| .agg (.val int <| .val int <| .val int <| .val int <| .val int <| .val int <| .val int <| .nil) <| .val (.sl int) <| .val (.sl int) <| .val (.sl int) <| .nil, [], .agg (.val int <| .val (.sl AR) <| .nil) <| .val (.sl int) <| .nil, []⟩
theorem AFX : ∀ (xa : Sf.args.ty.den) (xo : (AY Sf.Aa).den), (Sf.prog (mkC Tryz.prog BR ⟨false, false⟩ (fun _ => none) (fun _ => none)) Tryz.f76 ((xa.1, ((13 : Int), xa.2.1.2), xa.2.2)) xo).run = AIx xa.1.1 xa.1.2.1 xa.2.1.1 xa.2.1.2.1 xa.2.1.2.2.1 xa.2.1.2.2.2.1 xa.2.1.2.2.2.2.1 xa.2.1.2.2.2.2.2.1 xa.2.1.2.2.2.2.2.2.1 xa.2.2.1 xa.2.2.2.1 xa.2.2.2.2.1 := by intros; kernel_rfl
def Sg : AG := ⟨.agg (.val int <| .val (.sl AR) <| .nil) <| .agg (.val int <| .val int <| .val int <| .val int <| .val int <| .val int <| .val int <| .nil) <| .val (.sl int) <| .val (.sl int) <| .val (.sl int) <| .nil, [], .agg (.val int <| .val (.sl AR) <| .nil) <| .val (.sl int) <| .nil, []⟩
theorem AFY : ∀ (xa : Sg.args.ty.den) (xo : (AY Sg.Aa).den), (Sg.prog (mkC Tryz.prog BR ⟨false, false⟩ (fun _ => none) (fun _ => none)) Tryz.f76 ((xa.1, ((14 : Int), xa.2.1.2), xa.2.2)) xo).run = AIy xa.1.1 xa.1.2.1 xa.2.1.1 xa.2.1.2.1 xa.2.1.2.2.1 xa.2.1.2.2.2.1 xa.2.1.2.2.2.2.1 xa.2.1.2.2.2.2.2.1 xa.2.1.2.2.2.2.2.2.1 xa.2.2.1 xa.2.2.2.1 xa.2.2.2.2.1 := by intros; kernel_rfl
def Sh : AG := ⟨.agg (.val int <| .val (.sl AR) <| .nil) <| .agg (.val int <| .val int <| .val int <| .val int <| .val int <| .val int <| .val int <| .nil) <| .val (.sl int) <| .val (.sl int) <| .val (.sl int) <| .nil, [], .agg (.val int <| .val (.sl AR) <| .nil) <| .val (.sl int) <| .nil, []⟩
theorem AFZ : ∀ (xa : Sh.args.ty.den) (xo : (AY Sh.Aa).den), (Sh.prog (mkC Tryz.prog BR ⟨false, false⟩ (fun _ => none) (fun _ => none)) Tryz.f76 ((xa.1, ((15 : Int), xa.2.1.2), xa.2.2)) xo).run = AIz xa.1.1 xa.1.2.1 xa.2.1.1 xa.2.1.2.1 xa.2.1.2.2.1 xa.2.1.2.2.2.1 xa.2.1.2.2.2.2.1 xa.2.1.2.2.2.2.2.1 xa.2.1.2.2.2.2.2.2.1 xa.2.2.1 xa.2.2.2.1 xa.2.2.2.2.1 := by intros; kernel_rfl
def Si : AG := ⟨.agg (.val int <| .val (.sl AR) <| .nil) <| .agg (.val int <| .val int <| .val int <| .val int <| .val int <| .val int <| .val int <| .nil) <| .val (.sl int) <| .val (.sl int) <| .val (.sl int) <| .nil, [], .agg (.val int <| .val (.sl AR) <| .nil) <| .val (.sl int) <| .nil, []⟩
theorem AFa : ∀ (xa : Si.args.ty.den) (xo : (AY Si.Aa).den), (Si.prog (mkC Tryz.prog BR ⟨false, false⟩ (fun _ => none) (fun _ => none)) Tryz.f76 ((xa.1, ((16 : Int), xa.2.1.2), xa.2.2)) xo).run = AI0 xa.1.1 xa.1.2.1 xa.2.1.1 xa.2.1.2.1 xa.2.1.2.2.1 xa.2.1.2.2.2.1 xa.2.1.2.2.2.2.1 xa.2.1.2.2.2.2.2.1 xa.2.1.2.2.2.2.2.2.1 xa.2.2.1 xa.2.2.2.1 xa.2.2.2.2.1 := by intros; kernel_rfl
def Sj : AG := ⟨.agg (.val int <| .val (.sl AR) <| .nil) <| .agg (.val int <| .val int <| .val int <| .val int <| .val int <| .val int <| .val int <| .nil) <| .val (.sl int) <| .val (.sl int) <| .val (.sl int) <| .nil, [], .agg (.val int <| .val (.sl AR) <| .nil) <| .val (.sl int) <| .nil, []⟩
theorem AFb : ∀ (xa : Sj.args.ty.den) (xo : (AY Sj.Aa).den), (Sj.prog (mkC Tryz.prog BR ⟨false, false⟩ (fun _ => none) (fun _ => none)) Tryz.f76 ((xa.1, ((17 : Int), xa.2.1.2), xa.2.2)) xo).run = AI1 xa.1.1 xa.1.2.1 xa.2.1.1 xa.2.1.2.1 xa.2.1.2.2.1 xa.2.1.2.2.2.1 xa.2.1.2.2.2.2.1 xa.2.1.2.2.2.2.2.1 xa.2.1.2.2.2.2.2.2.1 xa.2.2.1 xa.2.2.2.1 xa.2.2.2.2.1 := by intros; kernel_rfl
def Sk : AG := ⟨.agg (.val int <| .val (.sl AR) <| .nil) <| .agg (.val int <| .val int <| .val int <| .val int <| .val int <| .val int <| .val int <| .nil) <| .val (.sl int) <| .val (.sl int) <| .val (.sl int) <| .nil, [], .agg (.val int <| .val (.sl AR) <| .nil) <| .val (.sl int) <| .nil, []⟩
theorem AFc : ∀ (xa : Sk.args.ty.den) (xo : (AY Sk.Aa).den), (Sk.prog (mkC Tryz.prog BR ⟨false, false⟩ (fun _ => none) (fun _ => none)) Tryz.f76 ((xa.1, ((18 : Int), xa.2.1.2), xa.2.2)) xo).run = AI2 xa.1.1 xa.1.2.1 xa.2.1.1 xa.2.1.2.1 xa.2.1.2.2.1 xa.2.1.2.2.2.1 xa.2.1.2.2.2.2.1 xa.2.1.2.2.2.2.2.1 xa.2.1.2.2.2.2.2.2.1 xa.2.2.1 xa.2.2.2.1 xa.2.2.2.2.1 := by intros; kernel_rfl
def Q4 : AG := ⟨.agg (.val int <| .val (.sl AR) <| .nil) <| .agg (.val int <| .val int <| .val int <| .val int <| .val int <| .val int <| .val int <| .nil) <| .val (.sl int) <| .val (.sl int) <| .val (.sl int) <| .nil, [], .agg (.val int <| .val (.sl AR) <| .nil) <| .val (.sl int) <| .nil, []⟩
theorem AKL (xa : Q4.args.ty.den) (xo : (AY Q4.Aa).den) (y : Q4.oty.den) (h : bDo xa.1.1 xa.1.2.1 xa.2.1.1 xa.2.1.2.1 xa.2.1.2.2.1 xa.2.1.2.2.2.1 xa.2.1.2.2.2.2.1 xa.2.1.2.2.2.2.2.1 xa.2.1.2.2.2.2.2.2.1 xa.2.2.1 xa.2.2.2.1 xa.2.2.2.2.1 = some y) : (Q4.prog (mkC Tryz.prog BR ⟨false, false⟩ (fun _ => none) (fun _ => none)) Tryz.f76 xa xo).run = some y := by
 obtain ⟨g, ⟨op, r⟩, s⟩ := xa
 unfold bDo at h
 refine At h (fun e h => ?_) fun h => ?_
 ·have e : op = 1 := e
  subst e
  exact (AHs (g, ((1 : Int), r), s) xo).trans h
 refine At h (fun e h => ?_) fun h => ?_
 ·have e : op = 3 := e
  subst e
  exact (AHt (g, ((3 : Int), r), s) xo).trans h
 refine At h (fun e h => ?_) fun h => ?_
 ·have e : op = 4 := e
  subst e
  exact (AHu (g, ((4 : Int), r), s) xo).trans h
 refine At h (fun e h => ?_) fun h => ?_
 ·have e : op = 5 := e
  subst e
  exact (AHv (g, ((5 : Int), r), s) xo).trans h
 refine At h (fun e h => ?_) fun h => ?_
 ·have e : op = 6 := e
  subst e
  exact (AHw (g, ((6 : Int), r), s) xo).trans h
 refine At h (fun e h => ?_) fun h => ?_
 ·have e : op = 7 := e
  subst e
  exact (AHx (g, ((7 : Int), r), s) xo).trans h
 refine At h (fun e h => ?_) fun h => ?_
 ·have e : op = 8 := e
  subst e
  exact (AHy (g, ((8 : Int), r), s) xo).trans h
 refine At h (fun e h => ?_) fun h => ?_
 ·have e : op = 9 := e
  subst e
  exact (AHz (g, ((9 : Int), r), s) xo).trans h
 refine At h (fun e h => ?_) fun h => ?_
 ·have e : op = 10 := e
  subst e
  exact (AFU (g, ((10 : Int), r), s) xo).trans h
 refine At h (fun e h => ?_) fun h => ?_
 ·have e : op = 11 := e
  subst e
  exact (AFV (g, ((11 : Int), r), s) xo).trans h
 refine At h (fun e h => ?_) fun h => ?_
 ·have e : op = 12 := e
  subst e
  exact (AFW (g, ((12 : Int), r), s) xo).trans h
 refine At h (fun e h => ?_) fun h => ?_
 ·have e : op = 13 := e
  subst e
  exact (AFX (g, ((13 : Int), r), s) xo).trans h
 refine At h (fun e h => ?_) fun h => ?_
 ·have e : op = 14 := e
  subst e
  exact (AFY (g, ((14 : Int), r), s) xo).trans h
 refine At h (fun e h => ?_) fun h => ?_
 ·have e : op = 15 := e
  subst e
  exact (AFZ (g, ((15 : Int), r), s) xo).trans h
 refine At h (fun e h => ?_) fun h => ?_
 ·have e : op = 16 := e
  subst e
  exact (AFa (g, ((16 : Int), r), s) xo).trans h
 refine At h (fun e h => ?_) fun h => ?_
 ·have e : op = 17 := e
  subst e
  exact (AFb (g, ((17 : Int), r), s) xo).trans h
 refine At h (fun e h => ?_) fun h => ?_
 ·have e : op = 18 := e
  subst e
  exact (AFc (g, ((18 : Int), r), s) xo).trans h
 exact Jt h
def AFd := AH BR 76 (Q4.AF (fun xa xo => bDo xa.1.1 xa.1.2.1 xa.2.1.1 xa.2.1.2.1 xa.2.1.2.2.1 xa.2.1.2.2.2.1 xa.2.1.2.2.2.2.1 xa.2.1.2.2.2.2.2.1 xa.2.1.2.2.2.2.2.2.1 xa.2.2.1 xa.2.2.2.1 xa.2.2.2.2.1))
theorem AFe : OKs AFd := R3 MI MI fol Tryz.func76 (by kernel_rfl) (by kernel_rfl) (by kernel_rfl) (S := Q4) (md := ⟨false, false⟩) (L := fun _ => none) (J := fun _ => none) AKL
end AL
end
end
