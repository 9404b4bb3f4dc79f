/- The texts MSatA, MSatB, MSatC, MSatD, MReuseA, MReuseB, MReuseC, MReuseD, WSatA, WSatB, WSatC, WSatD, WReuseA, WReuseB, WReuseC, one behind the other. -/
import Derived.Test.YtigaadeoampijaaGA3
import Derived.Test.YtigaadeoampijaaProg
set_option linter.unusedVariables false
set_option linter.unusedSimpArgs false
section
/- Models of functions: what they compute, if all goes well: SatA. -/
namespace GoSx
open Go
def size (x : Int) : Option ((Int × Unit) × Unit × Unit) :=
  gd (inK IntKind.i64 (0 - x)) <|
  some ((max2 x (0 - x), ()), (), ())

def at_ (x : Int) : Option ((Int × Unit) × Unit × Unit) :=
  bif decide (x < 0) then
    gd (inK IntKind.i64 (-2 * x)) <|
    gd (inK IntKind.i64 (-2 * x + 1)) <|
    some ((-2 * x + 1, ()), (), ())
  else
    gd (inK IntKind.i64 (2 * x)) <|
    some ((2 * x, ()), (), ())

def value (x : Int) (is : List Int) : Option ((Int × Unit) × ((List Int × Unit) × Unit) × Unit) :=
  bif decide (x < 0) then
    gd (inK IntKind.i64 (0 - x)) <|
    gd (0 ≤ 0 - x) <|
    gd (0 - x < nI is.length) <|
    gd (inK IntKind.i64 (0 - getI is (0 - x))) <|
    some ((0 - getI is (0 - x), ()), ((is, ()), ()), ())
  else
    gd (0 ≤ x) <|
    gd (x < nI is.length) <|
    some ((getI is x, ()), ((is, ()), ()), ())

def set_ (x : Int) (y : Int) (is : List Int) (depth : List Int) (why : List Int) (row : List Int) (begin : List Int) : Option (Unit × ((List Int × List Int × List Int × List Int × List Int × Unit) × Unit) × Unit) :=
  bindO (size x) fun y0 =>
  gd (0 ≤ y0.1.1) <|
  gd (y0.1.1 < nI is.length) <|
  bif decide (x < 0) then
    gd (0 ≤ y0.1.1) <|
    gd (y0.1.1 < nI (is.set y0.1.1.toNat 1).length) <|
    gd (0 ≤ y0.1.1) <|
    gd (y0.1.1 < nI depth.length) <|
    gd (0 ≤ y0.1.1) <|
    gd (y0.1.1 < nI why.length) <|
    gd ((row.length + [x].length) * 8 ≤ lim) <|
    gd (row.length + [x].length ≤ lim) <|
    some ((), (((is.set y0.1.1.toNat 1).set y0.1.1.toNat (-1), depth.set y0.1.1.toNat (nI begin.length), why.set y0.1.1.toNat y, row ++ [x], begin, ()), ()), ())
  else
    gd (0 ≤ y0.1.1) <|
    gd (y0.1.1 < nI depth.length) <|
    gd (0 ≤ y0.1.1) <|
    gd (y0.1.1 < nI why.length) <|
    gd ((row.length + [x].length) * 8 ≤ lim) <|
    gd (row.length + [x].length ≤ lim) <|
    some ((), ((is.set y0.1.1.toNat 1, depth.set y0.1.1.toNat (nI begin.length), why.set y0.1.1.toNat y, row ++ [x], begin, ()), ()), ())

def backF (nn : Nat)  (level : Int) (is : List Int) (old : List Int) (cold : Int) (row : List Int) (begin : List Int) (done : Int) : Option (Unit × ((List Int × List Int × Int × List Int × List Int × Int × Unit) × Unit) × Unit) :=
  bif decide (level ≥ nI begin.length) then
    some ((), ((is, old, cold, row, begin, done, ()), ()), ())
  else
    gd (0 ≤ level) <|
    gd (level < nI begin.length) <|
    gd (0 ≤ getI begin level) <|
    gd (getI begin level ≤ nI row.length) <|
    gd (nI row.length ≤ nI row.length) <|
    gd (nI row.length - getI begin level ≤ nI lim) <|
    iterO (X := Int × (Int × Int) × List Int × List Int) (fun y0 =>
      bif decide (y0.1 < nI row.length - getI begin level) then
        gd (0 ≤ y0.1) <|
        gd (y0.1 < nI row.length - getI begin level) <|
        bindO (size (getI row (getI begin level + y0.1))) fun y1 =>
        gd (0 ≤ y1.1.1) <|
        gd (y1.1.1 < nI y0.2.2.1.length) <|
        gd (0 ≤ y1.1.1) <|
        gd (y1.1.1 < nI y0.2.2.2.length) <|
        gd (0 ≤ y1.1.1) <|
        gd (y1.1.1 < nI y0.2.2.1.length) <|
        gd (inK IntKind.i64 (y0.1 + 1)) <|
        some (Sum.inl (y0.1 + 1, (min2 y0.2.1.1 y1.1.1, y0.2.1.2), y0.2.2.1.set y1.1.1.toNat 0, y0.2.2.2.set y1.1.1.toNat (getI y0.2.2.1 y1.1.1)))
      else
        gd (0 ≤ getI begin level) <|
        gd (getI begin level ≤ nI row.length) <|
        gd (0 ≤ level) <|
        gd (level ≤ nI begin.length) <|
        some (Sum.inr ((), ((y0.2.2.1, y0.2.2.2, y0.2.1.1, List.take (Int.toNat (getI begin level)) row, List.take level.toNat begin, getI begin level, ()), ()), ()))) (nn) (0, (cold, done), is, old)

def back (level : Int) (is : List Int) (old : List Int) (cold : Int) (row : List Int) (begin : List Int) (done : Int) : Option (Unit × ((List Int × List Int × Int × List Int × List Int × Int × Unit) × Unit) × Unit) := backF fuelN level is old cold row begin done

def keep (c : List Int) (all : List (List Int)) (ix : Int) (watch : List (List Int)) : Option ((Int × Unit) × ((List (List Int) × Int × List (List Int) × Unit) × Unit) × Unit) :=
  gd ((all.length + 1) * 24 ≤ lim) <|
  gd (all.length + 1 ≤ lim) <|
  gd (inK IntKind.i64 (nI (all ++ [c]).length - 1)) <|
  gd (0 < nI c.length) <|
  bindO (at_ (getI c 0)) fun y0 =>
  gd (0 < nI c.length) <|
  bindO (at_ (getI c 0)) fun y1 =>
  gd (0 ≤ y1.1.1) <|
  gd (y1.1.1 < nI watch.length) <|
  gd ((List.length (getL watch y1.1.1) + [nI (all ++ [c]).length - 1].length) * 8 ≤ lim) <|
  gd (List.length (getL watch y1.1.1) + [nI (all ++ [c]).length - 1].length ≤ lim) <|
  gd (0 ≤ y0.1.1) <|
  gd (y0.1.1 < nI watch.length) <|
  gd (y1.1.1 = y0.1.1) <|
  gd (1 < nI c.length) <|
  bindO (at_ (getI c 1)) fun y2 =>
  gd (1 < nI c.length) <|
  bindO (at_ (getI c 1)) fun y3 =>
  gd (0 ≤ y3.1.1) <|
  gd (y3.1.1 < nI (watch.set y0.1.1.toNat (getL watch y1.1.1 ++ [nI (all ++ [c]).length - 1])).length) <|
  gd ((List.length (getL (watch.set y0.1.1.toNat (getL watch y1.1.1 ++ [nI (all ++ [c]).length - 1])) y3.1.1) + [nI (all ++ [c]).length - 1].length) * 8 ≤ lim) <|
  gd (List.length (getL (watch.set y0.1.1.toNat (getL watch y1.1.1 ++ [nI (all ++ [c]).length - 1])) y3.1.1) + [nI (all ++ [c]).length - 1].length ≤ lim) <|
  gd (0 ≤ y2.1.1) <|
  gd (y2.1.1 < nI (watch.set y0.1.1.toNat (getL watch y1.1.1 ++ [nI (all ++ [c]).length - 1])).length) <|
  gd (y3.1.1 = y2.1.1) <|
  some ((nI (all ++ [c]).length - 1, ()), ((all ++ [c], nI all.length, (watch.set y0.1.1.toNat (getL watch y1.1.1 ++ [nI (all ++ [c]).length - 1])).set y2.1.1.toNat (getL (watch.set y0.1.1.toNat (getL watch y1.1.1 ++ [nI (all ++ [c]).length - 1])) y3.1.1 ++ [nI (all ++ [c]).length - 1]), ()), ()), ())

end GoSx
end
section
/- Models of functions: what they compute, if all goes well: SatB. -/
namespace GoSx
open Go
def forget (answer : Int) (core : List Int) (model : List Bool) : Option (Unit × ((Int × List Int × List Bool × Unit) × Unit) × Unit) :=
  some ((), ((0, [], [], ()), ()), ())

def ownC (x : Int) (vars : Int) : Option ((Bool × Unit) × (Unit × (Int × Unit) × Unit) × Unit) :=
  bif x == 0 then
    some ((true, ()), ((), (vars, ()), ()), ())
  else
    gd (inK IntKind.i64 (0 - vars)) <|
    bif bif false then true else decide (x < 0 - vars) then
      some ((true, ()), ((), (vars, ()), ()), ())
    else
      some ((bif false then true else decide (x > vars), ()), ((), (vars, ()), ()), ())

def IndexFunc_ownF (nn : Nat)  (s : List Int) (vars : Int) : Option ((Int × Unit) × (Unit × (Int × Unit) × Unit) × Unit) :=
  iterO (X := Int × Int) (fun y0 =>
    bif decide (y0.1 < nI s.length) then
      gd (0 ≤ y0.1) <|
      gd (y0.1 < nI s.length) <|
      bindO (ownC (getI s y0.1) y0.2) fun y1 =>
      bif y1.1.1 then
        some (Sum.inr ((y0.1, ()), ((), (y1.2.1.2.1.1, ()), ()), ()))
      else
        gd (inK IntKind.i64 (y0.1 + 1)) <|
        some (Sum.inl (y0.1 + 1, y1.2.1.2.1.1))
    else
      some (Sum.inr ((-1, ()), ((), (y0.2, ()), ()), ()))) (nn) (0, vars)

def IndexFunc_own (s : List Int) (vars : Int) : Option ((Int × Unit) × (Unit × (Int × Unit) × Unit) × Unit) := IndexFunc_ownF fuelN s vars

def ContainsFunc_own (s : List Int) (vars : Int) : Option ((Bool × Unit) × (Unit × (Int × Unit) × Unit) × Unit) :=
  bindO (IndexFunc_own s vars) fun y0 =>
  some ((decide (y0.1.1 ≥ 0), ()), ((), (y0.2.1.2.1.1, ()), ()), ())

def own (l : List Int) (vars : Int) : Option ((Bool × Unit) × ((Int × Unit) × Unit) × Unit) :=
  bindO (ContainsFunc_own l vars) fun y0 =>
  some ((!y0.1.1, ()), ((y0.2.1.2.1.1, ()), ()), ())

def Index_F (nn : Nat)  (s : List Int) (v : Int) : Option ((Int × Unit) × Unit × Unit) :=
  iterO (X := Int) (fun y0 =>
    bif decide (y0 < nI s.length) then
      gd (0 ≤ y0) <|
      gd (y0 < nI s.length) <|
      bif v == getI s y0 then
        some (Sum.inr ((y0, ()), (), ()))
      else
        gd (inK IntKind.i64 (y0 + 1)) <|
        some (Sum.inl (y0 + 1))
    else
      some (Sum.inr ((-1, ()), (), ()))) (nn) 0

def Index_ (s : List Int) (v : Int) : Option ((Int × Unit) × Unit × Unit) := Index_F fuelN s v

def Contains_ (s : List Int) (v : Int) : Option ((Bool × Unit) × Unit × Unit) :=
  bindO (Index_ s v) fun y0 =>
  some ((decide (y0.1.1 ≥ 0), ()), (), ())

def pickF (nn : Nat)  (vars : Int) (is : List Int) (old : List Int) (hot : List Int) (warm : List Int) (cold : Int) : Option ((Int × Unit) × ((Int × List Int × List Int × List Int × List Int × Int × Unit) × Unit) × Unit) :=
  iterO (X := Int × Int) (fun y0 =>
    bif decide (y0.2 < nI warm.length) then
      gd (0 ≤ y0.2) <|
      gd (y0.2 < nI warm.length) <|
      gd (0 ≤ getI warm y0.2) <|
      gd (getI warm y0.2 < nI is.length) <|
      bif getI is (getI warm y0.2) == 0 then
        bif y0.1 == 0 then
          gd (inK IntKind.i64 (y0.2 + 1)) <|
          some (Sum.inl (getI warm y0.2, y0.2 + 1))
        else
          gd (0 ≤ getI warm y0.2) <|
          gd (getI warm y0.2 < nI hot.length) <|
          gd (0 ≤ y0.1) <|
          gd (y0.1 < nI hot.length) <|
          bif bif false then true else decide (getI hot (getI warm y0.2) > getI hot y0.1) then
            gd (inK IntKind.i64 (y0.2 + 1)) <|
            some (Sum.inl (getI warm y0.2, y0.2 + 1))
          else
            gd (0 ≤ getI warm y0.2) <|
            gd (getI warm y0.2 < nI hot.length) <|
            gd (0 ≤ y0.1) <|
            gd (y0.1 < nI hot.length) <|
            bif getI hot (getI warm y0.2) == getI hot y0.1 then
              bif bif true then bif false then true else bif true then decide (getI warm y0.2 < y0.1) else false else false then
                gd (inK IntKind.i64 (y0.2 + 1)) <|
                some (Sum.inl (getI warm y0.2, y0.2 + 1))
              else
                gd (inK IntKind.i64 (y0.2 + 1)) <|
                some (Sum.inl (y0.1, y0.2 + 1))
            else
              gd (inK IntKind.i64 (y0.2 + 1)) <|
              some (Sum.inl (y0.1, y0.2 + 1))
      else
        gd (inK IntKind.i64 (y0.2 + 1)) <|
        some (Sum.inl (y0.1, y0.2 + 1))
    else
      iterO (X := Int × Int × List Int × List Int × List Int × List Int × Int) (fun y1 =>
        bif y1.1 == 0 then
          bif bif true then decide (y1.2.2.2.2.2.2 ≤ y1.2.1) else false then
            gd (0 ≤ y1.2.2.2.2.2.2) <|
            gd (y1.2.2.2.2.2.2 < nI y1.2.2.1.length) <|
            bif getI y1.2.2.1 y1.2.2.2.2.2.2 == 0 then
              gd (0 ≤ y1.2.2.2.2.2.2) <|
              gd (y1.2.2.2.2.2.2 < nI y1.2.2.2.2.1.length) <|
              bif bif true then getI y1.2.2.2.2.1 y1.2.2.2.2.2.2 == 0 else false then
                gd (inK IntKind.i64 (y1.2.2.2.2.2.2 + 1)) <|
                some (Sum.inl (y1.2.2.2.2.2.2, y1.2.1, y1.2.2.1, y1.2.2.2.1, y1.2.2.2.2.1, y1.2.2.2.2.2.1, y1.2.2.2.2.2.2 + 1))
              else
                gd (inK IntKind.i64 (y1.2.2.2.2.2.2 + 1)) <|
                some (Sum.inl (y1.1, y1.2.1, y1.2.2.1, y1.2.2.2.1, y1.2.2.2.2.1, y1.2.2.2.2.2.1, y1.2.2.2.2.2.2 + 1))
            else
              gd (inK IntKind.i64 (y1.2.2.2.2.2.2 + 1)) <|
              some (Sum.inl (y1.1, y1.2.1, y1.2.2.1, y1.2.2.2.1, y1.2.2.2.2.1, y1.2.2.2.2.2.1, y1.2.2.2.2.2.2 + 1))
          else
            bif decide (y1.1 > 0) then
              gd (0 ≤ y1.1) <|
              gd (y1.1 < nI y1.2.2.2.1.length) <|
              bif bif true then getI y1.2.2.2.1 y1.1 == 1 else false then
                some (Sum.inr (Sum.inr ((y1.1, ()), ((y1.2.1, y1.2.2.1, y1.2.2.2.1, y1.2.2.2.2.1, y1.2.2.2.2.2.1, y1.2.2.2.2.2.2, ()), ()), ())))
              else
                gd (inK IntKind.i64 (0 - y1.1)) <|
                some (Sum.inr (Sum.inr ((0 - y1.1, ()), ((y1.2.1, y1.2.2.1, y1.2.2.2.1, y1.2.2.2.2.1, y1.2.2.2.2.2.1, y1.2.2.2.2.2.2, ()), ()), ())))
            else
              gd (inK IntKind.i64 (0 - y1.1)) <|
              some (Sum.inr (Sum.inr ((0 - y1.1, ()), ((y1.2.1, y1.2.2.1, y1.2.2.2.1, y1.2.2.2.2.1, y1.2.2.2.2.2.1, y1.2.2.2.2.2.2, ()), ()), ())))
        else
          bif decide (y1.1 > 0) then
            gd (0 ≤ y1.1) <|
            gd (y1.1 < nI y1.2.2.2.1.length) <|
            bif bif true then getI y1.2.2.2.1 y1.1 == 1 else false then
              some (Sum.inr (Sum.inr ((y1.1, ()), ((y1.2.1, y1.2.2.1, y1.2.2.2.1, y1.2.2.2.2.1, y1.2.2.2.2.2.1, y1.2.2.2.2.2.2, ()), ()), ())))
            else
              gd (inK IntKind.i64 (0 - y1.1)) <|
              some (Sum.inr (Sum.inr ((0 - y1.1, ()), ((y1.2.1, y1.2.2.1, y1.2.2.2.1, y1.2.2.2.2.1, y1.2.2.2.2.2.1, y1.2.2.2.2.2.2, ()), ()), ())))
          else
            gd (inK IntKind.i64 (0 - y1.1)) <|
            some (Sum.inr (Sum.inr ((0 - y1.1, ()), ((y1.2.1, y1.2.2.1, y1.2.2.2.1, y1.2.2.2.2.1, y1.2.2.2.2.2.1, y1.2.2.2.2.2.2, ()), ()), ())))) (nn) (y0.1, vars, is, old, hot, warm, cold)) (nn) (0, 0)

def pick (vars : Int) (is : List Int) (old : List Int) (hot : List Int) (warm : List Int) (cold : Int) : Option ((Int × Unit) × ((Int × List Int × List Int × List Int × List Int × Int × Unit) × Unit) × Unit) := pickF fuelN vars is old hot warm cold

def Clone_ (s : List Int) : Option ((List Int × Unit) × Unit × Unit) :=
  gd ((([] : List Int).length + s.length) * 8 ≤ lim) <|
  gd (([] : List Int).length + s.length ≤ lim) <|
  some ((s, ()), (), ())

def CloneB (s : List Bool) : Option ((List Bool × Unit) × Unit × Unit) :=
  gd ((([] : List Bool).length + s.length) * 1 ≤ lim) <|
  gd (([] : List Bool).length + s.length ≤ lim) <|
  some ((s, ()), (), ())

end GoSx
end
section
/- Models of functions: what they compute, if all goes well: SatC. -/
namespace GoSx
open Go
def more (l : List Int) (n : Int) : Option ((List Int × Unit) × Unit × Unit) :=
  gd (inK IntKind.i64 (n - nI l.length)) <|
  gd (0 ≤ n - nI l.length) <|
  gd ((l.length + Int.toNat (n - nI l.length)) * 8 ≤ lim) <|
  gd (l.length + Int.toNat (n - nI l.length) ≤ lim) <|
  some ((l ++ List.replicate (Int.toNat (n - nI l.length)) 0, ()), (), ())

def grow (n : Int) (vars : Int) (watch : List (List Int)) (is : List Int) (depth : List Int) (why : List Int) (old : List Int) (hot : List Int) : Option (Unit × ((Int × List (List Int) × List Int × List Int × List Int × List Int × List Int × Unit) × Unit) × Unit) :=
  gd (inK IntKind.i64 (n + 1)) <|
  bindO (more is (n + 1)) fun y0 =>
  gd (inK IntKind.i64 (n + 1)) <|
  bindO (more depth (n + 1)) fun y1 =>
  gd (inK IntKind.i64 (n + 1)) <|
  bindO (more why (n + 1)) fun y2 =>
  gd (inK IntKind.i64 (n + 1)) <|
  bindO (more old (n + 1)) fun y3 =>
  gd (inK IntKind.i64 (n + 1)) <|
  bindO (more hot (n + 1)) fun y4 =>
  gd (inK IntKind.i64 (2 * n)) <|
  gd (inK IntKind.i64 (2 * n + 2)) <|
  gd (inK IntKind.i64 (2 * n + 2 - nI watch.length)) <|
  gd (0 ≤ 2 * n + 2 - nI watch.length) <|
  gd ((watch.length + Int.toNat (2 * n + 2 - nI watch.length)) * 24 ≤ lim) <|
  gd (watch.length + Int.toNat (2 * n + 2 - nI watch.length) ≤ lim) <|
  some ((), ((n, watch ++ List.replicate (Int.toNat (2 * n + 2 - nI watch.length)) [], y0.1.1, y1.1.1, y2.1.1, y3.1.1, y4.1.1, ()), ()), ())

def New (n : Int) : Option (Unit × Unit × (Int × List (List Int) × List (List Int) × List Int × List Int × List Int × List Int × List Int × List Int × Int × List Int × List Int × Int × Bool × List (List Int) × Int × List Int × List Bool × Unit) × Unit) :=
  bindO (grow (min2 (max2 n 0) 1048576) 0 [] [] [] [] [] []) fun y0 =>
  some ((), (), (y0.2.1.1.1, [], y0.2.1.1.2.1, y0.2.1.1.2.2.1, y0.2.1.1.2.2.2.1, y0.2.1.1.2.2.2.2.1, y0.2.1.1.2.2.2.2.2.1, y0.2.1.1.2.2.2.2.2.2.1, [], 1, [], [], 0, false, [], 0, [], [], ()), ())

def AddF (nn : Nat)  (c : List Int) (vars : Int) (all : List (List Int)) (watch : List (List Int)) (is : List Int) (depth : List Int) (why : List Int) (old : List Int) (cold : Int) (row : List Int) (begin : List Int) (done : Int) (empty : Bool) (answer : Int) (core : List Int) (model : List Bool) : Option (Unit × ((Int × List (List Int) × List (List Int) × List Int × List Int × List Int × List Int × Int × List Int × List Int × Int × Bool × Int × List Int × List Bool × Unit) × Unit) × Unit) :=
  bindO (forget answer core model) fun y0 =>
  bindO (own c vars) fun y1 =>
  bif !y1.1.1 then
    some ((), ((y1.2.1.1.1, all, watch, is, depth, why, old, cold, row, begin, done, empty, y0.2.1.1.1, y0.2.1.1.2.1, y0.2.1.1.2.2.1, ()), ()), ())
  else
    bindO (back 0 is old cold row begin done) fun y2 =>
    iterO (X := Int × (Int × Int × Int × Bool × Int) × List Int) (fun y3 =>
      bif decide (y3.1 < nI c.length) then
        gd (0 ≤ y3.1) <|
        gd (y3.1 < nI c.length) <|
        bindO (value (getI c y3.1) y2.2.1.1.1) fun y4 =>
        bif y4.1.1 == 1 then
          some (Sum.inr ((), ((y3.2.1.1, all, watch, y2.2.1.1.1, depth, why, y2.2.1.1.2.1, y3.2.1.2.1, y2.2.1.1.2.2.2.1, y2.2.1.1.2.2.2.2.1, y3.2.1.2.2.1, y3.2.1.2.2.2.1, y3.2.1.2.2.2.2, y0.2.1.1.2.1, y0.2.1.1.2.2.1, ()), ()), ()))
        else
          gd (inK IntKind.i64 (0 - getI c y3.1)) <|
          bindO (Contains_ c (0 - getI c y3.1)) fun y5 =>
          bif bif false then true else y5.1.1 then
            some (Sum.inr ((), ((y3.2.1.1, all, watch, y2.2.1.1.1, depth, why, y2.2.1.1.2.1, y3.2.1.2.1, y2.2.1.1.2.2.2.1, y2.2.1.1.2.2.2.2.1, y3.2.1.2.2.1, y3.2.1.2.2.2.1, y3.2.1.2.2.2.2, y0.2.1.1.2.1, y0.2.1.1.2.2.1, ()), ()), ()))
          else
            bindO (value (getI c y3.1) y2.2.1.1.1) fun y6 =>
            bif y6.1.1 == 0 then
              bindO (Contains_ y3.2.2 (getI c y3.1)) fun y7 =>
              bif bif true then !y7.1.1 else false then
                gd ((y3.2.2.length + [getI c y3.1].length) * 8 ≤ lim) <|
                gd (y3.2.2.length + [getI c y3.1].length ≤ lim) <|
                gd (inK IntKind.i64 (y3.1 + 1)) <|
                some (Sum.inl (y3.1 + 1, (y3.2.1.1, y3.2.1.2.1, y3.2.1.2.2.1, y3.2.1.2.2.2.1, y3.2.1.2.2.2.2), y3.2.2 ++ [getI c y3.1]))
              else
                gd (inK IntKind.i64 (y3.1 + 1)) <|
                some (Sum.inl (y3.1 + 1, (y3.2.1.1, y3.2.1.2.1, y3.2.1.2.2.1, y3.2.1.2.2.2.1, y3.2.1.2.2.2.2), y3.2.2))
            else
              gd (inK IntKind.i64 (y3.1 + 1)) <|
              some (Sum.inl (y3.1 + 1, (y3.2.1.1, y3.2.1.2.1, y3.2.1.2.2.1, y3.2.1.2.2.2.1, y3.2.1.2.2.2.2), y3.2.2))
      else
        bif nI y3.2.2.length == 0 then
          some (Sum.inr ((), ((y3.2.1.1, all, watch, y2.2.1.1.1, depth, why, y2.2.1.1.2.1, y3.2.1.2.1, y2.2.1.1.2.2.2.1, y2.2.1.1.2.2.2.2.1, y3.2.1.2.2.1, true, y3.2.1.2.2.2.2, y0.2.1.1.2.1, y0.2.1.1.2.2.1, ()), ()), ()))
        else
          bif nI y3.2.2.length == 1 then
            gd (0 < nI y3.2.2.length) <|
            bindO (set_ (getI y3.2.2 0) (-1) y2.2.1.1.1 depth why y2.2.1.1.2.2.2.1 y2.2.1.1.2.2.2.2.1) fun y4 =>
            some (Sum.inr ((), ((y3.2.1.1, all, watch, y4.2.1.1.1, y4.2.1.1.2.1, y4.2.1.1.2.2.1, y2.2.1.1.2.1, y3.2.1.2.1, y4.2.1.1.2.2.2.1, y2.2.1.1.2.2.2.2.1, y3.2.1.2.2.1, y3.2.1.2.2.2.1, y3.2.1.2.2.2.2, y0.2.1.1.2.1, y0.2.1.1.2.2.1, ()), ()), ()))
          else
            bindO (keep y3.2.2 all 0 watch) fun y4 =>
            some (Sum.inr ((), ((y3.2.1.1, y4.2.1.1.1.set y4.2.1.1.2.1.toNat y3.2.2, y4.2.1.1.2.2.1, y2.2.1.1.1, depth, why, y2.2.1.1.2.1, y3.2.1.2.1, y2.2.1.1.2.2.2.1, y2.2.1.1.2.2.2.2.1, y3.2.1.2.2.1, y3.2.1.2.2.2.1, y3.2.1.2.2.2.2, y0.2.1.1.2.1, y0.2.1.1.2.2.1, ()), ()), ()))) (nn) (0, (y1.2.1.1.1, y2.2.1.1.2.2.1, y2.2.1.1.2.2.2.2.2.1, empty, y0.2.1.1.1), [])

def Add (c : List Int) (vars : Int) (all : List (List Int)) (watch : List (List Int)) (is : List Int) (depth : List Int) (why : List Int) (old : List Int) (cold : Int) (row : List Int) (begin : List Int) (done : Int) (empty : Bool) (answer : Int) (core : List Int) (model : List Bool) : Option (Unit × ((Int × List (List Int) × List (List Int) × List Int × List Int × List Int × List Int × Int × List Int × List Int × Int × Bool × Int × List Int × List Bool × Unit) × Unit) × Unit) := AddF fuelN c vars all watch is depth why old cold row begin done empty answer core model

def Model (model : List Bool) : Option ((List Bool × Unit) × ((List Bool × Unit) × Unit) × Unit) :=
  bindO (CloneB model) fun y0 =>
  some ((y0.1.1, ()), ((model, ()), ()), ())

def blameF (nn : Nat)  (x : Int) (all : List (List Int)) (why : List Int) (row : List Int) (begin : List Int) : Option ((List Int × Unit) × ((List (List Int) × List Int × List Int × List Int × Unit) × Unit) × Unit) :=
  bindO (size x) fun y0 =>
  gd (inK IntKind.i64 (nI row.length - 1)) <|
  iterO (X := Int × List (List Int) × List Int × List Int × List (Int × Bool)) (fun y1 =>
    bif decide (y1.1 ≥ 0) then
      bif bif true then decide (nI begin.length > 0) else false then
        gd (0 < nI begin.length) <|
        bif bif true then decide (y1.1 ≥ getI begin 0) else false then
          gd (0 ≤ y1.1) <|
          gd (y1.1 < nI row.length) <|
          bindO (size (getI row y1.1)) fun y2 =>
          bif !mapGet Ty.bool.dflt y1.2.2.2.2 y2.1.1 then
            gd (inK IntKind.i64 (y1.1 - 1)) <|
            some (Sum.inl (y1.1 - 1, y1.2.1, y1.2.2.1, y1.2.2.1, y1.2.2.2.2))
          else
            bindO (size (getI row y1.1)) fun y3 =>
            gd (0 ≤ y3.1.1) <|
            gd (y3.1.1 < nI why.length) <|
            bif getI why y3.1.1 == -1 then
              gd ((y1.2.2.1.length + [getI row y1.1].length) * 8 ≤ lim) <|
              gd (y1.2.2.1.length + [getI row y1.1].length ≤ lim) <|
              gd (inK IntKind.i64 (y1.1 - 1)) <|
              some (Sum.inl (y1.1 - 1, y1.2.1, y1.2.2.1 ++ [getI row y1.1], y1.2.2.1 ++ [getI row y1.1], y1.2.2.2.2))
            else
              bindO (size (getI row y1.1)) fun y4 =>
              gd (0 ≤ y4.1.1) <|
              gd (y4.1.1 < nI why.length) <|
              gd (0 ≤ getI why y4.1.1) <|
              gd (getI why y4.1.1 < nI y1.2.1.length) <|
              iterO (X := Int × List (Int × Bool)) (fun y5 =>
                bif decide (y5.1 < nI (List.length (getL y1.2.1 (getI why y4.1.1)))) then
                  gd (0 ≤ y5.1) <|
                  gd (y5.1 < nI (List.length (getL y1.2.1 (getI why y4.1.1)))) <|
                  bindO (size (getI (getL y1.2.1 (getI why y4.1.1)) y5.1)) fun y6 =>
                  gd (y5.2.length < lim) <|
                  gd (inK IntKind.i64 (y5.1 + 1)) <|
                  some (Sum.inl (y5.1 + 1, mapSet true y5.2 y6.1.1))
                else
                  gd (inK IntKind.i64 (y1.1 - 1)) <|
                  some (Sum.inr (Sum.inl (y1.1 - 1, y1.2.1.set (Int.toNat (getI why y4.1.1)) (getL y1.2.1 (getI why y4.1.1)), y1.2.2.1, y1.2.2.1, y5.2)))) (nn) (0, y1.2.2.2.2)
        else
          some (Sum.inr ((y1.2.2.1, ()), ((y1.2.1, why, row, begin, ()), ()), ()))
      else
        some (Sum.inr ((y1.2.2.1, ()), ((y1.2.1, why, row, begin, ()), ()), ()))
    else
      some (Sum.inr ((y1.2.2.1, ()), ((y1.2.1, why, row, begin, ()), ()), ()))) (nn) (nI row.length - 1, all, [x], [x], mapSet true [] y0.1.1)

def blame (x : Int) (all : List (List Int)) (why : List Int) (row : List Int) (begin : List Int) : Option ((List Int × Unit) × ((List (List Int) × List Int × List Int × List Int × Unit) × Unit) × Unit) := blameF fuelN x all why row begin

def learnF (nn : Nat)  (n : Int) (all : List (List Int)) (is : List Int) (depth : List Int) (why : List Int) (hot : List Int) (warm : List Int) (row : List Int) (begin : List Int) : Option ((List Int × Int × Unit) × ((List (List Int) × List Int × List Int × List Int × List Int × List Int × List Int × List Int × Unit) × Unit) × Unit) :=
  gd (0 ≤ n) <|
  gd (n < nI all.length) <|
  iterO (X := (Int × Int) × (List Int × List Int × List Int × List Int × List Int) × (List (List Int) × Int) × List Int × List Int × List Int × List Int × List (Int × Bool) × List Int) (fun y0 =>
    iterO (X := (Int × Int) × (List Int × List Int × List Int × List Int × List Int) × List Int × List Int × List (Int × Bool) × List Int × List Int) (fun y1 =>
      bif decide (y1.1.1 < nI y0.2.2.2.1.length) then
        gd (0 ≤ y1.1.1) <|
        gd (y1.1.1 < nI y0.2.2.2.1.length) <|
        bindO (size (getI y0.2.2.2.1 y1.1.1)) fun y2 =>
        bif mapGet Ty.bool.dflt y1.2.2.2.2.1 y2.1.1 then
          gd (inK IntKind.i64 (y1.1.1 + 1)) <|
          some (Sum.inl ((y1.1.1 + 1, y1.1.2), (y1.2.1.1, y1.2.1.2.1, y1.2.1.2.2.1, y1.2.1.2.2.2.1, y1.2.1.2.2.2.2), y1.2.2.1, y1.2.2.2.1, y1.2.2.2.2.1, y1.2.2.2.2.2.1, y1.2.2.2.2.2.1))
        else
          bindO (value (getI y0.2.2.2.1 y1.1.1) y1.2.1.1) fun y3 =>
          bif bif false then true else y3.1.1 != -1 then
            gd (inK IntKind.i64 (y1.1.1 + 1)) <|
            some (Sum.inl ((y1.1.1 + 1, y1.1.2), (y1.2.1.1, y1.2.1.2.1, y1.2.1.2.2.1, y1.2.1.2.2.2.1, y1.2.1.2.2.2.2), y1.2.2.1, y1.2.2.2.1, y1.2.2.2.2.1, y1.2.2.2.2.2.1, y1.2.2.2.2.2.1))
          else
            gd (0 ≤ y2.1.1) <|
            gd (y2.1.1 < nI y1.2.1.2.1.length) <|
            bif bif false then true else getI y1.2.1.2.1 y2.1.1 == 0 then
              gd (inK IntKind.i64 (y1.1.1 + 1)) <|
              some (Sum.inl ((y1.1.1 + 1, y1.1.2), (y1.2.1.1, y1.2.1.2.1, y1.2.1.2.2.1, y1.2.1.2.2.2.1, y1.2.1.2.2.2.2), y1.2.2.1, y1.2.2.2.1, y1.2.2.2.2.1, y1.2.2.2.2.2.1, y1.2.2.2.2.2.1))
            else
              gd (y1.2.2.2.2.1.length < lim) <|
              gd (0 ≤ y2.1.1) <|
              gd (y2.1.1 < nI y1.2.2.1.length) <|
              bif getI y1.2.2.1 y2.1.1 == 0 then
                gd ((y1.2.2.2.1.length + [y2.1.1].length) * 8 ≤ lim) <|
                gd (y1.2.2.2.1.length + [y2.1.1].length ≤ lim) <|
                gd (0 ≤ y2.1.1) <|
                gd (y2.1.1 < nI y1.2.2.1.length) <|
                gd (inK IntKind.i64 (getI y1.2.2.1 y2.1.1 + 1)) <|
                gd (0 ≤ y2.1.1) <|
                gd (y2.1.1 < nI y1.2.2.1.length) <|
                gd (0 ≤ y2.1.1) <|
                gd (y2.1.1 < nI y1.2.1.2.1.length) <|
                bif getI y1.2.1.2.1 y2.1.1 == nI y1.2.1.2.2.2.2.length then
                  gd (inK IntKind.i64 (y1.1.2 + 1)) <|
                  gd (inK IntKind.i64 (y1.1.1 + 1)) <|
                  some (Sum.inl ((y1.1.1 + 1, y1.1.2 + 1), (y1.2.1.1, y1.2.1.2.1, y1.2.1.2.2.1, y1.2.1.2.2.2.1, y1.2.1.2.2.2.2), y1.2.2.1.set y2.1.1.toNat (getI y1.2.2.1 y2.1.1 + 1), y1.2.2.2.1 ++ [y2.1.1], mapSet true y1.2.2.2.2.1 y2.1.1, y1.2.2.2.2.2.1, y1.2.2.2.2.2.1))
                else
                  gd ((y1.2.2.2.2.2.1.length + [getI y0.2.2.2.1 y1.1.1].length) * 8 ≤ lim) <|
                  gd (y1.2.2.2.2.2.1.length + [getI y0.2.2.2.1 y1.1.1].length ≤ lim) <|
                  gd (inK IntKind.i64 (y1.1.1 + 1)) <|
                  some (Sum.inl ((y1.1.1 + 1, y1.1.2), (y1.2.1.1, y1.2.1.2.1, y1.2.1.2.2.1, y1.2.1.2.2.2.1, y1.2.1.2.2.2.2), y1.2.2.1.set y2.1.1.toNat (getI y1.2.2.1 y2.1.1 + 1), y1.2.2.2.1 ++ [y2.1.1], mapSet true y1.2.2.2.2.1 y2.1.1, y1.2.2.2.2.2.1 ++ [getI y0.2.2.2.1 y1.1.1], y1.2.2.2.2.2.1 ++ [getI y0.2.2.2.1 y1.1.1]))
              else
                gd (0 ≤ y2.1.1) <|
                gd (y2.1.1 < nI y1.2.2.1.length) <|
                gd (inK IntKind.i64 (getI y1.2.2.1 y2.1.1 + 1)) <|
                gd (0 ≤ y2.1.1) <|
                gd (y2.1.1 < nI y1.2.2.1.length) <|
                gd (0 ≤ y2.1.1) <|
                gd (y2.1.1 < nI y1.2.1.2.1.length) <|
                bif getI y1.2.1.2.1 y2.1.1 == nI y1.2.1.2.2.2.2.length then
                  gd (inK IntKind.i64 (y1.1.2 + 1)) <|
                  gd (inK IntKind.i64 (y1.1.1 + 1)) <|
                  some (Sum.inl ((y1.1.1 + 1, y1.1.2 + 1), (y1.2.1.1, y1.2.1.2.1, y1.2.1.2.2.1, y1.2.1.2.2.2.1, y1.2.1.2.2.2.2), y1.2.2.1.set y2.1.1.toNat (getI y1.2.2.1 y2.1.1 + 1), y1.2.2.2.1, mapSet true y1.2.2.2.2.1 y2.1.1, y1.2.2.2.2.2.1, y1.2.2.2.2.2.1))
                else
                  gd ((y1.2.2.2.2.2.1.length + [getI y0.2.2.2.1 y1.1.1].length) * 8 ≤ lim) <|
                  gd (y1.2.2.2.2.2.1.length + [getI y0.2.2.2.1 y1.1.1].length ≤ lim) <|
                  gd (inK IntKind.i64 (y1.1.1 + 1)) <|
                  some (Sum.inl ((y1.1.1 + 1, y1.1.2), (y1.2.1.1, y1.2.1.2.1, y1.2.1.2.2.1, y1.2.1.2.2.2.1, y1.2.1.2.2.2.2), y1.2.2.1.set y2.1.1.toNat (getI y1.2.2.1 y2.1.1 + 1), y1.2.2.2.1, mapSet true y1.2.2.2.2.1 y2.1.1, y1.2.2.2.2.2.1 ++ [getI y0.2.2.2.1 y1.1.1], y1.2.2.2.2.2.1 ++ [getI y0.2.2.2.1 y1.1.1]))
      else
        gd (inK IntKind.i64 (y0.1.2 - 1)) <|
        iterO (X := Int) (fun y2 =>
          gd (0 ≤ y2) <|
          gd (y2 < nI y1.2.1.2.2.2.1.length) <|
          bindO (size (getI y1.2.1.2.2.2.1 y2)) fun y3 =>
          bif !mapGet Ty.bool.dflt y1.2.2.2.2.1 y3.1.1 then
            gd (inK IntKind.i64 (y2 - 1)) <|
            some (Sum.inl (y2 - 1))
          else
            gd (0 ≤ y2) <|
            gd (y2 < nI y1.2.1.2.2.2.1.length) <|
            gd (inK IntKind.i64 (y1.1.2 - 1)) <|
            bif y1.1.2 - 1 == 0 then
              gd (inK IntKind.i64 (0 - getI y1.2.1.2.2.2.1 y2)) <|
              gd (0 < nI y1.2.2.2.2.2.1.length) <|
              iterO (X := (Int × Int) × List Int) (fun y4 =>
                bif decide (y4.1.2 < nI y4.2.length) then
                  gd (0 ≤ y4.1.2) <|
                  gd (y4.1.2 < nI y4.2.length) <|
                  bindO (size (getI y4.2 y4.1.2)) fun y5 =>
                  gd (0 ≤ y5.1.1) <|
                  gd (y5.1.1 < nI y1.2.1.2.1.length) <|
                  bif decide (getI y1.2.1.2.1 y5.1.1 > y4.1.1) then
                    gd (0 ≤ y4.1.2) <|
                    gd (y4.1.2 < nI y4.2.length) <|
                    gd (1 < nI y4.2.length) <|
                    gd (1 < nI y4.2.length) <|
                    gd (0 ≤ y4.1.2) <|
                    gd (y4.1.2 < nI (y4.2.set 1 (getI y4.2 y4.1.2)).length) <|
                    gd (inK IntKind.i64 (y4.1.2 + 1)) <|
                    some (Sum.inl ((getI y1.2.1.2.1 y5.1.1, y4.1.2 + 1), (y4.2.set 1 (getI y4.2 y4.1.2)).set y4.1.2.toNat (getI y4.2 1)))
                  else
                    gd (inK IntKind.i64 (y4.1.2 + 1)) <|
                    some (Sum.inl ((y4.1.1, y4.1.2 + 1), y4.2))
                else
                  some (Sum.inr (Sum.inr (Sum.inr (Sum.inr ((y4.2, y4.1.1, ()), ((y0.2.2.1.1.set y0.2.2.1.2.toNat y0.2.2.2.1, y1.2.1.1, y1.2.1.2.1, y1.2.1.2.2.1, y1.2.2.1, y1.2.2.2.1, y1.2.1.2.2.2.1, y1.2.1.2.2.2.2, ()), ()), ())))))) (nn) ((0, 1), y1.2.2.2.2.2.1.set 0 (0 - getI y1.2.1.2.2.2.1 y2))
            else
              bindO (size (getI y1.2.1.2.2.2.1 y2)) fun y4 =>
              gd (0 ≤ y4.1.1) <|
              gd (y4.1.1 < nI y1.2.1.2.2.1.length) <|
              gd (0 ≤ getI y1.2.1.2.2.1 y4.1.1) <|
              gd (getI y1.2.1.2.2.1 y4.1.1 < nI y0.2.2.1.1.length) <|
              some (Sum.inr (Sum.inr (Sum.inl ((y1.1.2 - 1, y2), (y1.2.1.1, y1.2.1.2.1, y1.2.1.2.2.1, y1.2.1.2.2.2.1, y1.2.1.2.2.2.2), (y0.2.2.1.1.set y0.2.2.1.2.toNat y0.2.2.2.1, getI y1.2.1.2.2.1 y4.1.1), getL (y0.2.2.1.1.set y0.2.2.1.2.toNat y0.2.2.2.1) (getI y1.2.1.2.2.1 y4.1.1), getL (y0.2.2.1.1.set y0.2.2.1.2.toNat y0.2.2.2.1) (getI y1.2.1.2.2.1 y4.1.1), y1.2.2.1, y1.2.2.2.1, y1.2.2.2.2.1, y1.2.2.2.2.2.1))))) (nn) (y0.1.2 - 1)) (nn) ((0, y0.1.1), (y0.2.1.1, y0.2.1.2.1, y0.2.1.2.2.1, y0.2.1.2.2.2.1, y0.2.1.2.2.2.2), y0.2.2.2.2.2.1, y0.2.2.2.2.2.2.1, y0.2.2.2.2.2.2.2.1, y0.2.2.2.2.2.2.2.2, y0.2.2.2.2.2.2.2.2)) (nn) ((0, nI row.length), (is, depth, why, row, begin), (all, n), getL all n, getL all n, hot, warm, [], [0])

def learn (n : Int) (all : List (List Int)) (is : List Int) (depth : List Int) (why : List Int) (hot : List Int) (warm : List Int) (row : List Int) (begin : List Int) : Option ((List Int × Int × Unit) × ((List (List Int) × List Int × List Int × List Int × List Int × List Int × List Int × List Int × Unit) × Unit) × Unit) := learnF fuelN n all is depth why hot warm row begin

def unitF (nn : Nat)  (all : List (List Int)) (watch : List (List Int)) (is : List Int) (depth : List Int) (why : List Int) (row : List Int) (begin : List Int) (done : Int) : Option ((Int × Unit) × ((List (List Int) × List (List Int) × List Int × List Int × List Int × List Int × List Int × Int × Unit) × Unit) × Unit) :=
  iterO (X := (List Int × Int) × List (List Int) × List (List Int) × List Int × List Int × List Int × List Int) (fun y0 =>
    bif decide (y0.1.2 < nI y0.2.2.2.2.2.2.length) then
      gd (0 ≤ y0.1.2) <|
      gd (y0.1.2 < nI y0.2.2.2.2.2.2.length) <|
      gd (inK IntKind.i64 (0 - getI y0.2.2.2.2.2.2 y0.1.2)) <|
      gd (inK IntKind.i64 (y0.1.2 + 1)) <|
      bindO (at_ (0 - getI y0.2.2.2.2.2.2 y0.1.2)) fun y1 =>
      gd (0 ≤ y1.1.1) <|
      gd (y1.1.1 < nI y0.2.2.1.length) <|
      joinO (X := (Int × Int × Int) × (List Int × Int) × List (List Int) × (List (List Int) × Int) × List Int × List Int × List Int × List Int × List Int) (
        iterO (X := (Int × Int) × (List Int × Int) × List (List Int) × (List (List Int) × Int) × List Int × List Int × List Int × List Int × List Int) (fun y2 =>
          bif decide (y2.1.2 < nI (List.length (getL y0.2.2.1 y1.1.1))) then
            gd (0 ≤ y2.1.2) <|
            gd (y2.1.2 < nI y2.2.2.2.2.1.length) <|
            gd (0 ≤ getI y2.2.2.2.2.1 y2.1.2) <|
            gd (getI y2.2.2.2.2.1 y2.1.2 < nI y2.2.2.1.length) <|
            joinO (X := List Int) (
              gd (0 < nI (List.length (getL y2.2.2.1 (getI y2.2.2.2.2.1 y2.1.2)))) <|
              bif getI (getL y2.2.2.1 (getI y2.2.2.2.2.1 y2.1.2)) 0 == 0 - getI y0.2.2.2.2.2.2 y0.1.2 then
                gd (1 < nI (List.length (getL y2.2.2.1 (getI y2.2.2.2.2.1 y2.1.2)))) <|
                gd (0 < nI (List.length (getL y2.2.2.1 (getI y2.2.2.2.2.1 y2.1.2)))) <|
                gd (0 < nI (List.length (getL y2.2.2.1 (getI y2.2.2.2.2.1 y2.1.2)))) <|
                gd (1 < nI (List.set (getL y2.2.2.1 (getI y2.2.2.2.2.1 y2.1.2)) 0 (getI (getL y2.2.2.1 (getI y2.2.2.2.2.1 y2.1.2)) 1)).length) <|
                some (Sum.inl ((List.set (getL y2.2.2.1 (getI y2.2.2.2.2.1 y2.1.2)) 0 (getI (getL y2.2.2.1 (getI y2.2.2.2.2.1 y2.1.2)) 1)).set 1 (getI (getL y2.2.2.1 (getI y2.2.2.2.2.1 y2.1.2)) 0)))
              else
                some (Sum.inl (getL y2.2.2.1 (getI y2.2.2.2.2.1 y2.1.2)))) fun y3 =>
            gd (0 < nI y3.length) <|
            bindO (value (getI y3 0) y2.2.2.2.2.2.1) fun y4 =>
            bif y4.1.1 == 1 then
              gd (0 ≤ y2.1.1) <|
              gd (y2.1.1 < nI y2.2.2.2.2.1.length) <|
              gd (inK IntKind.i64 (y2.1.1 + 1)) <|
              gd (inK IntKind.i64 (y2.1.2 + 1)) <|
              some (Sum.inl ((y2.1.1 + 1, y2.1.2 + 1), (y2.2.1.1, y2.2.1.2), y2.2.2.1.set (Int.toNat (getI y2.2.2.2.2.1 y2.1.2)) y3, (y2.2.2.2.1.1, y2.2.2.2.1.2), y2.2.2.2.2.1.set y2.1.1.toNat (getI y2.2.2.2.2.1 y2.1.2), y2.2.2.2.2.2.1, y2.2.2.2.2.2.2.1, y2.2.2.2.2.2.2.2.1, y2.2.2.2.2.2.2.2.2))
            else
              joinO (X := Int × List Int × Int) (
                iterO (X := Int × List Int × Int) (fun y5 =>
                  bif decide (y5.1 < nI y3.length) then
                    gd (0 ≤ y5.1) <|
                    gd (y5.1 < nI y3.length) <|
                    bindO (value (getI y3 y5.1) y2.2.2.2.2.2.1) fun y6 =>
                    bif y6.1.1 != -1 then
                      gd (0 ≤ y5.1) <|
                      gd (y5.1 < nI y3.length) <|
                      gd (1 < nI y3.length) <|
                      gd (1 < nI y3.length) <|
                      gd (0 ≤ y5.1) <|
                      gd (y5.1 < nI (y3.set 1 (getI y3 y5.1)).length) <|
                      gd (1 < nI ((y3.set 1 (getI y3 y5.1)).set y5.1.toNat (getI y3 1)).length) <|
                      bindO (at_ (getI ((y3.set 1 (getI y3 y5.1)).set y5.1.toNat (getI y3 1)) 1)) fun y7 =>
                      gd (1 < nI ((y3.set 1 (getI y3 y5.1)).set y5.1.toNat (getI y3 1)).length) <|
                      bindO (at_ (getI ((y3.set 1 (getI y3 y5.1)).set y5.1.toNat (getI y3 1)) 1)) fun y8 =>
                      gd (0 ≤ y8.1.1) <|
                      gd (y8.1.1 < nI y2.2.2.2.1.1.length) <|
                      gd (y2.2.2.2.1.2 ≠ y8.1.1) <|
                      gd ((List.length (getL y2.2.2.2.1.1 y8.1.1) + [getI y2.2.2.2.2.1 y2.1.2].length) * 8 ≤ lim) <|
                      gd (List.length (getL y2.2.2.2.1.1 y8.1.1) + [getI y2.2.2.2.2.1 y2.1.2].length ≤ lim) <|
                      gd (0 ≤ y7.1.1) <|
                      gd (y7.1.1 < nI y2.2.2.2.1.1.length) <|
                      gd (y8.1.1 = y7.1.1) <|
                      gd (y2.2.2.2.1.2 ≠ y7.1.1) <|
                      gd (inK IntKind.i64 (y2.1.2 + 1)) <|
                      some (Sum.inr (Sum.inr (Sum.inl ((y2.1.1, y2.1.2 + 1), (y5.2.1, y5.2.2), y2.2.2.1.set (Int.toNat (getI y2.2.2.2.2.1 y2.1.2)) ((y3.set 1 (getI y3 y5.1)).set y5.1.toNat (getI y3 1)), (y2.2.2.2.1.1.set y7.1.1.toNat (getL y2.2.2.2.1.1 y8.1.1 ++ [getI y2.2.2.2.2.1 y2.1.2]), y2.2.2.2.1.2), y2.2.2.2.2.1, y2.2.2.2.2.2.1, y2.2.2.2.2.2.2.1, y2.2.2.2.2.2.2.2.1, y2.2.2.2.2.2.2.2.2))))
                    else
                      gd (inK IntKind.i64 (y5.1 + 1)) <|
                      some (Sum.inl (y5.1 + 1, y5.2.1, y5.2.2))
                  else
                    some (Sum.inr (Sum.inl (y5.1, y5.2.1, y5.2.2)))) (nn) (2, y2.2.1.1, y2.2.1.2)) fun y5 =>
              gd (0 ≤ y2.1.1) <|
              gd (y2.1.1 < nI y2.2.2.2.2.1.length) <|
              gd (inK IntKind.i64 (y2.1.1 + 1)) <|
              gd (0 < nI y3.length) <|
              bindO (value (getI y3 0) y2.2.2.2.2.2.1) fun y6 =>
              bif y6.1.1 == -1 then
                gd (0 ≤ y2.1.1 + 1) <|
                gd (y2.1.1 + 1 ≤ nI (y2.2.2.2.2.1.set y2.1.1.toNat (getI y2.2.2.2.2.1 y2.1.2)).length) <|
                gd (nI (y2.2.2.2.2.1.set y2.1.1.toNat (getI y2.2.2.2.2.1 y2.1.2)).length ≤ nI (y2.2.2.2.2.1.set y2.1.1.toNat (getI y2.2.2.2.2.1 y2.1.2)).length) <|
                gd (inK IntKind.i64 (y2.1.2 + 1)) <|
                gd (0 ≤ y2.1.2 + 1) <|
                gd (y2.1.2 + 1 ≤ nI (y2.2.2.2.2.1.set y2.1.1.toNat (getI y2.2.2.2.2.1 y2.1.2)).length) <|
                gd (nI (y2.2.2.2.2.1.set y2.1.1.toNat (getI y2.2.2.2.2.1 y2.1.2)).length ≤ nI (y2.2.2.2.2.1.set y2.1.1.toNat (getI y2.2.2.2.2.1 y2.1.2)).length) <|
                gd ((List.drop (Int.toNat (y2.1.2 + 1)) (List.take (nI (y2.2.2.2.2.1.set y2.1.1.toNat (getI y2.2.2.2.2.1 y2.1.2)).length).toNat (y2.2.2.2.2.1.set y2.1.1.toNat (getI y2.2.2.2.2.1 y2.1.2)))).length ≤ lim) <|
                gd (inK IntKind.i64 (y2.1.1 + 1 + nI ((List.drop (Int.toNat (y2.1.2 + 1)) (List.take (nI (y2.2.2.2.2.1.set y2.1.1.toNat (getI y2.2.2.2.2.1 y2.1.2)).length).toNat (y2.2.2.2.2.1.set y2.1.1.toNat (getI y2.2.2.2.2.1 y2.1.2)))).length.min (((some (nI (y2.2.2.2.2.1.set y2.1.1.toNat (getI y2.2.2.2.2.1 y2.1.2)).length)).getD (nI (y2.2.2.2.2.1.set y2.1.1.toNat (getI y2.2.2.2.2.1 y2.1.2)).length)).toNat - Int.toNat (y2.1.1 + 1))))) <|
                bindO (at_ (0 - getI y0.2.2.2.2.2.2 y0.1.2)) fun y7 =>
                gd (0 ≤ y2.1.1 + 1 + nI ((List.drop (Int.toNat (y2.1.2 + 1)) (List.take (nI (y2.2.2.2.2.1.set y2.1.1.toNat (getI y2.2.2.2.2.1 y2.1.2)).length).toNat (y2.2.2.2.2.1.set y2.1.1.toNat (getI y2.2.2.2.2.1 y2.1.2)))).length.min (((some (nI (y2.2.2.2.2.1.set y2.1.1.toNat (getI y2.2.2.2.2.1 y2.1.2)).length)).getD (nI (y2.2.2.2.2.1.set y2.1.1.toNat (getI y2.2.2.2.2.1 y2.1.2)).length)).toNat - Int.toNat (y2.1.1 + 1)))) <|
                gd (y2.1.1 + 1 + nI ((List.drop (Int.toNat (y2.1.2 + 1)) (List.take (nI (y2.2.2.2.2.1.set y2.1.1.toNat (getI y2.2.2.2.2.1 y2.1.2)).length).toNat (y2.2.2.2.2.1.set y2.1.1.toNat (getI y2.2.2.2.2.1 y2.1.2)))).length.min (((some (nI (y2.2.2.2.2.1.set y2.1.1.toNat (getI y2.2.2.2.2.1 y2.1.2)).length)).getD (nI (y2.2.2.2.2.1.set y2.1.1.toNat (getI y2.2.2.2.2.1 y2.1.2)).length)).toNat - Int.toNat (y2.1.1 + 1))) ≤ nI (List.take (Int.toNat (y2.1.1 + 1)) (y2.2.2.2.2.1.set y2.1.1.toNat (getI y2.2.2.2.2.1 y2.1.2)) ++ List.take ((List.drop (Int.toNat (y2.1.2 + 1)) (List.take (nI (y2.2.2.2.2.1.set y2.1.1.toNat (getI y2.2.2.2.2.1 y2.1.2)).length).toNat (y2.2.2.2.2.1.set y2.1.1.toNat (getI y2.2.2.2.2.1 y2.1.2)))).length.min (((some (nI (y2.2.2.2.2.1.set y2.1.1.toNat (getI y2.2.2.2.2.1 y2.1.2)).length)).getD (nI (y2.2.2.2.2.1.set y2.1.1.toNat (getI y2.2.2.2.2.1 y2.1.2)).length)).toNat - Int.toNat (y2.1.1 + 1))) (List.drop (Int.toNat (y2.1.2 + 1)) (List.take (nI (y2.2.2.2.2.1.set y2.1.1.toNat (getI y2.2.2.2.2.1 y2.1.2)).length).toNat (y2.2.2.2.2.1.set y2.1.1.toNat (getI y2.2.2.2.2.1 y2.1.2)))) ++ List.drop (Int.toNat (y2.1.1 + 1) + (List.drop (Int.toNat (y2.1.2 + 1)) (List.take (nI (y2.2.2.2.2.1.set y2.1.1.toNat (getI y2.2.2.2.2.1 y2.1.2)).length).toNat (y2.2.2.2.2.1.set y2.1.1.toNat (getI y2.2.2.2.2.1 y2.1.2)))).length.min (((some (nI (y2.2.2.2.2.1.set y2.1.1.toNat (getI y2.2.2.2.2.1 y2.1.2)).length)).getD (nI (y2.2.2.2.2.1.set y2.1.1.toNat (getI y2.2.2.2.2.1 y2.1.2)).length)).toNat - Int.toNat (y2.1.1 + 1))) (y2.2.2.2.2.1.set y2.1.1.toNat (getI y2.2.2.2.2.1 y2.1.2))).length) <|
                gd (0 ≤ y7.1.1) <|
                gd (y7.1.1 < nI y2.2.2.2.1.1.length) <|
                gd (y2.2.2.2.1.2 = y7.1.1) <|
                some (Sum.inr (Sum.inr (Sum.inr ((getI y2.2.2.2.2.1 y2.1.2, ()), ((y2.2.2.1.set (Int.toNat (getI y2.2.2.2.2.1 y2.1.2)) y3, y2.2.2.2.1.1.set y7.1.1.toNat (List.take (Int.toNat (y2.1.1 + 1 + nI ((List.drop (Int.toNat (y2.1.2 + 1)) (List.take (nI (y2.2.2.2.2.1.set y2.1.1.toNat (getI y2.2.2.2.2.1 y2.1.2)).length).toNat (y2.2.2.2.2.1.set y2.1.1.toNat (getI y2.2.2.2.2.1 y2.1.2)))).length.min (((some (nI (y2.2.2.2.2.1.set y2.1.1.toNat (getI y2.2.2.2.2.1 y2.1.2)).length)).getD (nI (y2.2.2.2.2.1.set y2.1.1.toNat (getI y2.2.2.2.2.1 y2.1.2)).length)).toNat - Int.toNat (y2.1.1 + 1))))) (List.take (Int.toNat (y2.1.1 + 1)) (y2.2.2.2.2.1.set y2.1.1.toNat (getI y2.2.2.2.2.1 y2.1.2)) ++ List.take ((List.drop (Int.toNat (y2.1.2 + 1)) (List.take (nI (y2.2.2.2.2.1.set y2.1.1.toNat (getI y2.2.2.2.2.1 y2.1.2)).length).toNat (y2.2.2.2.2.1.set y2.1.1.toNat (getI y2.2.2.2.2.1 y2.1.2)))).length.min (((some (nI (y2.2.2.2.2.1.set y2.1.1.toNat (getI y2.2.2.2.2.1 y2.1.2)).length)).getD (nI (y2.2.2.2.2.1.set y2.1.1.toNat (getI y2.2.2.2.2.1 y2.1.2)).length)).toNat - Int.toNat (y2.1.1 + 1))) (List.drop (Int.toNat (y2.1.2 + 1)) (List.take (nI (y2.2.2.2.2.1.set y2.1.1.toNat (getI y2.2.2.2.2.1 y2.1.2)).length).toNat (y2.2.2.2.2.1.set y2.1.1.toNat (getI y2.2.2.2.2.1 y2.1.2)))) ++ List.drop (Int.toNat (y2.1.1 + 1) + (List.drop (Int.toNat (y2.1.2 + 1)) (List.take (nI (y2.2.2.2.2.1.set y2.1.1.toNat (getI y2.2.2.2.2.1 y2.1.2)).length).toNat (y2.2.2.2.2.1.set y2.1.1.toNat (getI y2.2.2.2.2.1 y2.1.2)))).length.min (((some (nI (y2.2.2.2.2.1.set y2.1.1.toNat (getI y2.2.2.2.2.1 y2.1.2)).length)).getD (nI (y2.2.2.2.2.1.set y2.1.1.toNat (getI y2.2.2.2.2.1 y2.1.2)).length)).toNat - Int.toNat (y2.1.1 + 1))) (y2.2.2.2.2.1.set y2.1.1.toNat (getI y2.2.2.2.2.1 y2.1.2)))), y2.2.2.2.2.2.1, y2.2.2.2.2.2.2.1, y2.2.2.2.2.2.2.2.1, y2.2.2.2.2.2.2.2.2, y5.2.1, y5.2.2, ()), ()), ()))))
              else
                gd (0 < nI y3.length) <|
                bindO (set_ (getI y3 0) (getI y2.2.2.2.2.1 y2.1.2) y2.2.2.2.2.2.1 y2.2.2.2.2.2.2.1 y2.2.2.2.2.2.2.2.1 y2.2.2.2.2.2.2.2.2 y5.2.1) fun y7 =>
                gd (inK IntKind.i64 (y2.1.2 + 1)) <|
                some (Sum.inl ((y2.1.1 + 1, y2.1.2 + 1), (y5.2.1, y5.2.2), y2.2.2.1.set (Int.toNat (getI y2.2.2.2.2.1 y2.1.2)) y3, (y2.2.2.2.1.1, y2.2.2.2.1.2), y2.2.2.2.2.1.set y2.1.1.toNat (getI y2.2.2.2.2.1 y2.1.2), y7.2.1.1.1, y7.2.1.1.2.1, y7.2.1.1.2.2.1, y7.2.1.1.2.2.2.1))
          else
            some (Sum.inr (Sum.inl ((y2.1.1, nI (List.length (getL y0.2.2.1 y1.1.1)), y2.1.2), (y2.2.1.1, y2.2.1.2), y2.2.2.1, (y2.2.2.2.1.1, y2.2.2.2.1.2), y2.2.2.2.2.1, y2.2.2.2.2.2.1, y2.2.2.2.2.2.2.1, y2.2.2.2.2.2.2.2.1, y2.2.2.2.2.2.2.2.2)))) (nn) ((0, 0), (y0.1.1, y0.1.2 + 1), y0.2.1, (y0.2.2.1, y1.1.1), getL y0.2.2.1 y1.1.1, y0.2.2.2.1, y0.2.2.2.2.1, y0.2.2.2.2.2.1, y0.2.2.2.2.2.2)) fun y2 =>
      bindO (at_ (0 - getI y0.2.2.2.2.2.2 y0.1.2)) fun y3 =>
      gd (0 ≤ y2.1.1) <|
      gd (y2.1.1 ≤ nI y2.2.2.2.2.1.length) <|
      gd (0 ≤ y3.1.1) <|
      gd (y3.1.1 < nI y2.2.2.2.1.1.length) <|
      gd (y2.2.2.2.1.2 = y3.1.1) <|
      some (Sum.inl ((y2.2.1.1, y2.2.1.2), y2.2.2.1, y2.2.2.2.1.1.set y3.1.1.toNat (List.take y2.1.1.toNat y2.2.2.2.2.1), y2.2.2.2.2.2.1, y2.2.2.2.2.2.2.1, y2.2.2.2.2.2.2.2.1, y2.2.2.2.2.2.2.2.2))
    else
      some (Sum.inr ((-1, ()), ((y0.2.1, y0.2.2.1, y0.2.2.2.1, y0.2.2.2.2.1, y0.2.2.2.2.2.1, y0.2.2.2.2.2.2, y0.1.1, y0.1.2, ()), ()), ()))) (nn) ((begin, done), all, watch, is, depth, why, row)

def unit (all : List (List Int)) (watch : List (List Int)) (is : List Int) (depth : List Int) (why : List Int) (row : List Int) (begin : List Int) (done : Int) : Option ((Int × Unit) × ((List (List Int) × List (List Int) × List Int × List Int × List Int × List Int × List Int × Int × Unit) × Unit) × Unit) := unitF fuelN all watch is depth why row begin done

end GoSx
end
section
/- Models of functions: what they compute, if all goes well: SatD. -/
namespace GoSx
open Go
def take (n : Int) (all : List (List Int)) (watch : List (List Int)) (is : List Int) (depth : List Int) (why : List Int) (old : List Int) (hot : List Int) (warm : List Int) (cold : Int) (row : List Int) (begin : List Int) (done : Int) (proof : List (List Int)) : Option (Unit × ((List (List Int) × List (List Int) × List Int × List Int × List Int × List Int × List Int × List Int × Int × List Int × List Int × Int × List (List Int) × Unit) × Unit) × Unit) :=
  bindO (learn n all is depth why hot warm row begin) fun y0 =>
  bindO (Clone_ y0.1.1) fun y1 =>
  gd ((proof.length + [y1.1.1].length) * 24 ≤ lim) <|
  gd (proof.length + [y1.1.1].length ≤ lim) <|
  bindO (back y0.1.2.1 is old cold row begin done) fun y2 =>
  bif nI y0.1.1.length == 1 then
    gd (0 < nI y0.1.1.length) <|
    bindO (set_ (getI y0.1.1 0) (-1) y2.2.1.1.1 depth why y2.2.1.1.2.2.2.1 y2.2.1.1.2.2.2.2.1) fun y3 =>
    some ((), ((y0.2.1.1.1, watch, y3.2.1.1.1, y3.2.1.1.2.1, y3.2.1.1.2.2.1, y2.2.1.1.2.1, y0.2.1.1.2.2.2.2.1, y0.2.1.1.2.2.2.2.2.1, y2.2.1.1.2.2.1, y3.2.1.1.2.2.2.1, y2.2.1.1.2.2.2.2.1, y2.2.1.1.2.2.2.2.2.1, proof ++ [y1.1.1], ()), ()), ())
  else
    gd (0 < nI y0.1.1.length) <|
    bindO (keep y0.1.1 y0.2.1.1.1 0 watch) fun y3 =>
    bindO (set_ (getI y0.1.1 0) y3.1.1 y2.2.1.1.1 depth why y2.2.1.1.2.2.2.1 y2.2.1.1.2.2.2.2.1) fun y4 =>
    some ((), ((y3.2.1.1.1.set y3.2.1.1.2.1.toNat y0.1.1, y3.2.1.1.2.2.1, y4.2.1.1.1, y4.2.1.1.2.1, y4.2.1.1.2.2.1, y2.2.1.1.2.1, y0.2.1.1.2.2.2.2.1, y0.2.1.1.2.2.2.2.2.1, y2.2.1.1.2.2.1, y4.2.1.1.2.2.2.1, y2.2.1.1.2.2.2.2.1, y2.2.1.1.2.2.2.2.2.1, proof ++ [y1.1.1], ()), ()), ())

def searchF (nn : Nat)  (assume : List Int) (fuel : Int) (vars : Int) (all : List (List Int)) (watch : List (List Int)) (is : List Int) (depth : List Int) (why : List Int) (old : List Int) (hot : List Int) (warm : List Int) (cold : Int) (row : List Int) (begin : List Int) (done : Int) (empty : Bool) (proof : List (List Int)) (core : List Int) : Option ((Int × Unit) × ((Int × List (List Int) × List (List Int) × List Int × List Int × List Int × List Int × List Int × List Int × Int × List Int × List Int × Int × Bool × List (List Int) × List Int × Unit) × Unit) × Unit) :=
  iterO (X := Int × (Int × Int × Int × Bool) × List (List Int) × List (List Int) × List Int × List Int × List Int × List Int × List Int × List Int × List Int × List Int × List (List Int)) (fun y0 =>
    bindO (unit y0.2.2.1 y0.2.2.2.1 y0.2.2.2.2.1 y0.2.2.2.2.2.1 y0.2.2.2.2.2.2.1 y0.2.2.2.2.2.2.2.2.2.2.1 y0.2.2.2.2.2.2.2.2.2.2.2.1 y0.2.1.2.2.1) fun y1 =>
    bif y1.1.1 != -1 then
      bif nI y0.2.2.2.2.2.2.2.2.2.2.2.1.length == 0 then
        some (Sum.inr ((2, ()), ((y0.2.1.1, y1.2.1.1.1, y1.2.1.1.2.1, y1.2.1.1.2.2.1, y1.2.1.1.2.2.2.1, y1.2.1.1.2.2.2.2.1, y0.2.2.2.2.2.2.2.1, y0.2.2.2.2.2.2.2.2.1, y0.2.2.2.2.2.2.2.2.2.1, y0.2.1.2.1, y1.2.1.1.2.2.2.2.2.1, y0.2.2.2.2.2.2.2.2.2.2.2.1, y1.2.1.1.2.2.2.2.2.2.2.1, true, y0.2.2.2.2.2.2.2.2.2.2.2.2, core, ()), ()), ()))
      else
        bif decide (fuel ≥ 0) then
          bif bif true then decide (y0.1 ≥ fuel) else false then
            some (Sum.inr ((3, ()), ((y0.2.1.1, y1.2.1.1.1, y1.2.1.1.2.1, y1.2.1.1.2.2.1, y1.2.1.1.2.2.2.1, y1.2.1.1.2.2.2.2.1, y0.2.2.2.2.2.2.2.1, y0.2.2.2.2.2.2.2.2.1, y0.2.2.2.2.2.2.2.2.2.1, y0.2.1.2.1, y1.2.1.1.2.2.2.2.2.1, y0.2.2.2.2.2.2.2.2.2.2.2.1, y1.2.1.1.2.2.2.2.2.2.2.1, y0.2.1.2.2.2, y0.2.2.2.2.2.2.2.2.2.2.2.2, core, ()), ()), ()))
          else
            bindO (take y1.1.1 y1.2.1.1.1 y1.2.1.1.2.1 y1.2.1.1.2.2.1 y1.2.1.1.2.2.2.1 y1.2.1.1.2.2.2.2.1 y0.2.2.2.2.2.2.2.1 y0.2.2.2.2.2.2.2.2.1 y0.2.2.2.2.2.2.2.2.2.1 y0.2.1.2.1 y1.2.1.1.2.2.2.2.2.1 y0.2.2.2.2.2.2.2.2.2.2.2.1 y1.2.1.1.2.2.2.2.2.2.2.1 y0.2.2.2.2.2.2.2.2.2.2.2.2) fun y2 =>
            gd (inK IntKind.i64 (y0.1 + 1)) <|
            some (Sum.inl (y0.1 + 1, (y0.2.1.1, y2.2.1.1.2.2.2.2.2.2.2.2.1, y2.2.1.1.2.2.2.2.2.2.2.2.2.2.2.1, y0.2.1.2.2.2), y2.2.1.1.1, y2.2.1.1.2.1, y2.2.1.1.2.2.1, y2.2.1.1.2.2.2.1, y2.2.1.1.2.2.2.2.1, y2.2.1.1.2.2.2.2.2.1, y2.2.1.1.2.2.2.2.2.2.1, y2.2.1.1.2.2.2.2.2.2.2.1, y2.2.1.1.2.2.2.2.2.2.2.2.2.1, y2.2.1.1.2.2.2.2.2.2.2.2.2.2.1, y2.2.1.1.2.2.2.2.2.2.2.2.2.2.2.2.1))
        else
          bindO (take y1.1.1 y1.2.1.1.1 y1.2.1.1.2.1 y1.2.1.1.2.2.1 y1.2.1.1.2.2.2.1 y1.2.1.1.2.2.2.2.1 y0.2.2.2.2.2.2.2.1 y0.2.2.2.2.2.2.2.2.1 y0.2.2.2.2.2.2.2.2.2.1 y0.2.1.2.1 y1.2.1.1.2.2.2.2.2.1 y0.2.2.2.2.2.2.2.2.2.2.2.1 y1.2.1.1.2.2.2.2.2.2.2.1 y0.2.2.2.2.2.2.2.2.2.2.2.2) fun y2 =>
          gd (inK IntKind.i64 (y0.1 + 1)) <|
          some (Sum.inl (y0.1 + 1, (y0.2.1.1, y2.2.1.1.2.2.2.2.2.2.2.2.1, y2.2.1.1.2.2.2.2.2.2.2.2.2.2.2.1, y0.2.1.2.2.2), y2.2.1.1.1, y2.2.1.1.2.1, y2.2.1.1.2.2.1, y2.2.1.1.2.2.2.1, y2.2.1.1.2.2.2.2.1, y2.2.1.1.2.2.2.2.2.1, y2.2.1.1.2.2.2.2.2.2.1, y2.2.1.1.2.2.2.2.2.2.2.1, y2.2.1.1.2.2.2.2.2.2.2.2.2.1, y2.2.1.1.2.2.2.2.2.2.2.2.2.2.1, y2.2.1.1.2.2.2.2.2.2.2.2.2.2.2.2.1))
    else
      iterO (X := (Int × Int × Int × Bool) × List Int) (fun y2 =>
        bif decide (nI y2.2.length < nI assume.length) then
          gd (nI y2.2.length < nI assume.length) <|
          bindO (value (getI assume (nI y2.2.length)) y1.2.1.1.2.2.1) fun y3 =>
          bif y3.1.1 == -1 then
            bindO (blame (getI assume (nI y2.2.length)) y1.2.1.1.1 y1.2.1.1.2.2.2.2.1 y1.2.1.1.2.2.2.2.2.1 y2.2) fun y4 =>
            some (Sum.inr (Sum.inr ((2, ()), ((y2.1.1, y4.2.1.1.1, y1.2.1.1.2.1, y1.2.1.1.2.2.1, y1.2.1.1.2.2.2.1, y1.2.1.1.2.2.2.2.1, y0.2.2.2.2.2.2.2.1, y0.2.2.2.2.2.2.2.2.1, y0.2.2.2.2.2.2.2.2.2.1, y2.1.2.1, y1.2.1.1.2.2.2.2.2.1, y2.2, y2.1.2.2.1, y2.1.2.2.2, y0.2.2.2.2.2.2.2.2.2.2.2.2, y4.1.1, ()), ()), ())))
          else
            bif y3.1.1 == 0 then
              bif getI assume (nI y2.2.length) == 0 then
                bindO (pick y2.1.1 y1.2.1.1.2.2.1 y0.2.2.2.2.2.2.2.1 y0.2.2.2.2.2.2.2.2.1 y0.2.2.2.2.2.2.2.2.2.1 y2.1.2.1) fun y4 =>
                bif y4.1.1 == 0 then
                  some (Sum.inr (Sum.inr ((1, ()), ((y4.2.1.1.1, y1.2.1.1.1, y1.2.1.1.2.1, y1.2.1.1.2.2.1, y1.2.1.1.2.2.2.1, y1.2.1.1.2.2.2.2.1, y0.2.2.2.2.2.2.2.1, y0.2.2.2.2.2.2.2.2.1, y0.2.2.2.2.2.2.2.2.2.1, y4.2.1.1.2.2.2.2.2.1, y1.2.1.1.2.2.2.2.2.1, y2.2, y2.1.2.2.1, y2.1.2.2.2, y0.2.2.2.2.2.2.2.2.2.2.2.2, core, ()), ()), ())))
                else
                  gd ((y2.2.length + [nI y1.2.1.1.2.2.2.2.2.1.length].length) * 8 ≤ lim) <|
                  gd (y2.2.length + [nI y1.2.1.1.2.2.2.2.2.1.length].length ≤ lim) <|
                  bindO (set_ y4.1.1 (-1) y1.2.1.1.2.2.1 y1.2.1.1.2.2.2.1 y1.2.1.1.2.2.2.2.1 y1.2.1.1.2.2.2.2.2.1 (y2.2 ++ [nI y1.2.1.1.2.2.2.2.2.1.length])) fun y5 =>
                  some (Sum.inr (Sum.inl (y0.1, (y4.2.1.1.1, y4.2.1.1.2.2.2.2.2.1, y2.1.2.2.1, y2.1.2.2.2), y1.2.1.1.1, y1.2.1.1.2.1, y5.2.1.1.1, y5.2.1.1.2.1, y5.2.1.1.2.2.1, y0.2.2.2.2.2.2.2.1, y0.2.2.2.2.2.2.2.2.1, y0.2.2.2.2.2.2.2.2.2.1, y5.2.1.1.2.2.2.1, y2.2 ++ [nI y1.2.1.1.2.2.2.2.2.1.length], y0.2.2.2.2.2.2.2.2.2.2.2.2)))
              else
                bif getI assume (nI y2.2.length) == 0 then
                  some (Sum.inr (Sum.inr ((1, ()), ((y2.1.1, y1.2.1.1.1, y1.2.1.1.2.1, y1.2.1.1.2.2.1, y1.2.1.1.2.2.2.1, y1.2.1.1.2.2.2.2.1, y0.2.2.2.2.2.2.2.1, y0.2.2.2.2.2.2.2.2.1, y0.2.2.2.2.2.2.2.2.2.1, y2.1.2.1, y1.2.1.1.2.2.2.2.2.1, y2.2, y2.1.2.2.1, y2.1.2.2.2, y0.2.2.2.2.2.2.2.2.2.2.2.2, core, ()), ()), ())))
                else
                  gd ((y2.2.length + [nI y1.2.1.1.2.2.2.2.2.1.length].length) * 8 ≤ lim) <|
                  gd (y2.2.length + [nI y1.2.1.1.2.2.2.2.2.1.length].length ≤ lim) <|
                  bindO (set_ (getI assume (nI y2.2.length)) (-1) y1.2.1.1.2.2.1 y1.2.1.1.2.2.2.1 y1.2.1.1.2.2.2.2.1 y1.2.1.1.2.2.2.2.2.1 (y2.2 ++ [nI y1.2.1.1.2.2.2.2.2.1.length])) fun y4 =>
                  some (Sum.inr (Sum.inl (y0.1, (y2.1.1, y2.1.2.1, y2.1.2.2.1, y2.1.2.2.2), y1.2.1.1.1, y1.2.1.1.2.1, y4.2.1.1.1, y4.2.1.1.2.1, y4.2.1.1.2.2.1, y0.2.2.2.2.2.2.2.1, y0.2.2.2.2.2.2.2.2.1, y0.2.2.2.2.2.2.2.2.2.1, y4.2.1.1.2.2.2.1, y2.2 ++ [nI y1.2.1.1.2.2.2.2.2.1.length], y0.2.2.2.2.2.2.2.2.2.2.2.2)))
            else
              gd ((y2.2.length + [nI y1.2.1.1.2.2.2.2.2.1.length].length) * 8 ≤ lim) <|
              gd (y2.2.length + [nI y1.2.1.1.2.2.2.2.2.1.length].length ≤ lim) <|
              some (Sum.inl ((y2.1.1, y2.1.2.1, y2.1.2.2.1, y2.1.2.2.2), y2.2 ++ [nI y1.2.1.1.2.2.2.2.2.1.length]))
        else
          bindO (pick y2.1.1 y1.2.1.1.2.2.1 y0.2.2.2.2.2.2.2.1 y0.2.2.2.2.2.2.2.2.1 y0.2.2.2.2.2.2.2.2.2.1 y2.1.2.1) fun y3 =>
          bif y3.1.1 == 0 then
            some (Sum.inr (Sum.inr ((1, ()), ((y3.2.1.1.1, y1.2.1.1.1, y1.2.1.1.2.1, y1.2.1.1.2.2.1, y1.2.1.1.2.2.2.1, y1.2.1.1.2.2.2.2.1, y0.2.2.2.2.2.2.2.1, y0.2.2.2.2.2.2.2.2.1, y0.2.2.2.2.2.2.2.2.2.1, y3.2.1.1.2.2.2.2.2.1, y1.2.1.1.2.2.2.2.2.1, y2.2, y2.1.2.2.1, y2.1.2.2.2, y0.2.2.2.2.2.2.2.2.2.2.2.2, core, ()), ()), ())))
          else
            gd ((y2.2.length + [nI y1.2.1.1.2.2.2.2.2.1.length].length) * 8 ≤ lim) <|
            gd (y2.2.length + [nI y1.2.1.1.2.2.2.2.2.1.length].length ≤ lim) <|
            bindO (set_ y3.1.1 (-1) y1.2.1.1.2.2.1 y1.2.1.1.2.2.2.1 y1.2.1.1.2.2.2.2.1 y1.2.1.1.2.2.2.2.2.1 (y2.2 ++ [nI y1.2.1.1.2.2.2.2.2.1.length])) fun y4 =>
            some (Sum.inr (Sum.inl (y0.1, (y3.2.1.1.1, y3.2.1.1.2.2.2.2.2.1, y2.1.2.2.1, y2.1.2.2.2), y1.2.1.1.1, y1.2.1.1.2.1, y4.2.1.1.1, y4.2.1.1.2.1, y4.2.1.1.2.2.1, y0.2.2.2.2.2.2.2.1, y0.2.2.2.2.2.2.2.2.1, y0.2.2.2.2.2.2.2.2.2.1, y4.2.1.1.2.2.2.1, y2.2 ++ [nI y1.2.1.1.2.2.2.2.2.1.length], y0.2.2.2.2.2.2.2.2.2.2.2.2)))) (nn) ((y0.2.1.1, y0.2.1.2.1, y1.2.1.1.2.2.2.2.2.2.2.1, y0.2.1.2.2.2), y0.2.2.2.2.2.2.2.2.2.2.2.1)) (nn) (0, (vars, cold, done, empty), all, watch, is, depth, why, old, hot, warm, row, begin, proof)

def search (assume : List Int) (fuel : Int) (vars : Int) (all : List (List Int)) (watch : List (List Int)) (is : List Int) (depth : List Int) (why : List Int) (old : List Int) (hot : List Int) (warm : List Int) (cold : Int) (row : List Int) (begin : List Int) (done : Int) (empty : Bool) (proof : List (List Int)) (core : List Int) : Option ((Int × Unit) × ((Int × List (List Int) × List (List Int) × List Int × List Int × List Int × List Int × List Int × List Int × Int × List Int × List Int × Int × Bool × List (List Int) × List Int × Unit) × Unit) × Unit) := searchF fuelN assume fuel vars all watch is depth why old hot warm cold row begin done empty proof core

def AskF (nn : Nat)  (assume : List Int) (fuel : Int) (vars : Int) (all : List (List Int)) (watch : List (List Int)) (is : List Int) (depth : List Int) (why : List Int) (old : List Int) (hot : List Int) (warm : List Int) (cold : Int) (row : List Int) (begin : List Int) (done : Int) (empty : Bool) (proof : List (List Int)) (answer : Int) (core : List Int) (model : List Bool) : Option ((Int × Unit) × ((Int × List (List Int) × List (List Int) × List Int × List Int × List Int × List Int × List Int × List Int × Int × List Int × List Int × Int × Bool × List (List Int) × Int × List Int × List Bool × Unit) × Unit) × Unit) :=
  bindO (forget answer core model) fun y0 =>
  bindO (own assume vars) fun y1 =>
  bif !y1.1.1 then
    some ((0, ()), ((y1.2.1.1.1, all, watch, is, depth, why, old, hot, warm, cold, row, begin, done, empty, proof, y0.2.1.1.1, y0.2.1.1.2.1, y0.2.1.1.2.2.1, ()), ()), ())
  else
    bindO (back 0 is old cold row begin done) fun y2 =>
    joinO (X := (Int × Int × Int × Bool × Int) × List (List Int) × List (List Int) × List Int × List Int × List Int × List Int × List Int × List Int × List Int × List Int × List (List Int) × List Int) (
      bif !empty then
        bindO (search assume fuel y1.2.1.1.1 all watch y2.2.1.1.1 depth why y2.2.1.1.2.1 hot warm y2.2.1.1.2.2.1 y2.2.1.1.2.2.2.1 y2.2.1.1.2.2.2.2.1 y2.2.1.1.2.2.2.2.2.1 empty proof y0.2.1.1.2.1) fun y3 =>
        some (Sum.inl ((y3.2.1.1.1, y3.2.1.1.2.2.2.2.2.2.2.2.2.1, y3.2.1.1.2.2.2.2.2.2.2.2.2.2.2.2.1, y3.2.1.1.2.2.2.2.2.2.2.2.2.2.2.2.2.1, y3.1.1), y3.2.1.1.2.1, y3.2.1.1.2.2.1, y3.2.1.1.2.2.2.1, y3.2.1.1.2.2.2.2.1, y3.2.1.1.2.2.2.2.2.1, y3.2.1.1.2.2.2.2.2.2.1, y3.2.1.1.2.2.2.2.2.2.2.1, y3.2.1.1.2.2.2.2.2.2.2.2.1, y3.2.1.1.2.2.2.2.2.2.2.2.2.2.1, y3.2.1.1.2.2.2.2.2.2.2.2.2.2.2.1, y3.2.1.1.2.2.2.2.2.2.2.2.2.2.2.2.2.2.1, y3.2.1.1.2.2.2.2.2.2.2.2.2.2.2.2.2.2.2.1))
      else
        some (Sum.inl ((y1.2.1.1.1, y2.2.1.1.2.2.1, y2.2.1.1.2.2.2.2.2.1, empty, 2), all, watch, y2.2.1.1.1, depth, why, y2.2.1.1.2.1, hot, warm, y2.2.1.1.2.2.2.1, y2.2.1.1.2.2.2.2.1, proof, y0.2.1.1.2.1))) fun y3 =>
    bif y3.1.2.2.2.2 == 1 then
      iterO (X := Int × (Int × Int × Int × Bool × Int) × List Bool) (fun y4 =>
        bif decide (y4.1 ≤ y4.2.1.1) then
          gd (0 ≤ y4.1) <|
          gd (y4.1 < nI y3.2.2.2.1.length) <|
          gd ((y4.2.2.length + [getI y3.2.2.2.1 y4.1 == 1].length) * 1 ≤ lim) <|
          gd (y4.2.2.length + [getI y3.2.2.2.1 y4.1 == 1].length ≤ lim) <|
          gd (inK IntKind.i64 (y4.1 + 1)) <|
          some (Sum.inl (y4.1 + 1, (y4.2.1.1, y4.2.1.2.1, y4.2.1.2.2.1, y4.2.1.2.2.2.1, y4.2.1.2.2.2.2), y4.2.2 ++ [getI y3.2.2.2.1 y4.1 == 1]))
        else
          bindO (back 0 y3.2.2.2.1 y3.2.2.2.2.2.2.1 y4.2.1.2.1 y3.2.2.2.2.2.2.2.2.2.1 y3.2.2.2.2.2.2.2.2.2.2.1 y4.2.1.2.2.1) fun y5 =>
          some (Sum.inr ((y4.2.1.2.2.2.2, ()), ((y4.2.1.1, y3.2.1, y3.2.2.1, y5.2.1.1.1, y3.2.2.2.2.1, y3.2.2.2.2.2.1, y5.2.1.1.2.1, y3.2.2.2.2.2.2.2.1, y3.2.2.2.2.2.2.2.2.1, y5.2.1.1.2.2.1, y5.2.1.1.2.2.2.1, y5.2.1.1.2.2.2.2.1, y5.2.1.1.2.2.2.2.2.1, y4.2.1.2.2.2.1, y3.2.2.2.2.2.2.2.2.2.2.2.1, y4.2.1.2.2.2.2, y3.2.2.2.2.2.2.2.2.2.2.2.2, y4.2.2, ()), ()), ()))) (nn) (1, (y3.1.1, y3.1.2.1, y3.1.2.2.1, y3.1.2.2.2.1, y3.1.2.2.2.2), y0.2.1.1.2.2.1)
    else
      bif y3.1.2.2.2.2 == 2 then
        iterO (X := Int × List Int) (fun y4 =>
          bif decide (y4.1 < nI assume.length) then
            gd (0 ≤ y4.1) <|
            gd (y4.1 < nI assume.length) <|
            bindO (Contains_ y3.2.2.2.2.2.2.2.2.2.2.2.2 (getI assume y4.1)) fun y5 =>
            bif y5.1.1 then
              bindO (Contains_ y4.2 (getI assume y4.1)) fun y6 =>
              bif bif true then !y6.1.1 else false then
                gd ((y4.2.length + [getI assume y4.1].length) * 8 ≤ lim) <|
                gd (y4.2.length + [getI assume y4.1].length ≤ lim) <|
                gd (inK IntKind.i64 (y4.1 + 1)) <|
                some (Sum.inl (y4.1 + 1, y4.2 ++ [getI assume y4.1]))
              else
                gd (inK IntKind.i64 (y4.1 + 1)) <|
                some (Sum.inl (y4.1 + 1, y4.2))
            else
              gd (inK IntKind.i64 (y4.1 + 1)) <|
              some (Sum.inl (y4.1 + 1, y4.2))
          else
            bindO (back 0 y3.2.2.2.1 y3.2.2.2.2.2.2.1 y3.1.2.1 y3.2.2.2.2.2.2.2.2.2.1 y3.2.2.2.2.2.2.2.2.2.2.1 y3.1.2.2.1) fun y5 =>
            some (Sum.inr ((y3.1.2.2.2.2, ()), ((y3.1.1, y3.2.1, y3.2.2.1, y5.2.1.1.1, y3.2.2.2.2.1, y3.2.2.2.2.2.1, y5.2.1.1.2.1, y3.2.2.2.2.2.2.2.1, y3.2.2.2.2.2.2.2.2.1, y5.2.1.1.2.2.1, y5.2.1.1.2.2.2.1, y5.2.1.1.2.2.2.2.1, y5.2.1.1.2.2.2.2.2.1, y3.1.2.2.2.1, y3.2.2.2.2.2.2.2.2.2.2.2.1, y3.1.2.2.2.2, y4.2, y0.2.1.1.2.2.1, ()), ()), ()))) (nn) (0, [])
      else
        bindO (back 0 y3.2.2.2.1 y3.2.2.2.2.2.2.1 y3.1.2.1 y3.2.2.2.2.2.2.2.2.2.1 y3.2.2.2.2.2.2.2.2.2.2.1 y3.1.2.2.1) fun y4 =>
        some ((y3.1.2.2.2.2, ()), ((y3.1.1, y3.2.1, y3.2.2.1, y4.2.1.1.1, y3.2.2.2.2.1, y3.2.2.2.2.2.1, y4.2.1.1.2.1, y3.2.2.2.2.2.2.2.1, y3.2.2.2.2.2.2.2.2.1, y4.2.1.1.2.2.1, y4.2.1.1.2.2.2.1, y4.2.1.1.2.2.2.2.1, y4.2.1.1.2.2.2.2.2.1, y3.1.2.2.2.1, y3.2.2.2.2.2.2.2.2.2.2.2.1, y3.1.2.2.2.2, y3.2.2.2.2.2.2.2.2.2.2.2.2, y0.2.1.1.2.2.1, ()), ()), ())

def Ask (assume : List Int) (fuel : Int) (vars : Int) (all : List (List Int)) (watch : List (List Int)) (is : List Int) (depth : List Int) (why : List Int) (old : List Int) (hot : List Int) (warm : List Int) (cold : Int) (row : List Int) (begin : List Int) (done : Int) (empty : Bool) (proof : List (List Int)) (answer : Int) (core : List Int) (model : List Bool) : Option ((Int × Unit) × ((Int × List (List Int) × List (List Int) × List Int × List Int × List Int × List Int × List Int × List Int × Int × List Int × List Int × Int × Bool × List (List Int) × Int × List Int × List Bool × Unit) × Unit) × Unit) := AskF fuelN assume fuel vars all watch is depth why old hot warm cold row begin done empty proof answer core model

end GoSx
end
section
/- Models of functions: what they compute, if all goes well: ReuseA. -/
namespace GoSx
open Go
def fewF (nn : Nat)  (l : List (List Int)) : Option ((Bool × Unit) × Unit × Unit) :=
  bif decide (nI l.length > 30) then
    some ((false, ()), (), ())
  else
    iterO (X := Int) (fun y0 =>
      bif decide (y0 < nI l.length) then
        gd (0 ≤ y0) <|
        gd (y0 < nI l.length) <|
        bif decide (nI (List.length (getL l y0)) > 10) then
          some (Sum.inr ((false, ()), (), ()))
        else
          gd (inK IntKind.i64 (y0 + 1)) <|
          some (Sum.inl (y0 + 1))
      else
        some (Sum.inr ((true, ()), (), ()))) (nn) 0

def few (l : List (List Int)) : Option ((Bool × Unit) × Unit × Unit) := fewF fuelN l

def shortF (nn : Nat)  (l : List ByteArray) (gi : Int) (ga : List (Int × Int × Unit)) (ci : List (Int × Int × Int × Unit)) (cl : List (Int × Int × Bool × Int × Int × Unit)) (co : List (Int × Int × Int × Unit)) : Option ((Bool × Unit) × Unit × Unit) :=
  bif decide (nI l.length > 30) then
    some ((false, ()), (), ())
  else
    bif bif false then true else decide (nI cl.length > 40) then
      some ((false, ()), (), ())
    else
      iterO (X := Int) (fun y0 =>
        bif decide (y0 < nI l.length) then
          gd (0 ≤ y0) <|
          gd (y0 < nI l.length) <|
          bif decide (nI (ByteArray.size (get Ty.str l y0)) > 10) then
            some (Sum.inr ((false, ()), (), ()))
          else
            gd (inK IntKind.i64 (y0 + 1)) <|
            some (Sum.inl (y0 + 1))
        else
          some (Sum.inr ((true, ()), (), ()))) (nn) 0

def short (l : List ByteArray) (gi : Int) (ga : List (Int × Int × Unit)) (ci : List (Int × Int × Int × Unit)) (cl : List (Int × Int × Bool × Int × Int × Unit)) (co : List (Int × Int × Int × Unit)) : Option ((Bool × Unit) × Unit × Unit) := shortF fuelN l gi ga ci cl co

def same28F (nn : Nat)  (a : List (List Int)) (b : List (List Int)) : Option ((Bool × Unit) × Unit × Unit) :=
  bif nI a.length != nI b.length then
    some ((false, ()), (), ())
  else
    iterO (X := Int) (fun y0 =>
      bif decide (y0 < nI a.length) then
        gd (0 ≤ y0) <|
        gd (y0 < nI a.length) <|
        gd (0 ≤ y0) <|
        gd (y0 < nI b.length) <|
        bif nI (List.length (getL a y0)) != nI (List.length (getL b y0)) then
          some (Sum.inr ((false, ()), (), ()))
        else
          iterO (X := Int) (fun y1 =>
            gd (0 ≤ y0) <|
            gd (y0 < nI a.length) <|
            bif decide (y1 < nI (List.length (getL a y0))) then
              gd (0 ≤ y0) <|
              gd (y0 < nI a.length) <|
              gd (0 ≤ y1) <|
              gd (y1 < nI (List.length (getL a y0))) <|
              gd (0 ≤ y0) <|
              gd (y0 < nI b.length) <|
              gd (0 ≤ y1) <|
              gd (y1 < nI (List.length (getL b y0))) <|
              bif getI (getL a y0) y1 != getI (getL b y0) y1 then
                some (Sum.inr (Sum.inr ((false, ()), (), ())))
              else
                gd (inK IntKind.i64 (y1 + 1)) <|
                some (Sum.inl (y1 + 1))
            else
              gd (inK IntKind.i64 (y0 + 1)) <|
              some (Sum.inr (Sum.inl (y0 + 1)))) (nn) 0
      else
        some (Sum.inr ((true, ()), (), ()))) (nn) 0

def same28 (a : List (List Int)) (b : List (List Int)) : Option ((Bool × Unit) × Unit × Unit) := same28F fuelN a b

def names28F (nn : Nat)  (l : List ByteArray) : Option (((List Int × List Int × List (ByteArray × Int × Int × Int × Unit) × List Int × List Int × Unit) × Unit) × Unit × Unit) :=
  iterO (X := Int × List (ByteArray × Int × Int × Int × Unit)) (fun y0 =>
    bif decide (y0.1 < nI l.length) then
      gd (0 ≤ y0.1) <|
      gd (y0.1 < nI l.length) <|
      gd ((y0.2.length + [(get Ty.str l y0.1, 0, 0, 0, ())].length) * 40 ≤ lim) <|
      gd (y0.2.length + [(get Ty.str l y0.1, 0, 0, 0, ())].length ≤ lim) <|
      gd (inK IntKind.i64 (y0.1 + 1)) <|
      some (Sum.inl (y0.1 + 1, y0.2 ++ [(get Ty.str l y0.1, 0, 0, 0, ())]))
    else
      some (Sum.inr ((([], [], y0.2, [], [], ()), ()), (), ()))) (nn) (0, [])

def names28 (l : List ByteArray) : Option (((List Int × List Int × List (ByteArray × Int × Int × Int × Unit) × List Int × List Int × Unit) × Unit) × Unit × Unit) := names28F fuelN l

def unlikeF (nn : Nat)  (l : List ByteArray) : Option ((Bool × Unit) × Unit × Unit) :=
  iterO (X := Int) (fun y0 =>
    bif decide (y0 < nI l.length) then
      iterO (X := Int) (fun y1 =>
        bif decide (y1 < y0) then
          gd (0 ≤ y1) <|
          gd (y1 < nI l.length) <|
          gd (0 ≤ y0) <|
          gd (y0 < nI l.length) <|
          bif ByteArray.toList (get Ty.str l y1) == ByteArray.toList (get Ty.str l y0) then
            some (Sum.inr (Sum.inr ((false, ()), (), ())))
          else
            gd (inK IntKind.i64 (y1 + 1)) <|
            some (Sum.inl (y1 + 1))
        else
          gd (inK IntKind.i64 (y0 + 1)) <|
          some (Sum.inr (Sum.inl (y0 + 1)))) (nn) 0
    else
      some (Sum.inr ((true, ()), (), ()))) (nn) 0

def unlike (l : List ByteArray) : Option ((Bool × Unit) × Unit × Unit) := unlikeF fuelN l

def in28F (nn : Nat)  (a : List (List Int)) (b : List (List Int)) : Option ((Bool × Unit) × Unit × Unit) :=
  iterO (X := Int × Int) (fun y0 =>
    bif decide (y0.2 < nI b.length) then
      bif bif true then decide (y0.1 < nI a.length) else false then
        gd (inK IntKind.i64 (y0.1 + 1)) <|
        gd (0 ≤ y0.1) <|
        gd (y0.1 ≤ y0.1 + 1) <|
        gd (y0.1 + 1 ≤ nI a.length) <|
        gd (inK IntKind.i64 (y0.2 + 1)) <|
        gd (0 ≤ y0.2) <|
        gd (y0.2 ≤ y0.2 + 1) <|
        gd (y0.2 + 1 ≤ nI b.length) <|
        bindO (same28 (List.drop y0.1.toNat (List.take (Int.toNat (y0.1 + 1)) a)) (List.drop y0.2.toNat (List.take (Int.toNat (y0.2 + 1)) b))) fun y1 =>
        bif y1.1.1 then
          gd (inK IntKind.i64 (y0.1 + 1)) <|
          gd (inK IntKind.i64 (y0.2 + 1)) <|
          some (Sum.inl (y0.1 + 1, y0.2 + 1))
        else
          gd (inK IntKind.i64 (y0.2 + 1)) <|
          some (Sum.inl (y0.1, y0.2 + 1))
      else
        some (Sum.inr ((y0.1 == nI a.length, ()), (), ()))
    else
      some (Sum.inr ((y0.1 == nI a.length, ()), (), ()))) (nn) (0, 0)

def in28 (a : List (List Int)) (b : List (List Int)) : Option ((Bool × Unit) × Unit × Unit) := in28F fuelN a b

def ofC (x : Int) (gi : Int) (ga : List (Int × Int × Unit)) (ci : List (Int × Int × Int × Unit)) (cl : List (Int × Int × Bool × Int × Int × Unit)) (co : List (Int × Int × Int × Unit)) : Option ((Bool × Unit) × ((Int × List (Int × Int × Unit) × List (Int × Int × Int × Unit) × List (Int × Int × Bool × Int × Int × Unit) × List (Int × Int × Int × Unit) × Unit) × Unit) × Unit) :=
  bif x == 0 then
    some ((true, ()), ((gi, ga, ci, cl, co, ()), ()), ())
  else
    bif bif false then true else decide (x > nI cl.length) then
      some ((true, ()), ((gi, ga, ci, cl, co, ()), ()), ())
    else
      gd (inK IntKind.i64 (0 - nI cl.length)) <|
      some ((bif false then true else decide (x < 0 - nI cl.length), ()), ((gi, ga, ci, cl, co, ()), ()), ())

def IndexFunc_ofF (nn : Nat)  (s : List Int) (gi : Int) (ga : List (Int × Int × Unit)) (ci : List (Int × Int × Int × Unit)) (cl : List (Int × Int × Bool × Int × Int × Unit)) (co : List (Int × Int × Int × Unit)) : Option ((Int × Unit) × ((Int × List (Int × Int × Unit) × List (Int × Int × Int × Unit) × List (Int × Int × Bool × Int × Int × Unit) × List (Int × Int × Int × Unit) × Unit) × Unit) × Unit) :=
  iterO (X := Int × Int × List (Int × Int × Unit) × List (Int × Int × Int × Unit) × List (Int × Int × Bool × Int × Int × Unit) × List (Int × Int × Int × Unit)) (fun y0 =>
    bif decide (y0.1 < nI s.length) then
      gd (0 ≤ y0.1) <|
      gd (y0.1 < nI s.length) <|
      bindO (ofC (getI s y0.1) y0.2.1 y0.2.2.1 y0.2.2.2.1 y0.2.2.2.2.1 y0.2.2.2.2.2) fun y1 =>
      bif y1.1.1 then
        some (Sum.inr ((y0.1, ()), ((y1.2.1.1.1, y0.2.2.1, y0.2.2.2.1, y0.2.2.2.2.1, y0.2.2.2.2.2, ()), ()), ()))
      else
        gd (inK IntKind.i64 (y0.1 + 1)) <|
        some (Sum.inl (y0.1 + 1, y1.2.1.1.1, y0.2.2.1, y0.2.2.2.1, y0.2.2.2.2.1, y0.2.2.2.2.2))
    else
      some (Sum.inr ((-1, ()), ((y0.2.1, y0.2.2.1, y0.2.2.2.1, y0.2.2.2.2.1, y0.2.2.2.2.2, ()), ()), ()))) (nn) (0, gi, ga, ci, cl, co)

def IndexFunc_of (s : List Int) (gi : Int) (ga : List (Int × Int × Unit)) (ci : List (Int × Int × Int × Unit)) (cl : List (Int × Int × Bool × Int × Int × Unit)) (co : List (Int × Int × Int × Unit)) : Option ((Int × Unit) × ((Int × List (Int × Int × Unit) × List (Int × Int × Int × Unit) × List (Int × Int × Bool × Int × Int × Unit) × List (Int × Int × Int × Unit) × Unit) × Unit) × Unit) := IndexFunc_ofF fuelN s gi ga ci cl co

def ContainsFunc_of (s : List Int) (gi : Int) (ga : List (Int × Int × Unit)) (ci : List (Int × Int × Int × Unit)) (cl : List (Int × Int × Bool × Int × Int × Unit)) (co : List (Int × Int × Int × Unit)) : Option ((Bool × Unit) × ((Int × List (Int × Int × Unit) × List (Int × Int × Int × Unit) × List (Int × Int × Bool × Int × Int × Unit) × List (Int × Int × Int × Unit) × Unit) × Unit) × Unit) :=
  bindO (IndexFunc_of s gi ga ci cl co) fun y0 =>
  some ((decide (y0.1.1 ≥ 0), ()), ((y0.2.1.1.1, ga, ci, cl, co, ()), ()), ())

def rOf28 (gi : Int) (ga : List (Int × Int × Unit)) (ci : List (Int × Int × Int × Unit)) (cl : List (Int × Int × Bool × Int × Int × Unit)) (co : List (Int × Int × Int × Unit)) (l : List Int) : Option ((Bool × Unit) × Unit × Unit) :=
  bindO (ContainsFunc_of l gi ga ci cl co) fun y0 =>
  some ((!y0.1.1, ()), (), ())

def Of28F (nn : Nat)  (gi : Int) (ga : List (Int × Int × Unit)) (ci : List (Int × Int × Int × Unit)) (cl : List (Int × Int × Bool × Int × Int × Unit)) (co : List (Int × Int × Int × Unit)) (l : List Int) : Option ((Bool × Unit) × Unit × Unit) :=
  iterO (X := Int) (fun y0 =>
    bif decide (y0 < nI l.length) then
      gd (0 ≤ y0) <|
      gd (y0 < nI l.length) <|
      bif getI l y0 == 0 then
        some (Sum.inr ((false, ()), (), ()))
      else
        gd (0 ≤ y0) <|
        gd (y0 < nI l.length) <|
        bif bif false then true else decide (getI l y0 > nI cl.length) then
          some (Sum.inr ((false, ()), (), ()))
        else
          gd (0 ≤ y0) <|
          gd (y0 < nI l.length) <|
          gd (inK IntKind.i64 (0 - nI cl.length)) <|
          bif bif false then true else decide (getI l y0 < 0 - nI cl.length) then
            some (Sum.inr ((false, ()), (), ()))
          else
            gd (inK IntKind.i64 (y0 + 1)) <|
            some (Sum.inl (y0 + 1))
    else
      some (Sum.inr ((true, ()), (), ()))) (nn) 0

def Of28 (gi : Int) (ga : List (Int × Int × Unit)) (ci : List (Int × Int × Int × Unit)) (cl : List (Int × Int × Bool × Int × Int × Unit)) (co : List (Int × Int × Int × Unit)) (l : List Int) : Option ((Bool × Unit) × Unit × Unit) := Of28F fuelN gi ga ci cl co l

def place (x : Int) : Option ((Int × Bool × Unit) × Unit × Unit) :=
  bif decide (x < 0) then
    gd (inK IntKind.i64 (0 - x)) <|
    gd (inK IntKind.i64 (0 - x - 1)) <|
    some ((0 - x - 1, false, ()), (), ())
  else
    gd (inK IntKind.i64 (x - 1)) <|
    some ((x - 1, true, ()), (), ())

def moveTo (i : Int) (gi : Int) (ga : List (Int × Int × Unit)) (ci : List (Int × Int × Int × Unit)) (cl : List (Int × Int × Bool × Int × Int × Unit)) (co : List (Int × Int × Int × Unit)) (n1 : List Int) (n2 : List Int) (cells : List (ByteArray × Int × Int × Int × Unit)) (n4 : List Int) (n5 : List Int) (cm : List (ByteArray × Int)) (lm : List ((Int × Int × Unit) × Int)) : Option ((Int × Unit) × ((Int × List (Int × Int × Unit) × List (Int × Int × Int × Unit) × List (Int × Int × Bool × Int × Int × Unit) × List (Int × Int × Int × Unit) × Unit) × (List Int × List Int × List (ByteArray × Int × Int × Int × Unit) × List Int × List Int × Unit) × (List (ByteArray × Int) × Unit) × (List ((Int × Int × Unit) × Int) × Unit) × Unit) × Unit) :=
  gd (0 ≤ i) <|
  gd (i < nI cl.length) <|
  bif decide ((get latchT cl i).2.2.2.1 < 0) then
    some ((0, ()), ((gi, ga, ci, cl, co, ()), (n1, n2, cells, n4, n5, ()), (cm, ()), (lm, ()), ()), ())
  else
    bif bif false then true else decide ((get latchT cl i).2.2.2.1 ≥ nI cells.length) then
      some ((0, ()), ((gi, ga, ci, cl, co, ()), (n1, n2, cells, n4, n5, ()), (cm, ()), (lm, ()), ()), ())
    else
      gd (0 ≤ (get latchT cl i).2.2.2.1) <|
      gd ((get latchT cl i).2.2.2.1 < nI cells.length) <|
      bif !mapHas cm (get cellT cells (get latchT cl i).2.2.2.1).1 then
        some ((0, ()), ((gi, ga, ci, cl, co, ()), (n1, n2, cells, n4, n5, ()), (cm, ()), (lm, ()), ()), ())
      else
        some ((mapGet (Ty.int IntKind.i64).dflt lm (mapGet (Ty.int IntKind.i64).dflt cm (get cellT cells (get latchT cl i).2.2.2.1).1, (get latchT cl i).2.2.2.2.1, ()), ()), ((gi, ga, ci, cl, co, ()), (n1, n2, cells, n4, n5, ()), (cm, ()), (lm, ()), ()), ())

def to28F (nn : Nat)  (a1 : List Int) (a2 : List Int) (ac : List (ByteArray × Int × Int × Int × Unit)) (a4 : List Int) (a5 : List Int) (xv : Int) (xn : Int) (xi : Bool) (xc : Int) (xb : Int) (b1 : List Int) (b2 : List Int) (bc : List (ByteArray × Int × Int × Int × Unit)) (b4 : List Int) (b5 : List Int) (gi : Int) (ga : List (Int × Int × Unit)) (ci : List (Int × Int × Int × Unit)) (cl : List (Int × Int × Bool × Int × Int × Unit)) (co : List (Int × Int × Int × Unit)) : Option ((Int × Unit) × Unit × Unit) :=
  bif decide (xc < 0) then
    some ((0, ()), (), ())
  else
    bif bif false then true else decide (xc ≥ nI ac.length) then
      some ((0, ()), (), ())
    else
      gd (inK IntKind.i64 (nI bc.length - 1)) <|
      iterO (X := Int × Int) (fun y0 =>
        bif decide (y0.2 ≥ 0) then
          gd (0 ≤ y0.2) <|
          gd (y0.2 < nI bc.length) <|
          gd (0 ≤ xc) <|
          gd (xc < nI ac.length) <|
          bif ByteArray.toList (get cellT bc y0.2).1 == ByteArray.toList (get cellT ac xc).1 then
            gd (inK IntKind.i64 (y0.2 - 1)) <|
            some (Sum.inl (y0.2, y0.2 - 1))
          else
            gd (inK IntKind.i64 (y0.2 - 1)) <|
            some (Sum.inl (y0.1, y0.2 - 1))
        else
          bif decide (y0.1 < 0) then
            some (Sum.inr ((0, ()), (), ()))
          else
            iterO (X := Int) (fun y1 =>
              bif decide (y1 < nI cl.length) then
                gd (0 ≤ y1) <|
                gd (y1 < nI cl.length) <|
                bif (get latchT cl y1).2.2.2.1 == y0.1 then
                  gd (0 ≤ y1) <|
                  gd (y1 < nI cl.length) <|
                  bif bif true then (get latchT cl y1).2.2.2.2.1 == xb else false then
                    gd (inK IntKind.i64 (y1 + 1)) <|
                    some (Sum.inr (Sum.inr ((y1 + 1, ()), (), ())))
                  else
                    gd (inK IntKind.i64 (y1 + 1)) <|
                    some (Sum.inl (y1 + 1))
                else
                  gd (inK IntKind.i64 (y1 + 1)) <|
                  some (Sum.inl (y1 + 1))
              else
                some (Sum.inr (Sum.inr ((0, ()), (), ())))) (nn) 0) (nn) (-1, nI bc.length - 1)

def to28 (a1 : List Int) (a2 : List Int) (ac : List (ByteArray × Int × Int × Int × Unit)) (a4 : List Int) (a5 : List Int) (xv : Int) (xn : Int) (xi : Bool) (xc : Int) (xb : Int) (b1 : List Int) (b2 : List Int) (bc : List (ByteArray × Int × Int × Int × Unit)) (b4 : List Int) (b5 : List Int) (gi : Int) (ga : List (Int × Int × Unit)) (ci : List (Int × Int × Int × Unit)) (cl : List (Int × Int × Bool × Int × Int × Unit)) (co : List (Int × Int × Int × Unit)) : Option ((Int × Unit) × Unit × Unit) := to28F fuelN a1 a2 ac a4 a5 xv xn xi xc xb b1 b2 bc b4 b5 gi ga ci cl co

def moved28F (nn : Nat)  (a1 : List Int) (a2 : List Int) (ac : List (ByteArray × Int × Int × Int × Unit)) (a4 : List Int) (a5 : List Int) (gi : Int) (ga : List (Int × Int × Unit)) (ci : List (Int × Int × Int × Unit)) (cl : List (Int × Int × Bool × Int × Int × Unit)) (co : List (Int × Int × Int × Unit)) (b1 : List Int) (b2 : List Int) (bc : List (ByteArray × Int × Int × Int × Unit)) (b4 : List Int) (b5 : List Int) (hi : Int) (ha : List (Int × Int × Unit)) (hci : List (Int × Int × Int × Unit)) (hcl : List (Int × Int × Bool × Int × Int × Unit)) (hco : List (Int × Int × Int × Unit)) (l : List Int) : Option ((List Int × Bool × Unit) × Unit × Unit) :=
  iterO (X := Int × List Int) (fun y0 =>
    bif decide (y0.1 < nI l.length) then
      gd (0 ≤ y0.1) <|
      gd (y0.1 < nI l.length) <|
      bif decide (getI l y0.1 < 0) then
        gd (inK IntKind.i64 (0 - getI l y0.1)) <|
        gd (inK IntKind.i64 (0 - getI l y0.1 - 1)) <|
        gd (0 ≤ 0 - getI l y0.1 - 1) <|
        gd (0 - getI l y0.1 - 1 < nI cl.length) <|
        bindO (to28 a1 a2 ac a4 a5 (get latchT cl (0 - getI l y0.1 - 1)).1 (get latchT cl (0 - getI l y0.1 - 1)).2.1 (get latchT cl (0 - getI l y0.1 - 1)).2.2.1 (get latchT cl (0 - getI l y0.1 - 1)).2.2.2.1 (get latchT cl (0 - getI l y0.1 - 1)).2.2.2.2.1 b1 b2 bc b4 b5 hi ha hci hcl hco) fun y1 =>
        bif y1.1.1 == 0 then
          some (Sum.inr (([], false, ()), (), ()))
        else
          gd (0 ≤ y0.1) <|
          gd (y0.1 < nI l.length) <|
          bif decide (getI l y0.1 < 0) then
            gd (inK IntKind.i64 (0 - y1.1.1)) <|
            gd ((y0.2.length + [0 - y1.1.1].length) * 8 ≤ lim) <|
            gd (y0.2.length + [0 - y1.1.1].length ≤ lim) <|
            gd (inK IntKind.i64 (y0.1 + 1)) <|
            some (Sum.inl (y0.1 + 1, y0.2 ++ [0 - y1.1.1]))
          else
            gd ((y0.2.length + [y1.1.1].length) * 8 ≤ lim) <|
            gd (y0.2.length + [y1.1.1].length ≤ lim) <|
            gd (inK IntKind.i64 (y0.1 + 1)) <|
            some (Sum.inl (y0.1 + 1, y0.2 ++ [y1.1.1]))
      else
        gd (inK IntKind.i64 (getI l y0.1 - 1)) <|
        gd (0 ≤ getI l y0.1 - 1) <|
        gd (getI l y0.1 - 1 < nI cl.length) <|
        bindO (to28 a1 a2 ac a4 a5 (get latchT cl (getI l y0.1 - 1)).1 (get latchT cl (getI l y0.1 - 1)).2.1 (get latchT cl (getI l y0.1 - 1)).2.2.1 (get latchT cl (getI l y0.1 - 1)).2.2.2.1 (get latchT cl (getI l y0.1 - 1)).2.2.2.2.1 b1 b2 bc b4 b5 hi ha hci hcl hco) fun y1 =>
        bif y1.1.1 == 0 then
          some (Sum.inr (([], false, ()), (), ()))
        else
          gd (0 ≤ y0.1) <|
          gd (y0.1 < nI l.length) <|
          bif decide (getI l y0.1 < 0) then
            gd (inK IntKind.i64 (0 - y1.1.1)) <|
            gd ((y0.2.length + [0 - y1.1.1].length) * 8 ≤ lim) <|
            gd (y0.2.length + [0 - y1.1.1].length ≤ lim) <|
            gd (inK IntKind.i64 (y0.1 + 1)) <|
            some (Sum.inl (y0.1 + 1, y0.2 ++ [0 - y1.1.1]))
          else
            gd ((y0.2.length + [y1.1.1].length) * 8 ≤ lim) <|
            gd (y0.2.length + [y1.1.1].length ≤ lim) <|
            gd (inK IntKind.i64 (y0.1 + 1)) <|
            some (Sum.inl (y0.1 + 1, y0.2 ++ [y1.1.1]))
    else
      some (Sum.inr ((y0.2, true, ()), (), ()))) (nn) (0, [])

def moved28 (a1 : List Int) (a2 : List Int) (ac : List (ByteArray × Int × Int × Int × Unit)) (a4 : List Int) (a5 : List Int) (gi : Int) (ga : List (Int × Int × Unit)) (ci : List (Int × Int × Int × Unit)) (cl : List (Int × Int × Bool × Int × Int × Unit)) (co : List (Int × Int × Int × Unit)) (b1 : List Int) (b2 : List Int) (bc : List (ByteArray × Int × Int × Int × Unit)) (b4 : List Int) (b5 : List Int) (hi : Int) (ha : List (Int × Int × Unit)) (hci : List (Int × Int × Int × Unit)) (hcl : List (Int × Int × Bool × Int × Int × Unit)) (hco : List (Int × Int × Int × Unit)) (l : List Int) : Option ((List Int × Bool × Unit) × Unit × Unit) := moved28F fuelN a1 a2 ac a4 a5 gi ga ci cl co b1 b2 bc b4 b5 hi ha hci hcl hco l

def Move28F (nn : Nat)  (a1 : List Int) (a2 : List Int) (ac : List (ByteArray × Int × Int × Int × Unit)) (a4 : List Int) (a5 : List Int) (gi : Int) (ga : List (Int × Int × Unit)) (ci : List (Int × Int × Int × Unit)) (cl : List (Int × Int × Bool × Int × Int × Unit)) (co : List (Int × Int × Int × Unit)) (b1 : List Int) (b2 : List Int) (bc : List (ByteArray × Int × Int × Int × Unit)) (b4 : List Int) (b5 : List Int) (hi : Int) (ha : List (Int × Int × Unit)) (hci : List (Int × Int × Int × Unit)) (hcl : List (Int × Int × Bool × Int × Int × Unit)) (hco : List (Int × Int × Int × Unit)) (l : List (List Int)) : Option ((List (List Int) × Unit) × Unit × Unit) :=
  iterO (X := Int × List (List Int)) (fun y0 =>
    bif decide (y0.1 < nI l.length) then
      gd (0 ≤ y0.1) <|
      gd (y0.1 < nI l.length) <|
      bindO (Of28 gi ga ci cl co (getL l y0.1)) fun y1 =>
      bif !y1.1.1 then
        gd (inK IntKind.i64 (y0.1 + 1)) <|
        some (Sum.inl (y0.1 + 1, y0.2))
      else
        gd (0 ≤ y0.1) <|
        gd (y0.1 < nI l.length) <|
        bindO (moved28 a1 a2 ac a4 a5 gi ga ci cl co b1 b2 bc b4 b5 hi ha hci hcl hco (getL l y0.1)) fun y2 =>
        bif y2.1.2.1 then
          gd ((y0.2.length + [y2.1.1].length) * 24 ≤ lim) <|
          gd (y0.2.length + [y2.1.1].length ≤ lim) <|
          gd (inK IntKind.i64 (y0.1 + 1)) <|
          some (Sum.inl (y0.1 + 1, y0.2 ++ [y2.1.1]))
        else
          gd (inK IntKind.i64 (y0.1 + 1)) <|
          some (Sum.inl (y0.1 + 1, y0.2))
    else
      some (Sum.inr ((y0.2, ()), (), ()))) (nn) (0, [])

def Move28 (a1 : List Int) (a2 : List Int) (ac : List (ByteArray × Int × Int × Int × Unit)) (a4 : List Int) (a5 : List Int) (gi : Int) (ga : List (Int × Int × Unit)) (ci : List (Int × Int × Int × Unit)) (cl : List (Int × Int × Bool × Int × Int × Unit)) (co : List (Int × Int × Int × Unit)) (b1 : List Int) (b2 : List Int) (bc : List (ByteArray × Int × Int × Int × Unit)) (b4 : List Int) (b5 : List Int) (hi : Int) (ha : List (Int × Int × Unit)) (hci : List (Int × Int × Int × Unit)) (hcl : List (Int × Int × Bool × Int × Int × Unit)) (hco : List (Int × Int × Int × Unit)) (l : List (List Int)) : Option ((List (List Int) × Unit) × Unit × Unit) := Move28F fuelN a1 a2 ac a4 a5 gi ga ci cl co b1 b2 bc b4 b5 hi ha hci hcl hco l

def rMoveF (nn : Nat)  (a1 : List Int) (a2 : List Int) (ac : List (ByteArray × Int × Int × Int × Unit)) (a4 : List Int) (a5 : List Int) (gi : Int) (ga : List (Int × Int × Unit)) (ci : List (Int × Int × Int × Unit)) (cl : List (Int × Int × Bool × Int × Int × Unit)) (co : List (Int × Int × Int × Unit)) (b1 : List Int) (b2 : List Int) (bc : List (ByteArray × Int × Int × Int × Unit)) (b4 : List Int) (b5 : List Int) (hi : Int) (ha : List (Int × Int × Unit)) (hci : List (Int × Int × Int × Unit)) (hcl : List (Int × Int × Bool × Int × Int × Unit)) (hco : List (Int × Int × Int × Unit)) (l : List (List Int)) : Option ((List (List Int) × Unit) × Unit × Unit) :=
  iterO (X := Int × List (ByteArray × Int)) (fun y0 =>
    bif decide (y0.1 < nI bc.length) then
      gd (0 ≤ y0.1) <|
      gd (y0.1 < nI bc.length) <|
      bif !mapHas y0.2 (get cellT bc y0.1).1 then
        gd (y0.2.length < lim) <|
        gd (inK IntKind.i64 (y0.1 + 1)) <|
        some (Sum.inl (y0.1 + 1, mapSet y0.1 y0.2 (get cellT bc y0.1).1))
      else
        gd (inK IntKind.i64 (y0.1 + 1)) <|
        some (Sum.inl (y0.1 + 1, y0.2))
    else
      iterO (X := Int × List ((Int × Int × Unit) × Int)) (fun y1 =>
        bif decide (y1.1 < nI hcl.length) then
          gd (0 ≤ y1.1) <|
          gd (y1.1 < nI hcl.length) <|
          bif !mapHas y1.2 ((get latchT hcl y1.1).2.2.2.1, (get latchT hcl y1.1).2.2.2.2.1, ()) then
            gd (inK IntKind.i64 (y1.1 + 1)) <|
            gd (y1.2.length < lim) <|
            gd (inK IntKind.i64 (y1.1 + 1)) <|
            some (Sum.inl (y1.1 + 1, mapSet (y1.1 + 1) y1.2 ((get latchT hcl y1.1).2.2.2.1, (get latchT hcl y1.1).2.2.2.2.1, ())))
          else
            gd (inK IntKind.i64 (y1.1 + 1)) <|
            some (Sum.inl (y1.1 + 1, y1.2))
        else
          iterO (X := Int × (List Int × List Int × List (ByteArray × Int × Int × Int × Unit) × List Int × List Int) × (Int × List (Int × Int × Unit) × List (Int × Int × Int × Unit) × List (Int × Int × Bool × Int × Int × Unit) × List (Int × Int × Int × Unit)) × List (List Int)) (fun y2 =>
            bif decide (y2.1 < nI l.length) then
              gd (0 ≤ y2.1) <|
              gd (y2.1 < nI l.length) <|
              bindO (rOf28 y2.2.2.1.1 y2.2.2.1.2.1 y2.2.2.1.2.2.1 y2.2.2.1.2.2.2.1 y2.2.2.1.2.2.2.2 (getL l y2.1)) fun y3 =>
              bif !y3.1.1 then
                gd (inK IntKind.i64 (y2.1 + 1)) <|
                some (Sum.inl (y2.1 + 1, (y2.2.1.1, y2.2.1.2.1, y2.2.1.2.2.1, y2.2.1.2.2.2.1, y2.2.1.2.2.2.2), (y2.2.2.1.1, y2.2.2.1.2.1, y2.2.2.1.2.2.1, y2.2.2.1.2.2.2.1, y2.2.2.1.2.2.2.2), y2.2.2.2))
              else
                iterO (X := Int × (List Int × List Int × List (ByteArray × Int × Int × Int × Unit) × List Int × List Int) × (Int × List (Int × Int × Unit) × List (Int × Int × Int × Unit) × List (Int × Int × Bool × Int × Int × Unit) × List (Int × Int × Int × Unit)) × List Int × List Int) (fun y4 =>
                  bif decide (y4.1 < nI (List.length (getL l y2.1))) then
                    gd (0 ≤ y4.1) <|
                    gd (y4.1 < nI (List.length (getL l y2.1))) <|
                    bindO (place (getI (getL l y2.1) y4.1)) fun y5 =>
                    bindO (moveTo y5.1.1 y4.2.2.1.1 y4.2.2.1.2.1 y4.2.2.1.2.2.1 y4.2.2.1.2.2.2.1 y4.2.2.1.2.2.2.2 y4.2.1.1 y4.2.1.2.1 y4.2.1.2.2.1 y4.2.1.2.2.2.1 y4.2.1.2.2.2.2 y0.2 y1.2) fun y6 =>
                    bif y6.1.1 == 0 then
                      gd (inK IntKind.i64 (y2.1 + 1)) <|
                      some (Sum.inr (Sum.inl (y2.1 + 1, (y4.2.1.1, y4.2.1.2.1, y4.2.1.2.2.1, y4.2.1.2.2.2.1, y4.2.1.2.2.2.2), (y6.2.1.1.1, y4.2.2.1.2.1, y4.2.2.1.2.2.1, y4.2.2.1.2.2.2.1, y4.2.2.1.2.2.2.2), y2.2.2.2)))
                    else
                      bif !y5.1.2.1 then
                        gd (inK IntKind.i64 (0 - y6.1.1)) <|
                        gd ((y4.2.2.2.1.length + [0 - y6.1.1].length) * 8 ≤ lim) <|
                        gd (y4.2.2.2.1.length + [0 - y6.1.1].length ≤ lim) <|
                        gd (inK IntKind.i64 (y4.1 + 1)) <|
                        some (Sum.inl (y4.1 + 1, (y4.2.1.1, y4.2.1.2.1, y4.2.1.2.2.1, y4.2.1.2.2.2.1, y4.2.1.2.2.2.2), (y6.2.1.1.1, y4.2.2.1.2.1, y4.2.2.1.2.2.1, y4.2.2.1.2.2.2.1, y4.2.2.1.2.2.2.2), y4.2.2.2.1 ++ [0 - y6.1.1], y4.2.2.2.1 ++ [0 - y6.1.1]))
                      else
                        gd ((y4.2.2.2.1.length + [y6.1.1].length) * 8 ≤ lim) <|
                        gd (y4.2.2.2.1.length + [y6.1.1].length ≤ lim) <|
                        gd (inK IntKind.i64 (y4.1 + 1)) <|
                        some (Sum.inl (y4.1 + 1, (y4.2.1.1, y4.2.1.2.1, y4.2.1.2.2.1, y4.2.1.2.2.2.1, y4.2.1.2.2.2.2), (y6.2.1.1.1, y4.2.2.1.2.1, y4.2.2.1.2.2.1, y4.2.2.1.2.2.2.1, y4.2.2.1.2.2.2.2), y4.2.2.2.1 ++ [y6.1.1], y4.2.2.2.1 ++ [y6.1.1]))
                  else
                    gd ((y2.2.2.2.length + [y4.2.2.2.1].length) * 24 ≤ lim) <|
                    gd (y2.2.2.2.length + [y4.2.2.2.1].length ≤ lim) <|
                    gd (inK IntKind.i64 (y2.1 + 1)) <|
                    some (Sum.inr (Sum.inl (y2.1 + 1, (y4.2.1.1, y4.2.1.2.1, y4.2.1.2.2.1, y4.2.1.2.2.2.1, y4.2.1.2.2.2.2), (y4.2.2.1.1, y4.2.2.1.2.1, y4.2.2.1.2.2.1, y4.2.2.1.2.2.2.1, y4.2.2.1.2.2.2.2), y2.2.2.2 ++ [y4.2.2.2.1])))) (nn) (0, (y2.2.1.1, y2.2.1.2.1, y2.2.1.2.2.1, y2.2.1.2.2.2.1, y2.2.1.2.2.2.2), (y2.2.2.1.1, y2.2.2.1.2.1, y2.2.2.1.2.2.1, y2.2.2.1.2.2.2.1, y2.2.2.1.2.2.2.2), [], [])
            else
              some (Sum.inr (Sum.inr (Sum.inr ((y2.2.2.2, ()), (), ()))))) (nn) (0, (a1, a2, ac, a4, a5), (gi, ga, ci, cl, co), [])) (nn) (0, [])) (nn) (0, [])

def rMove (a1 : List Int) (a2 : List Int) (ac : List (ByteArray × Int × Int × Int × Unit)) (a4 : List Int) (a5 : List Int) (gi : Int) (ga : List (Int × Int × Unit)) (ci : List (Int × Int × Int × Unit)) (cl : List (Int × Int × Bool × Int × Int × Unit)) (co : List (Int × Int × Int × Unit)) (b1 : List Int) (b2 : List Int) (bc : List (ByteArray × Int × Int × Int × Unit)) (b4 : List Int) (b5 : List Int) (hi : Int) (ha : List (Int × Int × Unit)) (hci : List (Int × Int × Int × Unit)) (hcl : List (Int × Int × Bool × Int × Int × Unit)) (hco : List (Int × Int × Int × Unit)) (l : List (List Int)) : Option ((List (List Int) × Unit) × Unit × Unit) := rMoveF fuelN a1 a2 ac a4 a5 gi ga ci cl co b1 b2 bc b4 b5 hi ha hci hcl hco l

def find13F (nn : Nat)  (gi : Int) (ga : List (Int × Int × Unit)) (a : Int) (b : Int) (ahead : Int) : Option ((Int × Unit) × Unit × Unit) :=
  iterO (X := Int) (fun y0 =>
    bif decide (y0 < ahead) then
      gd (0 ≤ y0) <|
      gd (y0 < nI ga.length) <|
      bif (get pair2 ga y0).1 == a then
        gd (0 ≤ y0) <|
        gd (y0 < nI ga.length) <|
        bif bif true then (get pair2 ga y0).2.1 == b else false then
          some (Sum.inr ((y0, ()), (), ()))
        else
          gd (inK IntKind.i64 (y0 + 1)) <|
          some (Sum.inl (y0 + 1))
      else
        gd (inK IntKind.i64 (y0 + 1)) <|
        some (Sum.inl (y0 + 1))
    else
      some (Sum.inr ((-1, ()), (), ()))) (nn) 0

def find13 (gi : Int) (ga : List (Int × Int × Unit)) (a : Int) (b : Int) (ahead : Int) : Option ((Int × Unit) × Unit × Unit) := find13F fuelN gi ga a b ahead

def Right13F (nn : Nat)  (gi : Int) (ga : List (Int × Int × Unit)) : Option ((Bool × Unit) × Unit × Unit) :=
  bif decide (gi < 0) then
    some ((false, ()), (), ())
  else
    bif bif false then true else decide (gi > 1048576) then
      some ((false, ()), (), ())
    else
      bif bif false then true else decide (nI ga.length > 1048576) then
        some ((false, ()), (), ())
      else
        gd (inK IntKind.i64 (gi + nI ga.length)) <|
        bif bif false then true else decide (gi + nI ga.length > 1048576) then
          some ((false, ()), (), ())
        else
          iterO (X := Int) (fun y0 =>
            bif decide (y0 < nI ga.length) then
              gd (0 ≤ y0) <|
              gd (y0 < nI ga.length) <|
              gd (0 ≤ y0) <|
              gd (y0 < nI ga.length) <|
              bif decide ((get pair2 ga y0).1 < 2) then
                some (Sum.inr ((false, ()), (), ()))
              else
                bif bif false then true else decide ((get pair2 ga y0).2.1 ≤ (get pair2 ga y0).1) then
                  some (Sum.inr ((false, ()), (), ()))
                else
                  gd (inK IntKind.i64 (gi + y0)) <|
                  bif bif false then true else decide (IntKind.i64.wrap (Int.tdiv (get pair2 ga y0).2.1 2) > gi + y0) then
                    some (Sum.inr ((false, ()), (), ()))
                  else
                    bif bif false then true else IntKind.i64.wrap (Int.tdiv (get pair2 ga y0).1 2) == IntKind.i64.wrap (Int.tdiv (get pair2 ga y0).2.1 2) then
                      some (Sum.inr ((false, ()), (), ()))
                    else
                      bindO (find13 gi ga (get pair2 ga y0).1 (get pair2 ga y0).2.1 y0) fun y1 =>
                      bif bif false then true else decide (y1.1.1 ≥ 0) then
                        some (Sum.inr ((false, ()), (), ()))
                      else
                        gd (inK IntKind.i64 (y0 + 1)) <|
                        some (Sum.inl (y0 + 1))
            else
              some (Sum.inr ((true, ()), (), ()))) (nn) 0

def Right13 (gi : Int) (ga : List (Int × Int × Unit)) : Option ((Bool × Unit) × Unit × Unit) := Right13F fuelN gi ga

def rises (a : Int) (b : Int) (c : Int) (d : Int) : Option ((Bool × Unit) × Unit × Unit) :=
  bif decide (a < c) then
    some ((true, ()), (), ())
  else
    bif a == c then
      some ((bif false then true else bif true then decide (b < d) else false, ()), (), ())
    else
      some ((bif false then true else false, ()), (), ())

def literal (gi : Int) (ga : List (Int × Int × Unit)) (x : Int) : Option ((Bool × Unit) × Unit × Unit) :=
  bif decide (x ≥ 0) then
    gd (inK IntKind.i64 (gi + nI ga.length)) <|
    some ((bif true then decide (IntKind.i64.wrap (x.tdiv 2) ≤ gi + nI ga.length) else false, ()), (), ())
  else
    some ((false, ()), (), ())

def Right15F (nn : Nat)  (gi : Int) (ga : List (Int × Int × Unit)) (ci : List (Int × Int × Int × Unit)) (cl : List (Int × Int × Bool × Int × Int × Unit)) (co : List (Int × Int × Int × Unit)) : Option ((Bool × Unit) × Unit × Unit) :=
  bindO (Right13 gi ga) fun y0 =>
  bif !y0.1.1 then
    some ((false, ()), (), ())
  else
    bif bif false then true else decide (nI cl.length > 256) then
      some ((false, ()), (), ())
    else
      gd (inK IntKind.i64 (nI ci.length + nI cl.length)) <|
      bif bif false then true else nI ci.length + nI cl.length != gi then
        some ((false, ()), (), ())
      else
        iterO (X := Int) (fun y1 =>
          bif decide (y1 < nI ci.length) then
            gd (0 ≤ y1) <|
            gd (y1 < nI ci.length) <|
            gd (inK IntKind.i64 (y1 + 1)) <|
            bif (get pair3 ci y1).1 != y1 + 1 then
              some (Sum.inr ((false, ()), (), ()))
            else
              bif bif false then true else decide ((get pair3 ci y1).2.1 < 0) then
                some (Sum.inr ((false, ()), (), ()))
              else
                bif bif false then true else decide ((get pair3 ci y1).2.2.1 < 0) then
                  some (Sum.inr ((false, ()), (), ()))
                else
                  bif decide (y1 > 0) then
                    gd (inK IntKind.i64 (y1 - 1)) <|
                    gd (0 ≤ y1 - 1) <|
                    gd (y1 - 1 < nI ci.length) <|
                    gd (inK IntKind.i64 (y1 - 1)) <|
                    gd (0 ≤ y1 - 1) <|
                    gd (y1 - 1 < nI ci.length) <|
                    bindO (rises (get pair3 ci (y1 - 1)).2.1 (get pair3 ci (y1 - 1)).2.2.1 (get pair3 ci y1).2.1 (get pair3 ci y1).2.2.1) fun y2 =>
                    bif bif false then true else bif true then !y2.1.1 else false then
                      some (Sum.inr ((false, ()), (), ()))
                    else
                      gd (inK IntKind.i64 (y1 + 1)) <|
                      some (Sum.inl (y1 + 1))
                  else
                    gd (inK IntKind.i64 (y1 + 1)) <|
                    some (Sum.inl (y1 + 1))
          else
            iterO (X := Int) (fun y2 =>
              bif decide (y2 < nI cl.length) then
                gd (0 ≤ y2) <|
                gd (y2 < nI cl.length) <|
                gd (inK IntKind.i64 (nI ci.length + y2)) <|
                gd (inK IntKind.i64 (nI ci.length + y2 + 1)) <|
                bif (get latchT cl y2).1 != nI ci.length + y2 + 1 then
                  some (Sum.inr (Sum.inr ((false, ()), (), ())))
                else
                  bif bif false then true else decide ((get latchT cl y2).2.2.2.1 < 0) then
                    some (Sum.inr (Sum.inr ((false, ()), (), ())))
                  else
                    bif bif false then true else decide ((get latchT cl y2).2.2.2.2.1 < 0) then
                      some (Sum.inr (Sum.inr ((false, ()), (), ())))
                    else
                      bindO (literal gi ga (get latchT cl y2).2.1) fun y3 =>
                      bif bif false then true else !y3.1.1 then
                        some (Sum.inr (Sum.inr ((false, ()), (), ())))
                      else
                        bif decide (y2 > 0) then
                          gd (inK IntKind.i64 (y2 - 1)) <|
                          gd (0 ≤ y2 - 1) <|
                          gd (y2 - 1 < nI cl.length) <|
                          gd (inK IntKind.i64 (y2 - 1)) <|
                          gd (0 ≤ y2 - 1) <|
                          gd (y2 - 1 < nI cl.length) <|
                          bindO (rises (get latchT cl (y2 - 1)).2.2.2.1 (get latchT cl (y2 - 1)).2.2.2.2.1 (get latchT cl y2).2.2.2.1 (get latchT cl y2).2.2.2.2.1) fun y4 =>
                          bif bif false then true else bif true then !y4.1.1 else false then
                            some (Sum.inr (Sum.inr ((false, ()), (), ())))
                          else
                            gd (inK IntKind.i64 (y2 + 1)) <|
                            some (Sum.inl (y2 + 1))
                        else
                          gd (inK IntKind.i64 (y2 + 1)) <|
                          some (Sum.inl (y2 + 1))
              else
                iterO (X := Int) (fun y3 =>
                  bif decide (y3 < nI co.length) then
                    gd (0 ≤ y3) <|
                    gd (y3 < nI co.length) <|
                    bif decide ((get outT co y3).1 < 8) then
                      some (Sum.inr (Sum.inr (Sum.inr ((false, ()), (), ()))))
                    else
                      bif bif false then true else decide ((get outT co y3).1 > 10) then
                        some (Sum.inr (Sum.inr (Sum.inr ((false, ()), (), ()))))
                      else
                        bif bif false then true else decide ((get outT co y3).2.2.1 < 0) then
                          some (Sum.inr (Sum.inr (Sum.inr ((false, ()), (), ()))))
                        else
                          bindO (literal gi ga (get outT co y3).2.1) fun y4 =>
                          bif bif false then true else !y4.1.1 then
                            some (Sum.inr (Sum.inr (Sum.inr ((false, ()), (), ()))))
                          else
                            gd (inK IntKind.i64 (y3 + 1)) <|
                            some (Sum.inl (y3 + 1))
                  else
                    some (Sum.inr (Sum.inr (Sum.inr ((true, ()), (), ()))))) (nn) 0) (nn) 0) (nn) 0

def Right15 (gi : Int) (ga : List (Int × Int × Unit)) (ci : List (Int × Int × Int × Unit)) (cl : List (Int × Int × Bool × Int × Int × Unit)) (co : List (Int × Int × Int × Unit)) : Option ((Bool × Unit) × Unit × Unit) := Right15F fuelN gi ga ci cl co

end GoSx
end
section
/- Models of functions: what they compute, if all goes well: ReuseB. -/
namespace GoSx
open Go
def litOf (l : Int) (off : Int) : Option ((Int × Unit) × Unit × Unit) :=
  gd (inK IntKind.i64 (off + 1)) <|
  gd (inK IntKind.i64 (off + 1 + l.fdiv (2 ^ 1))) <|
  gd (inK IntKind.i64 (2 * IntKind.i64.wrap (nI (BitVec.ofInt 64 l &&& BitVec.ofInt 64 1).toNat))) <|
  gd (inK IntKind.i64 (1 - 2 * IntKind.i64.wrap (nI (BitVec.ofInt 64 l &&& BitVec.ofInt 64 1).toNat))) <|
  gd (inK IntKind.i64 ((off + 1 + l.fdiv (2 ^ 1)) * (1 - 2 * IntKind.i64.wrap (nI (BitVec.ofInt 64 l &&& BitVec.ofInt 64 1).toNat)))) <|
  some (((off + 1 + l.fdiv (2 ^ 1)) * (1 - 2 * IntKind.i64.wrap (nI (BitVec.ofInt 64 l &&& BitVec.ofInt 64 1).toNat)), ()), (), ())

def cnfOf (l : Int) (off : Int) : Option ((Int × Unit) × Unit × Unit) :=
  bindO (litOf l off) fun y0 =>
  some ((y0.1.1, ()), (), ())

def cnfVars (ins : Int) (ands : List (Int × Int × Unit)) : Option ((Int × Unit) × Unit × Unit) :=
  gd (inK IntKind.i64 (1 + ins)) <|
  gd (inK IntKind.i64 (1 + ins + nI ands.length)) <|
  some ((1 + ins + nI ands.length, ()), (), ())

def clausesAdd (l : List Int) (c : List (List Int)) : Option (Unit × ((List (List Int) × Unit) × Unit) × Unit) :=
  gd ((c.length + [l].length) * 24 ≤ lim) <|
  gd (c.length + [l].length ≤ lim) <|
  some ((), ((c ++ [l], ()), ()), ())

def cnfClausesF (nn : Nat)  (ins : Int) (ands : List (Int × Int × Unit)) (off : Int) : Option ((List (List Int) × Unit) × Unit × Unit) :=
  bindO (cnfOf 0 off) fun y0 =>
  gd (inK IntKind.i64 (0 - y0.1.1)) <|
  bindO (clausesAdd [0 - y0.1.1] []) fun y1 =>
  iterO (X := Int × List (List Int)) (fun y2 =>
    bif decide (y2.1 < nI ands.length) then
      gd (0 ≤ y2.1) <|
      gd (y2.1 < nI ands.length) <|
      gd (inK IntKind.i64 (1 + ins)) <|
      gd (inK IntKind.i64 (1 + ins + y2.1)) <|
      gd (inK IntKind.i64 (2 * (1 + ins + y2.1))) <|
      bindO (cnfOf (2 * (1 + ins + y2.1)) off) fun y3 =>
      bindO (cnfOf (get pair2 ands y2.1).1 off) fun y4 =>
      bindO (cnfOf (get pair2 ands y2.1).2.1 off) fun y5 =>
      gd (inK IntKind.i64 (0 - y3.1.1)) <|
      bindO (clausesAdd [0 - y3.1.1, y4.1.1] y2.2) fun y6 =>
      gd (inK IntKind.i64 (0 - y3.1.1)) <|
      bindO (clausesAdd [0 - y3.1.1, y5.1.1] y6.2.1.1.1) fun y7 =>
      gd (inK IntKind.i64 (0 - y4.1.1)) <|
      gd (inK IntKind.i64 (0 - y5.1.1)) <|
      bindO (clausesAdd [y3.1.1, 0 - y4.1.1, 0 - y5.1.1] y7.2.1.1.1) fun y8 =>
      gd (inK IntKind.i64 (y2.1 + 1)) <|
      some (Sum.inl (y2.1 + 1, y8.2.1.1.1))
    else
      some (Sum.inr ((y2.2, ()), (), ()))) (nn) (0, y1.2.1.1.1)

def cnfClauses (ins : Int) (ands : List (Int × Int × Unit)) (off : Int) : Option ((List (List Int) × Unit) × Unit × Unit) := cnfClausesF fuelN ins ands off

def unNew (gi : Int) (ga : List (Int × Int × Unit)) (ci : List (Int × Int × Int × Unit)) (cl : List (Int × Int × Bool × Int × Int × Unit)) (co : List (Int × Int × Int × Unit)) (many : Int) (first : Bool) : Option (((Int × List (Int × Int × Unit) × List (Int × Int × Int × Unit) × List (Int × Int × Bool × Int × Int × Unit) × List (Int × Int × Int × Unit) × Int × Bool × Int × Unit) × Unit) × Unit × Unit) :=
  bindO (cnfVars gi ga) fun y0 =>
  some (((gi, ga, ci, cl, co, many, first, y0.1.1, ()), ()), (), ())

def frameLit (off : Int) (x : Int) : Option ((Int × Unit) × Unit × Unit) :=
  bindO (cnfOf x off) fun y0 =>
  some ((y0.1.1, ()), (), ())

def unFrame (fg : Int) (fga : List (Int × Int × Unit)) (fi : List (Int × Int × Int × Unit)) (fl : List (Int × Int × Bool × Int × Int × Unit)) (fo : List (Int × Int × Int × Unit)) (fm : Int) (ff : Bool) (fs : Int) (pos : Int) : Option (((Int × Unit) × Unit) × Unit × Unit) :=
  gd (inK IntKind.i64 (pos * fs)) <|
  some (((pos * fs, ()), ()), (), ())

def unVars (fg : Int) (fga : List (Int × Int × Unit)) (fi : List (Int × Int × Int × Unit)) (fl : List (Int × Int × Bool × Int × Int × Unit)) (fo : List (Int × Int × Int × Unit)) (fm : Int) (ff : Bool) (fs : Int) : Option ((Int × Unit) × Unit × Unit) :=
  gd (inK IntKind.i64 (fm * fs)) <|
  some ((fm * fs, ()), (), ())

def latchC (i : Int) (fg : Int) (fga : List (Int × Int × Unit)) (fi : List (Int × Int × Int × Unit)) (fl : List (Int × Int × Bool × Int × Int × Unit)) (fo : List (Int × Int × Int × Unit)) (fm : Int) (ff : Bool) (fs : Int) : Option ((Int × Unit) × (((Int × List (Int × Int × Unit) × List (Int × Int × Int × Unit) × List (Int × Int × Bool × Int × Int × Unit) × List (Int × Int × Int × Unit) × Int × Bool × Int × Unit) × Unit) × Unit) × Unit) :=
  gd (0 ≤ i) <|
  gd (i < nI fl.length) <|
  gd (inK IntKind.i64 (2 * (get latchT fl i).1)) <|
  some ((2 * (get latchT fl i).1, ()), (((fg, fga, fi, fl, fo, fm, ff, fs, ()), ()), ()), ())

def unAtL (fg : Int) (fga : List (Int × Int × Unit)) (fi : List (Int × Int × Int × Unit)) (fl : List (Int × Int × Bool × Int × Int × Unit)) (fo : List (Int × Int × Int × Unit)) (fm : Int) (ff : Bool) (fs : Int) (pos : Int) (i : Int) (many : Int) (hg : Int) (hga : List (Int × Int × Unit)) (hi : List (Int × Int × Int × Unit)) (hl : List (Int × Int × Bool × Int × Int × Unit)) (ho : List (Int × Int × Int × Unit)) (hm : Int) (hf : Bool) (hs : Int) : Option ((Int × Unit) × (((Int × List (Int × Int × Unit) × List (Int × Int × Int × Unit) × List (Int × Int × Bool × Int × Int × Unit) × List (Int × Int × Int × Unit) × Int × Bool × Int × Unit) × Unit) × Unit) × Unit) :=
  bif decide (pos < 0) then
    some ((0, ()), (((hg, hga, hi, hl, ho, hm, hf, hs, ()), ()), ()), ())
  else
    bif bif false then true else decide (pos ≥ fm) then
      some ((0, ()), (((hg, hga, hi, hl, ho, hm, hf, hs, ()), ()), ()), ())
    else
      bif bif false then true else decide (i < 0) then
        some ((0, ()), (((hg, hga, hi, hl, ho, hm, hf, hs, ()), ()), ()), ())
      else
        bif bif false then true else decide (i ≥ many) then
          some ((0, ()), (((hg, hga, hi, hl, ho, hm, hf, hs, ()), ()), ()), ())
        else
          bindO (unFrame fg fga fi fl fo fm ff fs pos) fun y0 =>
          bindO (latchC i hg hga hi hl ho hm hf hs) fun y1 =>
          bindO (frameLit y0.1.1.1 y1.1.1) fun y2 =>
          some ((y2.1.1, ()), ((y1.2.1.1.1, ()), ()), ())

def unLatch (fg : Int) (fga : List (Int × Int × Unit)) (fi : List (Int × Int × Int × Unit)) (fl : List (Int × Int × Bool × Int × Int × Unit)) (fo : List (Int × Int × Int × Unit)) (fm : Int) (ff : Bool) (fs : Int) (pos : Int) (i : Int) : Option ((Int × Unit) × Unit × Unit) :=
  bindO (unAtL fg fga fi fl fo fm ff fs pos i (nI fl.length) fg fga fi fl fo fm ff fs) fun y0 =>
  some ((y0.1.1, ()), (), ())

def outC (i : Int) (fg : Int) (fga : List (Int × Int × Unit)) (fi : List (Int × Int × Int × Unit)) (fl : List (Int × Int × Bool × Int × Int × Unit)) (fo : List (Int × Int × Int × Unit)) (fm : Int) (ff : Bool) (fs : Int) : Option ((Int × Unit) × (((Int × List (Int × Int × Unit) × List (Int × Int × Int × Unit) × List (Int × Int × Bool × Int × Int × Unit) × List (Int × Int × Int × Unit) × Int × Bool × Int × Unit) × Unit) × Unit) × Unit) :=
  gd (0 ≤ i) <|
  gd (i < nI fo.length) <|
  some (((get outT fo i).2.1, ()), (((fg, fga, fi, fl, fo, fm, ff, fs, ()), ()), ()), ())

def unAtO (fg : Int) (fga : List (Int × Int × Unit)) (fi : List (Int × Int × Int × Unit)) (fl : List (Int × Int × Bool × Int × Int × Unit)) (fo : List (Int × Int × Int × Unit)) (fm : Int) (ff : Bool) (fs : Int) (pos : Int) (i : Int) (many : Int) (hg : Int) (hga : List (Int × Int × Unit)) (hi : List (Int × Int × Int × Unit)) (hl : List (Int × Int × Bool × Int × Int × Unit)) (ho : List (Int × Int × Int × Unit)) (hm : Int) (hf : Bool) (hs : Int) : Option ((Int × Unit) × (((Int × List (Int × Int × Unit) × List (Int × Int × Int × Unit) × List (Int × Int × Bool × Int × Int × Unit) × List (Int × Int × Int × Unit) × Int × Bool × Int × Unit) × Unit) × Unit) × Unit) :=
  bif decide (pos < 0) then
    some ((0, ()), (((hg, hga, hi, hl, ho, hm, hf, hs, ()), ()), ()), ())
  else
    bif bif false then true else decide (pos ≥ fm) then
      some ((0, ()), (((hg, hga, hi, hl, ho, hm, hf, hs, ()), ()), ()), ())
    else
      bif bif false then true else decide (i < 0) then
        some ((0, ()), (((hg, hga, hi, hl, ho, hm, hf, hs, ()), ()), ()), ())
      else
        bif bif false then true else decide (i ≥ many) then
          some ((0, ()), (((hg, hga, hi, hl, ho, hm, hf, hs, ()), ()), ()), ())
        else
          bindO (unFrame fg fga fi fl fo fm ff fs pos) fun y0 =>
          bindO (outC i hg hga hi hl ho hm hf hs) fun y1 =>
          bindO (frameLit y0.1.1.1 y1.1.1) fun y2 =>
          some ((y2.1.1, ()), ((y1.2.1.1.1, ()), ()), ())

def unOut (fg : Int) (fga : List (Int × Int × Unit)) (fi : List (Int × Int × Int × Unit)) (fl : List (Int × Int × Bool × Int × Int × Unit)) (fo : List (Int × Int × Int × Unit)) (fm : Int) (ff : Bool) (fs : Int) (pos : Int) (i : Int) : Option ((Int × Unit) × Unit × Unit) :=
  bindO (unAtO fg fga fi fl fo fm ff fs pos i (nI fo.length) fg fga fi fl fo fm ff fs) fun y0 =>
  some ((y0.1.1, ()), (), ())

def rAtF (nn : Nat)  (fg : Int) (fga : List (Int × Int × Unit)) (fi : List (Int × Int × Int × Unit)) (fl : List (Int × Int × Bool × Int × Int × Unit)) (fo : List (Int × Int × Int × Unit)) (fm : Int) (ff : Bool) (fs : Int) (frame : Int) (l : List Int) : Option ((List Int × Unit) × Unit × Unit) :=
  iterO (X := Int × List Int) (fun y0 =>
    bif decide (y0.1 < nI l.length) then
      gd (0 ≤ y0.1) <|
      gd (y0.1 < nI l.length) <|
      bindO (place (getI l y0.1)) fun y1 =>
      bindO (unLatch fg fga fi fl fo fm ff fs frame y1.1.1) fun y2 =>
      bif !y1.1.2.1 then
        gd (inK IntKind.i64 (0 - y2.1.1)) <|
        gd ((y0.2.length + [0 - y2.1.1].length) * 8 ≤ lim) <|
        gd (y0.2.length + [0 - y2.1.1].length ≤ lim) <|
        gd (inK IntKind.i64 (y0.1 + 1)) <|
        some (Sum.inl (y0.1 + 1, y0.2 ++ [0 - y2.1.1]))
      else
        gd ((y0.2.length + [y2.1.1].length) * 8 ≤ lim) <|
        gd (y0.2.length + [y2.1.1].length ≤ lim) <|
        gd (inK IntKind.i64 (y0.1 + 1)) <|
        some (Sum.inl (y0.1 + 1, y0.2 ++ [y2.1.1]))
    else
      some (Sum.inr ((y0.2, ()), (), ()))) (nn) (0, [])

def rAt (fg : Int) (fga : List (Int × Int × Unit)) (fi : List (Int × Int × Int × Unit)) (fl : List (Int × Int × Bool × Int × Int × Unit)) (fo : List (Int × Int × Int × Unit)) (fm : Int) (ff : Bool) (fs : Int) (frame : Int) (l : List Int) : Option ((List Int × Unit) × Unit × Unit) := rAtF fuelN fg fga fi fl fo fm ff fs frame l

def unInitsF (nn : Nat)  (fg : Int) (fga : List (Int × Int × Unit)) (fi : List (Int × Int × Int × Unit)) (fl : List (Int × Int × Bool × Int × Int × Unit)) (fo : List (Int × Int × Int × Unit)) (fm : Int) (ff : Bool) (fs : Int) : Option ((List (List Int) × Unit) × Unit × Unit) :=
  bindO (unFrame fg fga fi fl fo fm ff fs 0) fun y0 =>
  iterO (X := Int × List (List Int)) (fun y1 =>
    bif decide (y1.1 < nI fl.length) then
      gd (0 ≤ y1.1) <|
      gd (y1.1 < nI fl.length) <|
      gd (inK IntKind.i64 (2 * (get latchT fl y1.1).1)) <|
      bindO (if inK IntKind.i64 y0.1.1.1 then some () else none) fun y2 =>
      bindO (frameLit y0.1.1.1 (2 * (get latchT fl y1.1).1)) fun y3 =>
      bif !(get latchT fl y1.1).2.2.1 then
        gd (inK IntKind.i64 (0 - y3.1.1)) <|
        gd ((y1.2.length + [[0 - y3.1.1]].length) * 24 ≤ lim) <|
        gd (y1.2.length + [[0 - y3.1.1]].length ≤ lim) <|
        gd (inK IntKind.i64 (y1.1 + 1)) <|
        some (Sum.inl (y1.1 + 1, y1.2 ++ [[0 - y3.1.1]]))
      else
        gd ((y1.2.length + [[y3.1.1]].length) * 24 ≤ lim) <|
        gd (y1.2.length + [[y3.1.1]].length ≤ lim) <|
        gd (inK IntKind.i64 (y1.1 + 1)) <|
        some (Sum.inl (y1.1 + 1, y1.2 ++ [[y3.1.1]]))
    else
      some (Sum.inr ((y1.2, ()), (), ()))) (nn) (0, [])

def unInits (fg : Int) (fga : List (Int × Int × Unit)) (fi : List (Int × Int × Int × Unit)) (fl : List (Int × Int × Bool × Int × Int × Unit)) (fo : List (Int × Int × Int × Unit)) (fm : Int) (ff : Bool) (fs : Int) : Option ((List (List Int) × Unit) × Unit × Unit) := unInitsF fuelN fg fga fi fl fo fm ff fs

def unLinksF (nn : Nat)  (fg : Int) (fga : List (Int × Int × Unit)) (fi : List (Int × Int × Int × Unit)) (fl : List (Int × Int × Bool × Int × Int × Unit)) (fo : List (Int × Int × Int × Unit)) (fm : Int) (ff : Bool) (fs : Int) (pos : Int) : Option ((List (List Int) × Unit) × Unit × Unit) :=
  bindO (unFrame fg fga fi fl fo fm ff fs pos) fun y0 =>
  gd (inK IntKind.i64 (pos - 1)) <|
  bindO (unFrame fg fga fi fl fo fm ff fs (pos - 1)) fun y1 =>
  iterO (X := Int × List (List Int)) (fun y2 =>
    bif decide (y2.1 < nI fl.length) then
      gd (0 ≤ y2.1) <|
      gd (y2.1 < nI fl.length) <|
      gd (inK IntKind.i64 (2 * (get latchT fl y2.1).1)) <|
      bindO (if inK IntKind.i64 y0.1.1.1 then some () else none) fun y3 =>
      bindO (frameLit y0.1.1.1 (2 * (get latchT fl y2.1).1)) fun y4 =>
      bindO (if inK IntKind.i64 y1.1.1.1 then some () else none) fun y5 =>
      bindO (frameLit y1.1.1.1 (get latchT fl y2.1).2.1) fun y6 =>
      gd (inK IntKind.i64 (0 - y4.1.1)) <|
      gd (inK IntKind.i64 (0 - y6.1.1)) <|
      gd ((y2.2.length + [[0 - y4.1.1, y6.1.1], [y4.1.1, 0 - y6.1.1]].length) * 24 ≤ lim) <|
      gd (y2.2.length + [[0 - y4.1.1, y6.1.1], [y4.1.1, 0 - y6.1.1]].length ≤ lim) <|
      gd (inK IntKind.i64 (y2.1 + 1)) <|
      some (Sum.inl (y2.1 + 1, y2.2 ++ [[0 - y4.1.1, y6.1.1], [y4.1.1, 0 - y6.1.1]]))
    else
      some (Sum.inr ((y2.2, ()), (), ()))) (nn) (0, [])

def unLinks (fg : Int) (fga : List (Int × Int × Unit)) (fi : List (Int × Int × Int × Unit)) (fl : List (Int × Int × Bool × Int × Int × Unit)) (fo : List (Int × Int × Int × Unit)) (fm : Int) (ff : Bool) (fs : Int) (pos : Int) : Option ((List (List Int) × Unit) × Unit × Unit) := unLinksF fuelN fg fga fi fl fo fm ff fs pos

def unClausesF (nn : Nat)  (fg : Int) (fga : List (Int × Int × Unit)) (fi : List (Int × Int × Int × Unit)) (fl : List (Int × Int × Bool × Int × Int × Unit)) (fo : List (Int × Int × Int × Unit)) (fm : Int) (ff : Bool) (fs : Int) : Option ((List (List Int) × Unit) × Unit × Unit) :=
  iterO (X := Int × List (List Int)) (fun y0 =>
    bif decide (y0.1 < fm) then
      bindO (unFrame fg fga fi fl fo fm ff fs y0.1) fun y1 =>
      bindO (cnfClauses fg fga y1.1.1.1) fun y2 =>
      gd ((y0.2.length + y2.1.1.length) * 24 ≤ lim) <|
      gd (y0.2.length + y2.1.1.length ≤ lim) <|
      bif decide (y0.1 > 0) then
        bindO (unLinks fg fga fi fl fo fm ff fs y0.1) fun y3 =>
        gd (((y0.2 ++ y2.1.1).length + y3.1.1.length) * 24 ≤ lim) <|
        gd ((y0.2 ++ y2.1.1).length + y3.1.1.length ≤ lim) <|
        gd (inK IntKind.i64 (y0.1 + 1)) <|
        some (Sum.inl (y0.1 + 1, y0.2 ++ y2.1.1 ++ y3.1.1))
      else
        bif ff then
          bindO (unInits fg fga fi fl fo fm ff fs) fun y3 =>
          gd (((y0.2 ++ y2.1.1).length + y3.1.1.length) * 24 ≤ lim) <|
          gd ((y0.2 ++ y2.1.1).length + y3.1.1.length ≤ lim) <|
          gd (inK IntKind.i64 (y0.1 + 1)) <|
          some (Sum.inl (y0.1 + 1, y0.2 ++ y2.1.1 ++ y3.1.1))
        else
          gd (inK IntKind.i64 (y0.1 + 1)) <|
          some (Sum.inl (y0.1 + 1, y0.2 ++ y2.1.1))
    else
      some (Sum.inr ((y0.2, ()), (), ()))) (nn) (0, [])

def unClauses (fg : Int) (fga : List (Int × Int × Unit)) (fi : List (Int × Int × Int × Unit)) (fl : List (Int × Int × Bool × Int × Int × Unit)) (fo : List (Int × Int × Int × Unit)) (fm : Int) (ff : Bool) (fs : Int) : Option ((List (List Int) × Unit) × Unit × Unit) := unClausesF fuelN fg fga fi fl fo fm ff fs

def askedF (nn : Nat)  (gi : Int) (ga : List (Int × Int × Unit)) (ci : List (Int × Int × Int × Unit)) (cl : List (Int × Int × Bool × Int × Int × Unit)) (co : List (Int × Int × Int × Unit)) (fg : Int) (fga : List (Int × Int × Unit)) (fi : List (Int × Int × Int × Unit)) (fl : List (Int × Int × Bool × Int × Int × Unit)) (fo : List (Int × Int × Int × Unit)) (fm : Int) (ff : Bool) (fs : Int) (l : List (List Int)) : Option (Unit × Unit × (Int × List (List Int) × List (List Int) × List Int × List Int × List Int × List Int × List Int × List Int × Int × List Int × List Int × Int × Bool × List (List Int) × Int × List Int × List Bool × Unit) × Unit) :=
  bindO (unVars fg fga fi fl fo fm ff fs) fun y0 =>
  bindO (New y0.1.1) fun y1 =>
  bindO (unClauses fg fga fi fl fo fm ff fs) fun y2 =>
  iterO (X := Int × (Int × Int × Int × Bool × Int) × List (List Int) × List (List Int) × List Int × List Int × List Int × List Int × List Int × List Int × List Int × List Bool) (fun y3 =>
    bif decide (y3.1 < nI y2.1.1.length) then
      gd (0 ≤ y3.1) <|
      gd (y3.1 < nI y2.1.1.length) <|
      bindO (Add (getL y2.1.1 y3.1) y3.2.1.1 y3.2.2.1 y3.2.2.2.1 y3.2.2.2.2.1 y3.2.2.2.2.2.1 y3.2.2.2.2.2.2.1 y3.2.2.2.2.2.2.2.1 y3.2.1.2.1 y3.2.2.2.2.2.2.2.2.1 y3.2.2.2.2.2.2.2.2.2.1 y3.2.1.2.2.1 y3.2.1.2.2.2.1 y3.2.1.2.2.2.2 y3.2.2.2.2.2.2.2.2.2.2.1 y3.2.2.2.2.2.2.2.2.2.2.2) fun y4 =>
      gd (inK IntKind.i64 (y3.1 + 1)) <|
      some (Sum.inl (y3.1 + 1, (y4.2.1.1.1, y4.2.1.1.2.2.2.2.2.2.2.1, y4.2.1.1.2.2.2.2.2.2.2.2.2.2.1, y4.2.1.1.2.2.2.2.2.2.2.2.2.2.2.1, y4.2.1.1.2.2.2.2.2.2.2.2.2.2.2.2.1), y4.2.1.1.2.1, y4.2.1.1.2.2.1, y4.2.1.1.2.2.2.1, y4.2.1.1.2.2.2.2.1, y4.2.1.1.2.2.2.2.2.1, y4.2.1.1.2.2.2.2.2.2.1, y4.2.1.1.2.2.2.2.2.2.2.2.1, y4.2.1.1.2.2.2.2.2.2.2.2.2.1, y4.2.1.1.2.2.2.2.2.2.2.2.2.2.2.2.2.1, y4.2.1.1.2.2.2.2.2.2.2.2.2.2.2.2.2.2.1))
    else
      iterO (X := Int × (Int × Int × Int × Bool × Int) × List (List Int) × List (List Int) × List Int × List Int × List Int × List Int × List Int × List Int × List Int × List Bool) (fun y4 =>
        bif decide (y4.1 < nI co.length) then
          gd (0 ≤ y4.1) <|
          gd (y4.1 < nI co.length) <|
          bif (get outT co y4.1).1 == 9 then
            bindO (unOut fg fga fi fl fo fm ff fs 0 y4.1) fun y5 =>
            bindO (Add [y5.1.1] y4.2.1.1 y4.2.2.1 y4.2.2.2.1 y4.2.2.2.2.1 y4.2.2.2.2.2.1 y4.2.2.2.2.2.2.1 y4.2.2.2.2.2.2.2.1 y4.2.1.2.1 y4.2.2.2.2.2.2.2.2.1 y4.2.2.2.2.2.2.2.2.2.1 y4.2.1.2.2.1 y4.2.1.2.2.2.1 y4.2.1.2.2.2.2 y4.2.2.2.2.2.2.2.2.2.2.1 y4.2.2.2.2.2.2.2.2.2.2.2) fun y6 =>
            gd (inK IntKind.i64 (y4.1 + 1)) <|
            some (Sum.inl (y4.1 + 1, (y6.2.1.1.1, y6.2.1.1.2.2.2.2.2.2.2.1, y6.2.1.1.2.2.2.2.2.2.2.2.2.2.1, y6.2.1.1.2.2.2.2.2.2.2.2.2.2.2.1, y6.2.1.1.2.2.2.2.2.2.2.2.2.2.2.2.1), y6.2.1.1.2.1, y6.2.1.1.2.2.1, y6.2.1.1.2.2.2.1, y6.2.1.1.2.2.2.2.1, y6.2.1.1.2.2.2.2.2.1, y6.2.1.1.2.2.2.2.2.2.1, y6.2.1.1.2.2.2.2.2.2.2.2.1, y6.2.1.1.2.2.2.2.2.2.2.2.2.1, y6.2.1.1.2.2.2.2.2.2.2.2.2.2.2.2.2.1, y6.2.1.1.2.2.2.2.2.2.2.2.2.2.2.2.2.2.1))
          else
            gd (inK IntKind.i64 (y4.1 + 1)) <|
            some (Sum.inl (y4.1 + 1, (y4.2.1.1, y4.2.1.2.1, y4.2.1.2.2.1, y4.2.1.2.2.2.1, y4.2.1.2.2.2.2), y4.2.2.1, y4.2.2.2.1, y4.2.2.2.2.1, y4.2.2.2.2.2.1, y4.2.2.2.2.2.2.1, y4.2.2.2.2.2.2.2.1, y4.2.2.2.2.2.2.2.2.1, y4.2.2.2.2.2.2.2.2.2.1, y4.2.2.2.2.2.2.2.2.2.2.1, y4.2.2.2.2.2.2.2.2.2.2.2))
        else
          iterO (X := Int × (Int × Int × Int × Bool × Int) × List (List Int) × List (List Int) × List Int × List Int × List Int × List Int × List Int × List Int × List Int × List Bool) (fun y5 =>
            bif decide (y5.1 < nI l.length) then
              gd (0 ≤ y5.1) <|
              gd (y5.1 < nI l.length) <|
              bindO (rAt fg fga fi fl fo fm ff fs 0 (getL l y5.1)) fun y6 =>
              bindO (Add y6.1.1 y5.2.1.1 y5.2.2.1 y5.2.2.2.1 y5.2.2.2.2.1 y5.2.2.2.2.2.1 y5.2.2.2.2.2.2.1 y5.2.2.2.2.2.2.2.1 y5.2.1.2.1 y5.2.2.2.2.2.2.2.2.1 y5.2.2.2.2.2.2.2.2.2.1 y5.2.1.2.2.1 y5.2.1.2.2.2.1 y5.2.1.2.2.2.2 y5.2.2.2.2.2.2.2.2.2.2.1 y5.2.2.2.2.2.2.2.2.2.2.2) fun y7 =>
              gd (inK IntKind.i64 (y5.1 + 1)) <|
              some (Sum.inl (y5.1 + 1, (y7.2.1.1.1, y7.2.1.1.2.2.2.2.2.2.2.1, y7.2.1.1.2.2.2.2.2.2.2.2.2.2.1, y7.2.1.1.2.2.2.2.2.2.2.2.2.2.2.1, y7.2.1.1.2.2.2.2.2.2.2.2.2.2.2.2.1), y7.2.1.1.2.1, y7.2.1.1.2.2.1, y7.2.1.1.2.2.2.1, y7.2.1.1.2.2.2.2.1, y7.2.1.1.2.2.2.2.2.1, y7.2.1.1.2.2.2.2.2.2.1, y7.2.1.1.2.2.2.2.2.2.2.2.1, y7.2.1.1.2.2.2.2.2.2.2.2.2.1, y7.2.1.1.2.2.2.2.2.2.2.2.2.2.2.2.2.1, y7.2.1.1.2.2.2.2.2.2.2.2.2.2.2.2.2.2.1))
            else
              some (Sum.inr (Sum.inr (Sum.inr ((), (), (y5.2.1.1, y5.2.2.1, y5.2.2.2.1, y5.2.2.2.2.1, y5.2.2.2.2.2.1, y5.2.2.2.2.2.2.1, y5.2.2.2.2.2.2.2.1, y1.2.2.1.2.2.2.2.2.2.2.1, y1.2.2.1.2.2.2.2.2.2.2.2.1, y5.2.1.2.1, y5.2.2.2.2.2.2.2.2.1, y5.2.2.2.2.2.2.2.2.2.1, y5.2.1.2.2.1, y5.2.1.2.2.2.1, y1.2.2.1.2.2.2.2.2.2.2.2.2.2.2.2.2.2.1, y5.2.1.2.2.2.2, y5.2.2.2.2.2.2.2.2.2.2.1, y5.2.2.2.2.2.2.2.2.2.2.2, ()), ()))))) (nn) (0, (y4.2.1.1, y4.2.1.2.1, y4.2.1.2.2.1, y4.2.1.2.2.2.1, y4.2.1.2.2.2.2), y4.2.2.1, y4.2.2.2.1, y4.2.2.2.2.1, y4.2.2.2.2.2.1, y4.2.2.2.2.2.2.1, y4.2.2.2.2.2.2.2.1, y4.2.2.2.2.2.2.2.2.1, y4.2.2.2.2.2.2.2.2.2.1, y4.2.2.2.2.2.2.2.2.2.2.1, y4.2.2.2.2.2.2.2.2.2.2.2)) (nn) (0, (y3.2.1.1, y3.2.1.2.1, y3.2.1.2.2.1, y3.2.1.2.2.2.1, y3.2.1.2.2.2.2), y3.2.2.1, y3.2.2.2.1, y3.2.2.2.2.1, y3.2.2.2.2.2.1, y3.2.2.2.2.2.2.1, y3.2.2.2.2.2.2.2.1, y3.2.2.2.2.2.2.2.2.1, y3.2.2.2.2.2.2.2.2.2.1, y3.2.2.2.2.2.2.2.2.2.2.1, y3.2.2.2.2.2.2.2.2.2.2.2)) (nn) (0, (y1.2.2.1.1, y1.2.2.1.2.2.2.2.2.2.2.2.2.1, y1.2.2.1.2.2.2.2.2.2.2.2.2.2.2.2.1, y1.2.2.1.2.2.2.2.2.2.2.2.2.2.2.2.2.1, y1.2.2.1.2.2.2.2.2.2.2.2.2.2.2.2.2.2.2.1), y1.2.2.1.2.1, y1.2.2.1.2.2.1, y1.2.2.1.2.2.2.1, y1.2.2.1.2.2.2.2.1, y1.2.2.1.2.2.2.2.2.1, y1.2.2.1.2.2.2.2.2.2.1, y1.2.2.1.2.2.2.2.2.2.2.2.2.2.1, y1.2.2.1.2.2.2.2.2.2.2.2.2.2.2.1, y1.2.2.1.2.2.2.2.2.2.2.2.2.2.2.2.2.2.2.2.1, y1.2.2.1.2.2.2.2.2.2.2.2.2.2.2.2.2.2.2.2.2.1)

def asked (gi : Int) (ga : List (Int × Int × Unit)) (ci : List (Int × Int × Int × Unit)) (cl : List (Int × Int × Bool × Int × Int × Unit)) (co : List (Int × Int × Int × Unit)) (fg : Int) (fga : List (Int × Int × Unit)) (fi : List (Int × Int × Int × Unit)) (fl : List (Int × Int × Bool × Int × Int × Unit)) (fo : List (Int × Int × Int × Unit)) (fm : Int) (ff : Bool) (fs : Int) (l : List (List Int)) : Option (Unit × Unit × (Int × List (List Int) × List (List Int) × List Int × List Int × List Int × List Int × List Int × List Int × Int × List Int × List Int × Int × Bool × List (List Int) × Int × List Int × List Bool × Unit) × Unit) := askedF fuelN gi ga ci cl co fg fga fi fl fo fm ff fs l

end GoSx
end
section
/- Models of functions: what they compute, if all goes well: ReuseC. -/
namespace GoSx
open Go
def keep1 (i : Int) (gi : Int) (ga : List (Int × Int × Unit)) (ci : List (Int × Int × Int × Unit)) (cl : List (Int × Int × Bool × Int × Int × Unit)) (co : List (Int × Int × Int × Unit)) : Option ((Bool × Unit) × ((Int × List (Int × Int × Unit) × List (Int × Int × Int × Unit) × List (Int × Int × Bool × Int × Int × Unit) × List (Int × Int × Int × Unit) × Unit) × Unit) × Unit) :=
  gd (0 ≤ i) <|
  gd (i < nI cl.length) <|
  some (((get latchT cl i).2.2.1, ()), ((gi, ga, ci, cl, co, ()), ()), ())

def metC1 (x : Int) (gi : Int) (ga : List (Int × Int × Unit)) (ci : List (Int × Int × Int × Unit)) (cl : List (Int × Int × Bool × Int × Int × Unit)) (co : List (Int × Int × Int × Unit)) : Option ((Bool × Unit) × ((Unit × Unit) × (Int × List (Int × Int × Unit) × List (Int × Int × Int × Unit) × List (Int × Int × Bool × Int × Int × Unit) × List (Int × Int × Int × Unit) × Unit) × Unit) × Unit) :=
  bindO (place x) fun y0 =>
  bindO (keep1 y0.1.1 gi ga ci cl co) fun y1 =>
  some ((y1.1.1 == y0.1.2.1, ()), (((), ()), (y1.2.1.1.1, y1.2.1.1.2.1, y1.2.1.1.2.2.1, y1.2.1.1.2.2.2.1, y1.2.1.1.2.2.2.2.1, ()), ()), ())

def IndexFunc_met1F (nn : Nat)  (s : List Int) (gi : Int) (ga : List (Int × Int × Unit)) (ci : List (Int × Int × Int × Unit)) (cl : List (Int × Int × Bool × Int × Int × Unit)) (co : List (Int × Int × Int × Unit)) : Option ((Int × Unit) × ((Unit × Unit) × (Int × List (Int × Int × Unit) × List (Int × Int × Int × Unit) × List (Int × Int × Bool × Int × Int × Unit) × List (Int × Int × Int × Unit) × Unit) × Unit) × Unit) :=
  iterO (X := Int × Int × List (Int × Int × Unit) × List (Int × Int × Int × Unit) × List (Int × Int × Bool × Int × Int × Unit) × List (Int × Int × Int × Unit)) (fun y0 =>
    bif decide (y0.1 < nI s.length) then
      gd (0 ≤ y0.1) <|
      gd (y0.1 < nI s.length) <|
      bindO (metC1 (getI s y0.1) y0.2.1 y0.2.2.1 y0.2.2.2.1 y0.2.2.2.2.1 y0.2.2.2.2.2) fun y1 =>
      bif y1.1.1 then
        some (Sum.inr ((y0.1, ()), (((), ()), (y1.2.1.2.1.1, y1.2.1.2.1.2.1, y1.2.1.2.1.2.2.1, y1.2.1.2.1.2.2.2.1, y1.2.1.2.1.2.2.2.2.1, ()), ()), ()))
      else
        gd (inK IntKind.i64 (y0.1 + 1)) <|
        some (Sum.inl (y0.1 + 1, y1.2.1.2.1.1, y1.2.1.2.1.2.1, y1.2.1.2.1.2.2.1, y1.2.1.2.1.2.2.2.1, y1.2.1.2.1.2.2.2.2.1))
    else
      some (Sum.inr ((-1, ()), (((), ()), (y0.2.1, y0.2.2.1, y0.2.2.2.1, y0.2.2.2.2.1, y0.2.2.2.2.2, ()), ()), ()))) (nn) (0, gi, ga, ci, cl, co)

def IndexFunc_met1 (s : List Int) (gi : Int) (ga : List (Int × Int × Unit)) (ci : List (Int × Int × Int × Unit)) (cl : List (Int × Int × Bool × Int × Int × Unit)) (co : List (Int × Int × Int × Unit)) : Option ((Int × Unit) × ((Unit × Unit) × (Int × List (Int × Int × Unit) × List (Int × Int × Int × Unit) × List (Int × Int × Bool × Int × Int × Unit) × List (Int × Int × Int × Unit) × Unit) × Unit) × Unit) := IndexFunc_met1F fuelN s gi ga ci cl co

def ContainsFunc_met1 (s : List Int) (gi : Int) (ga : List (Int × Int × Unit)) (ci : List (Int × Int × Int × Unit)) (cl : List (Int × Int × Bool × Int × Int × Unit)) (co : List (Int × Int × Int × Unit)) : Option ((Bool × Unit) × ((Unit × Unit) × (Int × List (Int × Int × Unit) × List (Int × Int × Int × Unit) × List (Int × Int × Bool × Int × Int × Unit) × List (Int × Int × Int × Unit) × Unit) × Unit) × Unit) :=
  bindO (IndexFunc_met1 s gi ga ci cl co) fun y0 =>
  some ((decide (y0.1.1 ≥ 0), ()), (((), ()), (y0.2.1.2.1.1, y0.2.1.2.1.2.1, y0.2.1.2.1.2.2.1, y0.2.1.2.1.2.2.2.1, y0.2.1.2.1.2.2.2.2.1, ()), ()), ())

def met1 (l : List Int) (gi : Int) (ga : List (Int × Int × Unit)) (ci : List (Int × Int × Int × Unit)) (cl : List (Int × Int × Bool × Int × Int × Unit)) (co : List (Int × Int × Int × Unit)) : Option ((Bool × Unit) × ((Int × List (Int × Int × Unit) × List (Int × Int × Int × Unit) × List (Int × Int × Bool × Int × Int × Unit) × List (Int × Int × Int × Unit) × Unit) × Unit) × Unit) :=
  bindO (ContainsFunc_met1 l gi ga ci cl co) fun y0 =>
  some ((y0.1.1, ()), ((y0.2.1.2.1.1, y0.2.1.2.1.2.1, y0.2.1.2.1.2.2.1, y0.2.1.2.1.2.2.2.1, y0.2.1.2.1.2.2.2.2.1, ()), ()), ())

def keep2 (i : Int) (fg : Int) (fga : List (Int × Int × Unit)) (fi : List (Int × Int × Int × Unit)) (fl : List (Int × Int × Bool × Int × Int × Unit)) (fo : List (Int × Int × Int × Unit)) (fm : Int) (ff : Bool) (fs : Int) (model : List Bool) : Option ((Bool × Unit) × (((Int × List (Int × Int × Unit) × List (Int × Int × Int × Unit) × List (Int × Int × Bool × Int × Int × Unit) × List (Int × Int × Int × Unit) × Int × Bool × Int × Unit) × Unit) × (List Bool × Unit) × Unit) × Unit) :=
  bindO (unLatch fg fga fi fl fo fm ff fs 1 i) fun y0 =>
  gd (inK IntKind.i64 (0 - y0.1.1)) <|
  gd (inK IntKind.i64 (max2 y0.1.1 (0 - y0.1.1) - 1)) <|
  gd (0 ≤ max2 y0.1.1 (0 - y0.1.1) - 1) <|
  gd (max2 y0.1.1 (0 - y0.1.1) - 1 < nI model.length) <|
  some ((getB model (max2 y0.1.1 (0 - y0.1.1) - 1) == decide (y0.1.1 > 0), ()), (((fg, fga, fi, fl, fo, fm, ff, fs, ()), ()), (model, ()), ()), ())

def metC2 (x : Int) (fg : Int) (fga : List (Int × Int × Unit)) (fi : List (Int × Int × Int × Unit)) (fl : List (Int × Int × Bool × Int × Int × Unit)) (fo : List (Int × Int × Int × Unit)) (fm : Int) (ff : Bool) (fs : Int) (model : List Bool) : Option ((Bool × Unit) × ((Unit × Unit) × ((Int × List (Int × Int × Unit) × List (Int × Int × Int × Unit) × List (Int × Int × Bool × Int × Int × Unit) × List (Int × Int × Int × Unit) × Int × Bool × Int × Unit) × Unit) × (List Bool × Unit) × Unit) × Unit) :=
  bindO (place x) fun y0 =>
  bindO (keep2 y0.1.1 fg fga fi fl fo fm ff fs model) fun y1 =>
  some ((y1.1.1 == y0.1.2.1, ()), (((), ()), ((fg, fga, fi, fl, fo, fm, ff, fs, ()), ()), (model, ()), ()), ())

def IndexFunc_met2F (nn : Nat)  (s : List Int) (fg : Int) (fga : List (Int × Int × Unit)) (fi : List (Int × Int × Int × Unit)) (fl : List (Int × Int × Bool × Int × Int × Unit)) (fo : List (Int × Int × Int × Unit)) (fm : Int) (ff : Bool) (fs : Int) (model : List Bool) : Option ((Int × Unit) × ((Unit × Unit) × ((Int × List (Int × Int × Unit) × List (Int × Int × Int × Unit) × List (Int × Int × Bool × Int × Int × Unit) × List (Int × Int × Int × Unit) × Int × Bool × Int × Unit) × Unit) × (List Bool × Unit) × Unit) × Unit) :=
  iterO (X := Int × (Int × List (Int × Int × Unit) × List (Int × Int × Int × Unit) × List (Int × Int × Bool × Int × Int × Unit) × List (Int × Int × Int × Unit) × Int × Bool × Int × Unit) × List Bool) (fun y0 =>
    bif decide (y0.1 < nI s.length) then
      gd (0 ≤ y0.1) <|
      gd (y0.1 < nI s.length) <|
      bindO (metC2 (getI s y0.1) y0.2.1.1 y0.2.1.2.1 y0.2.1.2.2.1 y0.2.1.2.2.2.1 y0.2.1.2.2.2.2.1 y0.2.1.2.2.2.2.2.1 y0.2.1.2.2.2.2.2.2.1 y0.2.1.2.2.2.2.2.2.2.1 y0.2.2) fun y1 =>
      bif y1.1.1 then
        some (Sum.inr ((y0.1, ()), (((), ()), (y0.2.1, ()), (y0.2.2, ()), ()), ()))
      else
        gd (inK IntKind.i64 (y0.1 + 1)) <|
        some (Sum.inl (y0.1 + 1, y0.2.1, y0.2.2))
    else
      some (Sum.inr ((-1, ()), (((), ()), (y0.2.1, ()), (y0.2.2, ()), ()), ()))) (nn) (0, (fg, fga, fi, fl, fo, fm, ff, fs, ()), model)

def IndexFunc_met2 (s : List Int) (fg : Int) (fga : List (Int × Int × Unit)) (fi : List (Int × Int × Int × Unit)) (fl : List (Int × Int × Bool × Int × Int × Unit)) (fo : List (Int × Int × Int × Unit)) (fm : Int) (ff : Bool) (fs : Int) (model : List Bool) : Option ((Int × Unit) × ((Unit × Unit) × ((Int × List (Int × Int × Unit) × List (Int × Int × Int × Unit) × List (Int × Int × Bool × Int × Int × Unit) × List (Int × Int × Int × Unit) × Int × Bool × Int × Unit) × Unit) × (List Bool × Unit) × Unit) × Unit) := IndexFunc_met2F fuelN s fg fga fi fl fo fm ff fs model

def ContainsFunc_met2 (s : List Int) (fg : Int) (fga : List (Int × Int × Unit)) (fi : List (Int × Int × Int × Unit)) (fl : List (Int × Int × Bool × Int × Int × Unit)) (fo : List (Int × Int × Int × Unit)) (fm : Int) (ff : Bool) (fs : Int) (model : List Bool) : Option ((Bool × Unit) × ((Unit × Unit) × ((Int × List (Int × Int × Unit) × List (Int × Int × Int × Unit) × List (Int × Int × Bool × Int × Int × Unit) × List (Int × Int × Int × Unit) × Int × Bool × Int × Unit) × Unit) × (List Bool × Unit) × Unit) × Unit) :=
  bindO (IndexFunc_met2 s fg fga fi fl fo fm ff fs model) fun y0 =>
  some ((decide (y0.1.1 ≥ 0), ()), (((), ()), ((fg, fga, fi, fl, fo, fm, ff, fs, ()), ()), (model, ()), ()), ())

def met2 (l : List Int) (fg : Int) (fga : List (Int × Int × Unit)) (fi : List (Int × Int × Int × Unit)) (fl : List (Int × Int × Bool × Int × Int × Unit)) (fo : List (Int × Int × Int × Unit)) (fm : Int) (ff : Bool) (fs : Int) (model : List Bool) : Option ((Bool × Unit) × (((Int × List (Int × Int × Unit) × List (Int × Int × Int × Unit) × List (Int × Int × Bool × Int × Int × Unit) × List (Int × Int × Int × Unit) × Int × Bool × Int × Unit) × Unit) × (List Bool × Unit) × Unit) × Unit) :=
  bindO (ContainsFunc_met2 l fg fga fi fl fo fm ff fs model) fun y0 =>
  some ((y0.1.1, ()), (((fg, fga, fi, fl, fo, fm, ff, fs, ()), ()), (model, ()), ()), ())

def rKeepF (nn : Nat)  (gi : Int) (ga : List (Int × Int × Unit)) (ci : List (Int × Int × Int × Unit)) (cl : List (Int × Int × Bool × Int × Int × Unit)) (co : List (Int × Int × Int × Unit)) (l : List (List Int)) : Option ((List (List Int) × Unit) × Unit × Unit) :=
  iterO (X := Int × (Int × List (Int × Int × Unit) × List (Int × Int × Int × Unit) × List (Int × Int × Bool × Int × Int × Unit) × List (Int × Int × Int × Unit)) × List (List Int)) (fun y0 =>
    bif decide (y0.1 < nI l.length) then
      gd (0 ≤ y0.1) <|
      gd (y0.1 < nI l.length) <|
      bindO (rOf28 y0.2.1.1 y0.2.1.2.1 y0.2.1.2.2.1 y0.2.1.2.2.2.1 y0.2.1.2.2.2.2 (getL l y0.1)) fun y1 =>
      bif y1.1.1 then
        bindO (met1 (getL l y0.1) y0.2.1.1 y0.2.1.2.1 y0.2.1.2.2.1 y0.2.1.2.2.2.1 y0.2.1.2.2.2.2) fun y2 =>
        bif bif true then y2.1.1 else false then
          gd ((y0.2.2.length + [getL l y0.1].length) * 24 ≤ lim) <|
          gd (y0.2.2.length + [getL l y0.1].length ≤ lim) <|
          gd (inK IntKind.i64 (y0.1 + 1)) <|
          some (Sum.inl (y0.1 + 1, (y2.2.1.1.1, y2.2.1.1.2.1, y2.2.1.1.2.2.1, y2.2.1.1.2.2.2.1, y2.2.1.1.2.2.2.2.1), y0.2.2 ++ [getL l y0.1]))
        else
          gd (inK IntKind.i64 (y0.1 + 1)) <|
          some (Sum.inl (y0.1 + 1, (y2.2.1.1.1, y2.2.1.1.2.1, y2.2.1.1.2.2.1, y2.2.1.1.2.2.2.1, y2.2.1.1.2.2.2.2.1), y0.2.2))
      else
        gd (inK IntKind.i64 (y0.1 + 1)) <|
        some (Sum.inl (y0.1 + 1, (y0.2.1.1, y0.2.1.2.1, y0.2.1.2.2.1, y0.2.1.2.2.2.1, y0.2.1.2.2.2.2), y0.2.2))
    else
      bindO (unNew y0.2.1.1 y0.2.1.2.1 y0.2.1.2.2.1 y0.2.1.2.2.2.1 y0.2.1.2.2.2.2 2 false) fun y1 =>
      iterO (X := List (List Int) × List (List Int) × Int × List (Int × Int × Unit) × List (Int × Int × Int × Unit) × List (Int × Int × Bool × Int × Int × Unit) × List (Int × Int × Int × Unit) × Int × Bool × Int × Unit) (fun y2 =>
        bindO (asked y0.2.1.1 y0.2.1.2.1 y0.2.1.2.2.1 y0.2.1.2.2.2.1 y0.2.1.2.2.2.2 y2.2.2.1 y2.2.2.2.1 y2.2.2.2.2.1 y2.2.2.2.2.2.1 y2.2.2.2.2.2.2.1 y2.2.2.2.2.2.2.2.1 y2.2.2.2.2.2.2.2.2.1 y2.2.2.2.2.2.2.2.2.2.1 y2.1) fun y3 =>
        iterO (X := Int × (Int × Int × Int × Bool × Int) × List (List Int) × List (List Int) × List Int × List Int × List Int × List Int × List Int × List Int × List Int × List Int × List (List Int) × List Int × List Bool) (fun y4 =>
          bif decide (y4.1 < nI y2.1.length) then
            gd (0 ≤ y4.1) <|
            gd (y4.1 < nI y2.1.length) <|
            bindO (rAt y2.2.2.1 y2.2.2.2.1 y2.2.2.2.2.1 y2.2.2.2.2.2.1 y2.2.2.2.2.2.2.1 y2.2.2.2.2.2.2.2.1 y2.2.2.2.2.2.2.2.2.1 y2.2.2.2.2.2.2.2.2.2.1 1 (getL y2.1 y4.1)) fun y5 =>
            iterO (X := Int × List Int) (fun y6 =>
              bif decide (y6.1 < nI y5.1.1.length) then
                gd (0 ≤ y6.1) <|
                gd (y6.1 < nI y5.1.1.length) <|
                gd (inK IntKind.i64 (0 - getI y5.1.1 y6.1)) <|
                gd ((y6.2.length + [0 - getI y5.1.1 y6.1].length) * 8 ≤ lim) <|
                gd (y6.2.length + [0 - getI y5.1.1 y6.1].length ≤ lim) <|
                gd (inK IntKind.i64 (y6.1 + 1)) <|
                some (Sum.inl (y6.1 + 1, y6.2 ++ [0 - getI y5.1.1 y6.1]))
              else
                bindO (Ask y6.2 (-1) y4.2.1.1 y4.2.2.1 y4.2.2.2.1 y4.2.2.2.2.1 y4.2.2.2.2.2.1 y4.2.2.2.2.2.2.1 y4.2.2.2.2.2.2.2.1 y4.2.2.2.2.2.2.2.2.1 y4.2.2.2.2.2.2.2.2.2.1 y4.2.1.2.1 y4.2.2.2.2.2.2.2.2.2.2.1 y4.2.2.2.2.2.2.2.2.2.2.2.1 y4.2.1.2.2.1 y4.2.1.2.2.2.1 y4.2.2.2.2.2.2.2.2.2.2.2.2.1 y4.2.1.2.2.2.2 y4.2.2.2.2.2.2.2.2.2.2.2.2.2.1 y4.2.2.2.2.2.2.2.2.2.2.2.2.2.2) fun y7 =>
                bif y7.1.1 != 1 then
                  gd (inK IntKind.i64 (y4.1 + 1)) <|
                  some (Sum.inr (Sum.inl (y4.1 + 1, (y7.2.1.1.1, y7.2.1.1.2.2.2.2.2.2.2.2.2.1, y7.2.1.1.2.2.2.2.2.2.2.2.2.2.2.2.1, y7.2.1.1.2.2.2.2.2.2.2.2.2.2.2.2.2.1, y7.2.1.1.2.2.2.2.2.2.2.2.2.2.2.2.2.2.2.1), y7.2.1.1.2.1, y7.2.1.1.2.2.1, y7.2.1.1.2.2.2.1, y7.2.1.1.2.2.2.2.1, y7.2.1.1.2.2.2.2.2.1, y7.2.1.1.2.2.2.2.2.2.1, y7.2.1.1.2.2.2.2.2.2.2.1, y7.2.1.1.2.2.2.2.2.2.2.2.1, y7.2.1.1.2.2.2.2.2.2.2.2.2.2.1, y7.2.1.1.2.2.2.2.2.2.2.2.2.2.2.1, y7.2.1.1.2.2.2.2.2.2.2.2.2.2.2.2.2.2.1, y7.2.1.1.2.2.2.2.2.2.2.2.2.2.2.2.2.2.2.2.1, y7.2.1.1.2.2.2.2.2.2.2.2.2.2.2.2.2.2.2.2.2.1)))
                else
                  bindO (Model y7.2.1.1.2.2.2.2.2.2.2.2.2.2.2.2.2.2.2.2.2.1) fun y8 =>
                  iterO (X := Int × (Int × List (Int × Int × Unit) × List (Int × Int × Int × Unit) × List (Int × Int × Bool × Int × Int × Unit) × List (Int × Int × Int × Unit) × Int × Bool × Int × Unit) × List (List Int)) (fun y9 =>
                    bif decide (y9.1 < nI y2.1.length) then
                      gd (0 ≤ y9.1) <|
                      gd (y9.1 < nI y2.1.length) <|
                      bindO (met2 (getL y2.1 y9.1) y9.2.1.1 y9.2.1.2.1 y9.2.1.2.2.1 y9.2.1.2.2.2.1 y9.2.1.2.2.2.2.1 y9.2.1.2.2.2.2.2.1 y9.2.1.2.2.2.2.2.2.1 y9.2.1.2.2.2.2.2.2.2.1 y8.1.1) fun y10 =>
                      bif y10.1.1 then
                        gd ((y9.2.2.length + [getL y2.1 y9.1].length) * 24 ≤ lim) <|
                        gd (y9.2.2.length + [getL y2.1 y9.1].length ≤ lim) <|
                        gd (inK IntKind.i64 (y9.1 + 1)) <|
                        some (Sum.inl (y9.1 + 1, y9.2.1, y9.2.2 ++ [getL y2.1 y9.1]))
                      else
                        gd (inK IntKind.i64 (y9.1 + 1)) <|
                        some (Sum.inl (y9.1 + 1, y9.2.1, y9.2.2))
                    else
                      some (Sum.inr (Sum.inr (Sum.inr (Sum.inl (y9.2.2, y9.2.2, y9.2.1)))))) (nn) (0, y2.2.2, [])) (nn) (0, [])
          else
            some (Sum.inr (Sum.inr (Sum.inr ((y2.1, ()), (), ()))))) (nn) (0, (y3.2.2.1.1, y3.2.2.1.2.2.2.2.2.2.2.2.2.1, y3.2.2.1.2.2.2.2.2.2.2.2.2.2.2.2.1, y3.2.2.1.2.2.2.2.2.2.2.2.2.2.2.2.2.1, y3.2.2.1.2.2.2.2.2.2.2.2.2.2.2.2.2.2.2.1), y3.2.2.1.2.1, y3.2.2.1.2.2.1, y3.2.2.1.2.2.2.1, y3.2.2.1.2.2.2.2.1, y3.2.2.1.2.2.2.2.2.1, y3.2.2.1.2.2.2.2.2.2.1, y3.2.2.1.2.2.2.2.2.2.2.1, y3.2.2.1.2.2.2.2.2.2.2.2.1, y3.2.2.1.2.2.2.2.2.2.2.2.2.2.1, y3.2.2.1.2.2.2.2.2.2.2.2.2.2.2.1, y3.2.2.1.2.2.2.2.2.2.2.2.2.2.2.2.2.2.1, y3.2.2.1.2.2.2.2.2.2.2.2.2.2.2.2.2.2.2.2.1, y3.2.2.1.2.2.2.2.2.2.2.2.2.2.2.2.2.2.2.2.2.1)) (nn) (y0.2.2, y0.2.2, y1.1.1)) (nn) (0, (gi, ga, ci, cl, co), [])

def rKeep (gi : Int) (ga : List (Int × Int × Unit)) (ci : List (Int × Int × Int × Unit)) (cl : List (Int × Int × Bool × Int × Int × Unit)) (co : List (Int × Int × Int × Unit)) (l : List (List Int)) : Option ((List (List Int) × Unit) × Unit × Unit) := rKeepF fuelN gi ga ci cl co l

end GoSx
end
section
/- Models of functions: what they compute, if all goes well: ReuseD. -/
namespace GoSx
open Go
def still28 : Option (((Int × List (Int × Int × Unit) × List (Int × Int × Int × Unit) × List (Int × Int × Bool × Int × Int × Unit) × List (Int × Int × Int × Unit) × Unit) × Unit) × Unit × Unit) :=
  some (((2, [], [], [(1, 2, false, 0, 0, ()), (2, 2, false, 1, 0, ())], [(8, 5, 0, ())], ()), ()), (), ())

def head28F (vstill28 : Option (((Int × List (Int × Int × Unit) × List (Int × Int × Int × Unit) × List (Int × Int × Bool × Int × Int × Unit) × List (Int × Int × Int × Unit) × Unit) × Unit) × Unit × Unit)) (vrKeep : Int → List (Int × Int × Unit) → List (Int × Int × Int × Unit) → List (Int × Int × Bool × Int × Int × Unit) → List (Int × Int × Int × Unit) → List (List Int) → Option ((List (List Int) × Unit) × Unit × Unit)) (vnames28 : List ByteArray → Option (((List Int × List Int × List (ByteArray × Int × Int × Int × Unit) × List Int × List Int × Unit) × Unit) × Unit × Unit)) (vrMove : List Int → List Int → List (ByteArray × Int × Int × Int × Unit) → List Int → List Int → Int → List (Int × Int × Unit) → List (Int × Int × Int × Unit) → List (Int × Int × Bool × Int × Int × Unit) → List (Int × Int × Int × Unit) → List Int → List Int → List (ByteArray × Int × Int × Int × Unit) → List Int → List Int → Int → List (Int × Int × Unit) → List (Int × Int × Int × Unit) → List (Int × Int × Bool × Int × Int × Unit) → List (Int × Int × Int × Unit) → List (List Int) → Option ((List (List Int) × Unit) × Unit × Unit)) (vsame28 : List (List Int) → List (List Int) → Option ((Bool × Unit) × Unit × Unit)) : Option ((Bool × Unit) × Unit × Unit) :=
  bindO (vstill28) fun y0 =>
  bindO (vrKeep y0.1.1.1 y0.1.1.2.1 y0.1.1.2.2.1 y0.1.1.2.2.2.1 y0.1.1.2.2.2.2.1 [[-1], [-2], [1, 2], [3], [0], [2, -1]]) fun y1 =>
  bindO (vstill28) fun y2 =>
  bindO (vrKeep y2.1.1.1 y2.1.1.2.1 y2.1.1.2.2.1 y2.1.1.2.2.2.1 y2.1.1.2.2.2.2.1 [[-2]]) fun y3 =>
  bindO (vstill28) fun y4 =>
  gd (0 < nI y4.1.1.2.2.2.1.length) <|
  bindO (vrKeep y4.1.1.1 y4.1.1.2.1 y4.1.1.2.2.1 (y4.1.1.2.2.2.1.set 0 ((get latchT y4.1.1.2.2.2.1 0).1, 3, (get latchT y4.1.1.2.2.2.1 0).2.2.1, (get latchT y4.1.1.2.2.2.1 0).2.2.2.1, (get latchT y4.1.1.2.2.2.1 0).2.2.2.2.1, ())) y4.1.1.2.2.2.2.1 [[-1], [-2], [1, -1], []]) fun y5 =>
  bindO (vnames28 [{ data := #[120] }, { data := #[121] }]) fun y6 =>
  bindO (vstill28) fun y7 =>
  bindO (vnames28 [{ data := #[121] }, { data := #[120] }, { data := #[120] }]) fun y8 =>
  bindO (vstill28) fun y9 =>
  bindO (vrMove y6.1.1.1 y6.1.1.2.1 y6.1.1.2.2.1 y6.1.1.2.2.2.1 y6.1.1.2.2.2.2.1 y7.1.1.1 y7.1.1.2.1 y7.1.1.2.2.1 y7.1.1.2.2.2.1 y7.1.1.2.2.2.2.1 y8.1.1.1 y8.1.1.2.1 y8.1.1.2.2.1 y8.1.1.2.2.2.1 y8.1.1.2.2.2.2.1 y9.1.1.1 y9.1.1.2.1 y9.1.1.2.2.1 y9.1.1.2.2.2.1 y9.1.1.2.2.2.2.1 [[1, -2], [-1], [3], []]) fun y10 =>
  bindO (vnames28 [{ data := #[120] }, { data := #[121] }]) fun y11 =>
  bindO (vstill28) fun y12 =>
  bindO (vnames28 [{ data := #[121] }]) fun y13 =>
  bindO (vstill28) fun y14 =>
  bindO (vrMove y11.1.1.1 y11.1.1.2.1 y11.1.1.2.2.1 y11.1.1.2.2.2.1 y11.1.1.2.2.2.2.1 y12.1.1.1 y12.1.1.2.1 y12.1.1.2.2.1 y12.1.1.2.2.2.1 y12.1.1.2.2.2.2.1 y13.1.1.1 y13.1.1.2.1 y13.1.1.2.2.1 y13.1.1.2.2.2.1 y13.1.1.2.2.2.2.1 y14.1.1.1 y14.1.1.2.1 y14.1.1.2.2.1 y14.1.1.2.2.2.1 y14.1.1.2.2.2.2.1 [[1, -2], [-2]]) fun y15 =>
  bindO (vsame28 y1.1.1 [[-1], [-2], [2, -1]]) fun y16 =>
  bindO (vsame28 y5.1.1 [[1, -1]]) fun y17 =>
  bindO (vsame28 y10.1.1 [[2, -1], [-2], []]) fun y18 =>
  bindO (vsame28 y15.1.1 [[-1]]) fun y19 =>
  bif y16.1.1 then
    bif bif true then nI y3.1.1.length == 0 else false then
      bif bif true then y17.1.1 else false then
        bif bif true then y18.1.1 else false then
          some ((bif true then y19.1.1 else false, ()), (), ())
        else
          some ((false, ()), (), ())
      else
        some ((false, ()), (), ())
    else
      some ((false, ()), (), ())
  else
    some ((false, ()), (), ())

def head28 : Option ((Bool × Unit) × Unit × Unit) := head28F still28 rKeep names28 rMove same28

def ReuseMovesF (vhead28 : Option ((Bool × Unit) × Unit × Unit)) (vshort : List ByteArray → Int → List (Int × Int × Unit) → List (Int × Int × Int × Unit) → List (Int × Int × Bool × Int × Int × Unit) → List (Int × Int × Int × Unit) → Option ((Bool × Unit) × Unit × Unit)) (vfew : List (List Int) → Option ((Bool × Unit) × Unit × Unit)) (vnames28 : List ByteArray → Option (((List Int × List Int × List (ByteArray × Int × Int × Int × Unit) × List Int × List Int × Unit) × Unit) × Unit × Unit)) (vrMove : List Int → List Int → List (ByteArray × Int × Int × Int × Unit) → List Int → List Int → Int → List (Int × Int × Unit) → List (Int × Int × Int × Unit) → List (Int × Int × Bool × Int × Int × Unit) → List (Int × Int × Int × Unit) → List Int → List Int → List (ByteArray × Int × Int × Int × Unit) → List Int → List Int → Int → List (Int × Int × Unit) → List (Int × Int × Int × Unit) → List (Int × Int × Bool × Int × Int × Unit) → List (Int × Int × Int × Unit) → List (List Int) → Option ((List (List Int) × Unit) × Unit × Unit)) (vMove28 : List Int → List Int → List (ByteArray × Int × Int × Int × Unit) → List Int → List Int → Int → List (Int × Int × Unit) → List (Int × Int × Int × Unit) → List (Int × Int × Bool × Int × Int × Unit) → List (Int × Int × Int × Unit) → List Int → List Int → List (ByteArray × Int × Int × Int × Unit) → List Int → List Int → Int → List (Int × Int × Unit) → List (Int × Int × Int × Unit) → List (Int × Int × Bool × Int × Int × Unit) → List (Int × Int × Int × Unit) → List (List Int) → Option ((List (List Int) × Unit) × Unit × Unit)) (vsame28 : List (List Int) → List (List Int) → Option ((Bool × Unit) × Unit × Unit)) (a : List ByteArray) (gi : Int) (ga : List (Int × Int × Unit)) (ci : List (Int × Int × Int × Unit)) (cl : List (Int × Int × Bool × Int × Int × Unit)) (co : List (Int × Int × Int × Unit)) (b : List ByteArray) (hi : Int) (ha : List (Int × Int × Unit)) (hci : List (Int × Int × Int × Unit)) (hcl : List (Int × Int × Bool × Int × Int × Unit)) (hco : List (Int × Int × Int × Unit)) (l : List (List Int)) : Option ((Bool × Unit) × Unit × Unit) :=
  bindO (vhead28) fun y0 =>
  bindO (vshort a gi ga ci cl co) fun y1 =>
  bindO (vshort b hi ha hci hcl hco) fun y2 =>
  bindO (vfew l) fun y3 =>
  bif !y1.1.1 then
    some ((y0.1.1, ()), (), ())
  else
    bif bif false then true else !y2.1.1 then
      some ((y0.1.1, ()), (), ())
    else
      bif bif false then true else !y3.1.1 then
        some ((y0.1.1, ()), (), ())
      else
        bindO (vnames28 a) fun y4 =>
        bindO (vnames28 b) fun y5 =>
        bindO (vrMove y4.1.1.1 y4.1.1.2.1 y4.1.1.2.2.1 y4.1.1.2.2.2.1 y4.1.1.2.2.2.2.1 gi ga ci cl co y5.1.1.1 y5.1.1.2.1 y5.1.1.2.2.1 y5.1.1.2.2.2.1 y5.1.1.2.2.2.2.1 hi ha hci hcl hco l) fun y6 =>
        bindO (vnames28 a) fun y7 =>
        bindO (vnames28 b) fun y8 =>
        bindO (vMove28 y7.1.1.1 y7.1.1.2.1 y7.1.1.2.2.1 y7.1.1.2.2.2.1 y7.1.1.2.2.2.2.1 gi ga ci cl co y8.1.1.1 y8.1.1.2.1 y8.1.1.2.2.1 y8.1.1.2.2.2.1 y8.1.1.2.2.2.2.1 hi ha hci hcl hco l) fun y9 =>
        bindO (vsame28 y6.1.1 y9.1.1) fun y10 =>
        bif y0.1.1 then
          some ((bif true then y10.1.1 else false, ()), (), ())
        else
          some ((false, ()), (), ())

def ReuseMoves (a : List ByteArray) (gi : Int) (ga : List (Int × Int × Unit)) (ci : List (Int × Int × Int × Unit)) (cl : List (Int × Int × Bool × Int × Int × Unit)) (co : List (Int × Int × Int × Unit)) (b : List ByteArray) (hi : Int) (ha : List (Int × Int × Unit)) (hci : List (Int × Int × Int × Unit)) (hcl : List (Int × Int × Bool × Int × Int × Unit)) (hco : List (Int × Int × Int × Unit)) (l : List (List Int)) : Option ((Bool × Unit) × Unit × Unit) := ReuseMovesF head28 short few names28 rMove Move28 same28 a gi ga ci cl co b hi ha hci hcl hco l

def ReuseBackF (vhead28 : Option ((Bool × Unit) × Unit × Unit)) (vshort : List ByteArray → Int → List (Int × Int × Unit) → List (Int × Int × Int × Unit) → List (Int × Int × Bool × Int × Int × Unit) → List (Int × Int × Int × Unit) → Option ((Bool × Unit) × Unit × Unit)) (vfew : List (List Int) → Option ((Bool × Unit) × Unit × Unit)) (vunlike : List ByteArray → Option ((Bool × Unit) × Unit × Unit)) (vRight15 : Int → List (Int × Int × Unit) → List (Int × Int × Int × Unit) → List (Int × Int × Bool × Int × Int × Unit) → List (Int × Int × Int × Unit) → Option ((Bool × Unit) × Unit × Unit)) (vnames28 : List ByteArray → Option (((List Int × List Int × List (ByteArray × Int × Int × Int × Unit) × List Int × List Int × Unit) × Unit) × Unit × Unit)) (vrMove : List Int → List Int → List (ByteArray × Int × Int × Int × Unit) → List Int → List Int → Int → List (Int × Int × Unit) → List (Int × Int × Int × Unit) → List (Int × Int × Bool × Int × Int × Unit) → List (Int × Int × Int × Unit) → List Int → List Int → List (ByteArray × Int × Int × Int × Unit) → List Int → List Int → Int → List (Int × Int × Unit) → List (Int × Int × Int × Unit) → List (Int × Int × Bool × Int × Int × Unit) → List (Int × Int × Int × Unit) → List (List Int) → Option ((List (List Int) × Unit) × Unit × Unit)) (vin28 : List (List Int) → List (List Int) → Option ((Bool × Unit) × Unit × Unit)) (a : List ByteArray) (gi : Int) (ga : List (Int × Int × Unit)) (ci : List (Int × Int × Int × Unit)) (cl : List (Int × Int × Bool × Int × Int × Unit)) (co : List (Int × Int × Int × Unit)) (b : List ByteArray) (hi : Int) (ha : List (Int × Int × Unit)) (hci : List (Int × Int × Int × Unit)) (hcl : List (Int × Int × Bool × Int × Int × Unit)) (hco : List (Int × Int × Int × Unit)) (l : List (List Int)) : Option ((Bool × Unit) × Unit × Unit) :=
  bindO (vhead28) fun y0 =>
  bindO (vshort a gi ga ci cl co) fun y1 =>
  bindO (vshort b hi ha hci hcl hco) fun y2 =>
  bindO (vfew l) fun y3 =>
  bindO (vunlike a) fun y4 =>
  bindO (vunlike b) fun y5 =>
  bif !y1.1.1 then
    some ((y0.1.1, ()), (), ())
  else
    bif bif false then true else !y2.1.1 then
      some ((y0.1.1, ()), (), ())
    else
      bif bif false then true else !y3.1.1 then
        some ((y0.1.1, ()), (), ())
      else
        bif bif false then true else !y4.1.1 then
          some ((y0.1.1, ()), (), ())
        else
          bif bif false then true else !y5.1.1 then
            some ((y0.1.1, ()), (), ())
          else
            gd (inK IntKind.i64 (nI ga.length + nI ha.length)) <|
            bif bif false then true else decide (nI ga.length + nI ha.length > 100) then
              some ((y0.1.1, ()), (), ())
            else
              bindO (vRight15 gi ga ci cl co) fun y6 =>
              bindO (vRight15 hi ha hci hcl hco) fun y7 =>
              bif !y6.1.1 then
                some ((y0.1.1, ()), (), ())
              else
                bif bif false then true else !y7.1.1 then
                  some ((y0.1.1, ()), (), ())
                else
                  bindO (vnames28 a) fun y8 =>
                  bindO (vnames28 b) fun y9 =>
                  bindO (vrMove y8.1.1.1 y8.1.1.2.1 y8.1.1.2.2.1 y8.1.1.2.2.2.1 y8.1.1.2.2.2.2.1 gi ga ci cl co y9.1.1.1 y9.1.1.2.1 y9.1.1.2.2.1 y9.1.1.2.2.2.1 y9.1.1.2.2.2.2.1 hi ha hci hcl hco l) fun y10 =>
                  bindO (vnames28 b) fun y11 =>
                  bindO (vnames28 a) fun y12 =>
                  bindO (vrMove y11.1.1.1 y11.1.1.2.1 y11.1.1.2.2.1 y11.1.1.2.2.2.1 y11.1.1.2.2.2.2.1 hi ha hci hcl hco y12.1.1.1 y12.1.1.2.1 y12.1.1.2.2.1 y12.1.1.2.2.2.1 y12.1.1.2.2.2.2.1 gi ga ci cl co y10.1.1) fun y13 =>
                  bindO (vnames28 a) fun y14 =>
                  bindO (vnames28 a) fun y15 =>
                  bindO (vrMove y14.1.1.1 y14.1.1.2.1 y14.1.1.2.2.1 y14.1.1.2.2.2.1 y14.1.1.2.2.2.2.1 gi ga ci cl co y15.1.1.1 y15.1.1.2.1 y15.1.1.2.2.1 y15.1.1.2.2.2.1 y15.1.1.2.2.2.2.1 gi ga ci cl co l) fun y16 =>
                  bindO (vin28 y13.1.1 l) fun y17 =>
                  bindO (vin28 y16.1.1 l) fun y18 =>
                  bif y0.1.1 then
                    bif bif true then nI y13.1.1.length == nI y10.1.1.length else false then
                      bif bif true then y17.1.1 else false then
                        bif bif true then y18.1.1 else false then
                          some ((bif true then decide (nI y16.1.1.length ≥ nI y10.1.1.length) else false, ()), (), ())
                        else
                          some ((false, ()), (), ())
                      else
                        some ((false, ()), (), ())
                    else
                      some ((false, ()), (), ())
                  else
                    some ((false, ()), (), ())

def ReuseBack (a : List ByteArray) (gi : Int) (ga : List (Int × Int × Unit)) (ci : List (Int × Int × Int × Unit)) (cl : List (Int × Int × Bool × Int × Int × Unit)) (co : List (Int × Int × Int × Unit)) (b : List ByteArray) (hi : Int) (ha : List (Int × Int × Unit)) (hci : List (Int × Int × Int × Unit)) (hcl : List (Int × Int × Bool × Int × Int × Unit)) (hco : List (Int × Int × Int × Unit)) (l : List (List Int)) : Option ((Bool × Unit) × Unit × Unit) := ReuseBackF head28 short few unlike Right15 names28 rMove in28 a gi ga ci cl co b hi ha hci hcl hco l

end GoSx
end
section
/- Walks: the functions compute what their models say: SatA. -/
set_option linter.unusedVariables false
set_option maxHeartbeats 0
set_option maxRecDepth 100000
namespace GoSx
open Go Go.Proofs
theorem fol : Try.prog.follows .mixedOrders = true := by kernel_rfl
def size_s : FSig := ⟨.val int <| .nil, [], .val int <| .nil, []⟩
def size_L : Nat → Option LoopS := fun n =>
  none
def size_J : Nat → Option Shape := fun n =>
  none
set_option maxRecDepth 100000 in
theorem size_eq : ∀  xa xo, (size_s.prog (mkC Try.prog noS ⟨false, false⟩ size_L size_J) Try.f64 xa xo).run = size  xa.1 := by intros; kernel_rfl
noncomputable def T_size : FuncId → Summ := addS noS 64 (size_s.summ (fun xa xo => size xa.1))
theorem T_size_ok : ∀ g, SummOK Try.prog g (T_size g) := fn_ok noS_ok fol Try.func64 (by kernel_rfl) (by kernel_rfl) (by kernel_rfl) size_eq

def at__s : FSig := ⟨.val int <| .nil, [], .val int <| .nil, []⟩
def at__L : Nat → Option LoopS := fun n =>
  none
def at__J : Nat → Option Shape := fun n =>
  none
set_option maxRecDepth 100000 in
theorem at__eq : ∀  xa xo, (at__s.prog (mkC Try.prog T_size ⟨false, false⟩ at__L at__J) Try.f74 xa xo).run = at_  xa.1 := by intros; kernel_rfl
noncomputable def T_at_ : FuncId → Summ := addS T_size 74 (at__s.summ (fun xa xo => at_ xa.1))
theorem T_at__ok : ∀ g, SummOK Try.prog g (T_at_ g) := fn_ok T_size_ok fol Try.func74 (by kernel_rfl) (by kernel_rfl) (by kernel_rfl) at__eq

def value_s : FSig := ⟨.obj 0 <| .val int <| .nil, [(94, .skip <| .skip <| .skip <| .lend (.sl int) <| .skip <| .skip <| .skip <| .skip <| .skip <| .skip <| .skip <| .skip <| .skip <| .skip <| .skip <| .skip <| .skip <| .skip <| .nil)], .val int <| .nil, []⟩
def value_L : Nat → Option LoopS := fun n =>
  none
def value_J : Nat → Option Shape := fun n =>
  none
set_option maxRecDepth 100000 in
theorem value_eq : ∀  xa xo, (value_s.prog (mkC Try.prog T_at_ ⟨false, false⟩ value_L value_J) Try.f59 xa xo).run = value  xa.1 xo.1.1 := by intros; kernel_rfl
noncomputable def T_value : FuncId → Summ := addS T_at_ 59 (value_s.summ (fun xa xo => value xa.1 xo.1.1))
theorem T_value_ok : ∀ g, SummOK Try.prog g (T_value g) := fn_ok T_at__ok fol Try.func59 (by kernel_rfl) (by kernel_rfl) (by kernel_rfl) value_eq

def set__s : FSig := ⟨.obj 0 <| .val int <| .val int <| .nil, [(94, .skip <| .skip <| .skip <| .own 3 int <| .own 3 int <| .own 3 int <| .skip <| .skip <| .skip <| .skip <| .own 3 int <| .lend (.sl int) <| .skip <| .skip <| .skip <| .skip <| .skip <| .skip <| .nil)], .nil, []⟩
def set__L : Nat → Option LoopS := fun n =>
  none
def set__J : Nat → Option Shape := fun n =>
  none
set_option maxRecDepth 100000 in
theorem set__eq : ∀  xa xo, (set__s.prog (mkC Try.prog T_value ⟨false, false⟩ set__L set__J) Try.f60 xa xo).run = set_  xa.1 xa.2.1 xo.1.1 xo.1.2.1 xo.1.2.2.1 xo.1.2.2.2.1 xo.1.2.2.2.2.1 := by intros; kernel_rfl
noncomputable def T_set_ : FuncId → Summ := addS T_value 60 (set__s.summ (fun xa xo => set_ xa.1 xa.2.1 xo.1.1 xo.1.2.1 xo.1.2.2.1 xo.1.2.2.2.1 xo.1.2.2.2.2.1))
theorem T_set__ok : ∀ g, SummOK Try.prog g (T_set_ g) := fn_ok T_value_ok fol Try.func60 (by kernel_rfl) (by kernel_rfl) (by kernel_rfl) set__eq

def back_s : FSig := ⟨.obj 0 <| .val int <| .nil, [(94, .skip <| .skip <| .skip <| .own 3 int <| .skip <| .skip <| .own 3 int <| .skip <| .skip <| .val int <| .own 3 int <| .own 3 int <| .val int <| .skip <| .skip <| .skip <| .skip <| .skip <| .nil)], .nil, []⟩
def back_L (nn : Nat) : Nat → Option LoopS := fun n =>
  bif Nat.beq n 3 then some ⟨{ env := [(29, ASh.dat (Ty.int IntKind.i64))], heap := [(1, CSh.box 94 ((ASh.opq 18).cons ((ASh.opq 19).cons ((ASh.opq 20).cons ((ASh.arr 21).cons ((ASh.opq 22).cons ((ASh.opq 23).cons ((ASh.arr 24).cons ((ASh.opq 25).cons ((ASh.opq 26).cons ((ASh.dat (Ty.int IntKind.i64)).cons ((ASh.arr 28).cons ((ASh.arr 29).cons ((ASh.dat (Ty.int IntKind.i64)).cons ((ASh.opq 31).cons ((ASh.opq 32).cons ((ASh.opq 33).cons ((ASh.opq 34).cons ((ASh.opq 35).cons ASh.nil))))))))))))))))))), (21, CSh.arr 3 (Ty.int IntKind.i64)), (24, CSh.arr 3 (Ty.int IntKind.i64))], keep := [0, 1, 4, 27, 28], keepH := [28, 29] }, fun _ => nn⟩ else
  none
def back_J : Nat → Option Shape := fun n =>
  none
set_option maxRecDepth 100000 in
theorem back_eq : ∀ (nn : Nat)  xa xo, (back_s.prog (mkC Try.prog T_set_ ⟨false, false⟩ (back_L nn) back_J) Try.f47 xa xo).run = backF nn xa.1 xo.1.1 xo.1.2.1 xo.1.2.2.1 xo.1.2.2.2.1 xo.1.2.2.2.2.1 xo.1.2.2.2.2.2.1 := by intros; kernel_rfl
noncomputable def T_back : FuncId → Summ := addS T_set_ 47 (back_s.summ (fun xa xo => back xa.1 xo.1.1 xo.1.2.1 xo.1.2.2.1 xo.1.2.2.2.1 xo.1.2.2.2.2.1 xo.1.2.2.2.2.2.1))
theorem T_back_ok : ∀ g, SummOK Try.prog g (T_back g) := fn_ok T_set__ok fol Try.func47 (by kernel_rfl) (by kernel_rfl) (by kernel_rfl) (back_eq fuelN)

def keep_s : FSig := ⟨.obj 0 <| .lendh int <| .nil, [(94, .skip <| .own2h 49 3 int 17 <| .own2 49 3 int <| .skip <| .skip <| .skip <| .skip <| .skip <| .skip <| .skip <| .skip <| .skip <| .skip <| .skip <| .skip <| .skip <| .skip <| .skip <| .nil)], .val int <| .nil, []⟩
def keep_L : Nat → Option LoopS := fun n =>
  none
def keep_J : Nat → Option Shape := fun n =>
  none
set_option maxRecDepth 100000 in
theorem keep_eq : ∀  xa xo, (keep_s.prog (mkC Try.prog T_back ⟨false, false⟩ keep_L keep_J) Try.f61 xa xo).run = keep  xa.1 xo.1.1 xo.1.2.1 xo.1.2.2.1 := by intros; kernel_rfl
noncomputable def T_keep : FuncId → Summ := addS T_back 61 (keep_s.summ (fun xa xo => keep xa.1 xo.1.1 xo.1.2.1 xo.1.2.2.1))
theorem T_keep_ok : ∀ g, SummOK Try.prog g (T_keep g) := fn_ok T_back_ok fol Try.func61 (by kernel_rfl) (by kernel_rfl) (by kernel_rfl) keep_eq

end GoSx
end
section
/- Walks: the functions compute what their models say: SatB. -/
set_option linter.unusedVariables false
set_option maxHeartbeats 0
set_option maxRecDepth 100000
namespace GoSx
open Go Go.Proofs
def forget_s : FSig := ⟨.obj 0 <| .nil, [(94, .skip <| .skip <| .skip <| .skip <| .skip <| .skip <| .skip <| .skip <| .skip <| .skip <| .skip <| .skip <| .skip <| .skip <| .skip <| .val int <| .own 3 int <| .own 4 .bool <| .nil)], .nil, []⟩
def forget_L : Nat → Option LoopS := fun n =>
  none
def forget_J : Nat → Option Shape := fun n =>
  none
set_option maxRecDepth 100000 in
theorem forget_eq : ∀  xa xo, (forget_s.prog (mkC Try.prog T_keep ⟨false, false⟩ forget_L forget_J) Try.f45 xa xo).run = forget  xo.1.1 xo.1.2.1 xo.1.2.2.1 := by intros; kernel_rfl
noncomputable def T_forget : FuncId → Summ := addS T_keep 45 (forget_s.summ (fun xa xo => forget xo.1.1 xo.1.2.1 xo.1.2.2.1))
theorem T_forget_ok : ∀ g, SummOK Try.prog g (T_forget g) := fn_ok T_keep_ok fol Try.func45 (by kernel_rfl) (by kernel_rfl) (by kernel_rfl) forget_eq

def ownC_s : FSig := ⟨.val int <| .obj 0 <| .nil, [(74, .obj 1 <| .nil), (94, .val int <| .skip <| .skip <| .skip <| .skip <| .skip <| .skip <| .skip <| .skip <| .skip <| .skip <| .skip <| .skip <| .skip <| .skip <| .skip <| .skip <| .skip <| .nil)], .val .bool <| .nil, []⟩
def ownC_L : Nat → Option LoopS := fun n =>
  none
def ownC_J : Nat → Option Shape := fun n =>
  none
set_option maxRecDepth 100000 in
theorem ownC_eq : ∀  xa xo, (ownC_s.prog (mkC Try.prog T_forget ⟨false, false⟩ ownC_L ownC_J) Try.f63 xa xo).run = ownC  xa.1 xo.2.1.1 := by intros; kernel_rfl
noncomputable def T_ownC : FuncId → Summ := addS T_forget 63 (ownC_s.summ (fun xa xo => ownC xa.1 xo.2.1.1))
theorem T_ownC_ok : ∀ g, SummOK Try.prog g (T_ownC g) := fn_ok T_forget_ok fol Try.func63 (by kernel_rfl) (by kernel_rfl) (by kernel_rfl) ownC_eq

def IndexFunc_own_s : FSig := ⟨.val (.sl int) <| .clo 63 (.obj 0 <| .nil) <| .nil, [(74, .obj 1 <| .nil), (94, .val int <| .skip <| .skip <| .skip <| .skip <| .skip <| .skip <| .skip <| .skip <| .skip <| .skip <| .skip <| .skip <| .skip <| .skip <| .skip <| .skip <| .skip <| .nil)], .val int <| .nil, []⟩
def IndexFunc_own_L (nn : Nat) : Nat → Option LoopS := fun n =>
  bif Nat.beq n 2 then some ⟨{ env := [(8, ASh.dat (Ty.int IntKind.i64))], heap := [(1, CSh.box 74 ((ASh.ref 2 0).cons ASh.nil)), (2, CSh.box 94 ((ASh.dat (Ty.int IntKind.i64)).cons ((ASh.opq 20).cons ((ASh.opq 21).cons ((ASh.opq 22).cons ((ASh.opq 23).cons ((ASh.opq 24).cons ((ASh.opq 25).cons ((ASh.opq 26).cons ((ASh.opq 27).cons ((ASh.opq 28).cons ((ASh.opq 29).cons ((ASh.opq 30).cons ((ASh.opq 31).cons ((ASh.opq 32).cons ((ASh.opq 33).cons ((ASh.opq 34).cons ((ASh.opq 35).cons ((ASh.opq 36).cons ASh.nil)))))))))))))))))))], keep := [0, 1, 4, 7], keepH := [] }, fun _ => nn⟩ else
  none
def IndexFunc_own_J : Nat → Option Shape := fun n =>
  none
set_option maxRecDepth 100000 in
theorem IndexFunc_own_eq : ∀ (nn : Nat)  xa xo, (IndexFunc_own_s.prog (mkC Try.prog T_ownC ⟨false, false⟩ (IndexFunc_own_L nn) IndexFunc_own_J) Try.f53 xa xo).run = IndexFunc_ownF nn xa.1 xo.2.1.1 := by intros; kernel_rfl
noncomputable def T_IndexFunc_own : FuncId → Summ := addS T_ownC 53 (IndexFunc_own_s.summ (fun xa xo => IndexFunc_own xa.1 xo.2.1.1))
theorem T_IndexFunc_own_ok : ∀ g, SummOK Try.prog g (T_IndexFunc_own g) := fn_ok T_ownC_ok fol Try.func53 (by kernel_rfl) (by kernel_rfl) (by kernel_rfl) (IndexFunc_own_eq fuelN)

def ContainsFunc_own_s : FSig := ⟨.val (.sl int) <| .clo 63 (.obj 0 <| .nil) <| .nil, [(74, .obj 1 <| .nil), (94, .val int <| .skip <| .skip <| .skip <| .skip <| .skip <| .skip <| .skip <| .skip <| .skip <| .skip <| .skip <| .skip <| .skip <| .skip <| .skip <| .skip <| .skip <| .nil)], .val .bool <| .nil, []⟩
def ContainsFunc_own_L : Nat → Option LoopS := fun n =>
  none
def ContainsFunc_own_J : Nat → Option Shape := fun n =>
  none
set_option maxRecDepth 100000 in
theorem ContainsFunc_own_eq : ∀  xa xo, (ContainsFunc_own_s.prog (mkC Try.prog T_IndexFunc_own ⟨false, false⟩ ContainsFunc_own_L ContainsFunc_own_J) Try.f34 xa xo).run = ContainsFunc_own  xa.1 xo.2.1.1 := by intros; kernel_rfl
noncomputable def T_ContainsFunc_own : FuncId → Summ := addS T_IndexFunc_own 34 (ContainsFunc_own_s.summ (fun xa xo => ContainsFunc_own xa.1 xo.2.1.1))
theorem T_ContainsFunc_own_ok : ∀ g, SummOK Try.prog g (T_ContainsFunc_own g) := fn_ok T_IndexFunc_own_ok fol Try.func34 (by kernel_rfl) (by kernel_rfl) (by kernel_rfl) ContainsFunc_own_eq

def own_s : FSig := ⟨.obj 0 <| .val (.sl int) <| .nil, [(94, .val int <| .skip <| .skip <| .skip <| .skip <| .skip <| .skip <| .skip <| .skip <| .skip <| .skip <| .skip <| .skip <| .skip <| .skip <| .skip <| .skip <| .skip <| .nil)], .val .bool <| .nil, []⟩
def own_L : Nat → Option LoopS := fun n =>
  none
def own_J : Nat → Option Shape := fun n =>
  none
set_option maxRecDepth 100000 in
theorem own_eq : ∀  xa xo, (own_s.prog (mkC Try.prog T_ContainsFunc_own ⟨false, false⟩ own_L own_J) Try.f46 xa xo).run = own  xa.1 xo.1.1 := by intros; kernel_rfl
noncomputable def T_own : FuncId → Summ := addS T_ContainsFunc_own 46 (own_s.summ (fun xa xo => own xa.1 xo.1.1))
theorem T_own_ok : ∀ g, SummOK Try.prog g (T_own g) := fn_ok T_ContainsFunc_own_ok fol Try.func46 (by kernel_rfl) (by kernel_rfl) (by kernel_rfl) own_eq

def Index__s : FSig := ⟨.lend (.sl int) <| .val int <| .nil, [], .val int <| .nil, []⟩
def Index__L (nn : Nat) : Nat → Option LoopS := fun n =>
  bif Nat.beq n 2 then some ⟨{ env := [(8, ASh.dat (Ty.int IntKind.i64))], heap := [], keep := [0, 1, 4, 7], keepH := [] }, fun _ => nn⟩ else
  none
def Index__J : Nat → Option Shape := fun n =>
  none
set_option maxRecDepth 100000 in
theorem Index__eq : ∀ (nn : Nat)  xa xo, (Index__s.prog (mkC Try.prog T_own ⟨false, false⟩ (Index__L nn) Index__J) Try.f69 xa xo).run = Index_F nn xa.1 xa.2.1 := by intros; kernel_rfl
noncomputable def T_Index_ : FuncId → Summ := addS T_own 69 (Index__s.summ (fun xa xo => Index_ xa.1 xa.2.1))
theorem T_Index__ok : ∀ g, SummOK Try.prog g (T_Index_ g) := fn_ok T_own_ok fol Try.func69 (by kernel_rfl) (by kernel_rfl) (by kernel_rfl) (Index__eq fuelN)

def Contains__s : FSig := ⟨.lend (.sl int) <| .val int <| .nil, [], .val .bool <| .nil, []⟩
def Contains__L : Nat → Option LoopS := fun n =>
  none
def Contains__J : Nat → Option Shape := fun n =>
  none
set_option maxRecDepth 100000 in
theorem Contains__eq : ∀  xa xo, (Contains__s.prog (mkC Try.prog T_Index_ ⟨false, false⟩ Contains__L Contains__J) Try.f49 xa xo).run = Contains_  xa.1 xa.2.1 := by intros; kernel_rfl
noncomputable def T_Contains_ : FuncId → Summ := addS T_Index_ 49 (Contains__s.summ (fun xa xo => Contains_ xa.1 xa.2.1))
theorem T_Contains__ok : ∀ g, SummOK Try.prog g (T_Contains_ g) := fn_ok T_Index__ok fol Try.func49 (by kernel_rfl) (by kernel_rfl) (by kernel_rfl) Contains__eq

def pick_s : FSig := ⟨.obj 0 <| .nil, [(94, .val int <| .skip <| .skip <| .lend (.sl int) <| .skip <| .skip <| .lend (.sl int) <| .lend (.sl int) <| .lend (.sl int) <| .val int <| .skip <| .skip <| .skip <| .skip <| .skip <| .skip <| .skip <| .skip <| .nil)], .val int <| .nil, []⟩
def pick_L (nn : Nat) : Nat → Option LoopS := fun n =>
  bif Nat.beq n 3 then some ⟨{ env := [(3, ASh.dat (Ty.int IntKind.i64)), (11, ASh.dat (Ty.int IntKind.i64))], heap := [], keep := [0, 2, 9, 10], keepH := [1] }, fun _ => nn⟩ else
  bif Nat.beq n 8 then some ⟨{ env := [(3, ASh.dat (Ty.int IntKind.i64))], heap := [(1, CSh.box 94 ((ASh.dat (Ty.int IntKind.i64)).cons ((ASh.opq 18).cons ((ASh.opq 19).cons ((ASh.idn 20 (Ty.int IntKind.i64).sl).cons ((ASh.opq 21).cons ((ASh.opq 22).cons ((ASh.idn 23 (Ty.int IntKind.i64).sl).cons ((ASh.idn 24 (Ty.int IntKind.i64).sl).cons ((ASh.idn 25 (Ty.int IntKind.i64).sl).cons ((ASh.dat (Ty.int IntKind.i64)).cons ((ASh.opq 27).cons ((ASh.opq 28).cons ((ASh.opq 29).cons ((ASh.opq 30).cons ((ASh.opq 31).cons ((ASh.opq 32).cons ((ASh.opq 33).cons ((ASh.opq 34).cons ASh.nil)))))))))))))))))))], keep := [0, 2, 9, 10, 11], keepH := [] }, fun _ => nn⟩ else
  none
def pick_J : Nat → Option Shape := fun n =>
  none
set_option maxRecDepth 100000 in
theorem pick_eq : ∀ (nn : Nat)  xa xo, (pick_s.prog (mkC Try.prog T_Contains_ ⟨false, false⟩ (pick_L nn) pick_J) Try.f68 xa xo).run = pickF nn xo.1.1 xo.1.2.1 xo.1.2.2.1 xo.1.2.2.2.1 xo.1.2.2.2.2.1 xo.1.2.2.2.2.2.1 := by intros; kernel_rfl
noncomputable def T_pick : FuncId → Summ := addS T_Contains_ 68 (pick_s.summ (fun xa xo => pick xo.1.1 xo.1.2.1 xo.1.2.2.1 xo.1.2.2.2.1 xo.1.2.2.2.2.1 xo.1.2.2.2.2.2.1))
theorem T_pick_ok : ∀ g, SummOK Try.prog g (T_pick g) := fn_ok T_Contains__ok fol Try.func68 (by kernel_rfl) (by kernel_rfl) (by kernel_rfl) (pick_eq fuelN)

def Clone__s : FSig := ⟨.lend (.sl int) <| .nil, [], .own 3 int <| .nil, []⟩
theorem Clone__nf (s : List Int) (y : Clone__s.oty.den) : Clone__s.vcond (mkC Try.prog T_pick ⟨false, false⟩ (fun _ => none) (fun _ => none)) Try.f76 (s, ()) () y =
  ((s = [] → some (([], ()), (), ()) = some y) ∧ (([] : List Int).length + s.length) * 8 ≤ lim ∧ ([] : List Int).length + s.length ≤ lim ∧ some (([] ++ s, ()), (), ()) = some y) := by kernel_rfl
theorem Clone__vc (xa : Clone__s.args.ty.den) (xo : (objsTy Clone__s.objs).den) (y : Clone__s.oty.den) (h : Clone_ xa.1 = some y) : Clone__s.vcond (mkC Try.prog T_pick ⟨false, false⟩ (fun _ => none) (fun _ => none)) Try.f76 xa xo y := by
  have e := Clone__nf xa.1 y
  refine e.mpr ?_
  unfold Clone_ at h
  obtain ⟨h1, h⟩ := gd_some.1 h
  obtain ⟨h2, h⟩ := gd_some.1 h
  refine ⟨fun hs => ?_, h1, h2, ?_⟩
  · rw [hs] at h; exact h
  · exact h
noncomputable def T_Clone_ : FuncId → Summ := addS T_pick 76 (Clone__s.summ (fun xa xo => Clone_ xa.1))
theorem T_Clone__ok : ∀ g, SummOK Try.prog g (T_Clone_ g) := fn_ok_vc T_pick_ok fol Try.func76 (by kernel_rfl) (by kernel_rfl) (by kernel_rfl) Clone__vc

def CloneB_s : FSig := ⟨.lend (.sl .bool) <| .nil, [], .own 4 .bool <| .nil, []⟩
theorem CloneB_nf (s : List Bool) (y : CloneB_s.oty.den) : CloneB_s.vcond (mkC Try.prog T_Clone_ ⟨false, false⟩ (fun _ => none) (fun _ => none)) Try.f50 (s, ()) () y =
  ((s = [] → some (([], ()), (), ()) = some y) ∧ (([] : List Bool).length + s.length) * 1 ≤ lim ∧ ([] : List Bool).length + s.length ≤ lim ∧ some (([] ++ s, ()), (), ()) = some y) := by kernel_rfl
theorem CloneB_vc (xa : CloneB_s.args.ty.den) (xo : (objsTy CloneB_s.objs).den) (y : CloneB_s.oty.den) (h : CloneB xa.1 = some y) : CloneB_s.vcond (mkC Try.prog T_Clone_ ⟨false, false⟩ (fun _ => none) (fun _ => none)) Try.f50 xa xo y := by
  have e := CloneB_nf xa.1 y
  refine e.mpr ?_
  unfold CloneB at h
  obtain ⟨h1, h⟩ := gd_some.1 h
  obtain ⟨h2, h⟩ := gd_some.1 h
  refine ⟨fun hs => ?_, h1, h2, ?_⟩
  · rw [hs] at h; exact h
  · exact h
noncomputable def T_CloneB : FuncId → Summ := addS T_Clone_ 50 (CloneB_s.summ (fun xa xo => CloneB xa.1))
theorem T_CloneB_ok : ∀ g, SummOK Try.prog g (T_CloneB g) := fn_ok_vc T_Clone__ok fol Try.func50 (by kernel_rfl) (by kernel_rfl) (by kernel_rfl) CloneB_vc

end GoSx
end
section
/- Walks: the functions compute what their models say: SatC. -/
set_option linter.unusedVariables false
set_option maxHeartbeats 0
set_option maxRecDepth 100000
namespace GoSx
open Go Go.Proofs
def more_s : FSig := ⟨.own 3 int <| .val int <| .nil, [], .own 3 int <| .nil, []⟩
def more_L : Nat → Option LoopS := fun n =>
  none
def more_J : Nat → Option Shape := fun n =>
  none
set_option maxRecDepth 100000 in
theorem more_eq : ∀  xa xo, (more_s.prog (mkC Try.prog T_CloneB ⟨false, false⟩ more_L more_J) Try.f71 xa xo).run = more  xa.1 xa.2.1 := by intros; kernel_rfl
noncomputable def T_more : FuncId → Summ := addS T_CloneB 71 (more_s.summ (fun xa xo => more xa.1 xa.2.1))
theorem T_more_ok : ∀ g, SummOK Try.prog g (T_more g) := fn_ok T_CloneB_ok fol Try.func71 (by kernel_rfl) (by kernel_rfl) (by kernel_rfl) more_eq

def grow_s : FSig := ⟨.obj 0 <| .val int <| .nil, [(94, .val int <| .skip <| .own2 49 3 int <| .own 3 int <| .own 3 int <| .own 3 int <| .own 3 int <| .own 3 int <| .skip <| .skip <| .skip <| .skip <| .skip <| .skip <| .skip <| .skip <| .skip <| .skip <| .nil)], .nil, []⟩
def grow_L : Nat → Option LoopS := fun n =>
  none
def grow_J : Nat → Option Shape := fun n =>
  none
set_option maxRecDepth 100000 in
theorem grow_eq : ∀  xa xo, (grow_s.prog (mkC Try.prog T_more ⟨false, false⟩ grow_L grow_J) Try.f54 xa xo).run = grow  xa.1 xo.1.1 xo.1.2.1 xo.1.2.2.1 xo.1.2.2.2.1 xo.1.2.2.2.2.1 xo.1.2.2.2.2.2.1 xo.1.2.2.2.2.2.2.1 := by intros; kernel_rfl
noncomputable def T_grow : FuncId → Summ := addS T_more 54 (grow_s.summ (fun xa xo => grow xa.1 xo.1.1 xo.1.2.1 xo.1.2.2.1 xo.1.2.2.2.1 xo.1.2.2.2.2.1 xo.1.2.2.2.2.2.1 xo.1.2.2.2.2.2.2.1))
theorem T_grow_ok : ∀ g, SummOK Try.prog g (T_grow g) := fn_ok T_more_ok fol Try.func54 (by kernel_rfl) (by kernel_rfl) (by kernel_rfl) grow_eq

def New_s : FSig := ⟨.val int <| .nil, [], .obj 0 <| .nil, [(94, .val int <| .own2 49 3 int <| .own2 49 3 int <| .own 3 int <| .own 3 int <| .own 3 int <| .own 3 int <| .own 3 int <| .own 3 int <| .val int <| .own 3 int <| .own 3 int <| .val int <| .val .bool <| .own 49 (.sl int) <| .val int <| .own 3 int <| .own 4 .bool <| .nil)]⟩
def New_L : Nat → Option LoopS := fun n =>
  none
def New_J : Nat → Option Shape := fun n =>
  none
set_option maxRecDepth 100000 in
theorem New_eq : ∀  xa xo, (New_s.prog (mkC Try.prog T_grow ⟨false, false⟩ New_L New_J) Try.f40 xa xo).run = New  xa.1 := by intros; kernel_rfl
noncomputable def T_New : FuncId → Summ := addS T_grow 40 (New_s.summ (fun xa xo => New xa.1))
theorem T_New_ok : ∀ g, SummOK Try.prog g (T_New g) := fn_ok T_grow_ok fol Try.func40 (by kernel_rfl) (by kernel_rfl) (by kernel_rfl) New_eq

def Add_s : FSig := ⟨.obj 0 <| .val (.sl int) <| .nil, [(94, .val int <| .own2 49 3 int <| .own2 49 3 int <| .own 3 int <| .own 3 int <| .own 3 int <| .own 3 int <| .skip <| .skip <| .val int <| .own 3 int <| .own 3 int <| .val int <| .val .bool <| .skip <| .val int <| .own 3 int <| .own 4 .bool <| .nil)], .nil, []⟩
def Add_L (nn : Nat) : Nat → Option LoopS := fun n =>
  bif Nat.beq n 5 then some ⟨{ env := [(4, ASh.arr 49), (17, ASh.dat (Ty.int IntKind.i64))], heap := [(1, CSh.box 94 ((ASh.dat (Ty.int IntKind.i64)).cons ((ASh.arr 19).cons ((ASh.arr 20).cons ((ASh.arr 533).cons ((ASh.arr 22).cons ((ASh.arr 23).cons ((ASh.arr 536).cons ((ASh.opq 25).cons ((ASh.opq 26).cons ((ASh.dat (Ty.int IntKind.i64)).cons ((ASh.arr 540).cons ((ASh.arr 541).cons ((ASh.dat (Ty.int IntKind.i64)).cons ((ASh.dat Ty.bool).cons ((ASh.opq 32).cons ((ASh.dat (Ty.int IntKind.i64)).cons ((ASh.arr 161).cons ((ASh.arr 162).cons ASh.nil))))))))))))))))))), (49, CSh.arr 3 (Ty.int IntKind.i64))], keep := [0, 1, 15, 16], keepH := [19, 20, 533, 22, 23, 536, 540, 541, 161, 162] }, fun _ => nn⟩ else
  none
def Add_J : Nat → Option Shape := fun n =>
  none
set_option maxRecDepth 100000 in
theorem Add_eq : ∀ (nn : Nat)  xa xo, (Add_s.prog (mkC Try.prog T_New ⟨false, false⟩ (Add_L nn) Add_J) Try.f43 xa xo).run = AddF nn xa.1 xo.1.1 xo.1.2.1 xo.1.2.2.1 xo.1.2.2.2.1 xo.1.2.2.2.2.1 xo.1.2.2.2.2.2.1 xo.1.2.2.2.2.2.2.1 xo.1.2.2.2.2.2.2.2.1 xo.1.2.2.2.2.2.2.2.2.1 xo.1.2.2.2.2.2.2.2.2.2.1 xo.1.2.2.2.2.2.2.2.2.2.2.1 xo.1.2.2.2.2.2.2.2.2.2.2.2.1 xo.1.2.2.2.2.2.2.2.2.2.2.2.2.1 xo.1.2.2.2.2.2.2.2.2.2.2.2.2.2.1 xo.1.2.2.2.2.2.2.2.2.2.2.2.2.2.2.1 := by intros; kernel_rfl
noncomputable def T_Add : FuncId → Summ := addS T_New 43 (Add_s.summ (fun xa xo => Add xa.1 xo.1.1 xo.1.2.1 xo.1.2.2.1 xo.1.2.2.2.1 xo.1.2.2.2.2.1 xo.1.2.2.2.2.2.1 xo.1.2.2.2.2.2.2.1 xo.1.2.2.2.2.2.2.2.1 xo.1.2.2.2.2.2.2.2.2.1 xo.1.2.2.2.2.2.2.2.2.2.1 xo.1.2.2.2.2.2.2.2.2.2.2.1 xo.1.2.2.2.2.2.2.2.2.2.2.2.1 xo.1.2.2.2.2.2.2.2.2.2.2.2.2.1 xo.1.2.2.2.2.2.2.2.2.2.2.2.2.2.1 xo.1.2.2.2.2.2.2.2.2.2.2.2.2.2.2.1))
theorem T_Add_ok : ∀ g, SummOK Try.prog g (T_Add g) := fn_ok T_New_ok fol Try.func43 (by kernel_rfl) (by kernel_rfl) (by kernel_rfl) (Add_eq fuelN)

def Model_s : FSig := ⟨.obj 0 <| .nil, [(94, .skip <| .skip <| .skip <| .skip <| .skip <| .skip <| .skip <| .skip <| .skip <| .skip <| .skip <| .skip <| .skip <| .skip <| .skip <| .skip <| .skip <| .lend (.sl .bool) <| .nil)], .own 4 .bool <| .nil, []⟩
def Model_L : Nat → Option LoopS := fun n =>
  none
def Model_J : Nat → Option Shape := fun n =>
  none
set_option maxRecDepth 100000 in
theorem Model_eq : ∀  xa xo, (Model_s.prog (mkC Try.prog T_Add ⟨false, false⟩ Model_L Model_J) Try.f31 xa xo).run = Model  xo.1.1 := by intros; kernel_rfl
noncomputable def T_Model : FuncId → Summ := addS T_Add 31 (Model_s.summ (fun xa xo => Model xo.1.1))
theorem T_Model_ok : ∀ g, SummOK Try.prog g (T_Model g) := fn_ok T_Add_ok fol Try.func31 (by kernel_rfl) (by kernel_rfl) (by kernel_rfl) Model_eq

def blame_s : FSig := ⟨.obj 0 <| .val int <| .nil, [(94, .skip <| .own2 49 3 int <| .skip <| .skip <| .skip <| .lend (.sl int) <| .skip <| .skip <| .skip <| .skip <| .lend (.sl int) <| .lend (.sl int) <| .skip <| .skip <| .skip <| .skip <| .skip <| .skip <| .nil)], .own 3 int <| .nil, []⟩
def blame_L (nn : Nat) : Nat → Option LoopS := fun n =>
  bif Nat.beq n 4 then some ⟨{ env := [(7, ASh.dat (Ty.int IntKind.i64)), (5, ASh.arr 192)], heap := [(19, CSh.arr2 49 3 (Ty.int IntKind.i64) []), (192, CSh.arr 3 (Ty.int IntKind.i64)), (192, CSh.arr 3 (Ty.int IntKind.i64)), (320, CSh.mp (Ty.int IntKind.i64) Ty.bool)], keep := [0, 1, 4, 6], keepH := [1] }, fun _ => nn⟩ else
  bif Nat.beq n 11 then some ⟨{ env := [(85, ASh.dat (Ty.int IntKind.i64))], heap := [(320, CSh.mp (Ty.int IntKind.i64) Ty.bool)], keep := [0, 1, 4, 5, 6, 7, 8, 83, 84], keepH := [1, 19, 4672, 192] }, fun _ => nn⟩ else
  none
def blame_J : Nat → Option Shape := fun n =>
  none
set_option maxRecDepth 100000 in
theorem blame_eq : ∀ (nn : Nat)  xa xo, (blame_s.prog (mkC Try.prog T_Model ⟨false, false⟩ (blame_L nn) blame_J) Try.f67 xa xo).run = blameF nn xa.1 xo.1.1 xo.1.2.1 xo.1.2.2.1 xo.1.2.2.2.1 := by intros; kernel_rfl
noncomputable def T_blame : FuncId → Summ := addS T_Model 67 (blame_s.summ (fun xa xo => blame xa.1 xo.1.1 xo.1.2.1 xo.1.2.2.1 xo.1.2.2.2.1))
theorem T_blame_ok : ∀ g, SummOK Try.prog g (T_blame g) := fn_ok T_Model_ok fol Try.func67 (by kernel_rfl) (by kernel_rfl) (by kernel_rfl) (blame_eq fuelN)

def learn_s : FSig := ⟨.obj 0 <| .val int <| .nil, [(94, .skip <| .own2 49 3 int <| .skip <| .lend (.sl int) <| .lend (.sl int) <| .lend (.sl int) <| .skip <| .own 3 int <| .own 3 int <| .skip <| .lend (.sl int) <| .lend (.sl int) <| .skip <| .skip <| .skip <| .skip <| .skip <| .skip <| .nil)], .own 3 int <| .val int <| .nil, []⟩
def learn_L (nn : Nat) : Nat → Option LoopS := fun n =>
  bif Nat.beq n 5 then some ⟨{ env := [(7, ASh.arr 320), (8, ASh.dat (Ty.int IntKind.i64)), (9, ASh.dat (Ty.int IntKind.i64)), (10, ASh.arr 1280)], heap := [(1, CSh.box 94 ((ASh.opq 18).cons ((ASh.arr 19).cons ((ASh.opq 20).cons ((ASh.idn 21 (Ty.int IntKind.i64).sl).cons ((ASh.idn 22 (Ty.int IntKind.i64).sl).cons ((ASh.idn 23 (Ty.int IntKind.i64).sl).cons ((ASh.opq 24).cons ((ASh.arr 25).cons ((ASh.arr 26).cons ((ASh.opq 27).cons ((ASh.idn 28 (Ty.int IntKind.i64).sl).cons ((ASh.idn 29 (Ty.int IntKind.i64).sl).cons ((ASh.opq 30).cons ((ASh.opq 31).cons ((ASh.opq 32).cons ((ASh.opq 33).cons ((ASh.opq 34).cons ((ASh.opq 35).cons ASh.nil))))))))))))))))))), (19, CSh.arr2 49 3 (Ty.int IntKind.i64) [1280]), (1280, CSh.arr 3 (Ty.int IntKind.i64)), (1280, CSh.arr 3 (Ty.int IntKind.i64)), (25, CSh.arr 3 (Ty.int IntKind.i64)), (26, CSh.arr 3 (Ty.int IntKind.i64)), (192, CSh.mp (Ty.int IntKind.i64) Ty.bool), (320, CSh.arr 3 (Ty.int IntKind.i64))], keep := [0, 1, 4, 5, 6], keepH := [] }, fun _ => nn⟩ else
  bif Nat.beq n 6 then some ⟨{ env := [(34, ASh.dat (Ty.int IntKind.i64)), (8, ASh.dat (Ty.int IntKind.i64)), (7, ASh.arr 320)], heap := [(1, CSh.box 94 ((ASh.opq 18).cons ((ASh.arr 19).cons ((ASh.opq 20).cons ((ASh.idn 21 (Ty.int IntKind.i64).sl).cons ((ASh.idn 22 (Ty.int IntKind.i64).sl).cons ((ASh.idn 23 (Ty.int IntKind.i64).sl).cons ((ASh.opq 24).cons ((ASh.arr 25).cons ((ASh.arr 26).cons ((ASh.opq 27).cons ((ASh.idn 28 (Ty.int IntKind.i64).sl).cons ((ASh.idn 29 (Ty.int IntKind.i64).sl).cons ((ASh.opq 30).cons ((ASh.opq 31).cons ((ASh.opq 32).cons ((ASh.opq 33).cons ((ASh.opq 34).cons ((ASh.opq 35).cons ASh.nil))))))))))))))))))), (25, CSh.arr 3 (Ty.int IntKind.i64)), (26, CSh.arr 3 (Ty.int IntKind.i64)), (192, CSh.mp (Ty.int IntKind.i64) Ty.bool), (320, CSh.arr 3 (Ty.int IntKind.i64)), (320, CSh.arr 3 (Ty.int IntKind.i64))], keep := [0, 1, 4, 5, 6, 9, 10, 32, 33], keepH := [19, 1280] }, fun _ => nn⟩ else
  bif Nat.beq n 19 then some ⟨{ env := [(9, ASh.dat (Ty.int IntKind.i64))], heap := [], keep := [0, 1, 4, 5, 6, 7, 8, 10, 32, 33, 34], keepH := [1, 19, 1280, 25, 26, 192, 320] }, fun _ => nn⟩ else
  bif Nat.beq n 28 then some ⟨{ env := [(15, ASh.dat (Ty.int IntKind.i64)), (16, ASh.dat (Ty.int IntKind.i64))], heap := [(320, CSh.arr 3 (Ty.int IntKind.i64))], keep := [0, 1, 4, 5, 6, 7, 8, 9, 10, 14, 32, 33, 34], keepH := [1, 19, 1280, 25, 26, 192] }, fun _ => nn⟩ else
  none
def learn_J : Nat → Option Shape := fun n =>
  none
set_option maxRecDepth 100000 in
theorem learn_eq : ∀ (nn : Nat)  xa xo, (learn_s.prog (mkC Try.prog T_blame ⟨false, true⟩ (learn_L nn) learn_J) Try.f75 xa xo).run = learnF nn xa.1 xo.1.1 xo.1.2.1 xo.1.2.2.1 xo.1.2.2.2.1 xo.1.2.2.2.2.1 xo.1.2.2.2.2.2.1 xo.1.2.2.2.2.2.2.1 xo.1.2.2.2.2.2.2.2.1 := by intros; kernel_rfl
noncomputable def T_learn : FuncId → Summ := addS T_blame 75 (learn_s.summ (fun xa xo => learn xa.1 xo.1.1 xo.1.2.1 xo.1.2.2.1 xo.1.2.2.2.1 xo.1.2.2.2.2.1 xo.1.2.2.2.2.2.1 xo.1.2.2.2.2.2.2.1 xo.1.2.2.2.2.2.2.2.1))
theorem T_learn_ok : ∀ g, SummOK Try.prog g (T_learn g) := fn_ok T_blame_ok fol Try.func75 (by kernel_rfl) (by kernel_rfl) (by kernel_rfl) (learn_eq fuelN)

def unit_s : FSig := ⟨.obj 0 <| .nil, [(94, .skip <| .own2 49 3 int <| .own2 49 3 int <| .own 3 int <| .own 3 int <| .own 3 int <| .skip <| .skip <| .skip <| .skip <| .own 3 int <| .lend (.sl int) <| .val int <| .skip <| .skip <| .skip <| .skip <| .skip <| .nil)], .val int <| .nil, []⟩
def unit_L (nn : Nat) : Nat → Option LoopS := fun n =>
  bif Nat.beq n 1 then some ⟨{ env := [], heap := [(1, CSh.box 94 ((ASh.opq 17).cons ((ASh.arr 18).cons ((ASh.arr 19).cons ((ASh.arr 20).cons ((ASh.arr 21).cons ((ASh.arr 22).cons ((ASh.opq 23).cons ((ASh.opq 24).cons ((ASh.opq 25).cons ((ASh.opq 26).cons ((ASh.arr 27).cons ((ASh.idn 28 (Ty.int IntKind.i64).sl).cons ((ASh.dat (Ty.int IntKind.i64)).cons ((ASh.opq 30).cons ((ASh.opq 31).cons ((ASh.opq 32).cons ((ASh.opq 33).cons ((ASh.opq 34).cons ASh.nil))))))))))))))))))), (18, CSh.arr2 49 3 (Ty.int IntKind.i64) []), (19, CSh.arr2 49 3 (Ty.int IntKind.i64) []), (20, CSh.arr 3 (Ty.int IntKind.i64)), (21, CSh.arr 3 (Ty.int IntKind.i64)), (22, CSh.arr 3 (Ty.int IntKind.i64)), (27, CSh.arr 3 (Ty.int IntKind.i64))], keep := [0, 2], keepH := [] }, fun _ => nn⟩ else
  bif Nat.beq n 7 then some ⟨{ env := [(5, ASh.dat (Ty.int IntKind.i64)), (48, ASh.dat (Ty.int IntKind.i64))], heap := [(1, CSh.box 94 ((ASh.opq 17).cons ((ASh.arr 18).cons ((ASh.arr 19).cons ((ASh.arr 20).cons ((ASh.arr 21).cons ((ASh.arr 22).cons ((ASh.opq 23).cons ((ASh.opq 24).cons ((ASh.opq 25).cons ((ASh.opq 26).cons ((ASh.arr 27).cons ((ASh.idn 28 (Ty.int IntKind.i64).sl).cons ((ASh.dat (Ty.int IntKind.i64)).cons ((ASh.opq 30).cons ((ASh.opq 31).cons ((ASh.opq 32).cons ((ASh.opq 33).cons ((ASh.opq 34).cons ASh.nil))))))))))))))))))), (18, CSh.arr2 49 3 (Ty.int IntKind.i64) []), (19, CSh.arr2 49 3 (Ty.int IntKind.i64) [2496]), (2496, CSh.arr 3 (Ty.int IntKind.i64)), (20, CSh.arr 3 (Ty.int IntKind.i64)), (21, CSh.arr 3 (Ty.int IntKind.i64)), (22, CSh.arr 3 (Ty.int IntKind.i64)), (27, CSh.arr 3 (Ty.int IntKind.i64))], keep := [0, 2, 3, 4, 46, 47], keepH := [] }, fun _ => nn⟩ else
  bif Nat.beq n 16 then some ⟨{ env := [(9, ASh.dat (Ty.int IntKind.i64))], heap := [(1, CSh.box 94 ((ASh.opq 17).cons ((ASh.arr 18).cons ((ASh.arr 19).cons ((ASh.arr 20).cons ((ASh.arr 21).cons ((ASh.arr 22).cons ((ASh.opq 23).cons ((ASh.opq 24).cons ((ASh.opq 25).cons ((ASh.opq 26).cons ((ASh.arr 27).cons ((ASh.idn 28 (Ty.int IntKind.i64).sl).cons ((ASh.dat (Ty.int IntKind.i64)).cons ((ASh.opq 30).cons ((ASh.opq 31).cons ((ASh.opq 32).cons ((ASh.opq 33).cons ((ASh.opq 34).cons ASh.nil)))))))))))))))))))], keep := [0, 2, 3, 4, 5, 6, 7, 8, 46, 47, 48], keepH := [18, 3648, 19, 2496, 20, 21, 22, 27] }, fun _ => nn⟩ else
  none
def unit_J : Nat → Option Shape := fun n =>
  bif Nat.beq n 12 then some ({ env := [], heap := [(3648, CSh.arr 3 (Ty.int IntKind.i64))], keep := [0, 2, 3, 4, 5, 6, 7, 8, 46, 47, 48], keepH := [1, 18, 19, 2496, 20, 21, 22, 27] }) else
  bif Nat.beq n 21 then some ({ env := [(9, ASh.dat (Ty.int IntKind.i64))], heap := [(1, CSh.box 94 ((ASh.opq 17).cons ((ASh.arr 18).cons ((ASh.arr 19).cons ((ASh.arr 20).cons ((ASh.arr 21).cons ((ASh.arr 22).cons ((ASh.opq 23).cons ((ASh.opq 24).cons ((ASh.opq 25).cons ((ASh.opq 26).cons ((ASh.arr 27).cons ((ASh.idn 28 (Ty.int IntKind.i64).sl).cons ((ASh.dat (Ty.int IntKind.i64)).cons ((ASh.opq 30).cons ((ASh.opq 31).cons ((ASh.opq 32).cons ((ASh.opq 33).cons ((ASh.opq 34).cons ASh.nil)))))))))))))))))))], keep := [0, 2, 3, 4, 5, 6, 7, 8, 46, 47, 48], keepH := [18, 3648, 19, 2496, 20, 21, 22, 27] }) else
  bif Nat.beq n 29 then some ({ env := [(5, ASh.dat (Ty.int IntKind.i64)), (46, ASh.arr 2496), (47, ASh.dat (Ty.int IntKind.i64)), (48, ASh.dat (Ty.int IntKind.i64))], heap := [(1, CSh.box 94 ((ASh.opq 17).cons ((ASh.arr 18).cons ((ASh.arr 19).cons ((ASh.arr 20).cons ((ASh.arr 21).cons ((ASh.arr 22).cons ((ASh.opq 23).cons ((ASh.opq 24).cons ((ASh.opq 25).cons ((ASh.opq 26).cons ((ASh.arr 27).cons ((ASh.idn 28 (Ty.int IntKind.i64).sl).cons ((ASh.dat (Ty.int IntKind.i64)).cons ((ASh.opq 30).cons ((ASh.opq 31).cons ((ASh.opq 32).cons ((ASh.opq 33).cons ((ASh.opq 34).cons ASh.nil))))))))))))))))))), (18, CSh.arr2 49 3 (Ty.int IntKind.i64) []), (19, CSh.arr2 49 3 (Ty.int IntKind.i64) [2496]), (2496, CSh.arr 3 (Ty.int IntKind.i64)), (20, CSh.arr 3 (Ty.int IntKind.i64)), (21, CSh.arr 3 (Ty.int IntKind.i64)), (22, CSh.arr 3 (Ty.int IntKind.i64)), (27, CSh.arr 3 (Ty.int IntKind.i64))], keep := [0, 2, 3, 4], keepH := [] }) else
  none
set_option maxRecDepth 100000 in
theorem unit_eq : ∀ (nn : Nat)  xa xo, (unit_s.prog (mkC Try.prog T_learn ⟨false, false⟩ (unit_L nn) unit_J) Try.f65 xa xo).run = unitF nn xo.1.1 xo.1.2.1 xo.1.2.2.1 xo.1.2.2.2.1 xo.1.2.2.2.2.1 xo.1.2.2.2.2.2.1 xo.1.2.2.2.2.2.2.1 xo.1.2.2.2.2.2.2.2.1 := by intros; kernel_rfl
noncomputable def T_unit : FuncId → Summ := addS T_learn 65 (unit_s.summ (fun xa xo => unit xo.1.1 xo.1.2.1 xo.1.2.2.1 xo.1.2.2.2.1 xo.1.2.2.2.2.1 xo.1.2.2.2.2.2.1 xo.1.2.2.2.2.2.2.1 xo.1.2.2.2.2.2.2.2.1))
theorem T_unit_ok : ∀ g, SummOK Try.prog g (T_unit g) := fn_ok T_learn_ok fol Try.func65 (by kernel_rfl) (by kernel_rfl) (by kernel_rfl) (unit_eq fuelN)

end GoSx
end
section
/- Walks: the functions compute what their models say: SatD. -/
set_option linter.unusedVariables false
set_option maxHeartbeats 0
set_option maxRecDepth 100000
namespace GoSx
open Go Go.Proofs
def take_s : FSig := ⟨.obj 0 <| .val int <| .nil, [(94, .skip <| .own2 49 3 int <| .own2 49 3 int <| .own 3 int <| .own 3 int <| .own 3 int <| .own 3 int <| .own 3 int <| .own 3 int <| .val int <| .own 3 int <| .own 3 int <| .val int <| .skip <| .own 49 (.sl int) <| .skip <| .skip <| .skip <| .nil)], .nil, []⟩
def take_L : Nat → Option LoopS := fun n =>
  none
def take_J : Nat → Option Shape := fun n =>
  none
set_option maxRecDepth 100000 in
theorem take_eq : ∀  xa xo, (take_s.prog (mkC Try.prog T_unit ⟨false, false⟩ take_L take_J) Try.f66 xa xo).run = take  xa.1 xo.1.1 xo.1.2.1 xo.1.2.2.1 xo.1.2.2.2.1 xo.1.2.2.2.2.1 xo.1.2.2.2.2.2.1 xo.1.2.2.2.2.2.2.1 xo.1.2.2.2.2.2.2.2.1 xo.1.2.2.2.2.2.2.2.2.1 xo.1.2.2.2.2.2.2.2.2.2.1 xo.1.2.2.2.2.2.2.2.2.2.2.1 xo.1.2.2.2.2.2.2.2.2.2.2.2.1 xo.1.2.2.2.2.2.2.2.2.2.2.2.2.1 := by intros; kernel_rfl
noncomputable def T_take : FuncId → Summ := addS T_unit 66 (take_s.summ (fun xa xo => take xa.1 xo.1.1 xo.1.2.1 xo.1.2.2.1 xo.1.2.2.2.1 xo.1.2.2.2.2.1 xo.1.2.2.2.2.2.1 xo.1.2.2.2.2.2.2.1 xo.1.2.2.2.2.2.2.2.1 xo.1.2.2.2.2.2.2.2.2.1 xo.1.2.2.2.2.2.2.2.2.2.1 xo.1.2.2.2.2.2.2.2.2.2.2.1 xo.1.2.2.2.2.2.2.2.2.2.2.2.1 xo.1.2.2.2.2.2.2.2.2.2.2.2.2.1))
theorem T_take_ok : ∀ g, SummOK Try.prog g (T_take g) := fn_ok T_unit_ok fol Try.func66 (by kernel_rfl) (by kernel_rfl) (by kernel_rfl) take_eq

def search_s : FSig := ⟨.obj 0 <| .val (.sl int) <| .val int <| .nil, [(94, .val int <| .own2 49 3 int <| .own2 49 3 int <| .own 3 int <| .own 3 int <| .own 3 int <| .own 3 int <| .own 3 int <| .own 3 int <| .val int <| .own 3 int <| .own 3 int <| .val int <| .val .bool <| .own 49 (.sl int) <| .skip <| .own 3 int <| .skip <| .nil)], .val int <| .nil, []⟩
def search_L (nn : Nat) : Nat → Option LoopS := fun n =>
  bif Nat.beq n 2 then some ⟨{ env := [(7, ASh.dat (Ty.int IntKind.i64))], heap := [(1, CSh.box 94 ((ASh.dat (Ty.int IntKind.i64)).cons ((ASh.arr 20).cons ((ASh.arr 21).cons ((ASh.arr 22).cons ((ASh.arr 23).cons ((ASh.arr 24).cons ((ASh.arr 25).cons ((ASh.arr 26).cons ((ASh.arr 27).cons ((ASh.dat (Ty.int IntKind.i64)).cons ((ASh.arr 29).cons ((ASh.arr 30).cons ((ASh.dat (Ty.int IntKind.i64)).cons ((ASh.dat Ty.bool).cons ((ASh.arr 33).cons ((ASh.opq 34).cons ((ASh.arr 35).cons ((ASh.opq 36).cons ASh.nil))))))))))))))))))), (20, CSh.arr2 49 3 (Ty.int IntKind.i64) []), (21, CSh.arr2 49 3 (Ty.int IntKind.i64) []), (22, CSh.arr 3 (Ty.int IntKind.i64)), (23, CSh.arr 3 (Ty.int IntKind.i64)), (24, CSh.arr 3 (Ty.int IntKind.i64)), (25, CSh.arr 3 (Ty.int IntKind.i64)), (26, CSh.arr 3 (Ty.int IntKind.i64)), (27, CSh.arr 3 (Ty.int IntKind.i64)), (29, CSh.arr 3 (Ty.int IntKind.i64)), (30, CSh.arr 3 (Ty.int IntKind.i64)), (33, CSh.arr 49 (Ty.int IntKind.i64).sl)], keep := [0, 1, 2, 6], keepH := [35] }, fun _ => nn⟩ else
  bif Nat.beq n 12 then some ⟨{ env := [], heap := [(1, CSh.box 94 ((ASh.dat (Ty.int IntKind.i64)).cons ((ASh.arr 274).cons ((ASh.arr 275).cons ((ASh.arr 276).cons ((ASh.arr 277).cons ((ASh.arr 278).cons ((ASh.arr 25).cons ((ASh.arr 26).cons ((ASh.arr 27).cons ((ASh.dat (Ty.int IntKind.i64)).cons ((ASh.arr 283).cons ((ASh.arr 30).cons ((ASh.dat (Ty.int IntKind.i64)).cons ((ASh.dat Ty.bool).cons ((ASh.arr 33).cons ((ASh.opq 34).cons ((ASh.arr 35).cons ((ASh.opq 36).cons ASh.nil))))))))))))))))))), (30, CSh.arr 3 (Ty.int IntKind.i64))], keep := [0, 1, 2, 6, 7, 8, 9], keepH := [274, 275, 276, 277, 278, 25, 26, 27, 283, 33, 35] }, fun _ => nn⟩ else
  none
def search_J : Nat → Option Shape := fun n =>
  none
set_option maxRecDepth 100000 in
theorem search_eq : ∀ (nn : Nat)  xa xo, (search_s.prog (mkC Try.prog T_take ⟨false, false⟩ (search_L nn) search_J) Try.f48 xa xo).run = searchF nn xa.1 xa.2.1 xo.1.1 xo.1.2.1 xo.1.2.2.1 xo.1.2.2.2.1 xo.1.2.2.2.2.1 xo.1.2.2.2.2.2.1 xo.1.2.2.2.2.2.2.1 xo.1.2.2.2.2.2.2.2.1 xo.1.2.2.2.2.2.2.2.2.1 xo.1.2.2.2.2.2.2.2.2.2.1 xo.1.2.2.2.2.2.2.2.2.2.2.1 xo.1.2.2.2.2.2.2.2.2.2.2.2.1 xo.1.2.2.2.2.2.2.2.2.2.2.2.2.1 xo.1.2.2.2.2.2.2.2.2.2.2.2.2.2.1 xo.1.2.2.2.2.2.2.2.2.2.2.2.2.2.2.1 xo.1.2.2.2.2.2.2.2.2.2.2.2.2.2.2.2.1 := by intros; kernel_rfl
noncomputable def T_search : FuncId → Summ := addS T_take 48 (search_s.summ (fun xa xo => search xa.1 xa.2.1 xo.1.1 xo.1.2.1 xo.1.2.2.1 xo.1.2.2.2.1 xo.1.2.2.2.2.1 xo.1.2.2.2.2.2.1 xo.1.2.2.2.2.2.2.1 xo.1.2.2.2.2.2.2.2.1 xo.1.2.2.2.2.2.2.2.2.1 xo.1.2.2.2.2.2.2.2.2.2.1 xo.1.2.2.2.2.2.2.2.2.2.2.1 xo.1.2.2.2.2.2.2.2.2.2.2.2.1 xo.1.2.2.2.2.2.2.2.2.2.2.2.2.1 xo.1.2.2.2.2.2.2.2.2.2.2.2.2.2.1 xo.1.2.2.2.2.2.2.2.2.2.2.2.2.2.2.1 xo.1.2.2.2.2.2.2.2.2.2.2.2.2.2.2.2.1))
theorem T_search_ok : ∀ g, SummOK Try.prog g (T_search g) := fn_ok T_take_ok fol Try.func48 (by kernel_rfl) (by kernel_rfl) (by kernel_rfl) (search_eq fuelN)

def Ask_s : FSig := ⟨.obj 0 <| .val (.sl int) <| .val int <| .nil, [(94, .val int <| .own2 49 3 int <| .own2 49 3 int <| .own 3 int <| .own 3 int <| .own 3 int <| .own 3 int <| .own 3 int <| .own 3 int <| .val int <| .own 3 int <| .own 3 int <| .val int <| .val .bool <| .own 49 (.sl int) <| .val int <| .own 3 int <| .own 4 .bool <| .nil)], .val int <| .nil, []⟩
def Ask_L (nn : Nat) : Nat → Option LoopS := fun n =>
  bif Nat.beq n 11 then some ⟨{ env := [(7, ASh.dat (Ty.int IntKind.i64))], heap := [(1, CSh.box 94 ((ASh.dat (Ty.int IntKind.i64)).cons ((ASh.arr 49).cons ((ASh.arr 50).cons ((ASh.arr 51).cons ((ASh.arr 52).cons ((ASh.arr 53).cons ((ASh.arr 54).cons ((ASh.arr 55).cons ((ASh.arr 56).cons ((ASh.dat (Ty.int IntKind.i64)).cons ((ASh.arr 57).cons ((ASh.arr 58).cons ((ASh.dat (Ty.int IntKind.i64)).cons ((ASh.dat Ty.bool).cons ((ASh.arr 59).cons ((ASh.dat (Ty.int IntKind.i64)).cons ((ASh.arr 60).cons ((ASh.arr 226).cons ASh.nil))))))))))))))))))), (226, CSh.arr 4 Ty.bool)], keep := [0, 1, 2, 6, 37], keepH := [49, 50, 51, 52, 53, 54, 55, 56, 57, 58, 59, 60] }, fun _ => nn⟩ else
  bif Nat.beq n 17 then some ⟨{ env := [(8, ASh.arr 61), (69, ASh.dat (Ty.int IntKind.i64))], heap := [(61, CSh.arr 3 (Ty.int IntKind.i64))], keep := [0, 1, 2, 6, 37, 67, 68], keepH := [1, 49, 50, 51, 52, 53, 54, 55, 56, 57, 58, 59, 60, 226] }, fun _ => nn⟩ else
  none
def Ask_J : Nat → Option Shape := fun n =>
  bif Nat.beq n 8 then some ({ env := [], heap := [(1, CSh.box 94 ((ASh.dat (Ty.int IntKind.i64)).cons ((ASh.arr 49).cons ((ASh.arr 50).cons ((ASh.arr 51).cons ((ASh.arr 52).cons ((ASh.arr 53).cons ((ASh.arr 54).cons ((ASh.arr 55).cons ((ASh.arr 56).cons ((ASh.dat (Ty.int IntKind.i64)).cons ((ASh.arr 57).cons ((ASh.arr 58).cons ((ASh.dat (Ty.int IntKind.i64)).cons ((ASh.dat Ty.bool).cons ((ASh.arr 59).cons ((ASh.dat (Ty.int IntKind.i64)).cons ((ASh.arr 60).cons ((ASh.arr 226).cons ASh.nil))))))))))))))))))), (49, CSh.arr2 49 3 (Ty.int IntKind.i64) []), (50, CSh.arr2 49 3 (Ty.int IntKind.i64) []), (51, CSh.arr 3 (Ty.int IntKind.i64)), (52, CSh.arr 3 (Ty.int IntKind.i64)), (53, CSh.arr 3 (Ty.int IntKind.i64)), (54, CSh.arr 3 (Ty.int IntKind.i64)), (55, CSh.arr 3 (Ty.int IntKind.i64)), (56, CSh.arr 3 (Ty.int IntKind.i64)), (57, CSh.arr 3 (Ty.int IntKind.i64)), (58, CSh.arr 3 (Ty.int IntKind.i64)), (59, CSh.arr 49 (Ty.int IntKind.i64).sl), (60, CSh.arr 3 (Ty.int IntKind.i64))], keep := [0, 1, 2, 6], keepH := [226] }) else
  none
set_option maxRecDepth 100000 in
theorem Ask_eq : ∀ (nn : Nat)  xa xo, (Ask_s.prog (mkC Try.prog T_search ⟨false, false⟩ (Ask_L nn) Ask_J) Try.f30 xa xo).run = AskF nn xa.1 xa.2.1 xo.1.1 xo.1.2.1 xo.1.2.2.1 xo.1.2.2.2.1 xo.1.2.2.2.2.1 xo.1.2.2.2.2.2.1 xo.1.2.2.2.2.2.2.1 xo.1.2.2.2.2.2.2.2.1 xo.1.2.2.2.2.2.2.2.2.1 xo.1.2.2.2.2.2.2.2.2.2.1 xo.1.2.2.2.2.2.2.2.2.2.2.1 xo.1.2.2.2.2.2.2.2.2.2.2.2.1 xo.1.2.2.2.2.2.2.2.2.2.2.2.2.1 xo.1.2.2.2.2.2.2.2.2.2.2.2.2.2.1 xo.1.2.2.2.2.2.2.2.2.2.2.2.2.2.2.1 xo.1.2.2.2.2.2.2.2.2.2.2.2.2.2.2.2.1 xo.1.2.2.2.2.2.2.2.2.2.2.2.2.2.2.2.2.1 xo.1.2.2.2.2.2.2.2.2.2.2.2.2.2.2.2.2.2.1 := by intros; kernel_rfl
noncomputable def T_Ask : FuncId → Summ := addS T_search 30 (Ask_s.summ (fun xa xo => Ask xa.1 xa.2.1 xo.1.1 xo.1.2.1 xo.1.2.2.1 xo.1.2.2.2.1 xo.1.2.2.2.2.1 xo.1.2.2.2.2.2.1 xo.1.2.2.2.2.2.2.1 xo.1.2.2.2.2.2.2.2.1 xo.1.2.2.2.2.2.2.2.2.1 xo.1.2.2.2.2.2.2.2.2.2.1 xo.1.2.2.2.2.2.2.2.2.2.2.1 xo.1.2.2.2.2.2.2.2.2.2.2.2.1 xo.1.2.2.2.2.2.2.2.2.2.2.2.2.1 xo.1.2.2.2.2.2.2.2.2.2.2.2.2.2.1 xo.1.2.2.2.2.2.2.2.2.2.2.2.2.2.2.1 xo.1.2.2.2.2.2.2.2.2.2.2.2.2.2.2.2.1 xo.1.2.2.2.2.2.2.2.2.2.2.2.2.2.2.2.2.1 xo.1.2.2.2.2.2.2.2.2.2.2.2.2.2.2.2.2.2.1))
theorem T_Ask_ok : ∀ g, SummOK Try.prog g (T_Ask g) := fn_ok T_search_ok fol Try.func30 (by kernel_rfl) (by kernel_rfl) (by kernel_rfl) (Ask_eq fuelN)

end GoSx
end
section
/- Walks: the functions compute what their models say: ReuseA. -/
set_option linter.unusedVariables false
set_option maxHeartbeats 0
set_option maxRecDepth 100000
namespace GoSx
open Go Go.Proofs
def few_s : FSig := ⟨.lend (.sl (.sl int)) <| .nil, [], .val .bool <| .nil, []⟩
def few_L (nn : Nat) : Nat → Option LoopS := fun n =>
  bif Nat.beq n 4 then some ⟨{ env := [(3, ASh.dat (Ty.int IntKind.i64))], heap := [], keep := [0, 2], keepH := [] }, fun _ => nn⟩ else
  none
def few_J : Nat → Option Shape := fun n =>
  none
set_option maxRecDepth 100000 in
theorem few_eq : ∀ (nn : Nat)  xa xo, (few_s.prog (mkC Try.prog T_Ask ⟨false, false⟩ (few_L nn) few_J) Try.f7 xa xo).run = fewF nn xa.1 := by intros; kernel_rfl
noncomputable def T_few : FuncId → Summ := addS T_Ask 7 (few_s.summ (fun xa xo => few xa.1))
theorem T_few_ok : ∀ g, SummOK Try.prog g (T_few g) := fn_ok T_Ask_ok fol Try.func7 (by kernel_rfl) (by kernel_rfl) (by kernel_rfl) (few_eq fuelN)

def short_s : FSig := ⟨.lend (.sl .str) <| .agg (.val int <| .lend (.sl pair2) <| .lend (.sl pair3) <| .lend (.sl latchT) <| .lend (.sl outT) <| .nil) <| .nil, [], .val .bool <| .nil, []⟩
def short_L (nn : Nat) : Nat → Option LoopS := fun n =>
  bif Nat.beq n 4 then some ⟨{ env := [(5, ASh.dat (Ty.int IntKind.i64))], heap := [], keep := [0, 1, 3, 4], keepH := [64] }, fun _ => nn⟩ else
  none
def short_J : Nat → Option Shape := fun n =>
  none
set_option maxRecDepth 100000 in
theorem short_eq : ∀ (nn : Nat)  xa xo, (short_s.prog (mkC Try.prog T_few ⟨false, false⟩ (short_L nn) short_J) Try.f6 xa xo).run = shortF nn xa.1 xa.2.1.1 xa.2.1.2.1 xa.2.1.2.2.1 xa.2.1.2.2.2.1 xa.2.1.2.2.2.2.1 := by intros; kernel_rfl
noncomputable def T_short : FuncId → Summ := addS T_few 6 (short_s.summ (fun xa xo => short xa.1 xa.2.1.1 xa.2.1.2.1 xa.2.1.2.2.1 xa.2.1.2.2.2.1 xa.2.1.2.2.2.2.1))
theorem T_short_ok : ∀ g, SummOK Try.prog g (T_short g) := fn_ok T_few_ok fol Try.func6 (by kernel_rfl) (by kernel_rfl) (by kernel_rfl) (short_eq fuelN)

def same28_s : FSig := ⟨.lend (.sl (.sl int)) <| .lend (.sl (.sl int)) <| .nil, [], .val .bool <| .nil, []⟩
def same28_L (nn : Nat) : Nat → Option LoopS := fun n =>
  bif Nat.beq n 4 then some ⟨{ env := [(5, ASh.dat (Ty.int IntKind.i64))], heap := [], keep := [0, 1, 4], keepH := [] }, fun _ => nn⟩ else
  bif Nat.beq n 9 then some ⟨{ env := [(6, ASh.dat (Ty.int IntKind.i64))], heap := [], keep := [0, 1, 4, 5], keepH := [] }, fun _ => nn⟩ else
  none
def same28_J : Nat → Option Shape := fun n =>
  none
set_option maxRecDepth 100000 in
theorem same28_eq : ∀ (nn : Nat)  xa xo, (same28_s.prog (mkC Try.prog T_short ⟨false, false⟩ (same28_L nn) same28_J) Try.f10 xa xo).run = same28F nn xa.1 xa.2.1 := by intros; kernel_rfl
noncomputable def T_same28 : FuncId → Summ := addS T_short 10 (same28_s.summ (fun xa xo => same28 xa.1 xa.2.1))
theorem T_same28_ok : ∀ g, SummOK Try.prog g (T_same28 g) := fn_ok T_short_ok fol Try.func10 (by kernel_rfl) (by kernel_rfl) (by kernel_rfl) (same28_eq fuelN)

def names28_s : FSig := ⟨.val (.sl .str) <| .nil, [], .agg (.val (.sl int) <| .val (.sl int) <| .own 54 cellT <| .val (.sl int) <| .val (.sl int) <| .nil) <| .nil, []⟩
def names28_L (nn : Nat) : Nat → Option LoopS := fun n =>
  bif Nat.beq n 3 then some ⟨{ env := [(4, ASh.dat (Ty.int IntKind.i64))], heap := [(128, CSh.box 41 (ASh.nilv.cons (ASh.nilv.cons ((ASh.arr 49).cons (ASh.nilv.cons (ASh.nilv.cons ASh.nil)))))), (49, CSh.arr 54 (Ty.str.pair ((Ty.int IntKind.i64).pair ((Ty.int IntKind.i64).pair ((Ty.int IntKind.i64).pair Ty.unit)))))], keep := [0, 2, 3], keepH := [64] }, fun _ => nn⟩ else
  none
def names28_J : Nat → Option Shape := fun n =>
  none
set_option maxRecDepth 100000 in
theorem names28_eq : ∀ (nn : Nat)  xa xo, (names28_s.prog (mkC Try.prog T_same28 ⟨false, false⟩ (names28_L nn) names28_J) Try.f9 xa xo).run = names28F nn xa.1 := by intros; kernel_rfl
noncomputable def T_names28 : FuncId → Summ := addS T_same28 9 (names28_s.summ (fun xa xo => names28 xa.1))
theorem T_names28_ok : ∀ g, SummOK Try.prog g (T_names28 g) := fn_ok T_same28_ok fol Try.func9 (by kernel_rfl) (by kernel_rfl) (by kernel_rfl) (names28_eq fuelN)

def unlike_s : FSig := ⟨.lend (.sl .str) <| .nil, [], .val .bool <| .nil, []⟩
def unlike_L (nn : Nat) : Nat → Option LoopS := fun n =>
  bif Nat.beq n 2 then some ⟨{ env := [(3, ASh.dat (Ty.int IntKind.i64))], heap := [], keep := [0, 2], keepH := [] }, fun _ => nn⟩ else
  bif Nat.beq n 5 then some ⟨{ env := [(4, ASh.dat (Ty.int IntKind.i64))], heap := [], keep := [0, 2, 3], keepH := [] }, fun _ => nn⟩ else
  none
def unlike_J : Nat → Option Shape := fun n =>
  none
set_option maxRecDepth 100000 in
theorem unlike_eq : ∀ (nn : Nat)  xa xo, (unlike_s.prog (mkC Try.prog T_names28 ⟨false, false⟩ (unlike_L nn) unlike_J) Try.f12 xa xo).run = unlikeF nn xa.1 := by intros; kernel_rfl
noncomputable def T_unlike : FuncId → Summ := addS T_names28 12 (unlike_s.summ (fun xa xo => unlike xa.1))
theorem T_unlike_ok : ∀ g, SummOK Try.prog g (T_unlike g) := fn_ok T_names28_ok fol Try.func12 (by kernel_rfl) (by kernel_rfl) (by kernel_rfl) (unlike_eq fuelN)

def in28_s : FSig := ⟨.lend (.sl (.sl int)) <| .lend (.sl (.sl int)) <| .nil, [], .val .bool <| .nil, []⟩
def in28_L (nn : Nat) : Nat → Option LoopS := fun n =>
  bif Nat.beq n 3 then some ⟨{ env := [(5, ASh.dat (Ty.int IntKind.i64)), (6, ASh.dat (Ty.int IntKind.i64))], heap := [], keep := [0, 1, 4], keepH := [] }, fun _ => nn⟩ else
  none
def in28_J : Nat → Option Shape := fun n =>
  none
set_option maxRecDepth 100000 in
theorem in28_eq : ∀ (nn : Nat)  xa xo, (in28_s.prog (mkC Try.prog T_unlike ⟨false, false⟩ (in28_L nn) in28_J) Try.f14 xa xo).run = in28F nn xa.1 xa.2.1 := by intros; kernel_rfl
noncomputable def T_in28 : FuncId → Summ := addS T_unlike 14 (in28_s.summ (fun xa xo => in28 xa.1 xa.2.1))
theorem T_in28_ok : ∀ g, SummOK Try.prog g (T_in28 g) := fn_ok T_unlike_ok fol Try.func14 (by kernel_rfl) (by kernel_rfl) (by kernel_rfl) (in28_eq fuelN)

def ofC_s : FSig := ⟨.val int <| .obj 0 <| .nil, [(30, .val int <| .lend (.sl pair2) <| .lend (.sl pair3) <| .lend (.sl latchT) <| .lend (.sl outT) <| .nil)], .val .bool <| .nil, []⟩
def ofC_L : Nat → Option LoopS := fun n =>
  none
def ofC_J : Nat → Option Shape := fun n =>
  none
set_option maxRecDepth 100000 in
theorem ofC_eq : ∀  xa xo, (ofC_s.prog (mkC Try.prog T_in28 ⟨false, false⟩ ofC_L ofC_J) Try.f35 xa xo).run = ofC  xa.1 xo.1.1 xo.1.2.1 xo.1.2.2.1 xo.1.2.2.2.1 xo.1.2.2.2.2.1 := by intros; kernel_rfl
noncomputable def T_ofC : FuncId → Summ := addS T_in28 35 (ofC_s.summ (fun xa xo => ofC xa.1 xo.1.1 xo.1.2.1 xo.1.2.2.1 xo.1.2.2.2.1 xo.1.2.2.2.2.1))
theorem T_ofC_ok : ∀ g, SummOK Try.prog g (T_ofC g) := fn_ok T_in28_ok fol Try.func35 (by kernel_rfl) (by kernel_rfl) (by kernel_rfl) ofC_eq

def IndexFunc_of_s : FSig := ⟨.lend (.sl int) <| .clo 35 (.obj 0 <| .nil) <| .nil, [(30, .val int <| .lend (.sl pair2) <| .lend (.sl pair3) <| .lend (.sl latchT) <| .lend (.sl outT) <| .nil)], .val int <| .nil, []⟩
def IndexFunc_of_L (nn : Nat) : Nat → Option LoopS := fun n =>
  bif Nat.beq n 2 then some ⟨{ env := [(8, ASh.dat (Ty.int IntKind.i64))], heap := [(1, CSh.box 30 ((ASh.dat (Ty.int IntKind.i64)).cons ((ASh.idn 19 ((Ty.int IntKind.i64).pair ((Ty.int IntKind.i64).pair Ty.unit)).sl).cons ((ASh.idn 20 ((Ty.int IntKind.i64).pair ((Ty.int IntKind.i64).pair ((Ty.int IntKind.i64).pair Ty.unit))).sl).cons ((ASh.idn 21 ((Ty.int IntKind.i64).pair ((Ty.int IntKind.i64).pair (Ty.bool.pair ((Ty.int IntKind.i64).pair ((Ty.int IntKind.i64).pair Ty.unit))))).sl).cons ((ASh.idn 22 ((Ty.int IntKind.i64).pair ((Ty.int IntKind.i64).pair ((Ty.int IntKind.i64).pair Ty.unit))).sl).cons ASh.nil))))))], keep := [0, 1, 4, 7], keepH := [] }, fun _ => nn⟩ else
  none
def IndexFunc_of_J : Nat → Option Shape := fun n =>
  none
set_option maxRecDepth 100000 in
theorem IndexFunc_of_eq : ∀ (nn : Nat)  xa xo, (IndexFunc_of_s.prog (mkC Try.prog T_ofC ⟨false, false⟩ (IndexFunc_of_L nn) IndexFunc_of_J) Try.f53 xa xo).run = IndexFunc_ofF nn xa.1 xo.1.1 xo.1.2.1 xo.1.2.2.1 xo.1.2.2.2.1 xo.1.2.2.2.2.1 := by intros; kernel_rfl
noncomputable def T_IndexFunc_of : FuncId → Summ := addS T_ofC 53 (IndexFunc_of_s.summ (fun xa xo => IndexFunc_of xa.1 xo.1.1 xo.1.2.1 xo.1.2.2.1 xo.1.2.2.2.1 xo.1.2.2.2.2.1))
theorem T_IndexFunc_of_ok : ∀ g, SummOK Try.prog g (T_IndexFunc_of g) := fn_ok T_ofC_ok fol Try.func53 (by kernel_rfl) (by kernel_rfl) (by kernel_rfl) (IndexFunc_of_eq fuelN)

def ContainsFunc_of_s : FSig := ⟨.lend (.sl int) <| .clo 35 (.obj 0 <| .nil) <| .nil, [(30, .val int <| .lend (.sl pair2) <| .lend (.sl pair3) <| .lend (.sl latchT) <| .lend (.sl outT) <| .nil)], .val .bool <| .nil, []⟩
def ContainsFunc_of_L : Nat → Option LoopS := fun n =>
  none
def ContainsFunc_of_J : Nat → Option Shape := fun n =>
  none
set_option maxRecDepth 100000 in
theorem ContainsFunc_of_eq : ∀  xa xo, (ContainsFunc_of_s.prog (mkC Try.prog T_IndexFunc_of ⟨false, false⟩ ContainsFunc_of_L ContainsFunc_of_J) Try.f34 xa xo).run = ContainsFunc_of  xa.1 xo.1.1 xo.1.2.1 xo.1.2.2.1 xo.1.2.2.2.1 xo.1.2.2.2.2.1 := by intros; kernel_rfl
noncomputable def T_ContainsFunc_of : FuncId → Summ := addS T_IndexFunc_of 34 (ContainsFunc_of_s.summ (fun xa xo => ContainsFunc_of xa.1 xo.1.1 xo.1.2.1 xo.1.2.2.1 xo.1.2.2.2.1 xo.1.2.2.2.2.1))
theorem T_ContainsFunc_of_ok : ∀ g, SummOK Try.prog g (T_ContainsFunc_of g) := fn_ok T_IndexFunc_of_ok fol Try.func34 (by kernel_rfl) (by kernel_rfl) (by kernel_rfl) ContainsFunc_of_eq

def rOf28_s : FSig := ⟨.agg (.val int <| .lend (.sl pair2) <| .lend (.sl pair3) <| .lend (.sl latchT) <| .lend (.sl outT) <| .nil) <| .lend (.sl int) <| .nil, [], .val .bool <| .nil, []⟩
def rOf28_L : Nat → Option LoopS := fun n =>
  none
def rOf28_J : Nat → Option Shape := fun n =>
  none
set_option maxRecDepth 100000 in
theorem rOf28_eq : ∀  xa xo, (rOf28_s.prog (mkC Try.prog T_ContainsFunc_of ⟨false, false⟩ rOf28_L rOf28_J) Try.f18 xa xo).run = rOf28  xa.1.1 xa.1.2.1 xa.1.2.2.1 xa.1.2.2.2.1 xa.1.2.2.2.2.1 xa.2.1 := by intros; kernel_rfl
noncomputable def T_rOf28 : FuncId → Summ := addS T_ContainsFunc_of 18 (rOf28_s.summ (fun xa xo => rOf28 xa.1.1 xa.1.2.1 xa.1.2.2.1 xa.1.2.2.2.1 xa.1.2.2.2.2.1 xa.2.1))
theorem T_rOf28_ok : ∀ g, SummOK Try.prog g (T_rOf28 g) := fn_ok T_ContainsFunc_of_ok fol Try.func18 (by kernel_rfl) (by kernel_rfl) (by kernel_rfl) rOf28_eq

def Of28_s : FSig := ⟨.agg (.val int <| .lend (.sl pair2) <| .lend (.sl pair3) <| .lend (.sl latchT) <| .lend (.sl outT) <| .nil) <| .lend (.sl int) <| .nil, [], .val .bool <| .nil, []⟩
def Of28_L (nn : Nat) : Nat → Option LoopS := fun n =>
  bif Nat.beq n 2 then some ⟨{ env := [(5, ASh.dat (Ty.int IntKind.i64))], heap := [], keep := [0, 1, 2, 4], keepH := [64] }, fun _ => nn⟩ else
  none
def Of28_J : Nat → Option Shape := fun n =>
  none
set_option maxRecDepth 100000 in
theorem Of28_eq : ∀ (nn : Nat)  xa xo, (Of28_s.prog (mkC Try.prog T_rOf28 ⟨false, false⟩ (Of28_L nn) Of28_J) Try.f20 xa xo).run = Of28F nn xa.1.1 xa.1.2.1 xa.1.2.2.1 xa.1.2.2.2.1 xa.1.2.2.2.2.1 xa.2.1 := by intros; kernel_rfl
noncomputable def T_Of28 : FuncId → Summ := addS T_rOf28 20 (Of28_s.summ (fun xa xo => Of28 xa.1.1 xa.1.2.1 xa.1.2.2.1 xa.1.2.2.2.1 xa.1.2.2.2.2.1 xa.2.1))
theorem T_Of28_ok : ∀ g, SummOK Try.prog g (T_Of28 g) := fn_ok T_rOf28_ok fol Try.func20 (by kernel_rfl) (by kernel_rfl) (by kernel_rfl) (Of28_eq fuelN)

def place_s : FSig := ⟨.val int <| .nil, [], .val int <| .val .bool <| .nil, []⟩
def place_L : Nat → Option LoopS := fun n =>
  none
def place_J : Nat → Option Shape := fun n =>
  none
set_option maxRecDepth 100000 in
theorem place_eq : ∀  xa xo, (place_s.prog (mkC Try.prog T_Of28 ⟨false, false⟩ place_L place_J) Try.f19 xa xo).run = place  xa.1 := by intros; kernel_rfl
noncomputable def T_place : FuncId → Summ := addS T_Of28 19 (place_s.summ (fun xa xo => place xa.1))
theorem T_place_ok : ∀ g, SummOK Try.prog g (T_place g) := fn_ok T_Of28_ok fol Try.func19 (by kernel_rfl) (by kernel_rfl) (by kernel_rfl) place_eq

def moveTo_s : FSig := ⟨.val int <| .obj 0 <| .obj 1 <| .obj 2 <| .obj 3 <| .nil, [(30, .val int <| .lend (.sl pair2) <| .lend (.sl pair3) <| .lend (.sl latchT) <| .lend (.sl outT) <| .nil), (41, .lend (.sl int) <| .lend (.sl int) <| .lend (.sl cellT) <| .lend (.sl int) <| .lend (.sl int) <| .nil), (52, .lend (.mapT .str int) <| .nil), (56, .lend (.mapT pair2 int) <| .nil)], .val int <| .nil, []⟩
def moveTo_L : Nat → Option LoopS := fun n =>
  none
def moveTo_J : Nat → Option Shape := fun n =>
  none
set_option maxRecDepth 100000 in
theorem moveTo_eq : ∀  xa xo, (moveTo_s.prog (mkC Try.prog T_place ⟨false, false⟩ moveTo_L moveTo_J) Try.f17 xa xo).run = moveTo  xa.1 xo.1.1 xo.1.2.1 xo.1.2.2.1 xo.1.2.2.2.1 xo.1.2.2.2.2.1 xo.2.1.1 xo.2.1.2.1 xo.2.1.2.2.1 xo.2.1.2.2.2.1 xo.2.1.2.2.2.2.1 xo.2.2.1.1 xo.2.2.2.1.1 := by intros; kernel_rfl
noncomputable def T_moveTo : FuncId → Summ := addS T_place 17 (moveTo_s.summ (fun xa xo => moveTo xa.1 xo.1.1 xo.1.2.1 xo.1.2.2.1 xo.1.2.2.2.1 xo.1.2.2.2.2.1 xo.2.1.1 xo.2.1.2.1 xo.2.1.2.2.1 xo.2.1.2.2.2.1 xo.2.1.2.2.2.2.1 xo.2.2.1.1 xo.2.2.2.1.1))
theorem T_moveTo_ok : ∀ g, SummOK Try.prog g (T_moveTo g) := fn_ok T_place_ok fol Try.func17 (by kernel_rfl) (by kernel_rfl) (by kernel_rfl) moveTo_eq

def to28_s : FSig := ⟨.agg (.lend (.sl int) <| .lend (.sl int) <| .lend (.sl cellT) <| .lend (.sl int) <| .lend (.sl int) <| .nil) <| .agg (.val int <| .val int <| .val .bool <| .val int <| .val int <| .nil) <| .agg (.lend (.sl int) <| .lend (.sl int) <| .lend (.sl cellT) <| .lend (.sl int) <| .lend (.sl int) <| .nil) <| .agg (.val int <| .lend (.sl pair2) <| .lend (.sl pair3) <| .lend (.sl latchT) <| .lend (.sl outT) <| .nil) <| .nil, [], .val int <| .nil, []⟩
def to28_L (nn : Nat) : Nat → Option LoopS := fun n =>
  bif Nat.beq n 5 then some ⟨{ env := [(9, ASh.dat (Ty.int IntKind.i64)), (10, ASh.dat (Ty.int IntKind.i64))], heap := [], keep := [0, 1, 2, 3, 4, 5, 6, 7, 8], keepH := [64, 128, 192, 256] }, fun _ => nn⟩ else
  bif Nat.beq n 12 then some ⟨{ env := [(11, ASh.dat (Ty.int IntKind.i64))], heap := [], keep := [0, 1, 2, 3, 4, 5, 6, 7, 8, 9, 10], keepH := [64, 128, 192, 256] }, fun _ => nn⟩ else
  none
def to28_J : Nat → Option Shape := fun n =>
  none
set_option maxRecDepth 100000 in
theorem to28_eq : ∀ (nn : Nat)  xa xo, (to28_s.prog (mkC Try.prog T_moveTo ⟨false, false⟩ (to28_L nn) to28_J) Try.f36 xa xo).run = to28F nn xa.1.1 xa.1.2.1 xa.1.2.2.1 xa.1.2.2.2.1 xa.1.2.2.2.2.1 xa.2.1.1 xa.2.1.2.1 xa.2.1.2.2.1 xa.2.1.2.2.2.1 xa.2.1.2.2.2.2.1 xa.2.2.1.1 xa.2.2.1.2.1 xa.2.2.1.2.2.1 xa.2.2.1.2.2.2.1 xa.2.2.1.2.2.2.2.1 xa.2.2.2.1.1 xa.2.2.2.1.2.1 xa.2.2.2.1.2.2.1 xa.2.2.2.1.2.2.2.1 xa.2.2.2.1.2.2.2.2.1 := by intros; kernel_rfl
noncomputable def T_to28 : FuncId → Summ := addS T_moveTo 36 (to28_s.summ (fun xa xo => to28 xa.1.1 xa.1.2.1 xa.1.2.2.1 xa.1.2.2.2.1 xa.1.2.2.2.2.1 xa.2.1.1 xa.2.1.2.1 xa.2.1.2.2.1 xa.2.1.2.2.2.1 xa.2.1.2.2.2.2.1 xa.2.2.1.1 xa.2.2.1.2.1 xa.2.2.1.2.2.1 xa.2.2.1.2.2.2.1 xa.2.2.1.2.2.2.2.1 xa.2.2.2.1.1 xa.2.2.2.1.2.1 xa.2.2.2.1.2.2.1 xa.2.2.2.1.2.2.2.1 xa.2.2.2.1.2.2.2.2.1))
theorem T_to28_ok : ∀ g, SummOK Try.prog g (T_to28 g) := fn_ok T_moveTo_ok fol Try.func36 (by kernel_rfl) (by kernel_rfl) (by kernel_rfl) (to28_eq fuelN)

def moved28_s : FSig := ⟨.agg (.lend (.sl int) <| .lend (.sl int) <| .lend (.sl cellT) <| .lend (.sl int) <| .lend (.sl int) <| .nil) <| .agg (.val int <| .lend (.sl pair2) <| .lend (.sl pair3) <| .lend (.sl latchT) <| .lend (.sl outT) <| .nil) <| .agg (.lend (.sl int) <| .lend (.sl int) <| .lend (.sl cellT) <| .lend (.sl int) <| .lend (.sl int) <| .nil) <| .agg (.val int <| .lend (.sl pair2) <| .lend (.sl pair3) <| .lend (.sl latchT) <| .lend (.sl outT) <| .nil) <| .lend (.sl int) <| .nil, [], .own 3 int <| .val .bool <| .nil, []⟩
def moved28_L (nn : Nat) : Nat → Option LoopS := fun n =>
  bif Nat.beq n 3 then some ⟨{ env := [(12, ASh.arr 49), (13, ASh.dat (Ty.int IntKind.i64))], heap := [(49, CSh.arr 3 (Ty.int IntKind.i64))], keep := [0, 1, 2, 3, 4, 5, 6, 7, 8, 10, 11], keepH := [64, 128, 192, 256] }, fun _ => nn⟩ else
  none
def moved28_J : Nat → Option Shape := fun n =>
  none
set_option maxRecDepth 100000 in
theorem moved28_eq : ∀ (nn : Nat)  xa xo, (moved28_s.prog (mkC Try.prog T_to28 ⟨false, false⟩ (moved28_L nn) moved28_J) Try.f21 xa xo).run = moved28F nn xa.1.1 xa.1.2.1 xa.1.2.2.1 xa.1.2.2.2.1 xa.1.2.2.2.2.1 xa.2.1.1 xa.2.1.2.1 xa.2.1.2.2.1 xa.2.1.2.2.2.1 xa.2.1.2.2.2.2.1 xa.2.2.1.1 xa.2.2.1.2.1 xa.2.2.1.2.2.1 xa.2.2.1.2.2.2.1 xa.2.2.1.2.2.2.2.1 xa.2.2.2.1.1 xa.2.2.2.1.2.1 xa.2.2.2.1.2.2.1 xa.2.2.2.1.2.2.2.1 xa.2.2.2.1.2.2.2.2.1 xa.2.2.2.2.1 := by intros; kernel_rfl
noncomputable def T_moved28 : FuncId → Summ := addS T_to28 21 (moved28_s.summ (fun xa xo => moved28 xa.1.1 xa.1.2.1 xa.1.2.2.1 xa.1.2.2.2.1 xa.1.2.2.2.2.1 xa.2.1.1 xa.2.1.2.1 xa.2.1.2.2.1 xa.2.1.2.2.2.1 xa.2.1.2.2.2.2.1 xa.2.2.1.1 xa.2.2.1.2.1 xa.2.2.1.2.2.1 xa.2.2.1.2.2.2.1 xa.2.2.1.2.2.2.2.1 xa.2.2.2.1.1 xa.2.2.2.1.2.1 xa.2.2.2.1.2.2.1 xa.2.2.2.1.2.2.2.1 xa.2.2.2.1.2.2.2.2.1 xa.2.2.2.2.1))
theorem T_moved28_ok : ∀ g, SummOK Try.prog g (T_moved28 g) := fn_ok T_to28_ok fol Try.func21 (by kernel_rfl) (by kernel_rfl) (by kernel_rfl) (moved28_eq fuelN)

def Move28_s : FSig := ⟨.agg (.val (.sl int) <| .val (.sl int) <| .val (.sl cellT) <| .val (.sl int) <| .val (.sl int) <| .nil) <| .agg (.val int <| .val (.sl pair2) <| .val (.sl pair3) <| .val (.sl latchT) <| .val (.sl outT) <| .nil) <| .agg (.val (.sl int) <| .val (.sl int) <| .val (.sl cellT) <| .val (.sl int) <| .val (.sl int) <| .nil) <| .agg (.val int <| .val (.sl pair2) <| .val (.sl pair3) <| .val (.sl latchT) <| .val (.sl outT) <| .nil) <| .val (.sl (.sl int)) <| .nil, [], .own 49 (.sl int) <| .nil, []⟩
def Move28_L (nn : Nat) : Nat → Option LoopS := fun n =>
  bif Nat.beq n 3 then some ⟨{ env := [(12, ASh.dat (Ty.int IntKind.i64)), (11, ASh.arr 49)], heap := [(49, CSh.arr 49 (Ty.int IntKind.i64).sl)], keep := [0, 1, 2, 3, 4, 5, 6, 7, 8, 10], keepH := [64, 128, 192, 256] }, fun _ => nn⟩ else
  none
def Move28_J : Nat → Option Shape := fun n =>
  none
set_option maxRecDepth 100000 in
theorem Move28_eq : ∀ (nn : Nat)  xa xo, (Move28_s.prog (mkC Try.prog T_moved28 ⟨false, false⟩ (Move28_L nn) Move28_J) Try.f11 xa xo).run = Move28F nn xa.1.1 xa.1.2.1 xa.1.2.2.1 xa.1.2.2.2.1 xa.1.2.2.2.2.1 xa.2.1.1 xa.2.1.2.1 xa.2.1.2.2.1 xa.2.1.2.2.2.1 xa.2.1.2.2.2.2.1 xa.2.2.1.1 xa.2.2.1.2.1 xa.2.2.1.2.2.1 xa.2.2.1.2.2.2.1 xa.2.2.1.2.2.2.2.1 xa.2.2.2.1.1 xa.2.2.2.1.2.1 xa.2.2.2.1.2.2.1 xa.2.2.2.1.2.2.2.1 xa.2.2.2.1.2.2.2.2.1 xa.2.2.2.2.1 := by intros; kernel_rfl
noncomputable def T_Move28 : FuncId → Summ := addS T_moved28 11 (Move28_s.summ (fun xa xo => Move28 xa.1.1 xa.1.2.1 xa.1.2.2.1 xa.1.2.2.2.1 xa.1.2.2.2.2.1 xa.2.1.1 xa.2.1.2.1 xa.2.1.2.2.1 xa.2.1.2.2.2.1 xa.2.1.2.2.2.2.1 xa.2.2.1.1 xa.2.2.1.2.1 xa.2.2.1.2.2.1 xa.2.2.1.2.2.2.1 xa.2.2.1.2.2.2.2.1 xa.2.2.2.1.1 xa.2.2.2.1.2.1 xa.2.2.2.1.2.2.1 xa.2.2.2.1.2.2.2.1 xa.2.2.2.1.2.2.2.2.1 xa.2.2.2.2.1))
theorem T_Move28_ok : ∀ g, SummOK Try.prog g (T_Move28 g) := fn_ok T_moved28_ok fol Try.func11 (by kernel_rfl) (by kernel_rfl) (by kernel_rfl) (Move28_eq fuelN)

def rMove_s : FSig := ⟨.agg (.val (.sl int) <| .val (.sl int) <| .val (.sl cellT) <| .val (.sl int) <| .val (.sl int) <| .nil) <| .agg (.val int <| .val (.sl pair2) <| .val (.sl pair3) <| .val (.sl latchT) <| .val (.sl outT) <| .nil) <| .agg (.val (.sl int) <| .val (.sl int) <| .val (.sl cellT) <| .val (.sl int) <| .val (.sl int) <| .nil) <| .agg (.val int <| .val (.sl pair2) <| .val (.sl pair3) <| .val (.sl latchT) <| .val (.sl outT) <| .nil) <| .val (.sl (.sl int)) <| .nil, [], .own 49 (.sl int) <| .nil, []⟩
def rMove_L (nn : Nat) : Nat → Option LoopS := fun n =>
  bif Nat.beq n 3 then some ⟨{ env := [(35, ASh.dat (Ty.int IntKind.i64))], heap := [(384, CSh.mp Ty.str (Ty.int IntKind.i64))], keep := [0, 1, 2, 3, 4, 5, 6, 7, 8, 10, 11, 33, 34], keepH := [64, 128, 192, 256, 448] }, fun _ => nn⟩ else
  bif Nat.beq n 11 then some ⟨{ env := [(58, ASh.dat (Ty.int IntKind.i64))], heap := [(896, CSh.mp ((Ty.int IntKind.i64).pair ((Ty.int IntKind.i64).pair Ty.unit)) (Ty.int IntKind.i64))], keep := [0, 1, 2, 3, 4, 5, 6, 7, 8, 10, 11, 16, 33, 34, 35, 56, 57], keepH := [64, 128, 192, 256, 448, 384, 960] }, fun _ => nn⟩ else
  bif Nat.beq n 20 then some ⟨{ env := [(87, ASh.dat (Ty.int IntKind.i64)), (22, ASh.arr 49)], heap := [(64, CSh.box 41 ((ASh.dat (Ty.int IntKind.i64).sl).cons ((ASh.dat (Ty.int IntKind.i64).sl).cons ((ASh.dat (Ty.str.pair ((Ty.int IntKind.i64).pair ((Ty.int IntKind.i64).pair ((Ty.int IntKind.i64).pair Ty.unit)))).sl).cons ((ASh.dat (Ty.int IntKind.i64).sl).cons ((ASh.dat (Ty.int IntKind.i64).sl).cons ASh.nil)))))), (128, CSh.box 30 ((ASh.dat (Ty.int IntKind.i64)).cons ((ASh.dat ((Ty.int IntKind.i64).pair ((Ty.int IntKind.i64).pair Ty.unit)).sl).cons ((ASh.dat ((Ty.int IntKind.i64).pair ((Ty.int IntKind.i64).pair ((Ty.int IntKind.i64).pair Ty.unit))).sl).cons ((ASh.dat ((Ty.int IntKind.i64).pair ((Ty.int IntKind.i64).pair (Ty.bool.pair ((Ty.int IntKind.i64).pair ((Ty.int IntKind.i64).pair Ty.unit))))).sl).cons ((ASh.dat ((Ty.int IntKind.i64).pair ((Ty.int IntKind.i64).pair ((Ty.int IntKind.i64).pair Ty.unit))).sl).cons ASh.nil)))))), (448, CSh.box 52 ((ASh.mapv 384).cons ASh.nil)), (960, CSh.box 56 ((ASh.mapv 896).cons ASh.nil)), (49, CSh.arr 49 (Ty.int IntKind.i64).sl)], keep := [0, 1, 2, 3, 4, 5, 6, 7, 8, 10, 11, 16, 21, 33, 34, 35, 56, 57, 58, 85, 86], keepH := [192, 256, 384, 896] }, fun _ => nn⟩ else
  bif Nat.beq n 25 then some ⟨{ env := [(25, ASh.arr 2304), (98, ASh.dat (Ty.int IntKind.i64))], heap := [(64, CSh.box 41 ((ASh.dat (Ty.int IntKind.i64).sl).cons ((ASh.dat (Ty.int IntKind.i64).sl).cons ((ASh.dat (Ty.str.pair ((Ty.int IntKind.i64).pair ((Ty.int IntKind.i64).pair ((Ty.int IntKind.i64).pair Ty.unit)))).sl).cons ((ASh.dat (Ty.int IntKind.i64).sl).cons ((ASh.dat (Ty.int IntKind.i64).sl).cons ASh.nil)))))), (128, CSh.box 30 ((ASh.dat (Ty.int IntKind.i64)).cons ((ASh.dat ((Ty.int IntKind.i64).pair ((Ty.int IntKind.i64).pair Ty.unit)).sl).cons ((ASh.dat ((Ty.int IntKind.i64).pair ((Ty.int IntKind.i64).pair ((Ty.int IntKind.i64).pair Ty.unit))).sl).cons ((ASh.dat ((Ty.int IntKind.i64).pair ((Ty.int IntKind.i64).pair (Ty.bool.pair ((Ty.int IntKind.i64).pair ((Ty.int IntKind.i64).pair Ty.unit))))).sl).cons ((ASh.dat ((Ty.int IntKind.i64).pair ((Ty.int IntKind.i64).pair ((Ty.int IntKind.i64).pair Ty.unit))).sl).cons ASh.nil)))))), (448, CSh.box 52 ((ASh.mapv 384).cons ASh.nil)), (960, CSh.box 56 ((ASh.mapv 896).cons ASh.nil)), (2304, CSh.arr 3 (Ty.int IntKind.i64)), (2304, CSh.arr 3 (Ty.int IntKind.i64))], keep := [0, 1, 2, 3, 4, 5, 6, 7, 8, 10, 11, 16, 21, 22, 24, 33, 34, 35, 56, 57, 58, 85, 86, 87, 96, 97], keepH := [192, 256, 384, 896, 49] }, fun _ => nn⟩ else
  none
def rMove_J : Nat → Option Shape := fun n =>
  none
set_option maxRecDepth 100000 in
theorem rMove_eq : ∀ (nn : Nat)  xa xo, (rMove_s.prog (mkC Try.prog T_Move28 ⟨false, false⟩ (rMove_L nn) rMove_J) Try.f8 xa xo).run = rMoveF nn xa.1.1 xa.1.2.1 xa.1.2.2.1 xa.1.2.2.2.1 xa.1.2.2.2.2.1 xa.2.1.1 xa.2.1.2.1 xa.2.1.2.2.1 xa.2.1.2.2.2.1 xa.2.1.2.2.2.2.1 xa.2.2.1.1 xa.2.2.1.2.1 xa.2.2.1.2.2.1 xa.2.2.1.2.2.2.1 xa.2.2.1.2.2.2.2.1 xa.2.2.2.1.1 xa.2.2.2.1.2.1 xa.2.2.2.1.2.2.1 xa.2.2.2.1.2.2.2.1 xa.2.2.2.1.2.2.2.2.1 xa.2.2.2.2.1 := by intros; kernel_rfl
noncomputable def T_rMove : FuncId → Summ := addS T_Move28 8 (rMove_s.summ (fun xa xo => rMove xa.1.1 xa.1.2.1 xa.1.2.2.1 xa.1.2.2.2.1 xa.1.2.2.2.2.1 xa.2.1.1 xa.2.1.2.1 xa.2.1.2.2.1 xa.2.1.2.2.2.1 xa.2.1.2.2.2.2.1 xa.2.2.1.1 xa.2.2.1.2.1 xa.2.2.1.2.2.1 xa.2.2.1.2.2.2.1 xa.2.2.1.2.2.2.2.1 xa.2.2.2.1.1 xa.2.2.2.1.2.1 xa.2.2.2.1.2.2.1 xa.2.2.2.1.2.2.2.1 xa.2.2.2.1.2.2.2.2.1 xa.2.2.2.2.1))
theorem T_rMove_ok : ∀ g, SummOK Try.prog g (T_rMove g) := fn_ok T_Move28_ok fol Try.func8 (by kernel_rfl) (by kernel_rfl) (by kernel_rfl) (rMove_eq fuelN)

def find13_s : FSig := ⟨.agg (.val int <| .lend (.sl pair2) <| .nil) <| .val int <| .val int <| .val int <| .nil, [], .val int <| .nil, []⟩
def find13_L (nn : Nat) : Nat → Option LoopS := fun n =>
  bif Nat.beq n 2 then some ⟨{ env := [(9, ASh.dat (Ty.int IntKind.i64))], heap := [], keep := [0, 1, 2, 3, 4, 8], keepH := [64] }, fun _ => nn⟩ else
  none
def find13_J : Nat → Option Shape := fun n =>
  none
set_option maxRecDepth 100000 in
theorem find13_eq : ∀ (nn : Nat)  xa xo, (find13_s.prog (mkC Try.prog T_rMove ⟨false, false⟩ (find13_L nn) find13_J) Try.f37 xa xo).run = find13F nn xa.1.1 xa.1.2.1 xa.2.1 xa.2.2.1 xa.2.2.2.1 := by intros; kernel_rfl
noncomputable def T_find13 : FuncId → Summ := addS T_rMove 37 (find13_s.summ (fun xa xo => find13 xa.1.1 xa.1.2.1 xa.2.1 xa.2.2.1 xa.2.2.2.1))
theorem T_find13_ok : ∀ g, SummOK Try.prog g (T_find13 g) := fn_ok T_rMove_ok fol Try.func37 (by kernel_rfl) (by kernel_rfl) (by kernel_rfl) (find13_eq fuelN)

def Right13_s : FSig := ⟨.agg (.val int <| .lend (.sl pair2) <| .nil) <| .nil, [], .val .bool <| .nil, []⟩
def Right13_L (nn : Nat) : Nat → Option LoopS := fun n =>
  bif Nat.beq n 4 then some ⟨{ env := [(3, ASh.dat (Ty.int IntKind.i64))], heap := [], keep := [0, 1, 2], keepH := [64] }, fun _ => nn⟩ else
  none
def Right13_J : Nat → Option Shape := fun n =>
  none
set_option maxRecDepth 100000 in
theorem Right13_eq : ∀ (nn : Nat)  xa xo, (Right13_s.prog (mkC Try.prog T_find13 ⟨false, false⟩ (Right13_L nn) Right13_J) Try.f22 xa xo).run = Right13F nn xa.1.1 xa.1.2.1 := by intros; kernel_rfl
noncomputable def T_Right13 : FuncId → Summ := addS T_find13 22 (Right13_s.summ (fun xa xo => Right13 xa.1.1 xa.1.2.1))
theorem T_Right13_ok : ∀ g, SummOK Try.prog g (T_Right13 g) := fn_ok T_find13_ok fol Try.func22 (by kernel_rfl) (by kernel_rfl) (by kernel_rfl) (Right13_eq fuelN)

def rises_s : FSig := ⟨.val int <| .val int <| .val int <| .val int <| .nil, [], .val .bool <| .nil, []⟩
def rises_L : Nat → Option LoopS := fun n =>
  none
def rises_J : Nat → Option Shape := fun n =>
  none
set_option maxRecDepth 100000 in
theorem rises_eq : ∀  xa xo, (rises_s.prog (mkC Try.prog T_Right13 ⟨false, false⟩ rises_L rises_J) Try.f23 xa xo).run = rises  xa.1 xa.2.1 xa.2.2.1 xa.2.2.2.1 := by intros; kernel_rfl
noncomputable def T_rises : FuncId → Summ := addS T_Right13 23 (rises_s.summ (fun xa xo => rises xa.1 xa.2.1 xa.2.2.1 xa.2.2.2.1))
theorem T_rises_ok : ∀ g, SummOK Try.prog g (T_rises g) := fn_ok T_Right13_ok fol Try.func23 (by kernel_rfl) (by kernel_rfl) (by kernel_rfl) rises_eq

def literal_s : FSig := ⟨.agg (.val int <| .lend (.sl pair2) <| .nil) <| .val int <| .nil, [], .val .bool <| .nil, []⟩
def literal_L : Nat → Option LoopS := fun n =>
  none
def literal_J : Nat → Option Shape := fun n =>
  none
set_option maxRecDepth 100000 in
theorem literal_eq : ∀  xa xo, (literal_s.prog (mkC Try.prog T_rises ⟨false, false⟩ literal_L literal_J) Try.f24 xa xo).run = literal  xa.1.1 xa.1.2.1 xa.2.1 := by intros; kernel_rfl
noncomputable def T_literal : FuncId → Summ := addS T_rises 24 (literal_s.summ (fun xa xo => literal xa.1.1 xa.1.2.1 xa.2.1))
theorem T_literal_ok : ∀ g, SummOK Try.prog g (T_literal g) := fn_ok T_rises_ok fol Try.func24 (by kernel_rfl) (by kernel_rfl) (by kernel_rfl) literal_eq

def Right15_s : FSig := ⟨.agg (.val int <| .lend (.sl pair2) <| .lend (.sl pair3) <| .lend (.sl latchT) <| .lend (.sl outT) <| .nil) <| .nil, [], .val .bool <| .nil, []⟩
def Right15_L (nn : Nat) : Nat → Option LoopS := fun n =>
  bif Nat.beq n 4 then some ⟨{ env := [(3, ASh.dat (Ty.int IntKind.i64))], heap := [], keep := [0, 1, 2], keepH := [64] }, fun _ => nn⟩ else
  bif Nat.beq n 10 then some ⟨{ env := [(5, ASh.dat (Ty.int IntKind.i64))], heap := [], keep := [0, 1, 2, 3], keepH := [64] }, fun _ => nn⟩ else
  bif Nat.beq n 16 then some ⟨{ env := [(7, ASh.dat (Ty.int IntKind.i64))], heap := [], keep := [0, 1, 2, 3, 5], keepH := [64] }, fun _ => nn⟩ else
  none
def Right15_J : Nat → Option Shape := fun n =>
  none
set_option maxRecDepth 100000 in
theorem Right15_eq : ∀ (nn : Nat)  xa xo, (Right15_s.prog (mkC Try.prog T_literal ⟨false, false⟩ (Right15_L nn) Right15_J) Try.f13 xa xo).run = Right15F nn xa.1.1 xa.1.2.1 xa.1.2.2.1 xa.1.2.2.2.1 xa.1.2.2.2.2.1 := by intros; kernel_rfl
noncomputable def T_Right15 : FuncId → Summ := addS T_literal 13 (Right15_s.summ (fun xa xo => Right15 xa.1.1 xa.1.2.1 xa.1.2.2.1 xa.1.2.2.2.1 xa.1.2.2.2.2.1))
theorem T_Right15_ok : ∀ g, SummOK Try.prog g (T_Right15 g) := fn_ok T_literal_ok fol Try.func13 (by kernel_rfl) (by kernel_rfl) (by kernel_rfl) (Right15_eq fuelN)

end GoSx
end
section
/- Walks: the functions compute what their models say: ReuseB. -/
set_option linter.unusedVariables false
set_option maxHeartbeats 0
set_option maxRecDepth 100000
namespace GoSx
open Go Go.Proofs
def litOf_s : FSig := ⟨.val int <| .val int <| .nil, [], .val int <| .nil, []⟩
def litOf_L : Nat → Option LoopS := fun n =>
  none
def litOf_J : Nat → Option Shape := fun n =>
  none
set_option maxRecDepth 100000 in
theorem litOf_eq : ∀  xa xo, (litOf_s.prog (mkC Try.prog T_Right15 ⟨false, false⟩ litOf_L litOf_J) Try.f77 xa xo).run = litOf  xa.1 xa.2.1 := by intros; kernel_rfl
noncomputable def T_litOf : FuncId → Summ := addS T_Right15 77 (litOf_s.summ (fun xa xo => litOf xa.1 xa.2.1))
theorem T_litOf_ok : ∀ g, SummOK Try.prog g (T_litOf g) := fn_ok T_Right15_ok fol Try.func77 (by kernel_rfl) (by kernel_rfl) (by kernel_rfl) litOf_eq

def cnfOf_s : FSig := ⟨.val int <| .val int <| .nil, [], .val int <| .nil, []⟩
def cnfOf_L : Nat → Option LoopS := fun n =>
  none
def cnfOf_J : Nat → Option Shape := fun n =>
  none
set_option maxRecDepth 100000 in
theorem cnfOf_eq : ∀  xa xo, (cnfOf_s.prog (mkC Try.prog T_litOf ⟨false, false⟩ cnfOf_L cnfOf_J) Try.f73 xa xo).run = cnfOf  xa.1 xa.2.1 := by intros; kernel_rfl
noncomputable def T_cnfOf : FuncId → Summ := addS T_litOf 73 (cnfOf_s.summ (fun xa xo => cnfOf xa.1 xa.2.1))
theorem T_cnfOf_ok : ∀ g, SummOK Try.prog g (T_cnfOf g) := fn_ok T_litOf_ok fol Try.func73 (by kernel_rfl) (by kernel_rfl) (by kernel_rfl) cnfOf_eq

def cnfVars_s : FSig := ⟨.agg (.val int <| .lend (.sl pair2) <| .nil) <| .nil, [], .val int <| .nil, []⟩
def cnfVars_L : Nat → Option LoopS := fun n =>
  none
def cnfVars_J : Nat → Option Shape := fun n =>
  none
set_option maxRecDepth 100000 in
theorem cnfVars_eq : ∀  xa xo, (cnfVars_s.prog (mkC Try.prog T_cnfOf ⟨false, false⟩ cnfVars_L cnfVars_J) Try.f39 xa xo).run = cnfVars  xa.1.1 xa.1.2.1 := by intros; kernel_rfl
noncomputable def T_cnfVars : FuncId → Summ := addS T_cnfOf 39 (cnfVars_s.summ (fun xa xo => cnfVars xa.1.1 xa.1.2.1))
theorem T_cnfVars_ok : ∀ g, SummOK Try.prog g (T_cnfVars g) := fn_ok T_cnfOf_ok fol Try.func39 (by kernel_rfl) (by kernel_rfl) (by kernel_rfl) cnfVars_eq

def clausesAdd_s : FSig := ⟨.obj 0 <| .val (.sl int) <| .nil, [(108, .own 49 (.sl int) <| .nil)], .nil, []⟩
def clausesAdd_L : Nat → Option LoopS := fun n =>
  none
def clausesAdd_J : Nat → Option Shape := fun n =>
  none
set_option maxRecDepth 100000 in
theorem clausesAdd_eq : ∀  xa xo, (clausesAdd_s.prog (mkC Try.prog T_cnfVars ⟨false, false⟩ clausesAdd_L clausesAdd_J) Try.f72 xa xo).run = clausesAdd  xa.1 xo.1.1 := by intros; kernel_rfl
noncomputable def T_clausesAdd : FuncId → Summ := addS T_cnfVars 72 (clausesAdd_s.summ (fun xa xo => clausesAdd xa.1 xo.1.1))
theorem T_clausesAdd_ok : ∀ g, SummOK Try.prog g (T_clausesAdd g) := fn_ok T_cnfVars_ok fol Try.func72 (by kernel_rfl) (by kernel_rfl) (by kernel_rfl) clausesAdd_eq

def cnfClauses_s : FSig := ⟨.agg (.val int <| .val (.sl pair2) <| .nil) <| .val int <| .nil, [], .own 49 (.sl int) <| .nil, []⟩
def cnfClauses_L (nn : Nat) : Nat → Option LoopS := fun n =>
  bif Nat.beq n 5 then some ⟨{ env := [(22, ASh.dat (Ty.int IntKind.i64))], heap := [(192, CSh.box 108 ((ASh.arr 722).cons ASh.nil)), (722, CSh.arr 49 (Ty.int IntKind.i64).sl)], keep := [0, 1, 2, 4, 5, 6, 20, 21], keepH := [64] }, fun _ => nn⟩ else
  none
def cnfClauses_J : Nat → Option Shape := fun n =>
  none
set_option maxRecDepth 100000 in
theorem cnfClauses_eq : ∀ (nn : Nat)  xa xo, (cnfClauses_s.prog (mkC Try.prog T_clausesAdd ⟨false, false⟩ (cnfClauses_L nn) cnfClauses_J) Try.f55 xa xo).run = cnfClausesF nn xa.1.1 xa.1.2.1 xa.2.1 := by intros; kernel_rfl
noncomputable def T_cnfClauses : FuncId → Summ := addS T_clausesAdd 55 (cnfClauses_s.summ (fun xa xo => cnfClauses xa.1.1 xa.1.2.1 xa.2.1))
theorem T_cnfClauses_ok : ∀ g, SummOK Try.prog g (T_cnfClauses g) := fn_ok T_clausesAdd_ok fol Try.func55 (by kernel_rfl) (by kernel_rfl) (by kernel_rfl) (cnfClauses_eq fuelN)

def unNew_s : FSig := ⟨.agg (.val int <| .val (.sl pair2) <| .val (.sl pair3) <| .val (.sl latchT) <| .val (.sl outT) <| .nil) <| .val int <| .val .bool <| .nil, [], .val (.ptr framesT) <| .nil, []⟩
def unNew_L : Nat → Option LoopS := fun n =>
  none
def unNew_J : Nat → Option Shape := fun n =>
  none
set_option maxRecDepth 100000 in
theorem unNew_eq : ∀  xa xo, (unNew_s.prog (mkC Try.prog T_cnfClauses ⟨false, false⟩ unNew_L unNew_J) Try.f27 xa xo).run = unNew  xa.1.1 xa.1.2.1 xa.1.2.2.1 xa.1.2.2.2.1 xa.1.2.2.2.2.1 xa.2.1 xa.2.2.1 := by intros; kernel_rfl
noncomputable def T_unNew : FuncId → Summ := addS T_cnfClauses 27 (unNew_s.summ (fun xa xo => unNew xa.1.1 xa.1.2.1 xa.1.2.2.1 xa.1.2.2.2.1 xa.1.2.2.2.2.1 xa.2.1 xa.2.2.1))
theorem T_unNew_ok : ∀ g, SummOK Try.prog g (T_unNew g) := fn_ok T_cnfClauses_ok fol Try.func27 (by kernel_rfl) (by kernel_rfl) (by kernel_rfl) unNew_eq

def frameLit_s : FSig := ⟨.agg (.val int <| .nil) <| .val int <| .nil, [], .val int <| .nil, []⟩
def frameLit_L : Nat → Option LoopS := fun n =>
  none
def frameLit_J : Nat → Option Shape := fun n =>
  none
set_option maxRecDepth 100000 in
theorem frameLit_eq : ∀  xa xo, (frameLit_s.prog (mkC Try.prog T_unNew ⟨false, false⟩ frameLit_L frameLit_J) Try.f70 xa xo).run = frameLit  xa.1.1 xa.2.1 := by intros; kernel_rfl
noncomputable def T_frameLit : FuncId → Summ := addS T_unNew 70 (frameLit_s.summ (fun xa xo => frameLit xa.1.1 xa.2.1))
theorem T_frameLit_ok : ∀ g, SummOK Try.prog g (T_frameLit g) := fn_ok T_unNew_ok fol Try.func70 (by kernel_rfl) (by kernel_rfl) (by kernel_rfl) frameLit_eq

def unFrame_s : FSig := ⟨.val (.ptr framesT) <| .val int <| .nil, [], .agg (.val int <| .nil) <| .nil, []⟩
def unFrame_L : Nat → Option LoopS := fun n =>
  none
def unFrame_J : Nat → Option Shape := fun n =>
  none
set_option maxRecDepth 100000 in
theorem unFrame_eq : ∀  xa xo, (unFrame_s.prog (mkC Try.prog T_frameLit ⟨false, false⟩ unFrame_L unFrame_J) Try.f56 xa xo).run = unFrame  xa.1.1 xa.1.2.1 xa.1.2.2.1 xa.1.2.2.2.1 xa.1.2.2.2.2.1 xa.1.2.2.2.2.2.1 xa.1.2.2.2.2.2.2.1 xa.1.2.2.2.2.2.2.2.1 xa.2.1 := by intros; kernel_rfl
noncomputable def T_unFrame : FuncId → Summ := addS T_frameLit 56 (unFrame_s.summ (fun xa xo => unFrame xa.1.1 xa.1.2.1 xa.1.2.2.1 xa.1.2.2.2.1 xa.1.2.2.2.2.1 xa.1.2.2.2.2.2.1 xa.1.2.2.2.2.2.2.1 xa.1.2.2.2.2.2.2.2.1 xa.2.1))
theorem T_unFrame_ok : ∀ g, SummOK Try.prog g (T_unFrame g) := fn_ok T_frameLit_ok fol Try.func56 (by kernel_rfl) (by kernel_rfl) (by kernel_rfl) unFrame_eq

def unVars_s : FSig := ⟨.val (.ptr framesT) <| .nil, [], .val int <| .nil, []⟩
def unVars_L : Nat → Option LoopS := fun n =>
  none
def unVars_J : Nat → Option Shape := fun n =>
  none
set_option maxRecDepth 100000 in
theorem unVars_eq : ∀  xa xo, (unVars_s.prog (mkC Try.prog T_unFrame ⟨false, false⟩ unVars_L unVars_J) Try.f41 xa xo).run = unVars  xa.1.1 xa.1.2.1 xa.1.2.2.1 xa.1.2.2.2.1 xa.1.2.2.2.2.1 xa.1.2.2.2.2.2.1 xa.1.2.2.2.2.2.2.1 xa.1.2.2.2.2.2.2.2.1 := by intros; kernel_rfl
noncomputable def T_unVars : FuncId → Summ := addS T_unFrame 41 (unVars_s.summ (fun xa xo => unVars xa.1.1 xa.1.2.1 xa.1.2.2.1 xa.1.2.2.2.1 xa.1.2.2.2.2.1 xa.1.2.2.2.2.2.1 xa.1.2.2.2.2.2.2.1 xa.1.2.2.2.2.2.2.2.1))
theorem T_unVars_ok : ∀ g, SummOK Try.prog g (T_unVars g) := fn_ok T_unFrame_ok fol Try.func41 (by kernel_rfl) (by kernel_rfl) (by kernel_rfl) unVars_eq

def latchC_s : FSig := ⟨.val int <| .obj 0 <| .nil, [(72, .val (.ptr framesT) <| .nil)], .val int <| .nil, []⟩
def latchC_L : Nat → Option LoopS := fun n =>
  none
def latchC_J : Nat → Option Shape := fun n =>
  none
set_option maxRecDepth 100000 in
theorem latchC_eq : ∀  xa xo, (latchC_s.prog (mkC Try.prog T_unVars ⟨false, false⟩ latchC_L latchC_J) Try.f52 xa xo).run = latchC  xa.1 xo.1.1.1 xo.1.1.2.1 xo.1.1.2.2.1 xo.1.1.2.2.2.1 xo.1.1.2.2.2.2.1 xo.1.1.2.2.2.2.2.1 xo.1.1.2.2.2.2.2.2.1 xo.1.1.2.2.2.2.2.2.2.1 := by intros; kernel_rfl
noncomputable def T_latchC : FuncId → Summ := addS T_unVars 52 (latchC_s.summ (fun xa xo => latchC xa.1 xo.1.1.1 xo.1.1.2.1 xo.1.1.2.2.1 xo.1.1.2.2.2.1 xo.1.1.2.2.2.2.1 xo.1.1.2.2.2.2.2.1 xo.1.1.2.2.2.2.2.2.1 xo.1.1.2.2.2.2.2.2.2.1))
theorem T_latchC_ok : ∀ g, SummOK Try.prog g (T_latchC g) := fn_ok T_unVars_ok fol Try.func52 (by kernel_rfl) (by kernel_rfl) (by kernel_rfl) latchC_eq

def unAtL_s : FSig := ⟨.val (.ptr framesT) <| .val int <| .val int <| .val int <| .clo 52 (.obj 0 <| .nil) <| .nil, [(72, .val (.ptr framesT) <| .nil)], .val int <| .nil, []⟩
def unAtL_L : Nat → Option LoopS := fun n =>
  none
def unAtL_J : Nat → Option Shape := fun n =>
  none
set_option maxRecDepth 100000 in
theorem unAtL_eq : ∀  xa xo, (unAtL_s.prog (mkC Try.prog T_latchC ⟨false, false⟩ unAtL_L unAtL_J) Try.f51 xa xo).run = unAtL  xa.1.1 xa.1.2.1 xa.1.2.2.1 xa.1.2.2.2.1 xa.1.2.2.2.2.1 xa.1.2.2.2.2.2.1 xa.1.2.2.2.2.2.2.1 xa.1.2.2.2.2.2.2.2.1 xa.2.1 xa.2.2.1 xa.2.2.2.1 xo.1.1.1 xo.1.1.2.1 xo.1.1.2.2.1 xo.1.1.2.2.2.1 xo.1.1.2.2.2.2.1 xo.1.1.2.2.2.2.2.1 xo.1.1.2.2.2.2.2.2.1 xo.1.1.2.2.2.2.2.2.2.1 := by intros; kernel_rfl
noncomputable def T_unAtL : FuncId → Summ := addS T_latchC 51 (unAtL_s.summ (fun xa xo => unAtL xa.1.1 xa.1.2.1 xa.1.2.2.1 xa.1.2.2.2.1 xa.1.2.2.2.2.1 xa.1.2.2.2.2.2.1 xa.1.2.2.2.2.2.2.1 xa.1.2.2.2.2.2.2.2.1 xa.2.1 xa.2.2.1 xa.2.2.2.1 xo.1.1.1 xo.1.1.2.1 xo.1.1.2.2.1 xo.1.1.2.2.2.1 xo.1.1.2.2.2.2.1 xo.1.1.2.2.2.2.2.1 xo.1.1.2.2.2.2.2.2.1 xo.1.1.2.2.2.2.2.2.2.1))
theorem T_unAtL_ok : ∀ g, SummOK Try.prog g (T_unAtL g) := fn_ok T_latchC_ok fol Try.func51 (by kernel_rfl) (by kernel_rfl) (by kernel_rfl) unAtL_eq

def unLatch_s : FSig := ⟨.val (.ptr framesT) <| .val int <| .val int <| .nil, [], .val int <| .nil, []⟩
def unLatch_L : Nat → Option LoopS := fun n =>
  none
def unLatch_J : Nat → Option Shape := fun n =>
  none
set_option maxRecDepth 100000 in
theorem unLatch_eq : ∀  xa xo, (unLatch_s.prog (mkC Try.prog T_unAtL ⟨false, false⟩ unLatch_L unLatch_J) Try.f33 xa xo).run = unLatch  xa.1.1 xa.1.2.1 xa.1.2.2.1 xa.1.2.2.2.1 xa.1.2.2.2.2.1 xa.1.2.2.2.2.2.1 xa.1.2.2.2.2.2.2.1 xa.1.2.2.2.2.2.2.2.1 xa.2.1 xa.2.2.1 := by intros; kernel_rfl
noncomputable def T_unLatch : FuncId → Summ := addS T_unAtL 33 (unLatch_s.summ (fun xa xo => unLatch xa.1.1 xa.1.2.1 xa.1.2.2.1 xa.1.2.2.2.1 xa.1.2.2.2.2.1 xa.1.2.2.2.2.2.1 xa.1.2.2.2.2.2.2.1 xa.1.2.2.2.2.2.2.2.1 xa.2.1 xa.2.2.1))
theorem T_unLatch_ok : ∀ g, SummOK Try.prog g (T_unLatch g) := fn_ok T_unAtL_ok fol Try.func33 (by kernel_rfl) (by kernel_rfl) (by kernel_rfl) unLatch_eq

def outC_s : FSig := ⟨.val int <| .obj 0 <| .nil, [(72, .val (.ptr framesT) <| .nil)], .val int <| .nil, []⟩
def outC_L : Nat → Option LoopS := fun n =>
  none
def outC_J : Nat → Option Shape := fun n =>
  none
set_option maxRecDepth 100000 in
theorem outC_eq : ∀  xa xo, (outC_s.prog (mkC Try.prog T_unLatch ⟨false, false⟩ outC_L outC_J) Try.f62 xa xo).run = outC  xa.1 xo.1.1.1 xo.1.1.2.1 xo.1.1.2.2.1 xo.1.1.2.2.2.1 xo.1.1.2.2.2.2.1 xo.1.1.2.2.2.2.2.1 xo.1.1.2.2.2.2.2.2.1 xo.1.1.2.2.2.2.2.2.2.1 := by intros; kernel_rfl
noncomputable def T_outC : FuncId → Summ := addS T_unLatch 62 (outC_s.summ (fun xa xo => outC xa.1 xo.1.1.1 xo.1.1.2.1 xo.1.1.2.2.1 xo.1.1.2.2.2.1 xo.1.1.2.2.2.2.1 xo.1.1.2.2.2.2.2.1 xo.1.1.2.2.2.2.2.2.1 xo.1.1.2.2.2.2.2.2.2.1))
theorem T_outC_ok : ∀ g, SummOK Try.prog g (T_outC g) := fn_ok T_unLatch_ok fol Try.func62 (by kernel_rfl) (by kernel_rfl) (by kernel_rfl) outC_eq

def unAtO_s : FSig := ⟨.val (.ptr framesT) <| .val int <| .val int <| .val int <| .clo 62 (.obj 0 <| .nil) <| .nil, [(72, .val (.ptr framesT) <| .nil)], .val int <| .nil, []⟩
def unAtO_L : Nat → Option LoopS := fun n =>
  none
def unAtO_J : Nat → Option Shape := fun n =>
  none
set_option maxRecDepth 100000 in
theorem unAtO_eq : ∀  xa xo, (unAtO_s.prog (mkC Try.prog T_outC ⟨false, false⟩ unAtO_L unAtO_J) Try.f51 xa xo).run = unAtO  xa.1.1 xa.1.2.1 xa.1.2.2.1 xa.1.2.2.2.1 xa.1.2.2.2.2.1 xa.1.2.2.2.2.2.1 xa.1.2.2.2.2.2.2.1 xa.1.2.2.2.2.2.2.2.1 xa.2.1 xa.2.2.1 xa.2.2.2.1 xo.1.1.1 xo.1.1.2.1 xo.1.1.2.2.1 xo.1.1.2.2.2.1 xo.1.1.2.2.2.2.1 xo.1.1.2.2.2.2.2.1 xo.1.1.2.2.2.2.2.2.1 xo.1.1.2.2.2.2.2.2.2.1 := by intros; kernel_rfl
noncomputable def T_unAtO : FuncId → Summ := addS T_outC 51 (unAtO_s.summ (fun xa xo => unAtO xa.1.1 xa.1.2.1 xa.1.2.2.1 xa.1.2.2.2.1 xa.1.2.2.2.2.1 xa.1.2.2.2.2.2.1 xa.1.2.2.2.2.2.2.1 xa.1.2.2.2.2.2.2.2.1 xa.2.1 xa.2.2.1 xa.2.2.2.1 xo.1.1.1 xo.1.1.2.1 xo.1.1.2.2.1 xo.1.1.2.2.2.1 xo.1.1.2.2.2.2.1 xo.1.1.2.2.2.2.2.1 xo.1.1.2.2.2.2.2.2.1 xo.1.1.2.2.2.2.2.2.2.1))
theorem T_unAtO_ok : ∀ g, SummOK Try.prog g (T_unAtO g) := fn_ok T_outC_ok fol Try.func51 (by kernel_rfl) (by kernel_rfl) (by kernel_rfl) unAtO_eq

def unOut_s : FSig := ⟨.val (.ptr framesT) <| .val int <| .val int <| .nil, [], .val int <| .nil, []⟩
def unOut_L : Nat → Option LoopS := fun n =>
  none
def unOut_J : Nat → Option Shape := fun n =>
  none
set_option maxRecDepth 100000 in
theorem unOut_eq : ∀  xa xo, (unOut_s.prog (mkC Try.prog T_unAtO ⟨false, false⟩ unOut_L unOut_J) Try.f44 xa xo).run = unOut  xa.1.1 xa.1.2.1 xa.1.2.2.1 xa.1.2.2.2.1 xa.1.2.2.2.2.1 xa.1.2.2.2.2.2.1 xa.1.2.2.2.2.2.2.1 xa.1.2.2.2.2.2.2.2.1 xa.2.1 xa.2.2.1 := by intros; kernel_rfl
noncomputable def T_unOut : FuncId → Summ := addS T_unAtO 44 (unOut_s.summ (fun xa xo => unOut xa.1.1 xa.1.2.1 xa.1.2.2.1 xa.1.2.2.2.1 xa.1.2.2.2.2.1 xa.1.2.2.2.2.2.1 xa.1.2.2.2.2.2.2.1 xa.1.2.2.2.2.2.2.2.1 xa.2.1 xa.2.2.1))
theorem T_unOut_ok : ∀ g, SummOK Try.prog g (T_unOut g) := fn_ok T_unAtO_ok fol Try.func44 (by kernel_rfl) (by kernel_rfl) (by kernel_rfl) unOut_eq

def rAt_s : FSig := ⟨.val (.ptr framesT) <| .val int <| .val (.sl int) <| .nil, [], .own 3 int <| .nil, []⟩
def rAt_L (nn : Nat) : Nat → Option LoopS := fun n =>
  bif Nat.beq n 3 then some ⟨{ env := [(7, ASh.arr 49), (15, ASh.dat (Ty.int IntKind.i64))], heap := [(49, CSh.arr 3 (Ty.int IntKind.i64))], keep := [0, 1, 2, 6, 13, 14], keepH := [] }, fun _ => nn⟩ else
  none
def rAt_J : Nat → Option Shape := fun n =>
  none
set_option maxRecDepth 100000 in
theorem rAt_eq : ∀ (nn : Nat)  xa xo, (rAt_s.prog (mkC Try.prog T_unOut ⟨false, false⟩ (rAt_L nn) rAt_J) Try.f29 xa xo).run = rAtF nn xa.1.1 xa.1.2.1 xa.1.2.2.1 xa.1.2.2.2.1 xa.1.2.2.2.2.1 xa.1.2.2.2.2.2.1 xa.1.2.2.2.2.2.2.1 xa.1.2.2.2.2.2.2.2.1 xa.2.1 xa.2.2.1 := by intros; kernel_rfl
noncomputable def T_rAt : FuncId → Summ := addS T_unOut 29 (rAt_s.summ (fun xa xo => rAt xa.1.1 xa.1.2.1 xa.1.2.2.1 xa.1.2.2.2.1 xa.1.2.2.2.2.1 xa.1.2.2.2.2.2.1 xa.1.2.2.2.2.2.2.1 xa.1.2.2.2.2.2.2.2.1 xa.2.1 xa.2.2.1))
theorem T_rAt_ok : ∀ g, SummOK Try.prog g (T_rAt g) := fn_ok T_unOut_ok fol Try.func29 (by kernel_rfl) (by kernel_rfl) (by kernel_rfl) (rAt_eq fuelN)

def unInits_s : FSig := ⟨.val (.ptr framesT) <| .nil, [], .own 49 (.sl int) <| .nil, []⟩
def unInits_L (nn : Nat) : Nat → Option LoopS := fun n =>
  bif Nat.beq n 4 then some ⟨{ env := [(3, ASh.arr 49), (17, ASh.dat (Ty.int IntKind.i64))], heap := [(49, CSh.arr 49 (Ty.int IntKind.i64).sl)], keep := [0, 2, 4, 15, 16], keepH := [] }, fun _ => nn⟩ else
  none
def unInits_J : Nat → Option Shape := fun n =>
  none
set_option maxRecDepth 100000 in
theorem unInits_eq : ∀ (nn : Nat)  xa xo, (unInits_s.prog (mkC Try.prog T_rAt ⟨false, false⟩ (unInits_L nn) unInits_J) Try.f58 xa xo).run = unInitsF nn xa.1.1 xa.1.2.1 xa.1.2.2.1 xa.1.2.2.2.1 xa.1.2.2.2.2.1 xa.1.2.2.2.2.2.1 xa.1.2.2.2.2.2.2.1 xa.1.2.2.2.2.2.2.2.1 := by intros; kernel_rfl
noncomputable def T_unInits : FuncId → Summ := addS T_rAt 58 (unInits_s.summ (fun xa xo => unInits xa.1.1 xa.1.2.1 xa.1.2.2.1 xa.1.2.2.2.1 xa.1.2.2.2.2.1 xa.1.2.2.2.2.2.1 xa.1.2.2.2.2.2.2.1 xa.1.2.2.2.2.2.2.2.1))
theorem T_unInits_ok : ∀ g, SummOK Try.prog g (T_unInits g) := fn_ok T_rAt_ok fol Try.func58 (by kernel_rfl) (by kernel_rfl) (by kernel_rfl) (unInits_eq fuelN)

def unLinks_s : FSig := ⟨.val (.ptr framesT) <| .val int <| .nil, [], .own 49 (.sl int) <| .nil, []⟩
def unLinks_L (nn : Nat) : Nat → Option LoopS := fun n =>
  bif Nat.beq n 4 then some ⟨{ env := [(5, ASh.arr 49), (27, ASh.dat (Ty.int IntKind.i64))], heap := [(49, CSh.arr 49 (Ty.int IntKind.i64).sl)], keep := [0, 1, 4, 6, 7, 25, 26], keepH := [] }, fun _ => nn⟩ else
  none
def unLinks_J : Nat → Option Shape := fun n =>
  none
set_option maxRecDepth 100000 in
theorem unLinks_eq : ∀ (nn : Nat)  xa xo, (unLinks_s.prog (mkC Try.prog T_unInits ⟨false, false⟩ (unLinks_L nn) unLinks_J) Try.f57 xa xo).run = unLinksF nn xa.1.1 xa.1.2.1 xa.1.2.2.1 xa.1.2.2.2.1 xa.1.2.2.2.2.1 xa.1.2.2.2.2.2.1 xa.1.2.2.2.2.2.2.1 xa.1.2.2.2.2.2.2.2.1 xa.2.1 := by intros; kernel_rfl
noncomputable def T_unLinks : FuncId → Summ := addS T_unInits 57 (unLinks_s.summ (fun xa xo => unLinks xa.1.1 xa.1.2.1 xa.1.2.2.1 xa.1.2.2.2.1 xa.1.2.2.2.2.1 xa.1.2.2.2.2.2.1 xa.1.2.2.2.2.2.2.1 xa.1.2.2.2.2.2.2.2.1 xa.2.1))
theorem T_unLinks_ok : ∀ g, SummOK Try.prog g (T_unLinks g) := fn_ok T_unInits_ok fol Try.func57 (by kernel_rfl) (by kernel_rfl) (by kernel_rfl) (unLinks_eq fuelN)

def unClauses_s : FSig := ⟨.val (.ptr framesT) <| .nil, [], .own 49 (.sl int) <| .nil, []⟩
def unClauses_L (nn : Nat) : Nat → Option LoopS := fun n =>
  bif Nat.beq n 3 then some ⟨{ env := [(3, ASh.arr 49), (9, ASh.dat (Ty.int IntKind.i64))], heap := [(49, CSh.arr 49 (Ty.int IntKind.i64).sl)], keep := [0, 2, 8], keepH := [] }, fun _ => nn⟩ else
  none
def unClauses_J : Nat → Option Shape := fun n =>
  none
set_option maxRecDepth 100000 in
theorem unClauses_eq : ∀ (nn : Nat)  xa xo, (unClauses_s.prog (mkC Try.prog T_unLinks ⟨false, false⟩ (unClauses_L nn) unClauses_J) Try.f42 xa xo).run = unClausesF nn xa.1.1 xa.1.2.1 xa.1.2.2.1 xa.1.2.2.2.1 xa.1.2.2.2.2.1 xa.1.2.2.2.2.2.1 xa.1.2.2.2.2.2.2.1 xa.1.2.2.2.2.2.2.2.1 := by intros; kernel_rfl
noncomputable def T_unClauses : FuncId → Summ := addS T_unLinks 42 (unClauses_s.summ (fun xa xo => unClauses xa.1.1 xa.1.2.1 xa.1.2.2.1 xa.1.2.2.2.1 xa.1.2.2.2.2.1 xa.1.2.2.2.2.2.1 xa.1.2.2.2.2.2.2.1 xa.1.2.2.2.2.2.2.2.1))
theorem T_unClauses_ok : ∀ g, SummOK Try.prog g (T_unClauses g) := fn_ok T_unLinks_ok fol Try.func42 (by kernel_rfl) (by kernel_rfl) (by kernel_rfl) (unClauses_eq fuelN)

def asked_s : FSig := ⟨.agg (.val int <| .val (.sl pair2) <| .val (.sl pair3) <| .val (.sl latchT) <| .val (.sl outT) <| .nil) <| .val (.ptr framesT) <| .val (.sl (.sl int)) <| .nil, [], .obj 0 <| .nil, [(94, .val int <| .own2 49 3 int <| .own2 49 3 int <| .own 3 int <| .own 3 int <| .own 3 int <| .own 3 int <| .own 3 int <| .own 3 int <| .val int <| .own 3 int <| .own 3 int <| .val int <| .val .bool <| .own 49 (.sl int) <| .val int <| .own 3 int <| .own 4 .bool <| .nil)]⟩
def asked_L (nn : Nat) : Nat → Option LoopS := fun n =>
  bif Nat.beq n 3 then some ⟨{ env := [(20, ASh.dat (Ty.int IntKind.i64))], heap := [(368, CSh.box 94 ((ASh.dat (Ty.int IntKind.i64)).cons ((ASh.arr 338).cons ((ASh.arr 339).cons ((ASh.arr 340).cons ((ASh.arr 341).cons ((ASh.arr 342).cons ((ASh.arr 343).cons ((ASh.arr 344).cons ((ASh.arr 345).cons ((ASh.dat (Ty.int IntKind.i64)).cons ((ASh.arr 347).cons ((ASh.arr 348).cons ((ASh.dat (Ty.int IntKind.i64)).cons ((ASh.dat Ty.bool).cons ((ASh.arr 351).cons ((ASh.dat (Ty.int IntKind.i64)).cons ((ASh.arr 353).cons ((ASh.arr 354).cons ASh.nil))))))))))))))))))), (338, CSh.arr2 49 3 (Ty.int IntKind.i64) []), (339, CSh.arr2 49 3 (Ty.int IntKind.i64) []), (340, CSh.arr 3 (Ty.int IntKind.i64)), (341, CSh.arr 3 (Ty.int IntKind.i64)), (342, CSh.arr 3 (Ty.int IntKind.i64)), (343, CSh.arr 3 (Ty.int IntKind.i64)), (347, CSh.arr 3 (Ty.int IntKind.i64)), (348, CSh.arr 3 (Ty.int IntKind.i64)), (353, CSh.arr 3 (Ty.int IntKind.i64)), (354, CSh.arr 4 Ty.bool)], keep := [0, 1, 2, 3, 7, 18, 19], keepH := [64, 344, 345, 351, 512] }, fun _ => nn⟩ else
  bif Nat.beq n 8 then some ⟨{ env := [(31, ASh.dat (Ty.int IntKind.i64))], heap := [(368, CSh.box 94 ((ASh.dat (Ty.int IntKind.i64)).cons ((ASh.arr 338).cons ((ASh.arr 339).cons ((ASh.arr 340).cons ((ASh.arr 341).cons ((ASh.arr 342).cons ((ASh.arr 343).cons ((ASh.arr 344).cons ((ASh.arr 345).cons ((ASh.dat (Ty.int IntKind.i64)).cons ((ASh.arr 347).cons ((ASh.arr 348).cons ((ASh.dat (Ty.int IntKind.i64)).cons ((ASh.dat Ty.bool).cons ((ASh.arr 351).cons ((ASh.dat (Ty.int IntKind.i64)).cons ((ASh.arr 353).cons ((ASh.arr 354).cons ASh.nil))))))))))))))))))), (338, CSh.arr2 49 3 (Ty.int IntKind.i64) []), (339, CSh.arr2 49 3 (Ty.int IntKind.i64) []), (340, CSh.arr 3 (Ty.int IntKind.i64)), (341, CSh.arr 3 (Ty.int IntKind.i64)), (342, CSh.arr 3 (Ty.int IntKind.i64)), (343, CSh.arr 3 (Ty.int IntKind.i64)), (347, CSh.arr 3 (Ty.int IntKind.i64)), (348, CSh.arr 3 (Ty.int IntKind.i64)), (353, CSh.arr 3 (Ty.int IntKind.i64)), (354, CSh.arr 4 Ty.bool)], keep := [0, 1, 2, 3, 7, 18, 19, 20, 29, 30], keepH := [64, 344, 345, 351, 512] }, fun _ => nn⟩ else
  bif Nat.beq n 14 then some ⟨{ env := [(48, ASh.dat (Ty.int IntKind.i64))], heap := [(368, CSh.box 94 ((ASh.dat (Ty.int IntKind.i64)).cons ((ASh.arr 338).cons ((ASh.arr 339).cons ((ASh.arr 340).cons ((ASh.arr 341).cons ((ASh.arr 342).cons ((ASh.arr 343).cons ((ASh.arr 344).cons ((ASh.arr 345).cons ((ASh.dat (Ty.int IntKind.i64)).cons ((ASh.arr 347).cons ((ASh.arr 348).cons ((ASh.dat (Ty.int IntKind.i64)).cons ((ASh.dat Ty.bool).cons ((ASh.arr 351).cons ((ASh.dat (Ty.int IntKind.i64)).cons ((ASh.arr 353).cons ((ASh.arr 354).cons ASh.nil))))))))))))))))))), (338, CSh.arr2 49 3 (Ty.int IntKind.i64) []), (339, CSh.arr2 49 3 (Ty.int IntKind.i64) []), (340, CSh.arr 3 (Ty.int IntKind.i64)), (341, CSh.arr 3 (Ty.int IntKind.i64)), (342, CSh.arr 3 (Ty.int IntKind.i64)), (343, CSh.arr 3 (Ty.int IntKind.i64)), (347, CSh.arr 3 (Ty.int IntKind.i64)), (348, CSh.arr 3 (Ty.int IntKind.i64)), (353, CSh.arr 3 (Ty.int IntKind.i64)), (354, CSh.arr 4 Ty.bool)], keep := [0, 1, 2, 3, 7, 18, 19, 20, 29, 30, 31, 46, 47], keepH := [64, 344, 345, 351, 512] }, fun _ => nn⟩ else
  none
def asked_J : Nat → Option Shape := fun n =>
  none
set_option maxRecDepth 100000 in
theorem asked_eq : ∀ (nn : Nat)  xa xo, (asked_s.prog (mkC Try.prog T_unClauses ⟨false, false⟩ (asked_L nn) asked_J) Try.f28 xa xo).run = askedF nn xa.1.1 xa.1.2.1 xa.1.2.2.1 xa.1.2.2.2.1 xa.1.2.2.2.2.1 xa.2.1.1 xa.2.1.2.1 xa.2.1.2.2.1 xa.2.1.2.2.2.1 xa.2.1.2.2.2.2.1 xa.2.1.2.2.2.2.2.1 xa.2.1.2.2.2.2.2.2.1 xa.2.1.2.2.2.2.2.2.2.1 xa.2.2.1 := by intros; kernel_rfl
noncomputable def T_asked : FuncId → Summ := addS T_unClauses 28 (asked_s.summ (fun xa xo => asked xa.1.1 xa.1.2.1 xa.1.2.2.1 xa.1.2.2.2.1 xa.1.2.2.2.2.1 xa.2.1.1 xa.2.1.2.1 xa.2.1.2.2.1 xa.2.1.2.2.2.1 xa.2.1.2.2.2.2.1 xa.2.1.2.2.2.2.2.1 xa.2.1.2.2.2.2.2.2.1 xa.2.1.2.2.2.2.2.2.2.1 xa.2.2.1))
theorem T_asked_ok : ∀ g, SummOK Try.prog g (T_asked g) := fn_ok T_unClauses_ok fol Try.func28 (by kernel_rfl) (by kernel_rfl) (by kernel_rfl) (asked_eq fuelN)

end GoSx
end
section
/- Walks: the functions compute what their models say: ReuseC. -/
set_option linter.unusedVariables false
set_option maxHeartbeats 0
set_option maxRecDepth 100000
namespace GoSx
open Go Go.Proofs
def keep1_s : FSig := ⟨.val int <| .obj 0 <| .nil, [(30, .val int <| .val (.sl pair2) <| .val (.sl pair3) <| .val (.sl latchT) <| .val (.sl outT) <| .nil)], .val .bool <| .nil, []⟩
def keep1_L : Nat → Option LoopS := fun n =>
  none
def keep1_J : Nat → Option Shape := fun n =>
  none
set_option maxRecDepth 100000 in
theorem keep1_eq : ∀  xa xo, (keep1_s.prog (mkC Try.prog T_asked ⟨false, false⟩ keep1_L keep1_J) Try.f26 xa xo).run = keep1  xa.1 xo.1.1 xo.1.2.1 xo.1.2.2.1 xo.1.2.2.2.1 xo.1.2.2.2.2.1 := by intros; kernel_rfl
noncomputable def T_keep1 : FuncId → Summ := addS T_asked 26 (keep1_s.summ (fun xa xo => keep1 xa.1 xo.1.1 xo.1.2.1 xo.1.2.2.1 xo.1.2.2.2.1 xo.1.2.2.2.2.1))
theorem T_keep1_ok : ∀ g, SummOK Try.prog g (T_keep1 g) := fn_ok T_asked_ok fol Try.func26 (by kernel_rfl) (by kernel_rfl) (by kernel_rfl) keep1_eq

def metC1_s : FSig := ⟨.val int <| .obj 0 <| .nil, [(71, .clo 26 (.obj 1 <| .nil) <| .nil), (30, .val int <| .val (.sl pair2) <| .val (.sl pair3) <| .val (.sl latchT) <| .val (.sl outT) <| .nil)], .val .bool <| .nil, []⟩
def metC1_L : Nat → Option LoopS := fun n =>
  none
def metC1_J : Nat → Option Shape := fun n =>
  none
set_option maxRecDepth 100000 in
theorem metC1_eq : ∀  xa xo, (metC1_s.prog (mkC Try.prog T_keep1 ⟨false, false⟩ metC1_L metC1_J) Try.f38 xa xo).run = metC1  xa.1 xo.2.1.1 xo.2.1.2.1 xo.2.1.2.2.1 xo.2.1.2.2.2.1 xo.2.1.2.2.2.2.1 := by intros; kernel_rfl
noncomputable def T_metC1 : FuncId → Summ := addS T_keep1 38 (metC1_s.summ (fun xa xo => metC1 xa.1 xo.2.1.1 xo.2.1.2.1 xo.2.1.2.2.1 xo.2.1.2.2.2.1 xo.2.1.2.2.2.2.1))
theorem T_metC1_ok : ∀ g, SummOK Try.prog g (T_metC1 g) := fn_ok T_keep1_ok fol Try.func38 (by kernel_rfl) (by kernel_rfl) (by kernel_rfl) metC1_eq

def IndexFunc_met1_s : FSig := ⟨.lend (.sl int) <| .clo 38 (.obj 0 <| .nil) <| .nil, [(71, .clo 26 (.obj 1 <| .nil) <| .nil), (30, .val int <| .val (.sl pair2) <| .val (.sl pair3) <| .val (.sl latchT) <| .val (.sl outT) <| .nil)], .val int <| .nil, []⟩
def IndexFunc_met1_L (nn : Nat) : Nat → Option LoopS := fun n =>
  bif Nat.beq n 2 then some ⟨{ env := [(8, ASh.dat (Ty.int IntKind.i64))], heap := [(1, CSh.box 71 ((ASh.fn 26 ((ASh.ref 2 0).cons ASh.nil)).cons ASh.nil)), (2, CSh.box 30 ((ASh.dat (Ty.int IntKind.i64)).cons ((ASh.dat ((Ty.int IntKind.i64).pair ((Ty.int IntKind.i64).pair Ty.unit)).sl).cons ((ASh.dat ((Ty.int IntKind.i64).pair ((Ty.int IntKind.i64).pair ((Ty.int IntKind.i64).pair Ty.unit))).sl).cons ((ASh.dat ((Ty.int IntKind.i64).pair ((Ty.int IntKind.i64).pair (Ty.bool.pair ((Ty.int IntKind.i64).pair ((Ty.int IntKind.i64).pair Ty.unit))))).sl).cons ((ASh.dat ((Ty.int IntKind.i64).pair ((Ty.int IntKind.i64).pair ((Ty.int IntKind.i64).pair Ty.unit))).sl).cons ASh.nil))))))], keep := [0, 1, 4, 7], keepH := [] }, fun _ => nn⟩ else
  none
def IndexFunc_met1_J : Nat → Option Shape := fun n =>
  none
set_option maxRecDepth 100000 in
theorem IndexFunc_met1_eq : ∀ (nn : Nat)  xa xo, (IndexFunc_met1_s.prog (mkC Try.prog T_metC1 ⟨false, false⟩ (IndexFunc_met1_L nn) IndexFunc_met1_J) Try.f53 xa xo).run = IndexFunc_met1F nn xa.1 xo.2.1.1 xo.2.1.2.1 xo.2.1.2.2.1 xo.2.1.2.2.2.1 xo.2.1.2.2.2.2.1 := by intros; kernel_rfl
noncomputable def T_IndexFunc_met1 : FuncId → Summ := addS T_metC1 53 (IndexFunc_met1_s.summ (fun xa xo => IndexFunc_met1 xa.1 xo.2.1.1 xo.2.1.2.1 xo.2.1.2.2.1 xo.2.1.2.2.2.1 xo.2.1.2.2.2.2.1))
theorem T_IndexFunc_met1_ok : ∀ g, SummOK Try.prog g (T_IndexFunc_met1 g) := fn_ok T_metC1_ok fol Try.func53 (by kernel_rfl) (by kernel_rfl) (by kernel_rfl) (IndexFunc_met1_eq fuelN)

def ContainsFunc_met1_s : FSig := ⟨.lend (.sl int) <| .clo 38 (.obj 0 <| .nil) <| .nil, [(71, .clo 26 (.obj 1 <| .nil) <| .nil), (30, .val int <| .val (.sl pair2) <| .val (.sl pair3) <| .val (.sl latchT) <| .val (.sl outT) <| .nil)], .val .bool <| .nil, []⟩
def ContainsFunc_met1_L : Nat → Option LoopS := fun n =>
  none
def ContainsFunc_met1_J : Nat → Option Shape := fun n =>
  none
set_option maxRecDepth 100000 in
theorem ContainsFunc_met1_eq : ∀  xa xo, (ContainsFunc_met1_s.prog (mkC Try.prog T_IndexFunc_met1 ⟨false, false⟩ ContainsFunc_met1_L ContainsFunc_met1_J) Try.f34 xa xo).run = ContainsFunc_met1  xa.1 xo.2.1.1 xo.2.1.2.1 xo.2.1.2.2.1 xo.2.1.2.2.2.1 xo.2.1.2.2.2.2.1 := by intros; kernel_rfl
noncomputable def T_ContainsFunc_met1 : FuncId → Summ := addS T_IndexFunc_met1 34 (ContainsFunc_met1_s.summ (fun xa xo => ContainsFunc_met1 xa.1 xo.2.1.1 xo.2.1.2.1 xo.2.1.2.2.1 xo.2.1.2.2.2.1 xo.2.1.2.2.2.2.1))
theorem T_ContainsFunc_met1_ok : ∀ g, SummOK Try.prog g (T_ContainsFunc_met1 g) := fn_ok T_IndexFunc_met1_ok fol Try.func34 (by kernel_rfl) (by kernel_rfl) (by kernel_rfl) ContainsFunc_met1_eq

def met1_s : FSig := ⟨.lend (.sl int) <| .clo 26 (.obj 0 <| .nil) <| .nil, [(30, .val int <| .val (.sl pair2) <| .val (.sl pair3) <| .val (.sl latchT) <| .val (.sl outT) <| .nil)], .val .bool <| .nil, []⟩
def met1_L : Nat → Option LoopS := fun n =>
  none
def met1_J : Nat → Option Shape := fun n =>
  none
set_option maxRecDepth 100000 in
theorem met1_eq : ∀  xa xo, (met1_s.prog (mkC Try.prog T_ContainsFunc_met1 ⟨false, false⟩ met1_L met1_J) Try.f25 xa xo).run = met1  xa.1 xo.1.1 xo.1.2.1 xo.1.2.2.1 xo.1.2.2.2.1 xo.1.2.2.2.2.1 := by intros; kernel_rfl
noncomputable def T_met1 : FuncId → Summ := addS T_ContainsFunc_met1 25 (met1_s.summ (fun xa xo => met1 xa.1 xo.1.1 xo.1.2.1 xo.1.2.2.1 xo.1.2.2.2.1 xo.1.2.2.2.2.1))
theorem T_met1_ok : ∀ g, SummOK Try.prog g (T_met1 g) := fn_ok T_ContainsFunc_met1_ok fol Try.func25 (by kernel_rfl) (by kernel_rfl) (by kernel_rfl) met1_eq

def keep2_s : FSig := ⟨.val int <| .obj 0 <| .obj 1 <| .nil, [(72, .lend (.ptr framesT) <| .nil), (78, .lend (.sl .bool) <| .nil)], .val .bool <| .nil, []⟩
def keep2_L : Nat → Option LoopS := fun n =>
  none
def keep2_J : Nat → Option Shape := fun n =>
  none
set_option maxRecDepth 100000 in
theorem keep2_eq : ∀  xa xo, (keep2_s.prog (mkC Try.prog T_met1 ⟨false, false⟩ keep2_L keep2_J) Try.f32 xa xo).run = keep2  xa.1 xo.1.1.1 xo.1.1.2.1 xo.1.1.2.2.1 xo.1.1.2.2.2.1 xo.1.1.2.2.2.2.1 xo.1.1.2.2.2.2.2.1 xo.1.1.2.2.2.2.2.2.1 xo.1.1.2.2.2.2.2.2.2.1 xo.2.1.1 := by intros; kernel_rfl
noncomputable def T_keep2 : FuncId → Summ := addS T_met1 32 (keep2_s.summ (fun xa xo => keep2 xa.1 xo.1.1.1 xo.1.1.2.1 xo.1.1.2.2.1 xo.1.1.2.2.2.1 xo.1.1.2.2.2.2.1 xo.1.1.2.2.2.2.2.1 xo.1.1.2.2.2.2.2.2.1 xo.1.1.2.2.2.2.2.2.2.1 xo.2.1.1))
theorem T_keep2_ok : ∀ g, SummOK Try.prog g (T_keep2 g) := fn_ok T_met1_ok fol Try.func32 (by kernel_rfl) (by kernel_rfl) (by kernel_rfl) keep2_eq

def metC2_s : FSig := ⟨.val int <| .obj 0 <| .nil, [(71, .clo 32 (.obj 1 <| .obj 2 <| .nil) <| .nil), (72, .lend (.ptr framesT) <| .nil), (78, .lend (.sl .bool) <| .nil)], .val .bool <| .nil, []⟩
def metC2_L : Nat → Option LoopS := fun n =>
  none
def metC2_J : Nat → Option Shape := fun n =>
  none
set_option maxRecDepth 100000 in
theorem metC2_eq : ∀  xa xo, (metC2_s.prog (mkC Try.prog T_keep2 ⟨false, false⟩ metC2_L metC2_J) Try.f38 xa xo).run = metC2  xa.1 xo.2.1.1.1 xo.2.1.1.2.1 xo.2.1.1.2.2.1 xo.2.1.1.2.2.2.1 xo.2.1.1.2.2.2.2.1 xo.2.1.1.2.2.2.2.2.1 xo.2.1.1.2.2.2.2.2.2.1 xo.2.1.1.2.2.2.2.2.2.2.1 xo.2.2.1.1 := by intros; kernel_rfl
noncomputable def T_metC2 : FuncId → Summ := addS T_keep2 38 (metC2_s.summ (fun xa xo => metC2 xa.1 xo.2.1.1.1 xo.2.1.1.2.1 xo.2.1.1.2.2.1 xo.2.1.1.2.2.2.1 xo.2.1.1.2.2.2.2.1 xo.2.1.1.2.2.2.2.2.1 xo.2.1.1.2.2.2.2.2.2.1 xo.2.1.1.2.2.2.2.2.2.2.1 xo.2.2.1.1))
theorem T_metC2_ok : ∀ g, SummOK Try.prog g (T_metC2 g) := fn_ok T_keep2_ok fol Try.func38 (by kernel_rfl) (by kernel_rfl) (by kernel_rfl) metC2_eq

def IndexFunc_met2_s : FSig := ⟨.lend (.sl int) <| .clo 38 (.obj 0 <| .nil) <| .nil, [(71, .clo 32 (.obj 1 <| .obj 2 <| .nil) <| .nil), (72, .lend (.ptr framesT) <| .nil), (78, .lend (.sl .bool) <| .nil)], .val int <| .nil, []⟩
def IndexFunc_met2_L (nn : Nat) : Nat → Option LoopS := fun n =>
  bif Nat.beq n 2 then some ⟨{ env := [(8, ASh.dat (Ty.int IntKind.i64))], heap := [(1, CSh.box 71 ((ASh.fn 32 ((ASh.ref 2 0).cons ((ASh.ref 3 0).cons ASh.nil))).cons ASh.nil)), (2, CSh.box 72 ((ASh.idn 20 ((Ty.int IntKind.i64).pair (((Ty.int IntKind.i64).pair ((Ty.int IntKind.i64).pair Ty.unit)).sl.pair (((Ty.int IntKind.i64).pair ((Ty.int IntKind.i64).pair ((Ty.int IntKind.i64).pair Ty.unit))).sl.pair (((Ty.int IntKind.i64).pair ((Ty.int IntKind.i64).pair (Ty.bool.pair ((Ty.int IntKind.i64).pair ((Ty.int IntKind.i64).pair Ty.unit))))).sl.pair (((Ty.int IntKind.i64).pair ((Ty.int IntKind.i64).pair ((Ty.int IntKind.i64).pair Ty.unit))).sl.pair ((Ty.int IntKind.i64).pair (Ty.bool.pair ((Ty.int IntKind.i64).pair Ty.unit)))))))).ptr).cons ASh.nil)), (3, CSh.box 78 ((ASh.idn 21 Ty.bool.sl).cons ASh.nil))], keep := [0, 1, 4, 7], keepH := [] }, fun _ => nn⟩ else
  none
def IndexFunc_met2_J : Nat → Option Shape := fun n =>
  none
set_option maxRecDepth 100000 in
theorem IndexFunc_met2_eq : ∀ (nn : Nat)  xa xo, (IndexFunc_met2_s.prog (mkC Try.prog T_metC2 ⟨false, false⟩ (IndexFunc_met2_L nn) IndexFunc_met2_J) Try.f53 xa xo).run = IndexFunc_met2F nn xa.1 xo.2.1.1.1 xo.2.1.1.2.1 xo.2.1.1.2.2.1 xo.2.1.1.2.2.2.1 xo.2.1.1.2.2.2.2.1 xo.2.1.1.2.2.2.2.2.1 xo.2.1.1.2.2.2.2.2.2.1 xo.2.1.1.2.2.2.2.2.2.2.1 xo.2.2.1.1 := by intros; kernel_rfl
noncomputable def T_IndexFunc_met2 : FuncId → Summ := addS T_metC2 53 (IndexFunc_met2_s.summ (fun xa xo => IndexFunc_met2 xa.1 xo.2.1.1.1 xo.2.1.1.2.1 xo.2.1.1.2.2.1 xo.2.1.1.2.2.2.1 xo.2.1.1.2.2.2.2.1 xo.2.1.1.2.2.2.2.2.1 xo.2.1.1.2.2.2.2.2.2.1 xo.2.1.1.2.2.2.2.2.2.2.1 xo.2.2.1.1))
theorem T_IndexFunc_met2_ok : ∀ g, SummOK Try.prog g (T_IndexFunc_met2 g) := fn_ok T_metC2_ok fol Try.func53 (by kernel_rfl) (by kernel_rfl) (by kernel_rfl) (IndexFunc_met2_eq fuelN)

def ContainsFunc_met2_s : FSig := ⟨.lend (.sl int) <| .clo 38 (.obj 0 <| .nil) <| .nil, [(71, .clo 32 (.obj 1 <| .obj 2 <| .nil) <| .nil), (72, .lend (.ptr framesT) <| .nil), (78, .lend (.sl .bool) <| .nil)], .val .bool <| .nil, []⟩
def ContainsFunc_met2_L : Nat → Option LoopS := fun n =>
  none
def ContainsFunc_met2_J : Nat → Option Shape := fun n =>
  none
set_option maxRecDepth 100000 in
theorem ContainsFunc_met2_eq : ∀  xa xo, (ContainsFunc_met2_s.prog (mkC Try.prog T_IndexFunc_met2 ⟨false, false⟩ ContainsFunc_met2_L ContainsFunc_met2_J) Try.f34 xa xo).run = ContainsFunc_met2  xa.1 xo.2.1.1.1 xo.2.1.1.2.1 xo.2.1.1.2.2.1 xo.2.1.1.2.2.2.1 xo.2.1.1.2.2.2.2.1 xo.2.1.1.2.2.2.2.2.1 xo.2.1.1.2.2.2.2.2.2.1 xo.2.1.1.2.2.2.2.2.2.2.1 xo.2.2.1.1 := by intros; kernel_rfl
noncomputable def T_ContainsFunc_met2 : FuncId → Summ := addS T_IndexFunc_met2 34 (ContainsFunc_met2_s.summ (fun xa xo => ContainsFunc_met2 xa.1 xo.2.1.1.1 xo.2.1.1.2.1 xo.2.1.1.2.2.1 xo.2.1.1.2.2.2.1 xo.2.1.1.2.2.2.2.1 xo.2.1.1.2.2.2.2.2.1 xo.2.1.1.2.2.2.2.2.2.1 xo.2.1.1.2.2.2.2.2.2.2.1 xo.2.2.1.1))
theorem T_ContainsFunc_met2_ok : ∀ g, SummOK Try.prog g (T_ContainsFunc_met2 g) := fn_ok T_IndexFunc_met2_ok fol Try.func34 (by kernel_rfl) (by kernel_rfl) (by kernel_rfl) ContainsFunc_met2_eq

def met2_s : FSig := ⟨.lend (.sl int) <| .clo 32 (.obj 0 <| .obj 1 <| .nil) <| .nil, [(72, .lend (.ptr framesT) <| .nil), (78, .lend (.sl .bool) <| .nil)], .val .bool <| .nil, []⟩
def met2_L : Nat → Option LoopS := fun n =>
  none
def met2_J : Nat → Option Shape := fun n =>
  none
set_option maxRecDepth 100000 in
theorem met2_eq : ∀  xa xo, (met2_s.prog (mkC Try.prog T_ContainsFunc_met2 ⟨false, false⟩ met2_L met2_J) Try.f25 xa xo).run = met2  xa.1 xo.1.1.1 xo.1.1.2.1 xo.1.1.2.2.1 xo.1.1.2.2.2.1 xo.1.1.2.2.2.2.1 xo.1.1.2.2.2.2.2.1 xo.1.1.2.2.2.2.2.2.1 xo.1.1.2.2.2.2.2.2.2.1 xo.2.1.1 := by intros; kernel_rfl
noncomputable def T_met2 : FuncId → Summ := addS T_ContainsFunc_met2 25 (met2_s.summ (fun xa xo => met2 xa.1 xo.1.1.1 xo.1.1.2.1 xo.1.1.2.2.1 xo.1.1.2.2.2.1 xo.1.1.2.2.2.2.1 xo.1.1.2.2.2.2.2.1 xo.1.1.2.2.2.2.2.2.1 xo.1.1.2.2.2.2.2.2.2.1 xo.2.1.1))
theorem T_met2_ok : ∀ g, SummOK Try.prog g (T_met2 g) := fn_ok T_ContainsFunc_met2_ok fol Try.func25 (by kernel_rfl) (by kernel_rfl) (by kernel_rfl) met2_eq

noncomputable def T_metAlt : FuncId → Summ := addS T_met2 25 (altS 26 (met1_s.summ (fun xa xo => met1 xa.1 xo.1.1 xo.1.2.1 xo.1.2.2.1 xo.1.2.2.2.1 xo.1.2.2.2.2.1)) (met2_s.summ (fun xa xo => met2 xa.1 xo.1.1.1 xo.1.1.2.1 xo.1.1.2.2.1 xo.1.1.2.2.2.1 xo.1.1.2.2.2.2.1 xo.1.1.2.2.2.2.2.1 xo.1.1.2.2.2.2.2.2.1 xo.1.1.2.2.2.2.2.2.2.1 xo.2.1.1)))
theorem T_metAlt_ok : ∀ g, SummOK Try.prog g (T_metAlt g) := addS_ok T_met2_ok (altS_ok (summ_at T_met1_ok 25 (S := (met1_s.summ (fun xa xo => met1 xa.1 xo.1.1 xo.1.2.1 xo.1.2.2.1 xo.1.2.2.2.1 xo.1.2.2.2.2.1))) (by kernel_rfl)) (summ_at T_met2_ok 25 (S := (met2_s.summ (fun xa xo => met2 xa.1 xo.1.1.1 xo.1.1.2.1 xo.1.1.2.2.1 xo.1.1.2.2.2.1 xo.1.1.2.2.2.2.1 xo.1.1.2.2.2.2.2.1 xo.1.1.2.2.2.2.2.2.1 xo.1.1.2.2.2.2.2.2.2.1 xo.2.1.1))) (by kernel_rfl)))

def rKeep_s : FSig := ⟨.agg (.val int <| .val (.sl pair2) <| .val (.sl pair3) <| .val (.sl latchT) <| .val (.sl outT) <| .nil) <| .val (.sl (.sl int)) <| .nil, [], .val (.sl (.sl int)) <| .nil, []⟩
def rKeep_L (nn : Nat) : Nat → Option LoopS := fun n =>
  bif Nat.beq n 3 then some ⟨{ env := [(5, ASh.arr 49), (22, ASh.dat (Ty.int IntKind.i64))], heap := [(64, CSh.box 30 ((ASh.dat (Ty.int IntKind.i64)).cons ((ASh.dat ((Ty.int IntKind.i64).pair ((Ty.int IntKind.i64).pair Ty.unit)).sl).cons ((ASh.dat ((Ty.int IntKind.i64).pair ((Ty.int IntKind.i64).pair ((Ty.int IntKind.i64).pair Ty.unit))).sl).cons ((ASh.dat ((Ty.int IntKind.i64).pair ((Ty.int IntKind.i64).pair (Ty.bool.pair ((Ty.int IntKind.i64).pair ((Ty.int IntKind.i64).pair Ty.unit))))).sl).cons ((ASh.dat ((Ty.int IntKind.i64).pair ((Ty.int IntKind.i64).pair ((Ty.int IntKind.i64).pair Ty.unit))).sl).cons ASh.nil)))))), (49, CSh.arr 49 (Ty.int IntKind.i64).sl)], keep := [0, 1, 2, 4, 20, 21], keepH := [] }, fun _ => nn⟩ else
  bif Nat.beq n 9 then some ⟨{ env := [(5, ASh.arr 49)], heap := [(49, CSh.arr 49 (Ty.int IntKind.i64).sl), (49, CSh.arr 49 (Ty.int IntKind.i64).sl), (640, CSh.box 72 ((ASh.dat ((Ty.int IntKind.i64).pair (((Ty.int IntKind.i64).pair ((Ty.int IntKind.i64).pair Ty.unit)).sl.pair (((Ty.int IntKind.i64).pair ((Ty.int IntKind.i64).pair ((Ty.int IntKind.i64).pair Ty.unit))).sl.pair (((Ty.int IntKind.i64).pair ((Ty.int IntKind.i64).pair (Ty.bool.pair ((Ty.int IntKind.i64).pair ((Ty.int IntKind.i64).pair Ty.unit))))).sl.pair (((Ty.int IntKind.i64).pair ((Ty.int IntKind.i64).pair ((Ty.int IntKind.i64).pair Ty.unit))).sl.pair ((Ty.int IntKind.i64).pair (Ty.bool.pair ((Ty.int IntKind.i64).pair Ty.unit)))))))).ptr).cons ASh.nil))], keep := [0, 1, 2, 4, 8, 20, 21, 22], keepH := [64] }, fun _ => nn⟩ else
  bif Nat.beq n 11 then some ⟨{ env := [(47, ASh.dat (Ty.int IntKind.i64))], heap := [(1008, CSh.box 94 ((ASh.dat (Ty.int IntKind.i64)).cons ((ASh.arr 984).cons ((ASh.arr 985).cons ((ASh.arr 986).cons ((ASh.arr 987).cons ((ASh.arr 988).cons ((ASh.arr 989).cons ((ASh.arr 990).cons ((ASh.arr 991).cons ((ASh.dat (Ty.int IntKind.i64)).cons ((ASh.arr 993).cons ((ASh.arr 994).cons ((ASh.dat (Ty.int IntKind.i64)).cons ((ASh.dat Ty.bool).cons ((ASh.arr 997).cons ((ASh.dat (Ty.int IntKind.i64)).cons ((ASh.arr 999).cons ((ASh.arr 1000).cons ASh.nil))))))))))))))))))), (984, CSh.arr2 49 3 (Ty.int IntKind.i64) []), (985, CSh.arr2 49 3 (Ty.int IntKind.i64) []), (986, CSh.arr 3 (Ty.int IntKind.i64)), (987, CSh.arr 3 (Ty.int IntKind.i64)), (988, CSh.arr 3 (Ty.int IntKind.i64)), (989, CSh.arr 3 (Ty.int IntKind.i64)), (990, CSh.arr 3 (Ty.int IntKind.i64)), (991, CSh.arr 3 (Ty.int IntKind.i64)), (993, CSh.arr 3 (Ty.int IntKind.i64)), (994, CSh.arr 3 (Ty.int IntKind.i64)), (997, CSh.arr 49 (Ty.int IntKind.i64).sl), (999, CSh.arr 3 (Ty.int IntKind.i64)), (1000, CSh.arr 4 Ty.bool)], keep := [0, 1, 2, 4, 5, 8, 9, 20, 21, 22, 45, 46], keepH := [64, 49, 640] }, fun _ => nn⟩ else
  bif Nat.beq n 15 then some ⟨{ env := [(12, ASh.arr 54), (55, ASh.dat (Ty.int IntKind.i64))], heap := [(54, CSh.arr 3 (Ty.int IntKind.i64))], keep := [0, 1, 2, 4, 5, 8, 9, 11, 20, 21, 22, 45, 46, 47, 53, 54], keepH := [64, 49, 640, 1008, 984, 985, 986, 987, 988, 989, 990, 991, 993, 994, 997, 999, 1000, 1728] }, fun _ => nn⟩ else
  bif Nat.beq n 24 then some ⟨{ env := [(17, ASh.arr 55), (74, ASh.dat (Ty.int IntKind.i64))], heap := [(640, CSh.box 72 ((ASh.dat ((Ty.int IntKind.i64).pair (((Ty.int IntKind.i64).pair ((Ty.int IntKind.i64).pair Ty.unit)).sl.pair (((Ty.int IntKind.i64).pair ((Ty.int IntKind.i64).pair ((Ty.int IntKind.i64).pair Ty.unit))).sl.pair (((Ty.int IntKind.i64).pair ((Ty.int IntKind.i64).pair (Ty.bool.pair ((Ty.int IntKind.i64).pair ((Ty.int IntKind.i64).pair Ty.unit))))).sl.pair (((Ty.int IntKind.i64).pair ((Ty.int IntKind.i64).pair ((Ty.int IntKind.i64).pair Ty.unit))).sl.pair ((Ty.int IntKind.i64).pair (Ty.bool.pair ((Ty.int IntKind.i64).pair Ty.unit)))))))).ptr).cons ASh.nil)), (2368, CSh.box 78 ((ASh.arr 2304).cons ASh.nil)), (55, CSh.arr 49 (Ty.int IntKind.i64).sl)], keep := [0, 1, 2, 4, 5, 8, 9, 11, 12, 15, 16, 20, 21, 22, 45, 46, 47, 53, 54, 55, 72, 73], keepH := [64, 49, 1008, 2132, 2133, 2134, 2135, 2136, 2137, 2138, 2139, 2141, 2142, 2145, 2147, 2148, 54, 2304, 1728] }, fun _ => nn⟩ else
  none
def rKeep_J : Nat → Option Shape := fun n =>
  none
set_option maxRecDepth 100000 in
theorem rKeep_eq : ∀ (nn : Nat)  xa xo, (rKeep_s.prog (mkC Try.prog T_metAlt ⟨false, false⟩ (rKeep_L nn) rKeep_J) Try.f15 xa xo).run = rKeepF nn xa.1.1 xa.1.2.1 xa.1.2.2.1 xa.1.2.2.2.1 xa.1.2.2.2.2.1 xa.2.1 := by intros; kernel_rfl
noncomputable def T_rKeep : FuncId → Summ := addS T_metAlt 15 (rKeep_s.summ (fun xa xo => rKeep xa.1.1 xa.1.2.1 xa.1.2.2.1 xa.1.2.2.2.1 xa.1.2.2.2.2.1 xa.2.1))
theorem T_rKeep_ok : ∀ g, SummOK Try.prog g (T_rKeep g) := fn_ok T_metAlt_ok fol Try.func15 (by kernel_rfl) (by kernel_rfl) (by kernel_rfl) (rKeep_eq fuelN)

end GoSx
end
