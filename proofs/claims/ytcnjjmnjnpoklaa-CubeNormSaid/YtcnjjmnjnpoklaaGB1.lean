/- The texts MSatA, MSatB, MSatC, MSatD, MCubeA, MCubeB, MCubeC, MCubeD, MCubeE, WSatA, WSatB, WSatC, WSatD, WCubeA, WCubeB, WCubeC, WCubeD, WCubeE, one behind the other. -/
import Derived.Test.YtcnjjmnjnpoklaaGA3
import Derived.Test.YtcnjjmnjnpoklaaProg
set_option linter.unusedVariables false
set_option linter.unusedSimpArgs false
section
/- Models of functions: what they compute, if all goes well: SatA. -/
namespace GoSx
open Go
def size (x : Int) : Option ((Int × Unit) × Unit × Unit) :=
  gd (inK IntKind.i64 (0 - x)) <|
  some ((max2 x (0 - x), ()), (), ())

def at_ (x : Int) : Option ((Int × Unit) × Unit × Unit) :=
  bif decide (x < 0) then
    gd (inK IntKind.i64 (-2 * x)) <|
    gd (inK IntKind.i64 (-2 * x + 1)) <|
    some ((-2 * x + 1, ()), (), ())
  else
    gd (inK IntKind.i64 (2 * x)) <|
    some ((2 * x, ()), (), ())

def value (x : Int) (is : List Int) : Option ((Int × Unit) × ((List Int × Unit) × Unit) × Unit) :=
  bif decide (x < 0) then
    gd (inK IntKind.i64 (0 - x)) <|
    gd (0 ≤ 0 - x) <|
    gd (0 - x < nI is.length) <|
    gd (inK IntKind.i64 (0 - getI is (0 - x))) <|
    some ((0 - getI is (0 - x), ()), ((is, ()), ()), ())
  else
    gd (0 ≤ x) <|
    gd (x < nI is.length) <|
    some ((getI is x, ()), ((is, ()), ()), ())

def set_ (x : Int) (y : Int) (is : List Int) (depth : List Int) (why : List Int) (row : List Int) (begin : List Int) : Option (Unit × ((List Int × List Int × List Int × List Int × List Int × Unit) × Unit) × Unit) :=
  bindO (size x) fun y0 =>
  gd (0 ≤ y0.1.1) <|
  gd (y0.1.1 < nI is.length) <|
  bif decide (x < 0) then
    gd (0 ≤ y0.1.1) <|
    gd (y0.1.1 < nI (is.set y0.1.1.toNat 1).length) <|
    gd (0 ≤ y0.1.1) <|
    gd (y0.1.1 < nI depth.length) <|
    gd (0 ≤ y0.1.1) <|
    gd (y0.1.1 < nI why.length) <|
    gd ((row.length + [x].length) * 8 ≤ lim) <|
    gd (row.length + [x].length ≤ lim) <|
    some ((), (((is.set y0.1.1.toNat 1).set y0.1.1.toNat (-1), depth.set y0.1.1.toNat (nI begin.length), why.set y0.1.1.toNat y, row ++ [x], begin, ()), ()), ())
  else
    gd (0 ≤ y0.1.1) <|
    gd (y0.1.1 < nI depth.length) <|
    gd (0 ≤ y0.1.1) <|
    gd (y0.1.1 < nI why.length) <|
    gd ((row.length + [x].length) * 8 ≤ lim) <|
    gd (row.length + [x].length ≤ lim) <|
    some ((), ((is.set y0.1.1.toNat 1, depth.set y0.1.1.toNat (nI begin.length), why.set y0.1.1.toNat y, row ++ [x], begin, ()), ()), ())

def backF (nn : Nat)  (level : Int) (is : List Int) (old : List Int) (cold : Int) (row : List Int) (begin : List Int) (done : Int) : Option (Unit × ((List Int × List Int × Int × List Int × List Int × Int × Unit) × Unit) × Unit) :=
  bif decide (level ≥ nI begin.length) then
    some ((), ((is, old, cold, row, begin, done, ()), ()), ())
  else
    gd (0 ≤ level) <|
    gd (level < nI begin.length) <|
    gd (0 ≤ getI begin level) <|
    gd (getI begin level ≤ nI row.length) <|
    gd (nI row.length ≤ nI row.length) <|
    gd (nI row.length - getI begin level ≤ nI lim) <|
    iterO (X := Int × (Int × Int) × List Int × List Int) (fun y0 =>
      bif decide (y0.1 < nI row.length - getI begin level) then
        gd (0 ≤ y0.1) <|
        gd (y0.1 < nI row.length - getI begin level) <|
        bindO (size (getI row (getI begin level + y0.1))) fun y1 =>
        gd (0 ≤ y1.1.1) <|
        gd (y1.1.1 < nI y0.2.2.1.length) <|
        gd (0 ≤ y1.1.1) <|
        gd (y1.1.1 < nI y0.2.2.2.length) <|
        gd (0 ≤ y1.1.1) <|
        gd (y1.1.1 < nI y0.2.2.1.length) <|
        gd (inK IntKind.i64 (y0.1 + 1)) <|
        some (Sum.inl (y0.1 + 1, (min2 y0.2.1.1 y1.1.1, y0.2.1.2), y0.2.2.1.set y1.1.1.toNat 0, y0.2.2.2.set y1.1.1.toNat (getI y0.2.2.1 y1.1.1)))
      else
        gd (0 ≤ getI begin level) <|
        gd (getI begin level ≤ nI row.length) <|
        gd (0 ≤ level) <|
        gd (level ≤ nI begin.length) <|
        some (Sum.inr ((), ((y0.2.2.1, y0.2.2.2, y0.2.1.1, List.take (Int.toNat (getI begin level)) row, List.take level.toNat begin, getI begin level, ()), ()), ()))) (nn) (0, (cold, done), is, old)

def back (level : Int) (is : List Int) (old : List Int) (cold : Int) (row : List Int) (begin : List Int) (done : Int) : Option (Unit × ((List Int × List Int × Int × List Int × List Int × Int × Unit) × Unit) × Unit) := backF fuelN level is old cold row begin done

def keep (c : List Int) (all : List (List Int)) (ix : Int) (watch : List (List Int)) : Option ((Int × Unit) × ((List (List Int) × Int × List (List Int) × Unit) × Unit) × Unit) :=
  gd ((all.length + 1) * 24 ≤ lim) <|
  gd (all.length + 1 ≤ lim) <|
  gd (inK IntKind.i64 (nI (all ++ [c]).length - 1)) <|
  gd (0 < nI c.length) <|
  bindO (at_ (getI c 0)) fun y0 =>
  gd (0 < nI c.length) <|
  bindO (at_ (getI c 0)) fun y1 =>
  gd (0 ≤ y1.1.1) <|
  gd (y1.1.1 < nI watch.length) <|
  gd ((List.length (getL watch y1.1.1) + [nI (all ++ [c]).length - 1].length) * 8 ≤ lim) <|
  gd (List.length (getL watch y1.1.1) + [nI (all ++ [c]).length - 1].length ≤ lim) <|
  gd (0 ≤ y0.1.1) <|
  gd (y0.1.1 < nI watch.length) <|
  gd (y1.1.1 = y0.1.1) <|
  gd (1 < nI c.length) <|
  bindO (at_ (getI c 1)) fun y2 =>
  gd (1 < nI c.length) <|
  bindO (at_ (getI c 1)) fun y3 =>
  gd (0 ≤ y3.1.1) <|
  gd (y3.1.1 < nI (watch.set y0.1.1.toNat (getL watch y1.1.1 ++ [nI (all ++ [c]).length - 1])).length) <|
  gd ((List.length (getL (watch.set y0.1.1.toNat (getL watch y1.1.1 ++ [nI (all ++ [c]).length - 1])) y3.1.1) + [nI (all ++ [c]).length - 1].length) * 8 ≤ lim) <|
  gd (List.length (getL (watch.set y0.1.1.toNat (getL watch y1.1.1 ++ [nI (all ++ [c]).length - 1])) y3.1.1) + [nI (all ++ [c]).length - 1].length ≤ lim) <|
  gd (0 ≤ y2.1.1) <|
  gd (y2.1.1 < nI (watch.set y0.1.1.toNat (getL watch y1.1.1 ++ [nI (all ++ [c]).length - 1])).length) <|
  gd (y3.1.1 = y2.1.1) <|
  some ((nI (all ++ [c]).length - 1, ()), ((all ++ [c], nI all.length, (watch.set y0.1.1.toNat (getL watch y1.1.1 ++ [nI (all ++ [c]).length - 1])).set y2.1.1.toNat (getL (watch.set y0.1.1.toNat (getL watch y1.1.1 ++ [nI (all ++ [c]).length - 1])) y3.1.1 ++ [nI (all ++ [c]).length - 1]), ()), ()), ())

end GoSx
end
section
/- Models of functions: what they compute, if all goes well: SatB. -/
namespace GoSx
open Go
def forget (answer : Int) (core : List Int) (model : List Bool) : Option (Unit × ((Int × List Int × List Bool × Unit) × Unit) × Unit) :=
  some ((), ((0, [], [], ()), ()), ())

def ownC (x : Int) (vars : Int) : Option ((Bool × Unit) × (Unit × (Int × Unit) × Unit) × Unit) :=
  bif x == 0 then
    some ((true, ()), ((), (vars, ()), ()), ())
  else
    gd (inK IntKind.i64 (0 - vars)) <|
    bif bif false then true else decide (x < 0 - vars) then
      some ((true, ()), ((), (vars, ()), ()), ())
    else
      some ((bif false then true else decide (x > vars), ()), ((), (vars, ()), ()), ())

def IndexFunc_ownF (nn : Nat)  (s : List Int) (vars : Int) : Option ((Int × Unit) × (Unit × (Int × Unit) × Unit) × Unit) :=
  iterO (X := Int × Int) (fun y0 =>
    bif decide (y0.1 < nI s.length) then
      gd (0 ≤ y0.1) <|
      gd (y0.1 < nI s.length) <|
      bindO (ownC (getI s y0.1) y0.2) fun y1 =>
      bif y1.1.1 then
        some (Sum.inr ((y0.1, ()), ((), (y1.2.1.2.1.1, ()), ()), ()))
      else
        gd (inK IntKind.i64 (y0.1 + 1)) <|
        some (Sum.inl (y0.1 + 1, y1.2.1.2.1.1))
    else
      some (Sum.inr ((-1, ()), ((), (y0.2, ()), ()), ()))) (nn) (0, vars)

def IndexFunc_own (s : List Int) (vars : Int) : Option ((Int × Unit) × (Unit × (Int × Unit) × Unit) × Unit) := IndexFunc_ownF fuelN s vars

def ContainsFunc_own (s : List Int) (vars : Int) : Option ((Bool × Unit) × (Unit × (Int × Unit) × Unit) × Unit) :=
  bindO (IndexFunc_own s vars) fun y0 =>
  some ((decide (y0.1.1 ≥ 0), ()), ((), (y0.2.1.2.1.1, ()), ()), ())

def own (l : List Int) (vars : Int) : Option ((Bool × Unit) × ((Int × Unit) × Unit) × Unit) :=
  bindO (ContainsFunc_own l vars) fun y0 =>
  some ((!y0.1.1, ()), ((y0.2.1.2.1.1, ()), ()), ())

def Index_F (nn : Nat)  (s : List Int) (v : Int) : Option ((Int × Unit) × Unit × Unit) :=
  iterO (X := Int) (fun y0 =>
    bif decide (y0 < nI s.length) then
      gd (0 ≤ y0) <|
      gd (y0 < nI s.length) <|
      bif v == getI s y0 then
        some (Sum.inr ((y0, ()), (), ()))
      else
        gd (inK IntKind.i64 (y0 + 1)) <|
        some (Sum.inl (y0 + 1))
    else
      some (Sum.inr ((-1, ()), (), ()))) (nn) 0

def Index_ (s : List Int) (v : Int) : Option ((Int × Unit) × Unit × Unit) := Index_F fuelN s v

def Contains_ (s : List Int) (v : Int) : Option ((Bool × Unit) × Unit × Unit) :=
  bindO (Index_ s v) fun y0 =>
  some ((decide (y0.1.1 ≥ 0), ()), (), ())

def pickF (nn : Nat)  (vars : Int) (is : List Int) (old : List Int) (hot : List Int) (warm : List Int) (cold : Int) : Option ((Int × Unit) × ((Int × List Int × List Int × List Int × List Int × Int × Unit) × Unit) × Unit) :=
  iterO (X := Int × Int) (fun y0 =>
    bif decide (y0.2 < nI warm.length) then
      gd (0 ≤ y0.2) <|
      gd (y0.2 < nI warm.length) <|
      gd (0 ≤ getI warm y0.2) <|
      gd (getI warm y0.2 < nI is.length) <|
      bif getI is (getI warm y0.2) == 0 then
        bif y0.1 == 0 then
          gd (inK IntKind.i64 (y0.2 + 1)) <|
          some (Sum.inl (getI warm y0.2, y0.2 + 1))
        else
          gd (0 ≤ getI warm y0.2) <|
          gd (getI warm y0.2 < nI hot.length) <|
          gd (0 ≤ y0.1) <|
          gd (y0.1 < nI hot.length) <|
          bif bif false then true else decide (getI hot (getI warm y0.2) > getI hot y0.1) then
            gd (inK IntKind.i64 (y0.2 + 1)) <|
            some (Sum.inl (getI warm y0.2, y0.2 + 1))
          else
            gd (0 ≤ getI warm y0.2) <|
            gd (getI warm y0.2 < nI hot.length) <|
            gd (0 ≤ y0.1) <|
            gd (y0.1 < nI hot.length) <|
            bif getI hot (getI warm y0.2) == getI hot y0.1 then
              bif bif true then bif false then true else bif true then decide (getI warm y0.2 < y0.1) else false else false then
                gd (inK IntKind.i64 (y0.2 + 1)) <|
                some (Sum.inl (getI warm y0.2, y0.2 + 1))
              else
                gd (inK IntKind.i64 (y0.2 + 1)) <|
                some (Sum.inl (y0.1, y0.2 + 1))
            else
              gd (inK IntKind.i64 (y0.2 + 1)) <|
              some (Sum.inl (y0.1, y0.2 + 1))
      else
        gd (inK IntKind.i64 (y0.2 + 1)) <|
        some (Sum.inl (y0.1, y0.2 + 1))
    else
      iterO (X := Int × Int × List Int × List Int × List Int × List Int × Int) (fun y1 =>
        bif y1.1 == 0 then
          bif bif true then decide (y1.2.2.2.2.2.2 ≤ y1.2.1) else false then
            gd (0 ≤ y1.2.2.2.2.2.2) <|
            gd (y1.2.2.2.2.2.2 < nI y1.2.2.1.length) <|
            bif getI y1.2.2.1 y1.2.2.2.2.2.2 == 0 then
              gd (0 ≤ y1.2.2.2.2.2.2) <|
              gd (y1.2.2.2.2.2.2 < nI y1.2.2.2.2.1.length) <|
              bif bif true then getI y1.2.2.2.2.1 y1.2.2.2.2.2.2 == 0 else false then
                gd (inK IntKind.i64 (y1.2.2.2.2.2.2 + 1)) <|
                some (Sum.inl (y1.2.2.2.2.2.2, y1.2.1, y1.2.2.1, y1.2.2.2.1, y1.2.2.2.2.1, y1.2.2.2.2.2.1, y1.2.2.2.2.2.2 + 1))
              else
                gd (inK IntKind.i64 (y1.2.2.2.2.2.2 + 1)) <|
                some (Sum.inl (y1.1, y1.2.1, y1.2.2.1, y1.2.2.2.1, y1.2.2.2.2.1, y1.2.2.2.2.2.1, y1.2.2.2.2.2.2 + 1))
            else
              gd (inK IntKind.i64 (y1.2.2.2.2.2.2 + 1)) <|
              some (Sum.inl (y1.1, y1.2.1, y1.2.2.1, y1.2.2.2.1, y1.2.2.2.2.1, y1.2.2.2.2.2.1, y1.2.2.2.2.2.2 + 1))
          else
            bif decide (y1.1 > 0) then
              gd (0 ≤ y1.1) <|
              gd (y1.1 < nI y1.2.2.2.1.length) <|
              bif bif true then getI y1.2.2.2.1 y1.1 == 1 else false then
                some (Sum.inr (Sum.inr ((y1.1, ()), ((y1.2.1, y1.2.2.1, y1.2.2.2.1, y1.2.2.2.2.1, y1.2.2.2.2.2.1, y1.2.2.2.2.2.2, ()), ()), ())))
              else
                gd (inK IntKind.i64 (0 - y1.1)) <|
                some (Sum.inr (Sum.inr ((0 - y1.1, ()), ((y1.2.1, y1.2.2.1, y1.2.2.2.1, y1.2.2.2.2.1, y1.2.2.2.2.2.1, y1.2.2.2.2.2.2, ()), ()), ())))
            else
              gd (inK IntKind.i64 (0 - y1.1)) <|
              some (Sum.inr (Sum.inr ((0 - y1.1, ()), ((y1.2.1, y1.2.2.1, y1.2.2.2.1, y1.2.2.2.2.1, y1.2.2.2.2.2.1, y1.2.2.2.2.2.2, ()), ()), ())))
        else
          bif decide (y1.1 > 0) then
            gd (0 ≤ y1.1) <|
            gd (y1.1 < nI y1.2.2.2.1.length) <|
            bif bif true then getI y1.2.2.2.1 y1.1 == 1 else false then
              some (Sum.inr (Sum.inr ((y1.1, ()), ((y1.2.1, y1.2.2.1, y1.2.2.2.1, y1.2.2.2.2.1, y1.2.2.2.2.2.1, y1.2.2.2.2.2.2, ()), ()), ())))
            else
              gd (inK IntKind.i64 (0 - y1.1)) <|
              some (Sum.inr (Sum.inr ((0 - y1.1, ()), ((y1.2.1, y1.2.2.1, y1.2.2.2.1, y1.2.2.2.2.1, y1.2.2.2.2.2.1, y1.2.2.2.2.2.2, ()), ()), ())))
          else
            gd (inK IntKind.i64 (0 - y1.1)) <|
            some (Sum.inr (Sum.inr ((0 - y1.1, ()), ((y1.2.1, y1.2.2.1, y1.2.2.2.1, y1.2.2.2.2.1, y1.2.2.2.2.2.1, y1.2.2.2.2.2.2, ()), ()), ())))) (nn) (y0.1, vars, is, old, hot, warm, cold)) (nn) (0, 0)

def pick (vars : Int) (is : List Int) (old : List Int) (hot : List Int) (warm : List Int) (cold : Int) : Option ((Int × Unit) × ((Int × List Int × List Int × List Int × List Int × Int × Unit) × Unit) × Unit) := pickF fuelN vars is old hot warm cold

def Clone_ (s : List Int) : Option ((List Int × Unit) × Unit × Unit) :=
  gd ((([] : List Int).length + s.length) * 8 ≤ lim) <|
  gd (([] : List Int).length + s.length ≤ lim) <|
  some ((s, ()), (), ())

end GoSx
end
section
/- Models of functions: what they compute, if all goes well: SatC. -/
namespace GoSx
open Go
def more (l : List Int) (n : Int) : Option ((List Int × Unit) × Unit × Unit) :=
  gd (inK IntKind.i64 (n - nI l.length)) <|
  gd (0 ≤ n - nI l.length) <|
  gd ((l.length + Int.toNat (n - nI l.length)) * 8 ≤ lim) <|
  gd (l.length + Int.toNat (n - nI l.length) ≤ lim) <|
  some ((l ++ List.replicate (Int.toNat (n - nI l.length)) 0, ()), (), ())

def grow (n : Int) (vars : Int) (watch : List (List Int)) (is : List Int) (depth : List Int) (why : List Int) (old : List Int) (hot : List Int) : Option (Unit × ((Int × List (List Int) × List Int × List Int × List Int × List Int × List Int × Unit) × Unit) × Unit) :=
  gd (inK IntKind.i64 (n + 1)) <|
  bindO (more is (n + 1)) fun y0 =>
  gd (inK IntKind.i64 (n + 1)) <|
  bindO (more depth (n + 1)) fun y1 =>
  gd (inK IntKind.i64 (n + 1)) <|
  bindO (more why (n + 1)) fun y2 =>
  gd (inK IntKind.i64 (n + 1)) <|
  bindO (more old (n + 1)) fun y3 =>
  gd (inK IntKind.i64 (n + 1)) <|
  bindO (more hot (n + 1)) fun y4 =>
  gd (inK IntKind.i64 (2 * n)) <|
  gd (inK IntKind.i64 (2 * n + 2)) <|
  gd (inK IntKind.i64 (2 * n + 2 - nI watch.length)) <|
  gd (0 ≤ 2 * n + 2 - nI watch.length) <|
  gd ((watch.length + Int.toNat (2 * n + 2 - nI watch.length)) * 24 ≤ lim) <|
  gd (watch.length + Int.toNat (2 * n + 2 - nI watch.length) ≤ lim) <|
  some ((), ((n, watch ++ List.replicate (Int.toNat (2 * n + 2 - nI watch.length)) [], y0.1.1, y1.1.1, y2.1.1, y3.1.1, y4.1.1, ()), ()), ())

def New (n : Int) : Option (Unit × Unit × (Int × List (List Int) × List (List Int) × List Int × List Int × List Int × List Int × List Int × List Int × Int × List Int × List Int × Int × Bool × List (List Int) × Int × List Int × List Bool × Unit) × Unit) :=
  bindO (grow (min2 (max2 n 0) 1048576) 0 [] [] [] [] [] []) fun y0 =>
  some ((), (), (y0.2.1.1.1, [], y0.2.1.1.2.1, y0.2.1.1.2.2.1, y0.2.1.1.2.2.2.1, y0.2.1.1.2.2.2.2.1, y0.2.1.1.2.2.2.2.2.1, y0.2.1.1.2.2.2.2.2.2.1, [], 1, [], [], 0, false, [], 0, [], [], ()), ())

def AddF (nn : Nat)  (c : List Int) (vars : Int) (all : List (List Int)) (watch : List (List Int)) (is : List Int) (depth : List Int) (why : List Int) (old : List Int) (cold : Int) (row : List Int) (begin : List Int) (done : Int) (empty : Bool) (answer : Int) (core : List Int) (model : List Bool) : Option (Unit × ((Int × List (List Int) × List (List Int) × List Int × List Int × List Int × List Int × Int × List Int × List Int × Int × Bool × Int × List Int × List Bool × Unit) × Unit) × Unit) :=
  bindO (forget answer core model) fun y0 =>
  bindO (own c vars) fun y1 =>
  bif !y1.1.1 then
    some ((), ((y1.2.1.1.1, all, watch, is, depth, why, old, cold, row, begin, done, empty, y0.2.1.1.1, y0.2.1.1.2.1, y0.2.1.1.2.2.1, ()), ()), ())
  else
    bindO (back 0 is old cold row begin done) fun y2 =>
    iterO (X := Int × (Int × Int × Int × Bool × Int) × List Int) (fun y3 =>
      bif decide (y3.1 < nI c.length) then
        gd (0 ≤ y3.1) <|
        gd (y3.1 < nI c.length) <|
        bindO (value (getI c y3.1) y2.2.1.1.1) fun y4 =>
        bif y4.1.1 == 1 then
          some (Sum.inr ((), ((y3.2.1.1, all, watch, y2.2.1.1.1, depth, why, y2.2.1.1.2.1, y3.2.1.2.1, y2.2.1.1.2.2.2.1, y2.2.1.1.2.2.2.2.1, y3.2.1.2.2.1, y3.2.1.2.2.2.1, y3.2.1.2.2.2.2, y0.2.1.1.2.1, y0.2.1.1.2.2.1, ()), ()), ()))
        else
          gd (inK IntKind.i64 (0 - getI c y3.1)) <|
          bindO (Contains_ c (0 - getI c y3.1)) fun y5 =>
          bif bif false then true else y5.1.1 then
            some (Sum.inr ((), ((y3.2.1.1, all, watch, y2.2.1.1.1, depth, why, y2.2.1.1.2.1, y3.2.1.2.1, y2.2.1.1.2.2.2.1, y2.2.1.1.2.2.2.2.1, y3.2.1.2.2.1, y3.2.1.2.2.2.1, y3.2.1.2.2.2.2, y0.2.1.1.2.1, y0.2.1.1.2.2.1, ()), ()), ()))
          else
            bindO (value (getI c y3.1) y2.2.1.1.1) fun y6 =>
            bif y6.1.1 == 0 then
              bindO (Contains_ y3.2.2 (getI c y3.1)) fun y7 =>
              bif bif true then !y7.1.1 else false then
                gd ((y3.2.2.length + [getI c y3.1].length) * 8 ≤ lim) <|
                gd (y3.2.2.length + [getI c y3.1].length ≤ lim) <|
                gd (inK IntKind.i64 (y3.1 + 1)) <|
                some (Sum.inl (y3.1 + 1, (y3.2.1.1, y3.2.1.2.1, y3.2.1.2.2.1, y3.2.1.2.2.2.1, y3.2.1.2.2.2.2), y3.2.2 ++ [getI c y3.1]))
              else
                gd (inK IntKind.i64 (y3.1 + 1)) <|
                some (Sum.inl (y3.1 + 1, (y3.2.1.1, y3.2.1.2.1, y3.2.1.2.2.1, y3.2.1.2.2.2.1, y3.2.1.2.2.2.2), y3.2.2))
            else
              gd (inK IntKind.i64 (y3.1 + 1)) <|
              some (Sum.inl (y3.1 + 1, (y3.2.1.1, y3.2.1.2.1, y3.2.1.2.2.1, y3.2.1.2.2.2.1, y3.2.1.2.2.2.2), y3.2.2))
      else
        bif nI y3.2.2.length == 0 then
          some (Sum.inr ((), ((y3.2.1.1, all, watch, y2.2.1.1.1, depth, why, y2.2.1.1.2.1, y3.2.1.2.1, y2.2.1.1.2.2.2.1, y2.2.1.1.2.2.2.2.1, y3.2.1.2.2.1, true, y3.2.1.2.2.2.2, y0.2.1.1.2.1, y0.2.1.1.2.2.1, ()), ()), ()))
        else
          bif nI y3.2.2.length == 1 then
            gd (0 < nI y3.2.2.length) <|
            bindO (set_ (getI y3.2.2 0) (-1) y2.2.1.1.1 depth why y2.2.1.1.2.2.2.1 y2.2.1.1.2.2.2.2.1) fun y4 =>
            some (Sum.inr ((), ((y3.2.1.1, all, watch, y4.2.1.1.1, y4.2.1.1.2.1, y4.2.1.1.2.2.1, y2.2.1.1.2.1, y3.2.1.2.1, y4.2.1.1.2.2.2.1, y2.2.1.1.2.2.2.2.1, y3.2.1.2.2.1, y3.2.1.2.2.2.1, y3.2.1.2.2.2.2, y0.2.1.1.2.1, y0.2.1.1.2.2.1, ()), ()), ()))
          else
            bindO (keep y3.2.2 all 0 watch) fun y4 =>
            some (Sum.inr ((), ((y3.2.1.1, y4.2.1.1.1.set y4.2.1.1.2.1.toNat y3.2.2, y4.2.1.1.2.2.1, y2.2.1.1.1, depth, why, y2.2.1.1.2.1, y3.2.1.2.1, y2.2.1.1.2.2.2.1, y2.2.1.1.2.2.2.2.1, y3.2.1.2.2.1, y3.2.1.2.2.2.1, y3.2.1.2.2.2.2, y0.2.1.1.2.1, y0.2.1.1.2.2.1, ()), ()), ()))) (nn) (0, (y1.2.1.1.1, y2.2.1.1.2.2.1, y2.2.1.1.2.2.2.2.2.1, empty, y0.2.1.1.1), [])

def Add (c : List Int) (vars : Int) (all : List (List Int)) (watch : List (List Int)) (is : List Int) (depth : List Int) (why : List Int) (old : List Int) (cold : Int) (row : List Int) (begin : List Int) (done : Int) (empty : Bool) (answer : Int) (core : List Int) (model : List Bool) : Option (Unit × ((Int × List (List Int) × List (List Int) × List Int × List Int × List Int × List Int × Int × List Int × List Int × Int × Bool × Int × List Int × List Bool × Unit) × Unit) × Unit) := AddF fuelN c vars all watch is depth why old cold row begin done empty answer core model

def blameF (nn : Nat)  (x : Int) (all : List (List Int)) (why : List Int) (row : List Int) (begin : List Int) : Option ((List Int × Unit) × ((List (List Int) × List Int × List Int × List Int × Unit) × Unit) × Unit) :=
  bindO (size x) fun y0 =>
  gd (inK IntKind.i64 (nI row.length - 1)) <|
  iterO (X := Int × List (List Int) × List Int × List Int × List (Int × Bool)) (fun y1 =>
    bif decide (y1.1 ≥ 0) then
      bif bif true then decide (nI begin.length > 0) else false then
        gd (0 < nI begin.length) <|
        bif bif true then decide (y1.1 ≥ getI begin 0) else false then
          gd (0 ≤ y1.1) <|
          gd (y1.1 < nI row.length) <|
          bindO (size (getI row y1.1)) fun y2 =>
          bif !mapGet Ty.bool.dflt y1.2.2.2.2 y2.1.1 then
            gd (inK IntKind.i64 (y1.1 - 1)) <|
            some (Sum.inl (y1.1 - 1, y1.2.1, y1.2.2.1, y1.2.2.1, y1.2.2.2.2))
          else
            bindO (size (getI row y1.1)) fun y3 =>
            gd (0 ≤ y3.1.1) <|
            gd (y3.1.1 < nI why.length) <|
            bif getI why y3.1.1 == -1 then
              gd ((y1.2.2.1.length + [getI row y1.1].length) * 8 ≤ lim) <|
              gd (y1.2.2.1.length + [getI row y1.1].length ≤ lim) <|
              gd (inK IntKind.i64 (y1.1 - 1)) <|
              some (Sum.inl (y1.1 - 1, y1.2.1, y1.2.2.1 ++ [getI row y1.1], y1.2.2.1 ++ [getI row y1.1], y1.2.2.2.2))
            else
              bindO (size (getI row y1.1)) fun y4 =>
              gd (0 ≤ y4.1.1) <|
              gd (y4.1.1 < nI why.length) <|
              gd (0 ≤ getI why y4.1.1) <|
              gd (getI why y4.1.1 < nI y1.2.1.length) <|
              iterO (X := Int × List (Int × Bool)) (fun y5 =>
                bif decide (y5.1 < nI (List.length (getL y1.2.1 (getI why y4.1.1)))) then
                  gd (0 ≤ y5.1) <|
                  gd (y5.1 < nI (List.length (getL y1.2.1 (getI why y4.1.1)))) <|
                  bindO (size (getI (getL y1.2.1 (getI why y4.1.1)) y5.1)) fun y6 =>
                  gd (y5.2.length < lim) <|
                  gd (inK IntKind.i64 (y5.1 + 1)) <|
                  some (Sum.inl (y5.1 + 1, mapSet true y5.2 y6.1.1))
                else
                  gd (inK IntKind.i64 (y1.1 - 1)) <|
                  some (Sum.inr (Sum.inl (y1.1 - 1, y1.2.1.set (Int.toNat (getI why y4.1.1)) (getL y1.2.1 (getI why y4.1.1)), y1.2.2.1, y1.2.2.1, y5.2)))) (nn) (0, y1.2.2.2.2)
        else
          some (Sum.inr ((y1.2.2.1, ()), ((y1.2.1, why, row, begin, ()), ()), ()))
      else
        some (Sum.inr ((y1.2.2.1, ()), ((y1.2.1, why, row, begin, ()), ()), ()))
    else
      some (Sum.inr ((y1.2.2.1, ()), ((y1.2.1, why, row, begin, ()), ()), ()))) (nn) (nI row.length - 1, all, [x], [x], mapSet true [] y0.1.1)

def blame (x : Int) (all : List (List Int)) (why : List Int) (row : List Int) (begin : List Int) : Option ((List Int × Unit) × ((List (List Int) × List Int × List Int × List Int × Unit) × Unit) × Unit) := blameF fuelN x all why row begin

def learnF (nn : Nat)  (n : Int) (all : List (List Int)) (is : List Int) (depth : List Int) (why : List Int) (hot : List Int) (warm : List Int) (row : List Int) (begin : List Int) : Option ((List Int × Int × Unit) × ((List (List Int) × List Int × List Int × List Int × List Int × List Int × List Int × List Int × Unit) × Unit) × Unit) :=
  gd (0 ≤ n) <|
  gd (n < nI all.length) <|
  iterO (X := (Int × Int) × (List Int × List Int × List Int × List Int × List Int) × (List (List Int) × Int) × List Int × List Int × List Int × List Int × List (Int × Bool) × List Int) (fun y0 =>
    iterO (X := (Int × Int) × (List Int × List Int × List Int × List Int × List Int) × List Int × List Int × List (Int × Bool) × List Int × List Int) (fun y1 =>
      bif decide (y1.1.1 < nI y0.2.2.2.1.length) then
        gd (0 ≤ y1.1.1) <|
        gd (y1.1.1 < nI y0.2.2.2.1.length) <|
        bindO (size (getI y0.2.2.2.1 y1.1.1)) fun y2 =>
        bif mapGet Ty.bool.dflt y1.2.2.2.2.1 y2.1.1 then
          gd (inK IntKind.i64 (y1.1.1 + 1)) <|
          some (Sum.inl ((y1.1.1 + 1, y1.1.2), (y1.2.1.1, y1.2.1.2.1, y1.2.1.2.2.1, y1.2.1.2.2.2.1, y1.2.1.2.2.2.2), y1.2.2.1, y1.2.2.2.1, y1.2.2.2.2.1, y1.2.2.2.2.2.1, y1.2.2.2.2.2.1))
        else
          bindO (value (getI y0.2.2.2.1 y1.1.1) y1.2.1.1) fun y3 =>
          bif bif false then true else y3.1.1 != -1 then
            gd (inK IntKind.i64 (y1.1.1 + 1)) <|
            some (Sum.inl ((y1.1.1 + 1, y1.1.2), (y1.2.1.1, y1.2.1.2.1, y1.2.1.2.2.1, y1.2.1.2.2.2.1, y1.2.1.2.2.2.2), y1.2.2.1, y1.2.2.2.1, y1.2.2.2.2.1, y1.2.2.2.2.2.1, y1.2.2.2.2.2.1))
          else
            gd (0 ≤ y2.1.1) <|
            gd (y2.1.1 < nI y1.2.1.2.1.length) <|
            bif bif false then true else getI y1.2.1.2.1 y2.1.1 == 0 then
              gd (inK IntKind.i64 (y1.1.1 + 1)) <|
              some (Sum.inl ((y1.1.1 + 1, y1.1.2), (y1.2.1.1, y1.2.1.2.1, y1.2.1.2.2.1, y1.2.1.2.2.2.1, y1.2.1.2.2.2.2), y1.2.2.1, y1.2.2.2.1, y1.2.2.2.2.1, y1.2.2.2.2.2.1, y1.2.2.2.2.2.1))
            else
              gd (y1.2.2.2.2.1.length < lim) <|
              gd (0 ≤ y2.1.1) <|
              gd (y2.1.1 < nI y1.2.2.1.length) <|
              bif getI y1.2.2.1 y2.1.1 == 0 then
                gd ((y1.2.2.2.1.length + [y2.1.1].length) * 8 ≤ lim) <|
                gd (y1.2.2.2.1.length + [y2.1.1].length ≤ lim) <|
                gd (0 ≤ y2.1.1) <|
                gd (y2.1.1 < nI y1.2.2.1.length) <|
                gd (inK IntKind.i64 (getI y1.2.2.1 y2.1.1 + 1)) <|
                gd (0 ≤ y2.1.1) <|
                gd (y2.1.1 < nI y1.2.2.1.length) <|
                gd (0 ≤ y2.1.1) <|
                gd (y2.1.1 < nI y1.2.1.2.1.length) <|
                bif getI y1.2.1.2.1 y2.1.1 == nI y1.2.1.2.2.2.2.length then
                  gd (inK IntKind.i64 (y1.1.2 + 1)) <|
                  gd (inK IntKind.i64 (y1.1.1 + 1)) <|
                  some (Sum.inl ((y1.1.1 + 1, y1.1.2 + 1), (y1.2.1.1, y1.2.1.2.1, y1.2.1.2.2.1, y1.2.1.2.2.2.1, y1.2.1.2.2.2.2), y1.2.2.1.set y2.1.1.toNat (getI y1.2.2.1 y2.1.1 + 1), y1.2.2.2.1 ++ [y2.1.1], mapSet true y1.2.2.2.2.1 y2.1.1, y1.2.2.2.2.2.1, y1.2.2.2.2.2.1))
                else
                  gd ((y1.2.2.2.2.2.1.length + [getI y0.2.2.2.1 y1.1.1].length) * 8 ≤ lim) <|
                  gd (y1.2.2.2.2.2.1.length + [getI y0.2.2.2.1 y1.1.1].length ≤ lim) <|
                  gd (inK IntKind.i64 (y1.1.1 + 1)) <|
                  some (Sum.inl ((y1.1.1 + 1, y1.1.2), (y1.2.1.1, y1.2.1.2.1, y1.2.1.2.2.1, y1.2.1.2.2.2.1, y1.2.1.2.2.2.2), y1.2.2.1.set y2.1.1.toNat (getI y1.2.2.1 y2.1.1 + 1), y1.2.2.2.1 ++ [y2.1.1], mapSet true y1.2.2.2.2.1 y2.1.1, y1.2.2.2.2.2.1 ++ [getI y0.2.2.2.1 y1.1.1], y1.2.2.2.2.2.1 ++ [getI y0.2.2.2.1 y1.1.1]))
              else
                gd (0 ≤ y2.1.1) <|
                gd (y2.1.1 < nI y1.2.2.1.length) <|
                gd (inK IntKind.i64 (getI y1.2.2.1 y2.1.1 + 1)) <|
                gd (0 ≤ y2.1.1) <|
                gd (y2.1.1 < nI y1.2.2.1.length) <|
                gd (0 ≤ y2.1.1) <|
                gd (y2.1.1 < nI y1.2.1.2.1.length) <|
                bif getI y1.2.1.2.1 y2.1.1 == nI y1.2.1.2.2.2.2.length then
                  gd (inK IntKind.i64 (y1.1.2 + 1)) <|
                  gd (inK IntKind.i64 (y1.1.1 + 1)) <|
                  some (Sum.inl ((y1.1.1 + 1, y1.1.2 + 1), (y1.2.1.1, y1.2.1.2.1, y1.2.1.2.2.1, y1.2.1.2.2.2.1, y1.2.1.2.2.2.2), y1.2.2.1.set y2.1.1.toNat (getI y1.2.2.1 y2.1.1 + 1), y1.2.2.2.1, mapSet true y1.2.2.2.2.1 y2.1.1, y1.2.2.2.2.2.1, y1.2.2.2.2.2.1))
                else
                  gd ((y1.2.2.2.2.2.1.length + [getI y0.2.2.2.1 y1.1.1].length) * 8 ≤ lim) <|
                  gd (y1.2.2.2.2.2.1.length + [getI y0.2.2.2.1 y1.1.1].length ≤ lim) <|
                  gd (inK IntKind.i64 (y1.1.1 + 1)) <|
                  some (Sum.inl ((y1.1.1 + 1, y1.1.2), (y1.2.1.1, y1.2.1.2.1, y1.2.1.2.2.1, y1.2.1.2.2.2.1, y1.2.1.2.2.2.2), y1.2.2.1.set y2.1.1.toNat (getI y1.2.2.1 y2.1.1 + 1), y1.2.2.2.1, mapSet true y1.2.2.2.2.1 y2.1.1, y1.2.2.2.2.2.1 ++ [getI y0.2.2.2.1 y1.1.1], y1.2.2.2.2.2.1 ++ [getI y0.2.2.2.1 y1.1.1]))
      else
        gd (inK IntKind.i64 (y0.1.2 - 1)) <|
        iterO (X := Int) (fun y2 =>
          gd (0 ≤ y2) <|
          gd (y2 < nI y1.2.1.2.2.2.1.length) <|
          bindO (size (getI y1.2.1.2.2.2.1 y2)) fun y3 =>
          bif !mapGet Ty.bool.dflt y1.2.2.2.2.1 y3.1.1 then
            gd (inK IntKind.i64 (y2 - 1)) <|
            some (Sum.inl (y2 - 1))
          else
            gd (0 ≤ y2) <|
            gd (y2 < nI y1.2.1.2.2.2.1.length) <|
            gd (inK IntKind.i64 (y1.1.2 - 1)) <|
            bif y1.1.2 - 1 == 0 then
              gd (inK IntKind.i64 (0 - getI y1.2.1.2.2.2.1 y2)) <|
              gd (0 < nI y1.2.2.2.2.2.1.length) <|
              iterO (X := (Int × Int) × List Int) (fun y4 =>
                bif decide (y4.1.2 < nI y4.2.length) then
                  gd (0 ≤ y4.1.2) <|
                  gd (y4.1.2 < nI y4.2.length) <|
                  bindO (size (getI y4.2 y4.1.2)) fun y5 =>
                  gd (0 ≤ y5.1.1) <|
                  gd (y5.1.1 < nI y1.2.1.2.1.length) <|
                  bif decide (getI y1.2.1.2.1 y5.1.1 > y4.1.1) then
                    gd (0 ≤ y4.1.2) <|
                    gd (y4.1.2 < nI y4.2.length) <|
                    gd (1 < nI y4.2.length) <|
                    gd (1 < nI y4.2.length) <|
                    gd (0 ≤ y4.1.2) <|
                    gd (y4.1.2 < nI (y4.2.set 1 (getI y4.2 y4.1.2)).length) <|
                    gd (inK IntKind.i64 (y4.1.2 + 1)) <|
                    some (Sum.inl ((getI y1.2.1.2.1 y5.1.1, y4.1.2 + 1), (y4.2.set 1 (getI y4.2 y4.1.2)).set y4.1.2.toNat (getI y4.2 1)))
                  else
                    gd (inK IntKind.i64 (y4.1.2 + 1)) <|
                    some (Sum.inl ((y4.1.1, y4.1.2 + 1), y4.2))
                else
                  some (Sum.inr (Sum.inr (Sum.inr (Sum.inr ((y4.2, y4.1.1, ()), ((y0.2.2.1.1.set y0.2.2.1.2.toNat y0.2.2.2.1, y1.2.1.1, y1.2.1.2.1, y1.2.1.2.2.1, y1.2.2.1, y1.2.2.2.1, y1.2.1.2.2.2.1, y1.2.1.2.2.2.2, ()), ()), ())))))) (nn) ((0, 1), y1.2.2.2.2.2.1.set 0 (0 - getI y1.2.1.2.2.2.1 y2))
            else
              bindO (size (getI y1.2.1.2.2.2.1 y2)) fun y4 =>
              gd (0 ≤ y4.1.1) <|
              gd (y4.1.1 < nI y1.2.1.2.2.1.length) <|
              gd (0 ≤ getI y1.2.1.2.2.1 y4.1.1) <|
              gd (getI y1.2.1.2.2.1 y4.1.1 < nI y0.2.2.1.1.length) <|
              some (Sum.inr (Sum.inr (Sum.inl ((y1.1.2 - 1, y2), (y1.2.1.1, y1.2.1.2.1, y1.2.1.2.2.1, y1.2.1.2.2.2.1, y1.2.1.2.2.2.2), (y0.2.2.1.1.set y0.2.2.1.2.toNat y0.2.2.2.1, getI y1.2.1.2.2.1 y4.1.1), getL (y0.2.2.1.1.set y0.2.2.1.2.toNat y0.2.2.2.1) (getI y1.2.1.2.2.1 y4.1.1), getL (y0.2.2.1.1.set y0.2.2.1.2.toNat y0.2.2.2.1) (getI y1.2.1.2.2.1 y4.1.1), y1.2.2.1, y1.2.2.2.1, y1.2.2.2.2.1, y1.2.2.2.2.2.1))))) (nn) (y0.1.2 - 1)) (nn) ((0, y0.1.1), (y0.2.1.1, y0.2.1.2.1, y0.2.1.2.2.1, y0.2.1.2.2.2.1, y0.2.1.2.2.2.2), y0.2.2.2.2.2.1, y0.2.2.2.2.2.2.1, y0.2.2.2.2.2.2.2.1, y0.2.2.2.2.2.2.2.2, y0.2.2.2.2.2.2.2.2)) (nn) ((0, nI row.length), (is, depth, why, row, begin), (all, n), getL all n, getL all n, hot, warm, [], [0])

def learn (n : Int) (all : List (List Int)) (is : List Int) (depth : List Int) (why : List Int) (hot : List Int) (warm : List Int) (row : List Int) (begin : List Int) : Option ((List Int × Int × Unit) × ((List (List Int) × List Int × List Int × List Int × List Int × List Int × List Int × List Int × Unit) × Unit) × Unit) := learnF fuelN n all is depth why hot warm row begin

def unitF (nn : Nat)  (all : List (List Int)) (watch : List (List Int)) (is : List Int) (depth : List Int) (why : List Int) (row : List Int) (begin : List Int) (done : Int) : Option ((Int × Unit) × ((List (List Int) × List (List Int) × List Int × List Int × List Int × List Int × List Int × Int × Unit) × Unit) × Unit) :=
  iterO (X := (List Int × Int) × List (List Int) × List (List Int) × List Int × List Int × List Int × List Int) (fun y0 =>
    bif decide (y0.1.2 < nI y0.2.2.2.2.2.2.length) then
      gd (0 ≤ y0.1.2) <|
      gd (y0.1.2 < nI y0.2.2.2.2.2.2.length) <|
      gd (inK IntKind.i64 (0 - getI y0.2.2.2.2.2.2 y0.1.2)) <|
      gd (inK IntKind.i64 (y0.1.2 + 1)) <|
      bindO (at_ (0 - getI y0.2.2.2.2.2.2 y0.1.2)) fun y1 =>
      gd (0 ≤ y1.1.1) <|
      gd (y1.1.1 < nI y0.2.2.1.length) <|
      joinO (X := (Int × Int × Int) × (List Int × Int) × List (List Int) × (List (List Int) × Int) × List Int × List Int × List Int × List Int × List Int) (
        iterO (X := (Int × Int) × (List Int × Int) × List (List Int) × (List (List Int) × Int) × List Int × List Int × List Int × List Int × List Int) (fun y2 =>
          bif decide (y2.1.2 < nI (List.length (getL y0.2.2.1 y1.1.1))) then
            gd (0 ≤ y2.1.2) <|
            gd (y2.1.2 < nI y2.2.2.2.2.1.length) <|
            gd (0 ≤ getI y2.2.2.2.2.1 y2.1.2) <|
            gd (getI y2.2.2.2.2.1 y2.1.2 < nI y2.2.2.1.length) <|
            joinO (X := List Int) (
              gd (0 < nI (List.length (getL y2.2.2.1 (getI y2.2.2.2.2.1 y2.1.2)))) <|
              bif getI (getL y2.2.2.1 (getI y2.2.2.2.2.1 y2.1.2)) 0 == 0 - getI y0.2.2.2.2.2.2 y0.1.2 then
                gd (1 < nI (List.length (getL y2.2.2.1 (getI y2.2.2.2.2.1 y2.1.2)))) <|
                gd (0 < nI (List.length (getL y2.2.2.1 (getI y2.2.2.2.2.1 y2.1.2)))) <|
                gd (0 < nI (List.length (getL y2.2.2.1 (getI y2.2.2.2.2.1 y2.1.2)))) <|
                gd (1 < nI (List.set (getL y2.2.2.1 (getI y2.2.2.2.2.1 y2.1.2)) 0 (getI (getL y2.2.2.1 (getI y2.2.2.2.2.1 y2.1.2)) 1)).length) <|
                some (Sum.inl ((List.set (getL y2.2.2.1 (getI y2.2.2.2.2.1 y2.1.2)) 0 (getI (getL y2.2.2.1 (getI y2.2.2.2.2.1 y2.1.2)) 1)).set 1 (getI (getL y2.2.2.1 (getI y2.2.2.2.2.1 y2.1.2)) 0)))
              else
                some (Sum.inl (getL y2.2.2.1 (getI y2.2.2.2.2.1 y2.1.2)))) fun y3 =>
            gd (0 < nI y3.length) <|
            bindO (value (getI y3 0) y2.2.2.2.2.2.1) fun y4 =>
            bif y4.1.1 == 1 then
              gd (0 ≤ y2.1.1) <|
              gd (y2.1.1 < nI y2.2.2.2.2.1.length) <|
              gd (inK IntKind.i64 (y2.1.1 + 1)) <|
              gd (inK IntKind.i64 (y2.1.2 + 1)) <|
              some (Sum.inl ((y2.1.1 + 1, y2.1.2 + 1), (y2.2.1.1, y2.2.1.2), y2.2.2.1.set (Int.toNat (getI y2.2.2.2.2.1 y2.1.2)) y3, (y2.2.2.2.1.1, y2.2.2.2.1.2), y2.2.2.2.2.1.set y2.1.1.toNat (getI y2.2.2.2.2.1 y2.1.2), y2.2.2.2.2.2.1, y2.2.2.2.2.2.2.1, y2.2.2.2.2.2.2.2.1, y2.2.2.2.2.2.2.2.2))
            else
              joinO (X := Int × List Int × Int) (
                iterO (X := Int × List Int × Int) (fun y5 =>
                  bif decide (y5.1 < nI y3.length) then
                    gd (0 ≤ y5.1) <|
                    gd (y5.1 < nI y3.length) <|
                    bindO (value (getI y3 y5.1) y2.2.2.2.2.2.1) fun y6 =>
                    bif y6.1.1 != -1 then
                      gd (0 ≤ y5.1) <|
                      gd (y5.1 < nI y3.length) <|
                      gd (1 < nI y3.length) <|
                      gd (1 < nI y3.length) <|
                      gd (0 ≤ y5.1) <|
                      gd (y5.1 < nI (y3.set 1 (getI y3 y5.1)).length) <|
                      gd (1 < nI ((y3.set 1 (getI y3 y5.1)).set y5.1.toNat (getI y3 1)).length) <|
                      bindO (at_ (getI ((y3.set 1 (getI y3 y5.1)).set y5.1.toNat (getI y3 1)) 1)) fun y7 =>
                      gd (1 < nI ((y3.set 1 (getI y3 y5.1)).set y5.1.toNat (getI y3 1)).length) <|
                      bindO (at_ (getI ((y3.set 1 (getI y3 y5.1)).set y5.1.toNat (getI y3 1)) 1)) fun y8 =>
                      gd (0 ≤ y8.1.1) <|
                      gd (y8.1.1 < nI y2.2.2.2.1.1.length) <|
                      gd (y2.2.2.2.1.2 ≠ y8.1.1) <|
                      gd ((List.length (getL y2.2.2.2.1.1 y8.1.1) + [getI y2.2.2.2.2.1 y2.1.2].length) * 8 ≤ lim) <|
                      gd (List.length (getL y2.2.2.2.1.1 y8.1.1) + [getI y2.2.2.2.2.1 y2.1.2].length ≤ lim) <|
                      gd (0 ≤ y7.1.1) <|
                      gd (y7.1.1 < nI y2.2.2.2.1.1.length) <|
                      gd (y8.1.1 = y7.1.1) <|
                      gd (y2.2.2.2.1.2 ≠ y7.1.1) <|
                      gd (inK IntKind.i64 (y2.1.2 + 1)) <|
                      some (Sum.inr (Sum.inr (Sum.inl ((y2.1.1, y2.1.2 + 1), (y5.2.1, y5.2.2), y2.2.2.1.set (Int.toNat (getI y2.2.2.2.2.1 y2.1.2)) ((y3.set 1 (getI y3 y5.1)).set y5.1.toNat (getI y3 1)), (y2.2.2.2.1.1.set y7.1.1.toNat (getL y2.2.2.2.1.1 y8.1.1 ++ [getI y2.2.2.2.2.1 y2.1.2]), y2.2.2.2.1.2), y2.2.2.2.2.1, y2.2.2.2.2.2.1, y2.2.2.2.2.2.2.1, y2.2.2.2.2.2.2.2.1, y2.2.2.2.2.2.2.2.2))))
                    else
                      gd (inK IntKind.i64 (y5.1 + 1)) <|
                      some (Sum.inl (y5.1 + 1, y5.2.1, y5.2.2))
                  else
                    some (Sum.inr (Sum.inl (y5.1, y5.2.1, y5.2.2)))) (nn) (2, y2.2.1.1, y2.2.1.2)) fun y5 =>
              gd (0 ≤ y2.1.1) <|
              gd (y2.1.1 < nI y2.2.2.2.2.1.length) <|
              gd (inK IntKind.i64 (y2.1.1 + 1)) <|
              gd (0 < nI y3.length) <|
              bindO (value (getI y3 0) y2.2.2.2.2.2.1) fun y6 =>
              bif y6.1.1 == -1 then
                gd (0 ≤ y2.1.1 + 1) <|
                gd (y2.1.1 + 1 ≤ nI (y2.2.2.2.2.1.set y2.1.1.toNat (getI y2.2.2.2.2.1 y2.1.2)).length) <|
                gd (nI (y2.2.2.2.2.1.set y2.1.1.toNat (getI y2.2.2.2.2.1 y2.1.2)).length ≤ nI (y2.2.2.2.2.1.set y2.1.1.toNat (getI y2.2.2.2.2.1 y2.1.2)).length) <|
                gd (inK IntKind.i64 (y2.1.2 + 1)) <|
                gd (0 ≤ y2.1.2 + 1) <|
                gd (y2.1.2 + 1 ≤ nI (y2.2.2.2.2.1.set y2.1.1.toNat (getI y2.2.2.2.2.1 y2.1.2)).length) <|
                gd (nI (y2.2.2.2.2.1.set y2.1.1.toNat (getI y2.2.2.2.2.1 y2.1.2)).length ≤ nI (y2.2.2.2.2.1.set y2.1.1.toNat (getI y2.2.2.2.2.1 y2.1.2)).length) <|
                gd ((List.drop (Int.toNat (y2.1.2 + 1)) (List.take (nI (y2.2.2.2.2.1.set y2.1.1.toNat (getI y2.2.2.2.2.1 y2.1.2)).length).toNat (y2.2.2.2.2.1.set y2.1.1.toNat (getI y2.2.2.2.2.1 y2.1.2)))).length ≤ lim) <|
                gd (inK IntKind.i64 (y2.1.1 + 1 + nI ((List.drop (Int.toNat (y2.1.2 + 1)) (List.take (nI (y2.2.2.2.2.1.set y2.1.1.toNat (getI y2.2.2.2.2.1 y2.1.2)).length).toNat (y2.2.2.2.2.1.set y2.1.1.toNat (getI y2.2.2.2.2.1 y2.1.2)))).length.min (((some (nI (y2.2.2.2.2.1.set y2.1.1.toNat (getI y2.2.2.2.2.1 y2.1.2)).length)).getD (nI (y2.2.2.2.2.1.set y2.1.1.toNat (getI y2.2.2.2.2.1 y2.1.2)).length)).toNat - Int.toNat (y2.1.1 + 1))))) <|
                bindO (at_ (0 - getI y0.2.2.2.2.2.2 y0.1.2)) fun y7 =>
                gd (0 ≤ y2.1.1 + 1 + nI ((List.drop (Int.toNat (y2.1.2 + 1)) (List.take (nI (y2.2.2.2.2.1.set y2.1.1.toNat (getI y2.2.2.2.2.1 y2.1.2)).length).toNat (y2.2.2.2.2.1.set y2.1.1.toNat (getI y2.2.2.2.2.1 y2.1.2)))).length.min (((some (nI (y2.2.2.2.2.1.set y2.1.1.toNat (getI y2.2.2.2.2.1 y2.1.2)).length)).getD (nI (y2.2.2.2.2.1.set y2.1.1.toNat (getI y2.2.2.2.2.1 y2.1.2)).length)).toNat - Int.toNat (y2.1.1 + 1)))) <|
                gd (y2.1.1 + 1 + nI ((List.drop (Int.toNat (y2.1.2 + 1)) (List.take (nI (y2.2.2.2.2.1.set y2.1.1.toNat (getI y2.2.2.2.2.1 y2.1.2)).length).toNat (y2.2.2.2.2.1.set y2.1.1.toNat (getI y2.2.2.2.2.1 y2.1.2)))).length.min (((some (nI (y2.2.2.2.2.1.set y2.1.1.toNat (getI y2.2.2.2.2.1 y2.1.2)).length)).getD (nI (y2.2.2.2.2.1.set y2.1.1.toNat (getI y2.2.2.2.2.1 y2.1.2)).length)).toNat - Int.toNat (y2.1.1 + 1))) ≤ nI (List.take (Int.toNat (y2.1.1 + 1)) (y2.2.2.2.2.1.set y2.1.1.toNat (getI y2.2.2.2.2.1 y2.1.2)) ++ List.take ((List.drop (Int.toNat (y2.1.2 + 1)) (List.take (nI (y2.2.2.2.2.1.set y2.1.1.toNat (getI y2.2.2.2.2.1 y2.1.2)).length).toNat (y2.2.2.2.2.1.set y2.1.1.toNat (getI y2.2.2.2.2.1 y2.1.2)))).length.min (((some (nI (y2.2.2.2.2.1.set y2.1.1.toNat (getI y2.2.2.2.2.1 y2.1.2)).length)).getD (nI (y2.2.2.2.2.1.set y2.1.1.toNat (getI y2.2.2.2.2.1 y2.1.2)).length)).toNat - Int.toNat (y2.1.1 + 1))) (List.drop (Int.toNat (y2.1.2 + 1)) (List.take (nI (y2.2.2.2.2.1.set y2.1.1.toNat (getI y2.2.2.2.2.1 y2.1.2)).length).toNat (y2.2.2.2.2.1.set y2.1.1.toNat (getI y2.2.2.2.2.1 y2.1.2)))) ++ List.drop (Int.toNat (y2.1.1 + 1) + (List.drop (Int.toNat (y2.1.2 + 1)) (List.take (nI (y2.2.2.2.2.1.set y2.1.1.toNat (getI y2.2.2.2.2.1 y2.1.2)).length).toNat (y2.2.2.2.2.1.set y2.1.1.toNat (getI y2.2.2.2.2.1 y2.1.2)))).length.min (((some (nI (y2.2.2.2.2.1.set y2.1.1.toNat (getI y2.2.2.2.2.1 y2.1.2)).length)).getD (nI (y2.2.2.2.2.1.set y2.1.1.toNat (getI y2.2.2.2.2.1 y2.1.2)).length)).toNat - Int.toNat (y2.1.1 + 1))) (y2.2.2.2.2.1.set y2.1.1.toNat (getI y2.2.2.2.2.1 y2.1.2))).length) <|
                gd (0 ≤ y7.1.1) <|
                gd (y7.1.1 < nI y2.2.2.2.1.1.length) <|
                gd (y2.2.2.2.1.2 = y7.1.1) <|
                some (Sum.inr (Sum.inr (Sum.inr ((getI y2.2.2.2.2.1 y2.1.2, ()), ((y2.2.2.1.set (Int.toNat (getI y2.2.2.2.2.1 y2.1.2)) y3, y2.2.2.2.1.1.set y7.1.1.toNat (List.take (Int.toNat (y2.1.1 + 1 + nI ((List.drop (Int.toNat (y2.1.2 + 1)) (List.take (nI (y2.2.2.2.2.1.set y2.1.1.toNat (getI y2.2.2.2.2.1 y2.1.2)).length).toNat (y2.2.2.2.2.1.set y2.1.1.toNat (getI y2.2.2.2.2.1 y2.1.2)))).length.min (((some (nI (y2.2.2.2.2.1.set y2.1.1.toNat (getI y2.2.2.2.2.1 y2.1.2)).length)).getD (nI (y2.2.2.2.2.1.set y2.1.1.toNat (getI y2.2.2.2.2.1 y2.1.2)).length)).toNat - Int.toNat (y2.1.1 + 1))))) (List.take (Int.toNat (y2.1.1 + 1)) (y2.2.2.2.2.1.set y2.1.1.toNat (getI y2.2.2.2.2.1 y2.1.2)) ++ List.take ((List.drop (Int.toNat (y2.1.2 + 1)) (List.take (nI (y2.2.2.2.2.1.set y2.1.1.toNat (getI y2.2.2.2.2.1 y2.1.2)).length).toNat (y2.2.2.2.2.1.set y2.1.1.toNat (getI y2.2.2.2.2.1 y2.1.2)))).length.min (((some (nI (y2.2.2.2.2.1.set y2.1.1.toNat (getI y2.2.2.2.2.1 y2.1.2)).length)).getD (nI (y2.2.2.2.2.1.set y2.1.1.toNat (getI y2.2.2.2.2.1 y2.1.2)).length)).toNat - Int.toNat (y2.1.1 + 1))) (List.drop (Int.toNat (y2.1.2 + 1)) (List.take (nI (y2.2.2.2.2.1.set y2.1.1.toNat (getI y2.2.2.2.2.1 y2.1.2)).length).toNat (y2.2.2.2.2.1.set y2.1.1.toNat (getI y2.2.2.2.2.1 y2.1.2)))) ++ List.drop (Int.toNat (y2.1.1 + 1) + (List.drop (Int.toNat (y2.1.2 + 1)) (List.take (nI (y2.2.2.2.2.1.set y2.1.1.toNat (getI y2.2.2.2.2.1 y2.1.2)).length).toNat (y2.2.2.2.2.1.set y2.1.1.toNat (getI y2.2.2.2.2.1 y2.1.2)))).length.min (((some (nI (y2.2.2.2.2.1.set y2.1.1.toNat (getI y2.2.2.2.2.1 y2.1.2)).length)).getD (nI (y2.2.2.2.2.1.set y2.1.1.toNat (getI y2.2.2.2.2.1 y2.1.2)).length)).toNat - Int.toNat (y2.1.1 + 1))) (y2.2.2.2.2.1.set y2.1.1.toNat (getI y2.2.2.2.2.1 y2.1.2)))), y2.2.2.2.2.2.1, y2.2.2.2.2.2.2.1, y2.2.2.2.2.2.2.2.1, y2.2.2.2.2.2.2.2.2, y5.2.1, y5.2.2, ()), ()), ()))))
              else
                gd (0 < nI y3.length) <|
                bindO (set_ (getI y3 0) (getI y2.2.2.2.2.1 y2.1.2) y2.2.2.2.2.2.1 y2.2.2.2.2.2.2.1 y2.2.2.2.2.2.2.2.1 y2.2.2.2.2.2.2.2.2 y5.2.1) fun y7 =>
                gd (inK IntKind.i64 (y2.1.2 + 1)) <|
                some (Sum.inl ((y2.1.1 + 1, y2.1.2 + 1), (y5.2.1, y5.2.2), y2.2.2.1.set (Int.toNat (getI y2.2.2.2.2.1 y2.1.2)) y3, (y2.2.2.2.1.1, y2.2.2.2.1.2), y2.2.2.2.2.1.set y2.1.1.toNat (getI y2.2.2.2.2.1 y2.1.2), y7.2.1.1.1, y7.2.1.1.2.1, y7.2.1.1.2.2.1, y7.2.1.1.2.2.2.1))
          else
            some (Sum.inr (Sum.inl ((y2.1.1, nI (List.length (getL y0.2.2.1 y1.1.1)), y2.1.2), (y2.2.1.1, y2.2.1.2), y2.2.2.1, (y2.2.2.2.1.1, y2.2.2.2.1.2), y2.2.2.2.2.1, y2.2.2.2.2.2.1, y2.2.2.2.2.2.2.1, y2.2.2.2.2.2.2.2.1, y2.2.2.2.2.2.2.2.2)))) (nn) ((0, 0), (y0.1.1, y0.1.2 + 1), y0.2.1, (y0.2.2.1, y1.1.1), getL y0.2.2.1 y1.1.1, y0.2.2.2.1, y0.2.2.2.2.1, y0.2.2.2.2.2.1, y0.2.2.2.2.2.2)) fun y2 =>
      bindO (at_ (0 - getI y0.2.2.2.2.2.2 y0.1.2)) fun y3 =>
      gd (0 ≤ y2.1.1) <|
      gd (y2.1.1 ≤ nI y2.2.2.2.2.1.length) <|
      gd (0 ≤ y3.1.1) <|
      gd (y3.1.1 < nI y2.2.2.2.1.1.length) <|
      gd (y2.2.2.2.1.2 = y3.1.1) <|
      some (Sum.inl ((y2.2.1.1, y2.2.1.2), y2.2.2.1, y2.2.2.2.1.1.set y3.1.1.toNat (List.take y2.1.1.toNat y2.2.2.2.2.1), y2.2.2.2.2.2.1, y2.2.2.2.2.2.2.1, y2.2.2.2.2.2.2.2.1, y2.2.2.2.2.2.2.2.2))
    else
      some (Sum.inr ((-1, ()), ((y0.2.1, y0.2.2.1, y0.2.2.2.1, y0.2.2.2.2.1, y0.2.2.2.2.2.1, y0.2.2.2.2.2.2, y0.1.1, y0.1.2, ()), ()), ()))) (nn) ((begin, done), all, watch, is, depth, why, row)

def unit (all : List (List Int)) (watch : List (List Int)) (is : List Int) (depth : List Int) (why : List Int) (row : List Int) (begin : List Int) (done : Int) : Option ((Int × Unit) × ((List (List Int) × List (List Int) × List Int × List Int × List Int × List Int × List Int × Int × Unit) × Unit) × Unit) := unitF fuelN all watch is depth why row begin done

end GoSx
end
section
/- Models of functions: what they compute, if all goes well: SatD. -/
namespace GoSx
open Go
def take (n : Int) (all : List (List Int)) (watch : List (List Int)) (is : List Int) (depth : List Int) (why : List Int) (old : List Int) (hot : List Int) (warm : List Int) (cold : Int) (row : List Int) (begin : List Int) (done : Int) (proof : List (List Int)) : Option (Unit × ((List (List Int) × List (List Int) × List Int × List Int × List Int × List Int × List Int × List Int × Int × List Int × List Int × Int × List (List Int) × Unit) × Unit) × Unit) :=
  bindO (learn n all is depth why hot warm row begin) fun y0 =>
  bindO (Clone_ y0.1.1) fun y1 =>
  gd ((proof.length + [y1.1.1].length) * 24 ≤ lim) <|
  gd (proof.length + [y1.1.1].length ≤ lim) <|
  bindO (back y0.1.2.1 is old cold row begin done) fun y2 =>
  bif nI y0.1.1.length == 1 then
    gd (0 < nI y0.1.1.length) <|
    bindO (set_ (getI y0.1.1 0) (-1) y2.2.1.1.1 depth why y2.2.1.1.2.2.2.1 y2.2.1.1.2.2.2.2.1) fun y3 =>
    some ((), ((y0.2.1.1.1, watch, y3.2.1.1.1, y3.2.1.1.2.1, y3.2.1.1.2.2.1, y2.2.1.1.2.1, y0.2.1.1.2.2.2.2.1, y0.2.1.1.2.2.2.2.2.1, y2.2.1.1.2.2.1, y3.2.1.1.2.2.2.1, y2.2.1.1.2.2.2.2.1, y2.2.1.1.2.2.2.2.2.1, proof ++ [y1.1.1], ()), ()), ())
  else
    gd (0 < nI y0.1.1.length) <|
    bindO (keep y0.1.1 y0.2.1.1.1 0 watch) fun y3 =>
    bindO (set_ (getI y0.1.1 0) y3.1.1 y2.2.1.1.1 depth why y2.2.1.1.2.2.2.1 y2.2.1.1.2.2.2.2.1) fun y4 =>
    some ((), ((y3.2.1.1.1.set y3.2.1.1.2.1.toNat y0.1.1, y3.2.1.1.2.2.1, y4.2.1.1.1, y4.2.1.1.2.1, y4.2.1.1.2.2.1, y2.2.1.1.2.1, y0.2.1.1.2.2.2.2.1, y0.2.1.1.2.2.2.2.2.1, y2.2.1.1.2.2.1, y4.2.1.1.2.2.2.1, y2.2.1.1.2.2.2.2.1, y2.2.1.1.2.2.2.2.2.1, proof ++ [y1.1.1], ()), ()), ())

def searchF (nn : Nat)  (assume : List Int) (fuel : Int) (vars : Int) (all : List (List Int)) (watch : List (List Int)) (is : List Int) (depth : List Int) (why : List Int) (old : List Int) (hot : List Int) (warm : List Int) (cold : Int) (row : List Int) (begin : List Int) (done : Int) (empty : Bool) (proof : List (List Int)) (core : List Int) : Option ((Int × Unit) × ((Int × List (List Int) × List (List Int) × List Int × List Int × List Int × List Int × List Int × List Int × Int × List Int × List Int × Int × Bool × List (List Int) × List Int × Unit) × Unit) × Unit) :=
  iterO (X := Int × (Int × Int × Int × Bool) × List (List Int) × List (List Int) × List Int × List Int × List Int × List Int × List Int × List Int × List Int × List Int × List (List Int)) (fun y0 =>
    bindO (unit y0.2.2.1 y0.2.2.2.1 y0.2.2.2.2.1 y0.2.2.2.2.2.1 y0.2.2.2.2.2.2.1 y0.2.2.2.2.2.2.2.2.2.2.1 y0.2.2.2.2.2.2.2.2.2.2.2.1 y0.2.1.2.2.1) fun y1 =>
    bif y1.1.1 != -1 then
      bif nI y0.2.2.2.2.2.2.2.2.2.2.2.1.length == 0 then
        some (Sum.inr ((2, ()), ((y0.2.1.1, y1.2.1.1.1, y1.2.1.1.2.1, y1.2.1.1.2.2.1, y1.2.1.1.2.2.2.1, y1.2.1.1.2.2.2.2.1, y0.2.2.2.2.2.2.2.1, y0.2.2.2.2.2.2.2.2.1, y0.2.2.2.2.2.2.2.2.2.1, y0.2.1.2.1, y1.2.1.1.2.2.2.2.2.1, y0.2.2.2.2.2.2.2.2.2.2.2.1, y1.2.1.1.2.2.2.2.2.2.2.1, true, y0.2.2.2.2.2.2.2.2.2.2.2.2, core, ()), ()), ()))
      else
        bif decide (fuel ≥ 0) then
          bif bif true then decide (y0.1 ≥ fuel) else false then
            some (Sum.inr ((3, ()), ((y0.2.1.1, y1.2.1.1.1, y1.2.1.1.2.1, y1.2.1.1.2.2.1, y1.2.1.1.2.2.2.1, y1.2.1.1.2.2.2.2.1, y0.2.2.2.2.2.2.2.1, y0.2.2.2.2.2.2.2.2.1, y0.2.2.2.2.2.2.2.2.2.1, y0.2.1.2.1, y1.2.1.1.2.2.2.2.2.1, y0.2.2.2.2.2.2.2.2.2.2.2.1, y1.2.1.1.2.2.2.2.2.2.2.1, y0.2.1.2.2.2, y0.2.2.2.2.2.2.2.2.2.2.2.2, core, ()), ()), ()))
          else
            bindO (take y1.1.1 y1.2.1.1.1 y1.2.1.1.2.1 y1.2.1.1.2.2.1 y1.2.1.1.2.2.2.1 y1.2.1.1.2.2.2.2.1 y0.2.2.2.2.2.2.2.1 y0.2.2.2.2.2.2.2.2.1 y0.2.2.2.2.2.2.2.2.2.1 y0.2.1.2.1 y1.2.1.1.2.2.2.2.2.1 y0.2.2.2.2.2.2.2.2.2.2.2.1 y1.2.1.1.2.2.2.2.2.2.2.1 y0.2.2.2.2.2.2.2.2.2.2.2.2) fun y2 =>
            gd (inK IntKind.i64 (y0.1 + 1)) <|
            some (Sum.inl (y0.1 + 1, (y0.2.1.1, y2.2.1.1.2.2.2.2.2.2.2.2.1, y2.2.1.1.2.2.2.2.2.2.2.2.2.2.2.1, y0.2.1.2.2.2), y2.2.1.1.1, y2.2.1.1.2.1, y2.2.1.1.2.2.1, y2.2.1.1.2.2.2.1, y2.2.1.1.2.2.2.2.1, y2.2.1.1.2.2.2.2.2.1, y2.2.1.1.2.2.2.2.2.2.1, y2.2.1.1.2.2.2.2.2.2.2.1, y2.2.1.1.2.2.2.2.2.2.2.2.2.1, y2.2.1.1.2.2.2.2.2.2.2.2.2.2.1, y2.2.1.1.2.2.2.2.2.2.2.2.2.2.2.2.1))
        else
          bindO (take y1.1.1 y1.2.1.1.1 y1.2.1.1.2.1 y1.2.1.1.2.2.1 y1.2.1.1.2.2.2.1 y1.2.1.1.2.2.2.2.1 y0.2.2.2.2.2.2.2.1 y0.2.2.2.2.2.2.2.2.1 y0.2.2.2.2.2.2.2.2.2.1 y0.2.1.2.1 y1.2.1.1.2.2.2.2.2.1 y0.2.2.2.2.2.2.2.2.2.2.2.1 y1.2.1.1.2.2.2.2.2.2.2.1 y0.2.2.2.2.2.2.2.2.2.2.2.2) fun y2 =>
          gd (inK IntKind.i64 (y0.1 + 1)) <|
          some (Sum.inl (y0.1 + 1, (y0.2.1.1, y2.2.1.1.2.2.2.2.2.2.2.2.1, y2.2.1.1.2.2.2.2.2.2.2.2.2.2.2.1, y0.2.1.2.2.2), y2.2.1.1.1, y2.2.1.1.2.1, y2.2.1.1.2.2.1, y2.2.1.1.2.2.2.1, y2.2.1.1.2.2.2.2.1, y2.2.1.1.2.2.2.2.2.1, y2.2.1.1.2.2.2.2.2.2.1, y2.2.1.1.2.2.2.2.2.2.2.1, y2.2.1.1.2.2.2.2.2.2.2.2.2.1, y2.2.1.1.2.2.2.2.2.2.2.2.2.2.1, y2.2.1.1.2.2.2.2.2.2.2.2.2.2.2.2.1))
    else
      iterO (X := (Int × Int × Int × Bool) × List Int) (fun y2 =>
        bif decide (nI y2.2.length < nI assume.length) then
          gd (nI y2.2.length < nI assume.length) <|
          bindO (value (getI assume (nI y2.2.length)) y1.2.1.1.2.2.1) fun y3 =>
          bif y3.1.1 == -1 then
            bindO (blame (getI assume (nI y2.2.length)) y1.2.1.1.1 y1.2.1.1.2.2.2.2.1 y1.2.1.1.2.2.2.2.2.1 y2.2) fun y4 =>
            some (Sum.inr (Sum.inr ((2, ()), ((y2.1.1, y4.2.1.1.1, y1.2.1.1.2.1, y1.2.1.1.2.2.1, y1.2.1.1.2.2.2.1, y1.2.1.1.2.2.2.2.1, y0.2.2.2.2.2.2.2.1, y0.2.2.2.2.2.2.2.2.1, y0.2.2.2.2.2.2.2.2.2.1, y2.1.2.1, y1.2.1.1.2.2.2.2.2.1, y2.2, y2.1.2.2.1, y2.1.2.2.2, y0.2.2.2.2.2.2.2.2.2.2.2.2, y4.1.1, ()), ()), ())))
          else
            bif y3.1.1 == 0 then
              bif getI assume (nI y2.2.length) == 0 then
                bindO (pick y2.1.1 y1.2.1.1.2.2.1 y0.2.2.2.2.2.2.2.1 y0.2.2.2.2.2.2.2.2.1 y0.2.2.2.2.2.2.2.2.2.1 y2.1.2.1) fun y4 =>
                bif y4.1.1 == 0 then
                  some (Sum.inr (Sum.inr ((1, ()), ((y4.2.1.1.1, y1.2.1.1.1, y1.2.1.1.2.1, y1.2.1.1.2.2.1, y1.2.1.1.2.2.2.1, y1.2.1.1.2.2.2.2.1, y0.2.2.2.2.2.2.2.1, y0.2.2.2.2.2.2.2.2.1, y0.2.2.2.2.2.2.2.2.2.1, y4.2.1.1.2.2.2.2.2.1, y1.2.1.1.2.2.2.2.2.1, y2.2, y2.1.2.2.1, y2.1.2.2.2, y0.2.2.2.2.2.2.2.2.2.2.2.2, core, ()), ()), ())))
                else
                  gd ((y2.2.length + [nI y1.2.1.1.2.2.2.2.2.1.length].length) * 8 ≤ lim) <|
                  gd (y2.2.length + [nI y1.2.1.1.2.2.2.2.2.1.length].length ≤ lim) <|
                  bindO (set_ y4.1.1 (-1) y1.2.1.1.2.2.1 y1.2.1.1.2.2.2.1 y1.2.1.1.2.2.2.2.1 y1.2.1.1.2.2.2.2.2.1 (y2.2 ++ [nI y1.2.1.1.2.2.2.2.2.1.length])) fun y5 =>
                  some (Sum.inr (Sum.inl (y0.1, (y4.2.1.1.1, y4.2.1.1.2.2.2.2.2.1, y2.1.2.2.1, y2.1.2.2.2), y1.2.1.1.1, y1.2.1.1.2.1, y5.2.1.1.1, y5.2.1.1.2.1, y5.2.1.1.2.2.1, y0.2.2.2.2.2.2.2.1, y0.2.2.2.2.2.2.2.2.1, y0.2.2.2.2.2.2.2.2.2.1, y5.2.1.1.2.2.2.1, y2.2 ++ [nI y1.2.1.1.2.2.2.2.2.1.length], y0.2.2.2.2.2.2.2.2.2.2.2.2)))
              else
                bif getI assume (nI y2.2.length) == 0 then
                  some (Sum.inr (Sum.inr ((1, ()), ((y2.1.1, y1.2.1.1.1, y1.2.1.1.2.1, y1.2.1.1.2.2.1, y1.2.1.1.2.2.2.1, y1.2.1.1.2.2.2.2.1, y0.2.2.2.2.2.2.2.1, y0.2.2.2.2.2.2.2.2.1, y0.2.2.2.2.2.2.2.2.2.1, y2.1.2.1, y1.2.1.1.2.2.2.2.2.1, y2.2, y2.1.2.2.1, y2.1.2.2.2, y0.2.2.2.2.2.2.2.2.2.2.2.2, core, ()), ()), ())))
                else
                  gd ((y2.2.length + [nI y1.2.1.1.2.2.2.2.2.1.length].length) * 8 ≤ lim) <|
                  gd (y2.2.length + [nI y1.2.1.1.2.2.2.2.2.1.length].length ≤ lim) <|
                  bindO (set_ (getI assume (nI y2.2.length)) (-1) y1.2.1.1.2.2.1 y1.2.1.1.2.2.2.1 y1.2.1.1.2.2.2.2.1 y1.2.1.1.2.2.2.2.2.1 (y2.2 ++ [nI y1.2.1.1.2.2.2.2.2.1.length])) fun y4 =>
                  some (Sum.inr (Sum.inl (y0.1, (y2.1.1, y2.1.2.1, y2.1.2.2.1, y2.1.2.2.2), y1.2.1.1.1, y1.2.1.1.2.1, y4.2.1.1.1, y4.2.1.1.2.1, y4.2.1.1.2.2.1, y0.2.2.2.2.2.2.2.1, y0.2.2.2.2.2.2.2.2.1, y0.2.2.2.2.2.2.2.2.2.1, y4.2.1.1.2.2.2.1, y2.2 ++ [nI y1.2.1.1.2.2.2.2.2.1.length], y0.2.2.2.2.2.2.2.2.2.2.2.2)))
            else
              gd ((y2.2.length + [nI y1.2.1.1.2.2.2.2.2.1.length].length) * 8 ≤ lim) <|
              gd (y2.2.length + [nI y1.2.1.1.2.2.2.2.2.1.length].length ≤ lim) <|
              some (Sum.inl ((y2.1.1, y2.1.2.1, y2.1.2.2.1, y2.1.2.2.2), y2.2 ++ [nI y1.2.1.1.2.2.2.2.2.1.length]))
        else
          bindO (pick y2.1.1 y1.2.1.1.2.2.1 y0.2.2.2.2.2.2.2.1 y0.2.2.2.2.2.2.2.2.1 y0.2.2.2.2.2.2.2.2.2.1 y2.1.2.1) fun y3 =>
          bif y3.1.1 == 0 then
            some (Sum.inr (Sum.inr ((1, ()), ((y3.2.1.1.1, y1.2.1.1.1, y1.2.1.1.2.1, y1.2.1.1.2.2.1, y1.2.1.1.2.2.2.1, y1.2.1.1.2.2.2.2.1, y0.2.2.2.2.2.2.2.1, y0.2.2.2.2.2.2.2.2.1, y0.2.2.2.2.2.2.2.2.2.1, y3.2.1.1.2.2.2.2.2.1, y1.2.1.1.2.2.2.2.2.1, y2.2, y2.1.2.2.1, y2.1.2.2.2, y0.2.2.2.2.2.2.2.2.2.2.2.2, core, ()), ()), ())))
          else
            gd ((y2.2.length + [nI y1.2.1.1.2.2.2.2.2.1.length].length) * 8 ≤ lim) <|
            gd (y2.2.length + [nI y1.2.1.1.2.2.2.2.2.1.length].length ≤ lim) <|
            bindO (set_ y3.1.1 (-1) y1.2.1.1.2.2.1 y1.2.1.1.2.2.2.1 y1.2.1.1.2.2.2.2.1 y1.2.1.1.2.2.2.2.2.1 (y2.2 ++ [nI y1.2.1.1.2.2.2.2.2.1.length])) fun y4 =>
            some (Sum.inr (Sum.inl (y0.1, (y3.2.1.1.1, y3.2.1.1.2.2.2.2.2.1, y2.1.2.2.1, y2.1.2.2.2), y1.2.1.1.1, y1.2.1.1.2.1, y4.2.1.1.1, y4.2.1.1.2.1, y4.2.1.1.2.2.1, y0.2.2.2.2.2.2.2.1, y0.2.2.2.2.2.2.2.2.1, y0.2.2.2.2.2.2.2.2.2.1, y4.2.1.1.2.2.2.1, y2.2 ++ [nI y1.2.1.1.2.2.2.2.2.1.length], y0.2.2.2.2.2.2.2.2.2.2.2.2)))) (nn) ((y0.2.1.1, y0.2.1.2.1, y1.2.1.1.2.2.2.2.2.2.2.1, y0.2.1.2.2.2), y0.2.2.2.2.2.2.2.2.2.2.2.1)) (nn) (0, (vars, cold, done, empty), all, watch, is, depth, why, old, hot, warm, row, begin, proof)

def search (assume : List Int) (fuel : Int) (vars : Int) (all : List (List Int)) (watch : List (List Int)) (is : List Int) (depth : List Int) (why : List Int) (old : List Int) (hot : List Int) (warm : List Int) (cold : Int) (row : List Int) (begin : List Int) (done : Int) (empty : Bool) (proof : List (List Int)) (core : List Int) : Option ((Int × Unit) × ((Int × List (List Int) × List (List Int) × List Int × List Int × List Int × List Int × List Int × List Int × Int × List Int × List Int × Int × Bool × List (List Int) × List Int × Unit) × Unit) × Unit) := searchF fuelN assume fuel vars all watch is depth why old hot warm cold row begin done empty proof core

def AskF (nn : Nat)  (assume : List Int) (fuel : Int) (vars : Int) (all : List (List Int)) (watch : List (List Int)) (is : List Int) (depth : List Int) (why : List Int) (old : List Int) (hot : List Int) (warm : List Int) (cold : Int) (row : List Int) (begin : List Int) (done : Int) (empty : Bool) (proof : List (List Int)) (answer : Int) (core : List Int) (model : List Bool) : Option ((Int × Unit) × ((Int × List (List Int) × List (List Int) × List Int × List Int × List Int × List Int × List Int × List Int × Int × List Int × List Int × Int × Bool × List (List Int) × Int × List Int × List Bool × Unit) × Unit) × Unit) :=
  bindO (forget answer core model) fun y0 =>
  bindO (own assume vars) fun y1 =>
  bif !y1.1.1 then
    some ((0, ()), ((y1.2.1.1.1, all, watch, is, depth, why, old, hot, warm, cold, row, begin, done, empty, proof, y0.2.1.1.1, y0.2.1.1.2.1, y0.2.1.1.2.2.1, ()), ()), ())
  else
    bindO (back 0 is old cold row begin done) fun y2 =>
    joinO (X := (Int × Int × Int × Bool × Int) × List (List Int) × List (List Int) × List Int × List Int × List Int × List Int × List Int × List Int × List Int × List Int × List (List Int) × List Int) (
      bif !empty then
        bindO (search assume fuel y1.2.1.1.1 all watch y2.2.1.1.1 depth why y2.2.1.1.2.1 hot warm y2.2.1.1.2.2.1 y2.2.1.1.2.2.2.1 y2.2.1.1.2.2.2.2.1 y2.2.1.1.2.2.2.2.2.1 empty proof y0.2.1.1.2.1) fun y3 =>
        some (Sum.inl ((y3.2.1.1.1, y3.2.1.1.2.2.2.2.2.2.2.2.2.1, y3.2.1.1.2.2.2.2.2.2.2.2.2.2.2.2.1, y3.2.1.1.2.2.2.2.2.2.2.2.2.2.2.2.2.1, y3.1.1), y3.2.1.1.2.1, y3.2.1.1.2.2.1, y3.2.1.1.2.2.2.1, y3.2.1.1.2.2.2.2.1, y3.2.1.1.2.2.2.2.2.1, y3.2.1.1.2.2.2.2.2.2.1, y3.2.1.1.2.2.2.2.2.2.2.1, y3.2.1.1.2.2.2.2.2.2.2.2.1, y3.2.1.1.2.2.2.2.2.2.2.2.2.2.1, y3.2.1.1.2.2.2.2.2.2.2.2.2.2.2.1, y3.2.1.1.2.2.2.2.2.2.2.2.2.2.2.2.2.2.1, y3.2.1.1.2.2.2.2.2.2.2.2.2.2.2.2.2.2.2.1))
      else
        some (Sum.inl ((y1.2.1.1.1, y2.2.1.1.2.2.1, y2.2.1.1.2.2.2.2.2.1, empty, 2), all, watch, y2.2.1.1.1, depth, why, y2.2.1.1.2.1, hot, warm, y2.2.1.1.2.2.2.1, y2.2.1.1.2.2.2.2.1, proof, y0.2.1.1.2.1))) fun y3 =>
    bif y3.1.2.2.2.2 == 1 then
      iterO (X := Int × (Int × Int × Int × Bool × Int) × List Bool) (fun y4 =>
        bif decide (y4.1 ≤ y4.2.1.1) then
          gd (0 ≤ y4.1) <|
          gd (y4.1 < nI y3.2.2.2.1.length) <|
          gd ((y4.2.2.length + [getI y3.2.2.2.1 y4.1 == 1].length) * 1 ≤ lim) <|
          gd (y4.2.2.length + [getI y3.2.2.2.1 y4.1 == 1].length ≤ lim) <|
          gd (inK IntKind.i64 (y4.1 + 1)) <|
          some (Sum.inl (y4.1 + 1, (y4.2.1.1, y4.2.1.2.1, y4.2.1.2.2.1, y4.2.1.2.2.2.1, y4.2.1.2.2.2.2), y4.2.2 ++ [getI y3.2.2.2.1 y4.1 == 1]))
        else
          bindO (back 0 y3.2.2.2.1 y3.2.2.2.2.2.2.1 y4.2.1.2.1 y3.2.2.2.2.2.2.2.2.2.1 y3.2.2.2.2.2.2.2.2.2.2.1 y4.2.1.2.2.1) fun y5 =>
          some (Sum.inr ((y4.2.1.2.2.2.2, ()), ((y4.2.1.1, y3.2.1, y3.2.2.1, y5.2.1.1.1, y3.2.2.2.2.1, y3.2.2.2.2.2.1, y5.2.1.1.2.1, y3.2.2.2.2.2.2.2.1, y3.2.2.2.2.2.2.2.2.1, y5.2.1.1.2.2.1, y5.2.1.1.2.2.2.1, y5.2.1.1.2.2.2.2.1, y5.2.1.1.2.2.2.2.2.1, y4.2.1.2.2.2.1, y3.2.2.2.2.2.2.2.2.2.2.2.1, y4.2.1.2.2.2.2, y3.2.2.2.2.2.2.2.2.2.2.2.2, y4.2.2, ()), ()), ()))) (nn) (1, (y3.1.1, y3.1.2.1, y3.1.2.2.1, y3.1.2.2.2.1, y3.1.2.2.2.2), y0.2.1.1.2.2.1)
    else
      bif y3.1.2.2.2.2 == 2 then
        iterO (X := Int × List Int) (fun y4 =>
          bif decide (y4.1 < nI assume.length) then
            gd (0 ≤ y4.1) <|
            gd (y4.1 < nI assume.length) <|
            bindO (Contains_ y3.2.2.2.2.2.2.2.2.2.2.2.2 (getI assume y4.1)) fun y5 =>
            bif y5.1.1 then
              bindO (Contains_ y4.2 (getI assume y4.1)) fun y6 =>
              bif bif true then !y6.1.1 else false then
                gd ((y4.2.length + [getI assume y4.1].length) * 8 ≤ lim) <|
                gd (y4.2.length + [getI assume y4.1].length ≤ lim) <|
                gd (inK IntKind.i64 (y4.1 + 1)) <|
                some (Sum.inl (y4.1 + 1, y4.2 ++ [getI assume y4.1]))
              else
                gd (inK IntKind.i64 (y4.1 + 1)) <|
                some (Sum.inl (y4.1 + 1, y4.2))
            else
              gd (inK IntKind.i64 (y4.1 + 1)) <|
              some (Sum.inl (y4.1 + 1, y4.2))
          else
            bindO (back 0 y3.2.2.2.1 y3.2.2.2.2.2.2.1 y3.1.2.1 y3.2.2.2.2.2.2.2.2.2.1 y3.2.2.2.2.2.2.2.2.2.2.1 y3.1.2.2.1) fun y5 =>
            some (Sum.inr ((y3.1.2.2.2.2, ()), ((y3.1.1, y3.2.1, y3.2.2.1, y5.2.1.1.1, y3.2.2.2.2.1, y3.2.2.2.2.2.1, y5.2.1.1.2.1, y3.2.2.2.2.2.2.2.1, y3.2.2.2.2.2.2.2.2.1, y5.2.1.1.2.2.1, y5.2.1.1.2.2.2.1, y5.2.1.1.2.2.2.2.1, y5.2.1.1.2.2.2.2.2.1, y3.1.2.2.2.1, y3.2.2.2.2.2.2.2.2.2.2.2.1, y3.1.2.2.2.2, y4.2, y0.2.1.1.2.2.1, ()), ()), ()))) (nn) (0, [])
      else
        bindO (back 0 y3.2.2.2.1 y3.2.2.2.2.2.2.1 y3.1.2.1 y3.2.2.2.2.2.2.2.2.2.1 y3.2.2.2.2.2.2.2.2.2.2.1 y3.1.2.2.1) fun y4 =>
        some ((y3.1.2.2.2.2, ()), ((y3.1.1, y3.2.1, y3.2.2.1, y4.2.1.1.1, y3.2.2.2.2.1, y3.2.2.2.2.2.1, y4.2.1.1.2.1, y3.2.2.2.2.2.2.2.1, y3.2.2.2.2.2.2.2.2.1, y4.2.1.1.2.2.1, y4.2.1.1.2.2.2.1, y4.2.1.1.2.2.2.2.1, y4.2.1.1.2.2.2.2.2.1, y3.1.2.2.2.1, y3.2.2.2.2.2.2.2.2.2.2.2.1, y3.1.2.2.2.2, y3.2.2.2.2.2.2.2.2.2.2.2.2, y0.2.1.1.2.2.1, ()), ()), ())

def Ask (assume : List Int) (fuel : Int) (vars : Int) (all : List (List Int)) (watch : List (List Int)) (is : List Int) (depth : List Int) (why : List Int) (old : List Int) (hot : List Int) (warm : List Int) (cold : Int) (row : List Int) (begin : List Int) (done : Int) (empty : Bool) (proof : List (List Int)) (answer : Int) (core : List Int) (model : List Bool) : Option ((Int × Unit) × ((Int × List (List Int) × List (List Int) × List Int × List Int × List Int × List Int × List Int × List Int × Int × List Int × List Int × Int × Bool × List (List Int) × Int × List Int × List Bool × Unit) × Unit) × Unit) := AskF fuelN assume fuel vars all watch is depth why old hot warm cold row begin done empty proof answer core model

end GoSx
end
section
/- Models of functions: what they compute, if all goes well: CubeA. -/
namespace GoSx
open Go
def latch (x : Int) : Option ((Int × Unit) × Unit × Unit) :=
  some ((max2 x (IntKind.i64.wrap (0 - x)), ()), (), ())

def holdsC (x : Int) (state : List Bool) : Option ((Bool × Unit) × ((List Bool × Unit) × Unit) × Unit) :=
  bindO (latch x) fun y0 =>
  bif decide (y0.1.1 > nI state.length) then
    some ((true, ()), ((state, ()), ()), ())
  else
    bindO (latch x) fun y1 =>
    gd (inK IntKind.i64 (y1.1.1 - 1)) <|
    gd (0 ≤ y1.1.1 - 1) <|
    gd (y1.1.1 - 1 < nI state.length) <|
    some ((bif false then true else !getB state (y1.1.1 - 1) == decide (x > 0), ()), ((state, ()), ()), ())

def IndexFunc_holdsF (nn : Nat)  (s : List Int) (state : List Bool) : Option ((Int × Unit) × ((List Bool × Unit) × Unit) × Unit) :=
  iterO (X := Int × List Bool) (fun y0 =>
    bif decide (y0.1 < nI s.length) then
      gd (0 ≤ y0.1) <|
      gd (y0.1 < nI s.length) <|
      bindO (holdsC (getI s y0.1) y0.2) fun y1 =>
      bif y1.1.1 then
        some (Sum.inr ((y0.1, ()), ((y0.2, ()), ()), ()))
      else
        gd (inK IntKind.i64 (y0.1 + 1)) <|
        some (Sum.inl (y0.1 + 1, y0.2))
    else
      some (Sum.inr ((-1, ()), ((y0.2, ()), ()), ()))) (nn) (0, state)

def IndexFunc_holds (s : List Int) (state : List Bool) : Option ((Int × Unit) × ((List Bool × Unit) × Unit) × Unit) := IndexFunc_holdsF fuelN s state

def ContainsFunc_holds (s : List Int) (state : List Bool) : Option ((Bool × Unit) × ((List Bool × Unit) × Unit) × Unit) :=
  bindO (IndexFunc_holds s state) fun y0 =>
  some ((decide (y0.1.1 ≥ 0), ()), ((state, ()), ()), ())

def cHolds (l : List Int) (state : List Bool) : Option ((Bool × Unit) × Unit × Unit) :=
  bindO (ContainsFunc_holds l state) fun y0 =>
  some ((!y0.1.1, ()), (), ())

def coversC (x : Int) (b : List Int) : Option ((Bool × Unit) × ((List Int × Unit) × Unit) × Unit) :=
  bindO (Contains_ b x) fun y0 =>
  some ((!y0.1.1, ()), ((b, ()), ()), ())

def IndexFunc_coversF (nn : Nat)  (s : List Int) (b : List Int) : Option ((Int × Unit) × ((List Int × Unit) × Unit) × Unit) :=
  iterO (X := Int × List Int) (fun y0 =>
    bif decide (y0.1 < nI s.length) then
      gd (0 ≤ y0.1) <|
      gd (y0.1 < nI s.length) <|
      bindO (coversC (getI s y0.1) y0.2) fun y1 =>
      bif y1.1.1 then
        some (Sum.inr ((y0.1, ()), ((y0.2, ()), ()), ()))
      else
        gd (inK IntKind.i64 (y0.1 + 1)) <|
        some (Sum.inl (y0.1 + 1, y0.2))
    else
      some (Sum.inr ((-1, ()), ((y0.2, ()), ()), ()))) (nn) (0, b)

def IndexFunc_covers (s : List Int) (b : List Int) : Option ((Int × Unit) × ((List Int × Unit) × Unit) × Unit) := IndexFunc_coversF fuelN s b

def ContainsFunc_covers (s : List Int) (b : List Int) : Option ((Bool × Unit) × ((List Int × Unit) × Unit) × Unit) :=
  bindO (IndexFunc_covers s b) fun y0 =>
  some ((decide (y0.1.1 ≥ 0), ()), ((b, ()), ()), ())

def cCovers (a : List Int) (b : List Int) : Option ((Bool × Unit) × Unit × Unit) :=
  bindO (ContainsFunc_covers a b) fun y0 =>
  some ((!y0.1.1, ()), (), ())

def cClauseF (nn : Nat)  (l : List Int) : Option ((List Int × Unit) × Unit × Unit) :=
  iterO (X := Int × List Int) (fun y0 =>
    bif decide (y0.1 < nI l.length) then
      gd (0 ≤ y0.1) <|
      gd (y0.1 < nI l.length) <|
      gd ((y0.2.length + [IntKind.i64.wrap (0 - getI l y0.1)].length) * 8 ≤ lim) <|
      gd (y0.2.length + [IntKind.i64.wrap (0 - getI l y0.1)].length ≤ lim) <|
      some (Sum.inl (IntKind.i64.wrap (y0.1 + 1), y0.2 ++ [IntKind.i64.wrap (0 - getI l y0.1)]))
    else
      some (Sum.inr ((y0.2, ()), (), ()))) (nn) (0, [])

def cClause (l : List Int) : Option ((List Int × Unit) × Unit × Unit) := cClauseF fuelN l

def cOfF (nn : Nat)  (state : List Bool) : Option ((List Int × Unit) × Unit × Unit) :=
  iterO (X := Int × List Int) (fun y0 =>
    bif decide (y0.1 < nI state.length) then
      gd (0 ≤ y0.1) <|
      gd (y0.1 < nI state.length) <|
      bif getB state y0.1 then
        gd (inK IntKind.i64 (y0.1 + 1)) <|
        gd ((y0.2.length + [y0.1 + 1].length) * 8 ≤ lim) <|
        gd (y0.2.length + [y0.1 + 1].length ≤ lim) <|
        gd (inK IntKind.i64 (y0.1 + 1)) <|
        some (Sum.inl (y0.1 + 1, y0.2 ++ [y0.1 + 1]))
      else
        gd (inK IntKind.i64 (0 - y0.1)) <|
        gd (inK IntKind.i64 (0 - y0.1 - 1)) <|
        gd ((y0.2.length + [0 - y0.1 - 1].length) * 8 ≤ lim) <|
        gd (y0.2.length + [0 - y0.1 - 1].length ≤ lim) <|
        gd (inK IntKind.i64 (y0.1 + 1)) <|
        some (Sum.inl (y0.1 + 1, y0.2 ++ [0 - y0.1 - 1]))
    else
      some (Sum.inr ((y0.2, ()), (), ()))) (nn) (0, [])

def cOf (state : List Bool) : Option ((List Int × Unit) × Unit × Unit) := cOfF fuelN state

def narrowF (nn : Nat)  (l : List Int) : Option ((List Int × Unit) × Unit × Unit) :=
  iterO (X := Int × List Int) (fun y0 =>
    bif decide (y0.1 < nI l.length) then
      bif bif true then decide (y0.1 < 12) else false then
        gd (0 ≤ y0.1) <|
        gd (y0.1 < nI l.length) <|
        bif (IntKind.i64.wrap (get (Ty.int IntKind.i8) l y0.1)).tmod 7 != 0 then
          gd ((y0.2.length + [(IntKind.i64.wrap (get (Ty.int IntKind.i8) l y0.1)).tmod 7].length) * 8 ≤ lim) <|
          gd (y0.2.length + [(IntKind.i64.wrap (get (Ty.int IntKind.i8) l y0.1)).tmod 7].length ≤ lim) <|
          gd (inK IntKind.i64 (y0.1 + 1)) <|
          some (Sum.inl (y0.1 + 1, y0.2 ++ [(IntKind.i64.wrap (get (Ty.int IntKind.i8) l y0.1)).tmod 7]))
        else
          gd (inK IntKind.i64 (y0.1 + 1)) <|
          some (Sum.inl (y0.1 + 1, y0.2))
      else
        some (Sum.inr ((y0.2, ()), (), ()))
    else
      some (Sum.inr ((y0.2, ()), (), ()))) (nn) (0, [])

def narrow (l : List Int) : Option ((List Int × Unit) × Unit × Unit) := narrowF fuelN l

def bits24F (nn : Nat)  (l : List Bool) (many : Int) : Option ((List Bool × Unit) × Unit × Unit) :=
  iterO (X := Int × List Bool) (fun y0 =>
    bif decide (y0.1 < many) then
      bif decide (y0.1 < nI l.length) then
        gd (0 ≤ y0.1) <|
        gd (y0.1 < nI l.length) <|
        gd ((y0.2.length + [bif true then getB l y0.1 else false].length) * 1 ≤ lim) <|
        gd (y0.2.length + [bif true then getB l y0.1 else false].length ≤ lim) <|
        gd (inK IntKind.i64 (y0.1 + 1)) <|
        some (Sum.inl (y0.1 + 1, y0.2 ++ [bif true then getB l y0.1 else false]))
      else
        gd ((y0.2.length + 1) * 1 ≤ lim) <|
        gd (y0.2.length + 1 ≤ lim) <|
        gd (inK IntKind.i64 (y0.1 + 1)) <|
        some (Sum.inl (y0.1 + 1, y0.2 ++ [false]))
    else
      some (Sum.inr ((y0.2, ()), (), ()))) (nn) (0, [])

def bits24 (l : List Bool) (many : Int) : Option ((List Bool × Unit) × Unit × Unit) := bits24F fuelN l many

def Bits16F (nn : Nat)  (n : Int) (many : Int) : Option ((List Bool × Unit) × Unit × Unit) :=
  iterO (X := Int × List Bool) (fun y0 =>
    bif decide (y0.1 < many) then
      gd (0 ≤ y0.1) <|
      gd ((y0.2.length + [IntKind.i64.wrap (nI (BitVec.ofInt 64 (n.fdiv (2 ^ min y0.1.toNat 64)) &&& BitVec.ofInt 64 1).toNat) == 1].length) * 1 ≤ lim) <|
      gd (y0.2.length + [IntKind.i64.wrap (nI (BitVec.ofInt 64 (n.fdiv (2 ^ min y0.1.toNat 64)) &&& BitVec.ofInt 64 1).toNat) == 1].length ≤ lim) <|
      gd (inK IntKind.i64 (y0.1 + 1)) <|
      some (Sum.inl (y0.1 + 1, y0.2 ++ [IntKind.i64.wrap (nI (BitVec.ofInt 64 (n.fdiv (2 ^ min y0.1.toNat 64)) &&& BitVec.ofInt 64 1).toNat) == 1]))
    else
      some (Sum.inr ((y0.2, ()), (), ()))) (nn) (0, [])

def Bits16 (n : Int) (many : Int) : Option ((List Bool × Unit) × Unit × Unit) := Bits16F fuelN n many

def sameIntsF (nn : Nat)  (a : List Int) (b : List Int) : Option ((Bool × Unit) × Unit × Unit) :=
  bif nI a.length != nI b.length then
    some ((false, ()), (), ())
  else
    iterO (X := Int) (fun y0 =>
      bif decide (y0 < nI a.length) then
        gd (0 ≤ y0) <|
        gd (y0 < nI a.length) <|
        gd (0 ≤ y0) <|
        gd (y0 < nI b.length) <|
        bif getI a y0 != getI b y0 then
          some (Sum.inr ((false, ()), (), ()))
        else
          gd (inK IntKind.i64 (y0 + 1)) <|
          some (Sum.inl (y0 + 1))
      else
        some (Sum.inr ((true, ()), (), ()))) (nn) 0

def sameInts (a : List Int) (b : List Int) : Option ((Bool × Unit) × Unit × Unit) := sameIntsF fuelN a b

def cmpIsNaN (x : Int) : Option ((Bool × Unit) × Unit × Unit) :=
  some ((x != x, ()), (), ())

def cmpCompare (x : Int) (y : Int) : Option ((Int × Unit) × Unit × Unit) :=
  bindO (cmpIsNaN x) fun y0 =>
  bindO (cmpIsNaN y) fun y1 =>
  bif y0.1.1 then
    bif y1.1.1 then
      some ((0, ()), (), ())
    else
      some ((-1, ()), (), ())
  else
    bif y1.1.1 then
      some ((1, ()), (), ())
    else
      bif decide (x < y) then
        some ((-1, ()), (), ())
      else
        bif decide (x > y) then
          some ((1, ()), (), ())
        else
          some ((0, ()), (), ())

def cmpOrF (nn : Nat)  (vals : List Int) : Option ((Int × Unit) × Unit × Unit) :=
  iterO (X := Int) (fun y0 =>
    bif decide (y0 < nI vals.length) then
      gd (0 ≤ y0) <|
      gd (y0 < nI vals.length) <|
      bif getI vals y0 != 0 then
        some (Sum.inr ((getI vals y0, ()), (), ()))
      else
        gd (inK IntKind.i64 (y0 + 1)) <|
        some (Sum.inl (y0 + 1))
    else
      some (Sum.inr ((0, ()), (), ()))) (nn) 0

def cmpOr (vals : List Int) : Option ((Int × Unit) × Unit × Unit) := cmpOrF fuelN vals

def normC (a : Int) (b : Int) : Option ((Int × Unit) × Unit × Unit) :=
  bindO (latch a) fun y0 =>
  bindO (latch b) fun y1 =>
  bindO (cmpCompare y0.1.1 y1.1.1) fun y2 =>
  bindO (cmpCompare a b) fun y3 =>
  bindO (cmpOr [y2.1.1, y3.1.1]) fun y4 =>
  some ((y4.1.1, ()), (), ())

def litOf (l : Int) (off : Int) : Option ((Int × Unit) × Unit × Unit) :=
  gd (inK IntKind.i64 (off + 1)) <|
  gd (inK IntKind.i64 (off + 1 + l.fdiv (2 ^ 1))) <|
  gd (inK IntKind.i64 (2 * IntKind.i64.wrap (nI (BitVec.ofInt 64 l &&& BitVec.ofInt 64 1).toNat))) <|
  gd (inK IntKind.i64 (1 - 2 * IntKind.i64.wrap (nI (BitVec.ofInt 64 l &&& BitVec.ofInt 64 1).toNat))) <|
  gd (inK IntKind.i64 ((off + 1 + l.fdiv (2 ^ 1)) * (1 - 2 * IntKind.i64.wrap (nI (BitVec.ofInt 64 l &&& BitVec.ofInt 64 1).toNat)))) <|
  some (((off + 1 + l.fdiv (2 ^ 1)) * (1 - 2 * IntKind.i64.wrap (nI (BitVec.ofInt 64 l &&& BitVec.ofInt 64 1).toNat)), ()), (), ())

def cnfOf (l : Int) (off : Int) : Option ((Int × Unit) × Unit × Unit) :=
  bindO (litOf l off) fun y0 =>
  some ((y0.1.1, ()), (), ())

def lit (x : Int) : Option ((Int × Unit) × Unit × Unit) :=
  bindO (cnfOf x 0) fun y0 =>
  some ((y0.1.1, ()), (), ())

def cnfVars (ins : Int) (ands : List (Int × Int × Unit)) : Option ((Int × Unit) × Unit × Unit) :=
  gd (inK IntKind.i64 (1 + ins)) <|
  gd (inK IntKind.i64 (1 + ins + nI ands.length)) <|
  some ((1 + ins + nI ands.length, ()), (), ())

def circFirstF (nn : Nat)  (gi : Int) (ga : List (Int × Int × Unit)) (ci : List (Int × Int × Int × Unit)) (cl : List (Int × Int × Bool × Int × Int × Unit)) (co : List (Int × Int × Int × Unit)) : Option ((List Bool × Unit) × Unit × Unit) :=
  gd (nI cl.length ≤ nI cl.length) <|
  gd ((nI cl.length).toNat * 1 ≤ lim) <|
  gd (nI cl.length ≤ nI lim) <|
  iterO (X := Int × List Bool) (fun y0 =>
    bif decide (y0.1 < nI cl.length) then
      gd (0 ≤ y0.1) <|
      gd (y0.1 < nI cl.length) <|
      gd (0 ≤ y0.1) <|
      gd (y0.1 < nI y0.2.length) <|
      gd (inK IntKind.i64 (y0.1 + 1)) <|
      some (Sum.inl (y0.1 + 1, y0.2.set y0.1.toNat (get latchT cl y0.1).2.2.1))
    else
      some (Sum.inr ((y0.2, ()), (), ()))) (nn) (0, List.replicate (nI cl.length).toNat false)

def circFirst (gi : Int) (ga : List (Int × Int × Unit)) (ci : List (Int × Int × Int × Unit)) (cl : List (Int × Int × Bool × Int × Int × Unit)) (co : List (Int × Int × Int × Unit)) : Option ((List Bool × Unit) × Unit × Unit) := circFirstF fuelN gi ga ci cl co

def cFirst (gi : Int) (ga : List (Int × Int × Unit)) (ci : List (Int × Int × Int × Unit)) (cl : List (Int × Int × Bool × Int × Int × Unit)) (co : List (Int × Int × Int × Unit)) (l : List Int) : Option ((Bool × Unit) × Unit × Unit) :=
  bindO (circFirst gi ga ci cl co) fun y0 =>
  bindO (cHolds l y0.1.1) fun y1 =>
  some ((y1.1.1, ()), (), ())

def clausesAdd (l : List Int) (c : List (List Int)) : Option (Unit × ((List (List Int) × Unit) × Unit) × Unit) :=
  gd ((c.length + [l].length) * 24 ≤ lim) <|
  gd (c.length + [l].length ≤ lim) <|
  some ((), ((c ++ [l], ()), ()), ())

def cnfClausesF (nn : Nat)  (ins : Int) (ands : List (Int × Int × Unit)) (off : Int) : Option ((List (List Int) × Unit) × Unit × Unit) :=
  bindO (cnfOf 0 off) fun y0 =>
  gd (inK IntKind.i64 (0 - y0.1.1)) <|
  bindO (clausesAdd [0 - y0.1.1] []) fun y1 =>
  iterO (X := Int × List (List Int)) (fun y2 =>
    bif decide (y2.1 < nI ands.length) then
      gd (0 ≤ y2.1) <|
      gd (y2.1 < nI ands.length) <|
      gd (inK IntKind.i64 (1 + ins)) <|
      gd (inK IntKind.i64 (1 + ins + y2.1)) <|
      gd (inK IntKind.i64 (2 * (1 + ins + y2.1))) <|
      bindO (cnfOf (2 * (1 + ins + y2.1)) off) fun y3 =>
      bindO (cnfOf (get pair2 ands y2.1).1 off) fun y4 =>
      bindO (cnfOf (get pair2 ands y2.1).2.1 off) fun y5 =>
      gd (inK IntKind.i64 (0 - y3.1.1)) <|
      bindO (clausesAdd [0 - y3.1.1, y4.1.1] y2.2) fun y6 =>
      gd (inK IntKind.i64 (0 - y3.1.1)) <|
      bindO (clausesAdd [0 - y3.1.1, y5.1.1] y6.2.1.1.1) fun y7 =>
      gd (inK IntKind.i64 (0 - y4.1.1)) <|
      gd (inK IntKind.i64 (0 - y5.1.1)) <|
      bindO (clausesAdd [y3.1.1, 0 - y4.1.1, 0 - y5.1.1] y7.2.1.1.1) fun y8 =>
      gd (inK IntKind.i64 (y2.1 + 1)) <|
      some (Sum.inl (y2.1 + 1, y8.2.1.1.1))
    else
      some (Sum.inr ((y2.2, ()), (), ()))) (nn) (0, y1.2.1.1.1)

def cnfClauses (ins : Int) (ands : List (Int × Int × Unit)) (off : Int) : Option ((List (List Int) × Unit) × Unit × Unit) := cnfClausesF fuelN ins ands off

def wantedF (nn : Nat)  (gi : Int) (ga : List (Int × Int × Unit)) (ci : List (Int × Int × Int × Unit)) (cl : List (Int × Int × Bool × Int × Int × Unit)) (co : List (Int × Int × Int × Unit)) (to : List Int) (out : Int) : Option ((List Int × Unit) × Unit × Unit) :=
  iterO (X := Int × List Int) (fun y0 =>
    bif decide (y0.1 < nI co.length) then
      gd (0 ≤ y0.1) <|
      gd (y0.1 < nI co.length) <|
      bif (get outT co y0.1).1 == 9 then
        bindO (lit (get outT co y0.1).2.1) fun y1 =>
        gd ((y0.2.length + [y1.1.1].length) * 8 ≤ lim) <|
        gd (y0.2.length + [y1.1.1].length ≤ lim) <|
        gd (inK IntKind.i64 (y0.1 + 1)) <|
        some (Sum.inl (y0.1 + 1, y0.2 ++ [y1.1.1]))
      else
        gd (inK IntKind.i64 (y0.1 + 1)) <|
        some (Sum.inl (y0.1 + 1, y0.2))
    else
      iterO (X := Int × List Int × List Int) (fun y1 =>
        bif decide (y1.1 < nI to.length) then
          gd (0 ≤ y1.1) <|
          gd (y1.1 < nI to.length) <|
          bindO (latch (getI to y1.1)) fun y2 =>
          gd (inK IntKind.i64 (y2.1.1 - 1)) <|
          gd (0 ≤ y2.1.1 - 1) <|
          gd (y2.1.1 - 1 < nI cl.length) <|
          bindO (lit (get latchT cl (y2.1.1 - 1)).2.1) fun y3 =>
          bif decide (getI to y1.1 < 0) then
            gd (inK IntKind.i64 (0 - y3.1.1)) <|
            gd ((y1.2.1.length + [0 - y3.1.1].length) * 8 ≤ lim) <|
            gd (y1.2.1.length + [0 - y3.1.1].length ≤ lim) <|
            gd (inK IntKind.i64 (y1.1 + 1)) <|
            some (Sum.inl (y1.1 + 1, y1.2.1 ++ [0 - y3.1.1], y1.2.1 ++ [0 - y3.1.1]))
          else
            gd ((y1.2.1.length + [y3.1.1].length) * 8 ≤ lim) <|
            gd (y1.2.1.length + [y3.1.1].length ≤ lim) <|
            gd (inK IntKind.i64 (y1.1 + 1)) <|
            some (Sum.inl (y1.1 + 1, y1.2.1 ++ [y3.1.1], y1.2.1 ++ [y3.1.1]))
        else
          bif nI to.length == 0 then
            gd (0 ≤ out) <|
            gd (out < nI co.length) <|
            bindO (lit (get outT co out).2.1) fun y2 =>
            gd (0 ≤ out) <|
            gd (out < nI co.length) <|
            bif (get outT co out).1 == 8 then
              gd (inK IntKind.i64 (0 - y2.1.1)) <|
              gd ((y1.2.1.length + [0 - y2.1.1].length) * 8 ≤ lim) <|
              gd (y1.2.1.length + [0 - y2.1.1].length ≤ lim) <|
              some (Sum.inr (Sum.inr ((y1.2.1 ++ [0 - y2.1.1], ()), (), ())))
            else
              gd ((y1.2.1.length + [y2.1.1].length) * 8 ≤ lim) <|
              gd (y1.2.1.length + [y2.1.1].length ≤ lim) <|
              some (Sum.inr (Sum.inr ((y1.2.1 ++ [y2.1.1], ()), (), ())))
          else
            some (Sum.inr (Sum.inr ((y1.2.1, ()), (), ())))) (nn) (0, y0.2, y0.2)) (nn) (0, [])

def wanted (gi : Int) (ga : List (Int × Int × Unit)) (ci : List (Int × Int × Int × Unit)) (cl : List (Int × Int × Bool × Int × Int × Unit)) (co : List (Int × Int × Int × Unit)) (to : List Int) (out : Int) : Option ((List Int × Unit) × Unit × Unit) := wantedF fuelN gi ga ci cl co to out

def Some16 : Option (((Int × List (Int × Int × Unit) × List (Int × Int × Int × Unit) × List (Int × Int × Bool × Int × Int × Unit) × List (Int × Int × Int × Unit) × Unit) × Unit) × Unit × Unit) :=
  some (((4, [(4, 9, ()), (3, 5, ())], [(1, 0, 0, ())], [(2, 2, true, 0, 0, ()), (3, 7, false, 1, 0, ()), (4, 0, false, 2, 0, ())], [(8, 10, 0, ()), (10, 6, 1, ()), (9, 13, 2, ())], ()), ()), (), ())

end GoSx
end
section
/- Models of functions: what they compute, if all goes well: CubeB. -/
namespace GoSx
open Go
def askerOfF (nn : Nat)  (gi : Int) (ga : List (Int × Int × Unit)) (ci : List (Int × Int × Int × Unit)) (cl : List (Int × Int × Bool × Int × Int × Unit)) (co : List (Int × Int × Int × Unit)) (ins : List Bool) (to : List Int) (out : Int) : Option (((Int × List (Int × Int × Unit) × List (Int × Int × Int × Unit) × List (Int × Int × Bool × Int × Int × Unit) × List (Int × Int × Int × Unit) × List Int × Unit) × Unit) × Unit × (Int × List (List Int) × List (List Int) × List Int × List Int × List Int × List Int × List Int × List Int × Int × List Int × List Int × Int × Bool × List (List Int) × Int × List Int × List Bool × Unit) × Unit) :=
  bindO (cnfVars gi ga) fun y0 =>
  bindO (New y0.1.1) fun y1 =>
  bindO (cnfClauses gi ga 0) fun y2 =>
  iterO (X := Int × (Int × Int × Int × Bool × Int) × List (List Int) × List (List Int) × List Int × List Int × List Int × List Int × List Int × List Int × List Int × List Bool) (fun y3 =>
    bif decide (y3.1 < nI y2.1.1.length) then
      gd (0 ≤ y3.1) <|
      gd (y3.1 < nI y2.1.1.length) <|
      bindO (Add (getL y2.1.1 y3.1) y3.2.1.1 y3.2.2.1 y3.2.2.2.1 y3.2.2.2.2.1 y3.2.2.2.2.2.1 y3.2.2.2.2.2.2.1 y3.2.2.2.2.2.2.2.1 y3.2.1.2.1 y3.2.2.2.2.2.2.2.2.1 y3.2.2.2.2.2.2.2.2.2.1 y3.2.1.2.2.1 y3.2.1.2.2.2.1 y3.2.1.2.2.2.2 y3.2.2.2.2.2.2.2.2.2.2.1 y3.2.2.2.2.2.2.2.2.2.2.2) fun y4 =>
      gd (inK IntKind.i64 (y3.1 + 1)) <|
      some (Sum.inl (y3.1 + 1, (y4.2.1.1.1, y4.2.1.1.2.2.2.2.2.2.2.1, y4.2.1.1.2.2.2.2.2.2.2.2.2.2.1, y4.2.1.1.2.2.2.2.2.2.2.2.2.2.2.1, y4.2.1.1.2.2.2.2.2.2.2.2.2.2.2.2.1), y4.2.1.1.2.1, y4.2.1.1.2.2.1, y4.2.1.1.2.2.2.1, y4.2.1.1.2.2.2.2.1, y4.2.1.1.2.2.2.2.2.1, y4.2.1.1.2.2.2.2.2.2.1, y4.2.1.1.2.2.2.2.2.2.2.2.1, y4.2.1.1.2.2.2.2.2.2.2.2.2.1, y4.2.1.1.2.2.2.2.2.2.2.2.2.2.2.2.2.1, y4.2.1.1.2.2.2.2.2.2.2.2.2.2.2.2.2.2.1))
    else
      bindO (wanted gi ga ci cl co to out) fun y4 =>
      bindO (cClause y4.1.1) fun y5 =>
      bindO (Add y5.1.1 y3.2.1.1 y3.2.2.1 y3.2.2.2.1 y3.2.2.2.2.1 y3.2.2.2.2.2.1 y3.2.2.2.2.2.2.1 y3.2.2.2.2.2.2.2.1 y3.2.1.2.1 y3.2.2.2.2.2.2.2.2.1 y3.2.2.2.2.2.2.2.2.2.1 y3.2.1.2.2.1 y3.2.1.2.2.2.1 y3.2.1.2.2.2.2 y3.2.2.2.2.2.2.2.2.2.2.1 y3.2.2.2.2.2.2.2.2.2.2.2) fun y6 =>
      iterO (X := Int × (Int × List (Int × Int × Unit) × List (Int × Int × Int × Unit) × List (Int × Int × Bool × Int × Int × Unit) × List (Int × Int × Int × Unit)) × List Int) (fun y7 =>
        bif decide (y7.1 < nI ins.length) then
          gd (0 ≤ y7.1) <|
          gd (y7.1 < nI ins.length) <|
          gd (0 ≤ y7.1) <|
          gd (y7.1 < nI ci.length) <|
          gd (inK IntKind.i64 (2 * (get pair3 ci y7.1).1)) <|
          bindO (lit (2 * (get pair3 ci y7.1).1)) fun y8 =>
          bif !getB ins y7.1 then
            gd (inK IntKind.i64 (0 - y8.1.1)) <|
            gd ((y7.2.2.length + [0 - y8.1.1].length) * 8 ≤ lim) <|
            gd (y7.2.2.length + [0 - y8.1.1].length ≤ lim) <|
            gd (inK IntKind.i64 (y7.1 + 1)) <|
            some (Sum.inl (y7.1 + 1, (y7.2.1.1, y7.2.1.2.1, y7.2.1.2.2.1, y7.2.1.2.2.2.1, y7.2.1.2.2.2.2), y7.2.2 ++ [0 - y8.1.1]))
          else
            gd ((y7.2.2.length + [y8.1.1].length) * 8 ≤ lim) <|
            gd (y7.2.2.length + [y8.1.1].length ≤ lim) <|
            gd (inK IntKind.i64 (y7.1 + 1)) <|
            some (Sum.inl (y7.1 + 1, (y7.2.1.1, y7.2.1.2.1, y7.2.1.2.2.1, y7.2.1.2.2.2.1, y7.2.1.2.2.2.2), y7.2.2 ++ [y8.1.1]))
        else
          some (Sum.inr (Sum.inr (((y7.2.1.1, y7.2.1.2.1, y7.2.1.2.2.1, y7.2.1.2.2.2.1, y7.2.1.2.2.2.2, y7.2.2, ()), ()), (), (y6.2.1.1.1, y6.2.1.1.2.1, y6.2.1.1.2.2.1, y6.2.1.1.2.2.2.1, y6.2.1.1.2.2.2.2.1, y6.2.1.1.2.2.2.2.2.1, y6.2.1.1.2.2.2.2.2.2.1, y1.2.2.1.2.2.2.2.2.2.2.1, y1.2.2.1.2.2.2.2.2.2.2.2.1, y6.2.1.1.2.2.2.2.2.2.2.1, y6.2.1.1.2.2.2.2.2.2.2.2.1, y6.2.1.1.2.2.2.2.2.2.2.2.2.1, y6.2.1.1.2.2.2.2.2.2.2.2.2.2.1, y6.2.1.1.2.2.2.2.2.2.2.2.2.2.2.1, y1.2.2.1.2.2.2.2.2.2.2.2.2.2.2.2.2.2.1, y6.2.1.1.2.2.2.2.2.2.2.2.2.2.2.2.1, y6.2.1.1.2.2.2.2.2.2.2.2.2.2.2.2.2.1, y6.2.1.1.2.2.2.2.2.2.2.2.2.2.2.2.2.2.1, ()), ())))) (nn) (0, (gi, ga, ci, cl, co), [])) (nn) (0, (y1.2.2.1.1, y1.2.2.1.2.2.2.2.2.2.2.2.2.1, y1.2.2.1.2.2.2.2.2.2.2.2.2.2.2.2.1, y1.2.2.1.2.2.2.2.2.2.2.2.2.2.2.2.2.1, y1.2.2.1.2.2.2.2.2.2.2.2.2.2.2.2.2.2.2.1), y1.2.2.1.2.1, y1.2.2.1.2.2.1, y1.2.2.1.2.2.2.1, y1.2.2.1.2.2.2.2.1, y1.2.2.1.2.2.2.2.2.1, y1.2.2.1.2.2.2.2.2.2.1, y1.2.2.1.2.2.2.2.2.2.2.2.2.2.1, y1.2.2.1.2.2.2.2.2.2.2.2.2.2.2.1, y1.2.2.1.2.2.2.2.2.2.2.2.2.2.2.2.2.2.2.2.1, y1.2.2.1.2.2.2.2.2.2.2.2.2.2.2.2.2.2.2.2.2.1)

def askerOf (gi : Int) (ga : List (Int × Int × Unit)) (ci : List (Int × Int × Int × Unit)) (cl : List (Int × Int × Bool × Int × Int × Unit)) (co : List (Int × Int × Int × Unit)) (ins : List Bool) (to : List Int) (out : Int) : Option (((Int × List (Int × Int × Unit) × List (Int × Int × Int × Unit) × List (Int × Int × Bool × Int × Int × Unit) × List (Int × Int × Int × Unit) × List Int × Unit) × Unit) × Unit × (Int × List (List Int) × List (List Int) × List Int × List Int × List Int × List Int × List Int × List Int × Int × List Int × List Int × Int × Bool × List (List Int) × Int × List Int × List Bool × Unit) × Unit) := askerOfF fuelN gi ga ci cl co ins to out

def askAllF (nn : Nat)  (gi : Int) (ga : List (Int × Int × Unit)) (ci : List (Int × Int × Int × Unit)) (cl : List (Int × Int × Bool × Int × Int × Unit)) (co : List (Int × Int × Int × Unit)) (ains : List Int) (l : List Int) (vars : Int) (all : List (List Int)) (watch : List (List Int)) (is : List Int) (depth : List Int) (why : List Int) (old : List Int) (hot : List Int) (warm : List Int) (cold : Int) (row : List Int) (begin : List Int) (done : Int) (empty : Bool) (proof : List (List Int)) (answer : Int) (core : List Int) (model : List Bool) : Option ((Bool × Unit) × ((Int × List (List Int) × List (List Int) × List Int × List Int × List Int × List Int × List Int × List Int × Int × List Int × List Int × Int × Bool × List (List Int) × Int × List Int × List Bool × Unit) × Unit) × Unit) :=
  bindO (Clone_ ains) fun y0 =>
  iterO (X := Int × List Int × List Int) (fun y1 =>
    bif decide (y1.1 < nI l.length) then
      gd (0 ≤ y1.1) <|
      gd (y1.1 < nI l.length) <|
      bindO (latch (getI l y1.1)) fun y2 =>
      gd (inK IntKind.i64 (y2.1.1 - 1)) <|
      gd (0 ≤ y2.1.1 - 1) <|
      gd (y2.1.1 - 1 < nI cl.length) <|
      gd (inK IntKind.i64 (2 * (get latchT cl (y2.1.1 - 1)).1)) <|
      bindO (lit (2 * (get latchT cl (y2.1.1 - 1)).1)) fun y3 =>
      bif decide (getI l y1.1 < 0) then
        gd (inK IntKind.i64 (0 - y3.1.1)) <|
        gd ((y1.2.1.length + [0 - y3.1.1].length) * 8 ≤ lim) <|
        gd (y1.2.1.length + [0 - y3.1.1].length ≤ lim) <|
        gd (inK IntKind.i64 (y1.1 + 1)) <|
        some (Sum.inl (y1.1 + 1, y1.2.1 ++ [0 - y3.1.1], y1.2.1 ++ [0 - y3.1.1]))
      else
        gd ((y1.2.1.length + [y3.1.1].length) * 8 ≤ lim) <|
        gd (y1.2.1.length + [y3.1.1].length ≤ lim) <|
        gd (inK IntKind.i64 (y1.1 + 1)) <|
        some (Sum.inl (y1.1 + 1, y1.2.1 ++ [y3.1.1], y1.2.1 ++ [y3.1.1]))
    else
      iterO (X := (Int × Int × Int × Bool × Int) × List (List Int) × List (List Int) × List Int × List Int × List Int × List Int × List Int × List Int × List Int × List Int × List (List Int) × List Int × List Bool × List Int) (fun y2 =>
        bindO (Ask y2.2.2.2.2.2.2.2.2.2.2.2.2.2.2 1073741824 y2.1.1 y2.2.1 y2.2.2.1 y2.2.2.2.1 y2.2.2.2.2.1 y2.2.2.2.2.2.1 y2.2.2.2.2.2.2.1 y2.2.2.2.2.2.2.2.1 y2.2.2.2.2.2.2.2.2.1 y2.1.2.1 y2.2.2.2.2.2.2.2.2.2.1 y2.2.2.2.2.2.2.2.2.2.2.1 y2.1.2.2.1 y2.1.2.2.2.1 y2.2.2.2.2.2.2.2.2.2.2.2.1 y2.1.2.2.2.2 y2.2.2.2.2.2.2.2.2.2.2.2.2.1 y2.2.2.2.2.2.2.2.2.2.2.2.2.2.1) fun y3 =>
        bif y3.1.1 == 2 then
          some (Sum.inr (Sum.inr ((true, ()), ((y3.2.1.1.1, y3.2.1.1.2.1, y3.2.1.1.2.2.1, y3.2.1.1.2.2.2.1, y3.2.1.1.2.2.2.2.1, y3.2.1.1.2.2.2.2.2.1, y3.2.1.1.2.2.2.2.2.2.1, y3.2.1.1.2.2.2.2.2.2.2.1, y3.2.1.1.2.2.2.2.2.2.2.2.1, y3.2.1.1.2.2.2.2.2.2.2.2.2.1, y3.2.1.1.2.2.2.2.2.2.2.2.2.2.1, y3.2.1.1.2.2.2.2.2.2.2.2.2.2.2.1, y3.2.1.1.2.2.2.2.2.2.2.2.2.2.2.2.1, y3.2.1.1.2.2.2.2.2.2.2.2.2.2.2.2.2.1, y3.2.1.1.2.2.2.2.2.2.2.2.2.2.2.2.2.2.1, y3.2.1.1.2.2.2.2.2.2.2.2.2.2.2.2.2.2.2.1, y3.2.1.1.2.2.2.2.2.2.2.2.2.2.2.2.2.2.2.2.1, y3.2.1.1.2.2.2.2.2.2.2.2.2.2.2.2.2.2.2.2.2.1, ()), ()), ())))
        else
          bif y3.1.1 == 1 then
            some (Sum.inr (Sum.inr ((false, ()), ((y3.2.1.1.1, y3.2.1.1.2.1, y3.2.1.1.2.2.1, y3.2.1.1.2.2.2.1, y3.2.1.1.2.2.2.2.1, y3.2.1.1.2.2.2.2.2.1, y3.2.1.1.2.2.2.2.2.2.1, y3.2.1.1.2.2.2.2.2.2.2.1, y3.2.1.1.2.2.2.2.2.2.2.2.1, y3.2.1.1.2.2.2.2.2.2.2.2.2.1, y3.2.1.1.2.2.2.2.2.2.2.2.2.2.1, y3.2.1.1.2.2.2.2.2.2.2.2.2.2.2.1, y3.2.1.1.2.2.2.2.2.2.2.2.2.2.2.2.1, y3.2.1.1.2.2.2.2.2.2.2.2.2.2.2.2.2.1, y3.2.1.1.2.2.2.2.2.2.2.2.2.2.2.2.2.2.1, y3.2.1.1.2.2.2.2.2.2.2.2.2.2.2.2.2.2.2.1, y3.2.1.1.2.2.2.2.2.2.2.2.2.2.2.2.2.2.2.2.1, y3.2.1.1.2.2.2.2.2.2.2.2.2.2.2.2.2.2.2.2.2.1, ()), ()), ())))
          else
            some (Sum.inl ((y3.2.1.1.1, y3.2.1.1.2.2.2.2.2.2.2.2.2.1, y3.2.1.1.2.2.2.2.2.2.2.2.2.2.2.2.1, y3.2.1.1.2.2.2.2.2.2.2.2.2.2.2.2.2.1, y3.2.1.1.2.2.2.2.2.2.2.2.2.2.2.2.2.2.2.1), y3.2.1.1.2.1, y3.2.1.1.2.2.1, y3.2.1.1.2.2.2.1, y3.2.1.1.2.2.2.2.1, y3.2.1.1.2.2.2.2.2.1, y3.2.1.1.2.2.2.2.2.2.1, y3.2.1.1.2.2.2.2.2.2.2.1, y3.2.1.1.2.2.2.2.2.2.2.2.1, y3.2.1.1.2.2.2.2.2.2.2.2.2.2.1, y3.2.1.1.2.2.2.2.2.2.2.2.2.2.2.1, y3.2.1.1.2.2.2.2.2.2.2.2.2.2.2.2.2.2.1, y3.2.1.1.2.2.2.2.2.2.2.2.2.2.2.2.2.2.2.2.1, y3.2.1.1.2.2.2.2.2.2.2.2.2.2.2.2.2.2.2.2.2.1, y2.2.2.2.2.2.2.2.2.2.2.2.2.2.2))) (nn) ((vars, cold, done, empty, answer), all, watch, is, depth, why, old, hot, warm, row, begin, proof, core, model, y1.2.1)) (nn) (0, y0.1.1, y0.1.1)

def askAll (gi : Int) (ga : List (Int × Int × Unit)) (ci : List (Int × Int × Int × Unit)) (cl : List (Int × Int × Bool × Int × Int × Unit)) (co : List (Int × Int × Int × Unit)) (ains : List Int) (l : List Int) (vars : Int) (all : List (List Int)) (watch : List (List Int)) (is : List Int) (depth : List Int) (why : List Int) (old : List Int) (hot : List Int) (warm : List Int) (cold : Int) (row : List Int) (begin : List Int) (done : Int) (empty : Bool) (proof : List (List Int)) (answer : Int) (core : List Int) (model : List Bool) : Option ((Bool × Unit) × ((Int × List (List Int) × List (List Int) × List Int × List Int × List Int × List Int × List Int × List Int × Int × List Int × List Int × Int × Bool × List (List Int) × Int × List Int × List Bool × Unit) × Unit) × Unit) := askAllF fuelN gi ga ci cl co ains l vars all watch is depth why old hot warm cold row begin done empty proof answer core model

end GoSx
end
section
/- Models of functions: what they compute, if all goes well: CubeC. -/
namespace GoSx
open Go
def bitsLen64 (x : Int) : Option ((Int × Unit) × Unit × Unit) :=
  joinO (X := Int × Int) (
    bif decide (x ≥ 4294967296) then
      some (Sum.inl (x.fdiv (2 ^ 32), 32))
    else
      some (Sum.inl (x, 0))) fun y0 =>
  joinO (X := Int × Int) (
    bif decide (y0.1 ≥ 65536) then
      gd (inK IntKind.i64 (y0.2 + 16)) <|
      some (Sum.inl (y0.1.fdiv (2 ^ 16), y0.2 + 16))
    else
      some (Sum.inl (y0.1, y0.2))) fun y1 =>
  joinO (X := Int × Int) (
    bif decide (y1.1 ≥ 256) then
      gd (inK IntKind.i64 (y1.2 + 8)) <|
      some (Sum.inl (y1.1.fdiv (2 ^ 8), y1.2 + 8))
    else
      some (Sum.inl (y1.1, y1.2))) fun y2 =>
  gd (0 ≤ IntKind.u8.wrap y2.1) <|
  gd (IntKind.u8.wrap y2.1 < nI 256) <|
  gd (inK IntKind.i64 (y2.2 + IntKind.i64.wrap (bAt { data := (([0, 1, 2, 2, 3, 3, 3, 3, 4, 4, 4, 4, 4, 4, 4, 4, 5, 5, 5, 5, 5, 5, 5, 5, 5, 5, 5, 5, 5, 5, 5, 5, 6, 6, 6, 6, 6, 6, 6, 6, 6, 6, 6, 6, 6, 6, 6, 6, 6, 6, 6, 6, 6, 6, 6, 6, 6, 6, 6, 6, 6, 6, 6, 6].append [7, 7, 7, 7, 7, 7, 7, 7, 7, 7, 7, 7, 7, 7, 7, 7, 7, 7, 7, 7, 7, 7, 7, 7, 7, 7, 7, 7, 7, 7, 7, 7, 7, 7, 7, 7, 7, 7, 7, 7, 7, 7, 7, 7, 7, 7, 7, 7, 7, 7, 7, 7, 7, 7, 7, 7, 7, 7, 7, 7, 7, 7, 7, 7]).append ([8, 8, 8, 8, 8, 8, 8, 8, 8, 8, 8, 8, 8, 8, 8, 8, 8, 8, 8, 8, 8, 8, 8, 8, 8, 8, 8, 8, 8, 8, 8, 8, 8, 8, 8, 8, 8, 8, 8, 8, 8, 8, 8, 8, 8, 8, 8, 8, 8, 8, 8, 8, 8, 8, 8, 8, 8, 8, 8, 8, 8, 8, 8, 8].append [8, 8, 8, 8, 8, 8, 8, 8, 8, 8, 8, 8, 8, 8, 8, 8, 8, 8, 8, 8, 8, 8, 8, 8, 8, 8, 8, 8, 8, 8, 8, 8, 8, 8, 8, 8, 8, 8, 8, 8, 8, 8, 8, 8, 8, 8, 8, 8, 8, 8, 8, 8, 8, 8, 8, 8, 8, 8, 8, 8, 8, 8, 8, 8])).toArray } (IntKind.u8.wrap y2.1)))) <|
  some ((y2.2 + IntKind.i64.wrap (bAt { data := (([0, 1, 2, 2, 3, 3, 3, 3, 4, 4, 4, 4, 4, 4, 4, 4, 5, 5, 5, 5, 5, 5, 5, 5, 5, 5, 5, 5, 5, 5, 5, 5, 6, 6, 6, 6, 6, 6, 6, 6, 6, 6, 6, 6, 6, 6, 6, 6, 6, 6, 6, 6, 6, 6, 6, 6, 6, 6, 6, 6, 6, 6, 6, 6].append [7, 7, 7, 7, 7, 7, 7, 7, 7, 7, 7, 7, 7, 7, 7, 7, 7, 7, 7, 7, 7, 7, 7, 7, 7, 7, 7, 7, 7, 7, 7, 7, 7, 7, 7, 7, 7, 7, 7, 7, 7, 7, 7, 7, 7, 7, 7, 7, 7, 7, 7, 7, 7, 7, 7, 7, 7, 7, 7, 7, 7, 7, 7, 7]).append ([8, 8, 8, 8, 8, 8, 8, 8, 8, 8, 8, 8, 8, 8, 8, 8, 8, 8, 8, 8, 8, 8, 8, 8, 8, 8, 8, 8, 8, 8, 8, 8, 8, 8, 8, 8, 8, 8, 8, 8, 8, 8, 8, 8, 8, 8, 8, 8, 8, 8, 8, 8, 8, 8, 8, 8, 8, 8, 8, 8, 8, 8, 8, 8].append [8, 8, 8, 8, 8, 8, 8, 8, 8, 8, 8, 8, 8, 8, 8, 8, 8, 8, 8, 8, 8, 8, 8, 8, 8, 8, 8, 8, 8, 8, 8, 8, 8, 8, 8, 8, 8, 8, 8, 8, 8, 8, 8, 8, 8, 8, 8, 8, 8, 8, 8, 8, 8, 8, 8, 8, 8, 8, 8, 8, 8, 8, 8, 8])).toArray } (IntKind.u8.wrap y2.1)), ()), (), ())

def bitsLen (x : Int) : Option ((Int × Unit) × Unit × Unit) :=
  bindO (bitsLen64 x) fun y0 =>
  some ((y0.1.1, ()), (), ())

def insSortF (nn : Nat)  (l : List Int) (a : Int) (b : Int) : Option (List Int) :=
  gd (inK IntKind.i64 (a + 1)) <|
  iterO (X := Int × List Int) (fun y0 =>
    bif decide (y0.1 < b) then
      iterO (X := Int × List Int) (fun y1 =>
        bif decide (y1.1 > a) then
          gd (0 ≤ y1.1) <|
          gd (y1.1 < nI y1.2.length) <|
          gd (inK IntKind.i64 (y1.1 - 1)) <|
          gd (0 ≤ y1.1 - 1) <|
          gd (y1.1 - 1 < nI y1.2.length) <|
          bindO (normC (getI y1.2 y1.1) (getI y1.2 (y1.1 - 1))) fun y2 =>
          bif bif true then decide (y2.1.1 < 0) else false then
            gd (inK IntKind.i64 (y1.1 - 1)) <|
            gd (inK IntKind.i64 (y1.1 - 1)) <|
            gd (0 ≤ y1.1 - 1) <|
            gd (y1.1 - 1 < nI y1.2.length) <|
            gd (0 ≤ y1.1) <|
            gd (y1.1 < nI y1.2.length) <|
            gd (0 ≤ y1.1) <|
            gd (y1.1 < nI y1.2.length) <|
            gd (0 ≤ y1.1 - 1) <|
            gd (y1.1 - 1 < nI (y1.2.set y1.1.toNat (getI y1.2 (y1.1 - 1))).length) <|
            gd (inK IntKind.i64 (y1.1 - 1)) <|
            some (Sum.inl (y1.1 - 1, (y1.2.set y1.1.toNat (getI y1.2 (y1.1 - 1))).set (Int.toNat (y1.1 - 1)) (getI y1.2 y1.1)))
          else
            gd (inK IntKind.i64 (y0.1 + 1)) <|
            some (Sum.inr (Sum.inl (y0.1 + 1, y1.2)))
        else
          gd (inK IntKind.i64 (y0.1 + 1)) <|
          some (Sum.inr (Sum.inl (y0.1 + 1, y1.2)))) (nn) (y0.1, y0.2)
    else
      some (Sum.inr y0.2)) (nn) (a + 1, l)

def insSort (l : List Int) (a : Int) (b : Int) : Option (List Int) := insSortF fuelN l a b

def pdqF (nn : Nat)  (l : List Int) (a : Int) (b : Int) (lim : Int) : Option (List Int) :=
  iterO (X := Unit) (fun y0 =>
    gd (inK IntKind.i64 (b - a)) <|
    bif decide (b - a ≤ 12) then
      bindO (insSort l a b) fun y1 =>
      some (Sum.inr y1)
    else
      bif lim == 0 then
        none /- stuck 1 -/
      else
        none /- stuck 1 -/) (nn) ()

def pdq (l : List Int) (a : Int) (b : Int) (lim : Int) : Option (List Int) := pdqF fuelN l a b lim

def sortFunc (l : List Int) : Option (List Int) :=
  bindO (bitsLen (IntKind.u64.wrap (nI l.length))) fun y0 =>
  bindO (pdq l 0 (nI l.length) y0.1.1) fun y1 =>
  some y1

end GoSx
end
section
/- Models of functions: what they compute, if all goes well: CubeD. -/
namespace GoSx
open Go
def normF (nn : Nat)  (l : List Int) : Option ((List Int × Bool × Unit) × Unit × Unit) :=
  bindO (Clone_ l) fun y0 =>
  bindO (sortFunc y0.1.1) fun y1 =>
  bindO (compactM y1) fun y2 =>
  iterO (X := Int) (fun y3 =>
    bif decide (y3 < nI y2.length) then
      gd (0 ≤ y3) <|
      gd (y3 < nI y2.length) <|
      bindO (latch (getI y2 y3)) fun y4 =>
      bif decide (y4.1.1 ≤ 0) then
        some (Sum.inr (([], false, ()), (), ()))
      else
        bif decide (y3 > 0) then
          gd (inK IntKind.i64 (y3 - 1)) <|
          gd (0 ≤ y3 - 1) <|
          gd (y3 - 1 < nI y2.length) <|
          bindO (latch (getI y2 (y3 - 1))) fun y5 =>
          bindO (latch (getI y2 y3)) fun y6 =>
          bif bif false then true else bif true then y5.1.1 == y6.1.1 else false then
            some (Sum.inr (([], false, ()), (), ()))
          else
            gd (inK IntKind.i64 (y3 + 1)) <|
            some (Sum.inl (y3 + 1))
        else
          gd (inK IntKind.i64 (y3 + 1)) <|
          some (Sum.inl (y3 + 1))
    else
      some (Sum.inr ((y2, true, ()), (), ()))) (nn) 0

def norm (l : List Int) : Option ((List Int × Bool × Unit) × Unit × Unit) := normF fuelN l

def shrinkF (nn : Nat)  (gi : Int) (ga : List (Int × Int × Unit)) (ci : List (Int × Int × Int × Unit)) (cl : List (Int × Int × Bool × Int × Int × Unit)) (co : List (Int × Int × Int × Unit)) (state : List Bool) (ins : List Bool) (to : List Int) (out : Int) : Option ((List Int × Unit) × Unit × Unit) :=
  bindO (askerOf gi ga ci cl co ins to out) fun y0 =>
  bindO (cOf state) fun y1 =>
  gd (inK IntKind.i64 (nI y1.1.1.length - 1)) <|
  iterO (X := Int × (Int × Int × Int × Bool × Int) × List (List Int) × List (List Int) × List Int × List Int × List Int × List Int × List Int × List Int × List Int × List Int × List (List Int) × List Int × List Bool × List Int × List Int) (fun y2 =>
    bif decide (y2.1 ≥ 0) then
      bindO (Clone_ y2.2.2.2.2.2.2.2.2.2.2.2.2.2.2.2.2) fun y3 =>
      gd (inK IntKind.i64 (y2.1 + 1)) <|
      bindO (deleteM y3.1.1 y2.1 (y2.1 + 1)) fun y4 =>
      gd (0 ≤ y2.1) <|
      gd (y2.1 ≤ y2.1 + 1) <|
      gd (y2.1 + 1 ≤ nI y3.1.1.length) <|
      gd (0 < nI y3.1.1.length) <|
      bindO (askAll y0.1.1.1 y0.1.1.2.1 y0.1.1.2.2.1 y0.1.1.2.2.2.1 y0.1.1.2.2.2.2.1 y2.2.2.2.2.2.2.2.2.2.2.2.2.2.2.2.1 y4 y2.2.1.1 y2.2.2.1 y2.2.2.2.1 y2.2.2.2.2.1 y2.2.2.2.2.2.1 y2.2.2.2.2.2.2.1 y2.2.2.2.2.2.2.2.1 y2.2.2.2.2.2.2.2.2.1 y2.2.2.2.2.2.2.2.2.2.1 y2.2.1.2.1 y2.2.2.2.2.2.2.2.2.2.2.1 y2.2.2.2.2.2.2.2.2.2.2.2.1 y2.2.1.2.2.1 y2.2.1.2.2.2.1 y2.2.2.2.2.2.2.2.2.2.2.2.2.1 y2.2.1.2.2.2.2 y2.2.2.2.2.2.2.2.2.2.2.2.2.2.1 y2.2.2.2.2.2.2.2.2.2.2.2.2.2.2.1) fun y5 =>
      bif y5.1.1 then
        gd (inK IntKind.i64 (y2.1 - 1)) <|
        some (Sum.inl (y2.1 - 1, (y5.2.1.1.1, y5.2.1.1.2.2.2.2.2.2.2.2.2.1, y5.2.1.1.2.2.2.2.2.2.2.2.2.2.2.2.1, y5.2.1.1.2.2.2.2.2.2.2.2.2.2.2.2.2.1, y5.2.1.1.2.2.2.2.2.2.2.2.2.2.2.2.2.2.2.1), y5.2.1.1.2.1, y5.2.1.1.2.2.1, y5.2.1.1.2.2.2.1, y5.2.1.1.2.2.2.2.1, y5.2.1.1.2.2.2.2.2.1, y5.2.1.1.2.2.2.2.2.2.1, y5.2.1.1.2.2.2.2.2.2.2.1, y5.2.1.1.2.2.2.2.2.2.2.2.1, y5.2.1.1.2.2.2.2.2.2.2.2.2.2.1, y5.2.1.1.2.2.2.2.2.2.2.2.2.2.2.1, y5.2.1.1.2.2.2.2.2.2.2.2.2.2.2.2.2.2.1, y5.2.1.1.2.2.2.2.2.2.2.2.2.2.2.2.2.2.2.2.1, y5.2.1.1.2.2.2.2.2.2.2.2.2.2.2.2.2.2.2.2.2.1, y2.2.2.2.2.2.2.2.2.2.2.2.2.2.2.2.1, y4))
      else
        gd (inK IntKind.i64 (y2.1 - 1)) <|
        some (Sum.inl (y2.1 - 1, (y5.2.1.1.1, y5.2.1.1.2.2.2.2.2.2.2.2.2.1, y5.2.1.1.2.2.2.2.2.2.2.2.2.2.2.2.1, y5.2.1.1.2.2.2.2.2.2.2.2.2.2.2.2.2.1, y5.2.1.1.2.2.2.2.2.2.2.2.2.2.2.2.2.2.2.1), y5.2.1.1.2.1, y5.2.1.1.2.2.1, y5.2.1.1.2.2.2.1, y5.2.1.1.2.2.2.2.1, y5.2.1.1.2.2.2.2.2.1, y5.2.1.1.2.2.2.2.2.2.1, y5.2.1.1.2.2.2.2.2.2.2.1, y5.2.1.1.2.2.2.2.2.2.2.2.1, y5.2.1.1.2.2.2.2.2.2.2.2.2.2.1, y5.2.1.1.2.2.2.2.2.2.2.2.2.2.2.1, y5.2.1.1.2.2.2.2.2.2.2.2.2.2.2.2.2.2.1, y5.2.1.1.2.2.2.2.2.2.2.2.2.2.2.2.2.2.2.2.1, y5.2.1.1.2.2.2.2.2.2.2.2.2.2.2.2.2.2.2.2.2.1, y2.2.2.2.2.2.2.2.2.2.2.2.2.2.2.2.1, y2.2.2.2.2.2.2.2.2.2.2.2.2.2.2.2.2))
    else
      some (Sum.inr ((y2.2.2.2.2.2.2.2.2.2.2.2.2.2.2.2.2, ()), (), ()))) (nn) (nI y1.1.1.length - 1, (y0.2.2.1.1, y0.2.2.1.2.2.2.2.2.2.2.2.2.1, y0.2.2.1.2.2.2.2.2.2.2.2.2.2.2.2.1, y0.2.2.1.2.2.2.2.2.2.2.2.2.2.2.2.2.1, y0.2.2.1.2.2.2.2.2.2.2.2.2.2.2.2.2.2.2.1), y0.2.2.1.2.1, y0.2.2.1.2.2.1, y0.2.2.1.2.2.2.1, y0.2.2.1.2.2.2.2.1, y0.2.2.1.2.2.2.2.2.1, y0.2.2.1.2.2.2.2.2.2.1, y0.2.2.1.2.2.2.2.2.2.2.1, y0.2.2.1.2.2.2.2.2.2.2.2.1, y0.2.2.1.2.2.2.2.2.2.2.2.2.2.1, y0.2.2.1.2.2.2.2.2.2.2.2.2.2.2.1, y0.2.2.1.2.2.2.2.2.2.2.2.2.2.2.2.2.2.1, y0.2.2.1.2.2.2.2.2.2.2.2.2.2.2.2.2.2.2.2.1, y0.2.2.1.2.2.2.2.2.2.2.2.2.2.2.2.2.2.2.2.2.1, y0.1.1.2.2.2.2.2.1, y1.1.1)

def shrink (gi : Int) (ga : List (Int × Int × Unit)) (ci : List (Int × Int × Int × Unit)) (cl : List (Int × Int × Bool × Int × Int × Unit)) (co : List (Int × Int × Int × Unit)) (state : List Bool) (ins : List Bool) (to : List Int) (out : Int) : Option ((List Int × Unit) × Unit × Unit) := shrinkF fuelN gi ga ci cl co state ins to out

end GoSx
end
section
/- Models of functions: what they compute, if all goes well: CubeE. -/
namespace GoSx
open Go
def head24F (vnorm : List Int → Option ((List Int × Bool × Unit) × Unit × Unit)) (vSome16 : Option (((Int × List (Int × Int × Unit) × List (Int × Int × Int × Unit) × List (Int × Int × Bool × Int × Int × Unit) × List (Int × Int × Int × Unit) × Unit) × Unit) × Unit × Unit)) (vshrink : Int → List (Int × Int × Unit) → List (Int × Int × Int × Unit) → List (Int × Int × Bool × Int × Int × Unit) → List (Int × Int × Int × Unit) → List Bool → List Bool → List Int → Int → Option ((List Int × Unit) × Unit × Unit)) (vsameInts : List Int → List Int → Option ((Bool × Unit) × Unit × Unit)) (vcHolds : List Int → List Bool → Option ((Bool × Unit) × Unit × Unit)) (vcCovers : List Int → List Int → Option ((Bool × Unit) × Unit × Unit)) (vcFirst : Int → List (Int × Int × Unit) → List (Int × Int × Int × Unit) → List (Int × Int × Bool × Int × Int × Unit) → List (Int × Int × Int × Unit) → List Int → Option ((Bool × Unit) × Unit × Unit)) (vcOf : List Bool → Option ((List Int × Unit) × Unit × Unit)) (vcClause : List Int → Option ((List Int × Unit) × Unit × Unit)) : Option ((Bool × Unit) × Unit × Unit) :=
  bindO (vnorm [3, -1, 3]) fun y0 =>
  bindO (vnorm [2, 1, -2]) fun y1 =>
  bindO (vnorm [0]) fun y2 =>
  bindO (vSome16) fun y3 =>
  bindO (vshrink y3.1.1.1 y3.1.1.2.1 y3.1.1.2.2.1 y3.1.1.2.2.2.1 y3.1.1.2.2.2.2.1 [true, false, false] [true] [1] 0) fun y4 =>
  bindO (vSome16) fun y5 =>
  bindO (vshrink y5.1.1.1 y5.1.1.2.1 y5.1.1.2.2.1 y5.1.1.2.2.2.1 y5.1.1.2.2.2.2.1 [true, true, false] [false] [] 1) fun y6 =>
  bindO (vSome16) fun y7 =>
  bindO (vshrink y7.1.1.1 y7.1.1.2.1 y7.1.1.2.2.1 y7.1.1.2.2.2.1 y7.1.1.2.2.2.2.1 [true, true, true] [false] [] 0) fun y8 =>
  bif y0.1.2.1 then
    bif bif true then !y1.1.2.1 else false then
      bif bif true then !y2.1.2.1 else false then
        bindO (vsameInts y0.1.1 [-1, 3]) fun y9 =>
        bif bif true then y9.1.1 else false then
          bindO (vcHolds [-1, 3] [false, false, true]) fun y10 =>
          bif bif true then y10.1.1 else false then
            bindO (vcHolds [4] [true, true, true]) fun y11 =>
            bif bif true then !y11.1.1 else false then
              bindO (vcCovers [3] [-1, 3]) fun y12 =>
              bif bif true then y12.1.1 else false then
                bindO (vcCovers [-1, 3] [3]) fun y13 =>
                bif bif true then !y13.1.1 else false then
                  bindO (vSome16) fun y14 =>
                  bindO (vcFirst y14.1.1.1 y14.1.1.2.1 y14.1.1.2.2.1 y14.1.1.2.2.2.1 y14.1.1.2.2.2.2.1 [1, -3]) fun y15 =>
                  bif bif true then y15.1.1 else false then
                    bindO (vSome16) fun y16 =>
                    bindO (vcFirst y16.1.1.1 y16.1.1.2.1 y16.1.1.2.2.1 y16.1.1.2.2.2.1 y16.1.1.2.2.2.2.1 [2]) fun y17 =>
                    bif bif true then !y17.1.1 else false then
                      bindO (vcOf [true, false]) fun y18 =>
                      bindO (vsameInts y18.1.1 [1, -2]) fun y19 =>
                      bif bif true then y19.1.1 else false then
                        bindO (vcClause [1, -2]) fun y20 =>
                        bindO (vsameInts y20.1.1 [-1, 2]) fun y21 =>
                        bif bif true then y21.1.1 else false then
                          bif bif true then nI y4.1.1.length == 0 else false then
                            bindO (vsameInts y6.1.1 [1, 2]) fun y22 =>
                            bif bif true then y22.1.1 else false then
                              bindO (vsameInts y8.1.1 [1, 3]) fun y23 =>
                              some ((bif true then y23.1.1 else false, ()), (), ())
                            else
                              some ((false, ()), (), ())
                          else
                            some ((false, ()), (), ())
                        else
                          some ((false, ()), (), ())
                      else
                        some ((false, ()), (), ())
                    else
                      some ((false, ()), (), ())
                  else
                    some ((false, ()), (), ())
                else
                  some ((false, ()), (), ())
              else
                some ((false, ()), (), ())
            else
              some ((false, ()), (), ())
          else
            some ((false, ()), (), ())
        else
          some ((false, ()), (), ())
      else
        some ((false, ()), (), ())
    else
      some ((false, ()), (), ())
  else
    some ((false, ()), (), ())

def head24 : Option ((Bool × Unit) × Unit × Unit) := head24F norm Some16 shrink sameInts cHolds cCovers cFirst cOf cClause

def CubeCoversF (nn : Nat) (vhead24 : Option ((Bool × Unit) × Unit × Unit)) (vnorm : List Int → Option ((List Int × Bool × Unit) × Unit × Unit)) (vnarrow : List Int → Option ((List Int × Unit) × Unit × Unit)) (vBits16 : Int → Int → Option ((List Bool × Unit) × Unit × Unit)) (vcHolds : List Int → List Bool → Option ((Bool × Unit) × Unit × Unit)) (vcCovers : List Int → List Int → Option ((Bool × Unit) × Unit × Unit)) (l : List Int) (m : List Int) : Option ((Bool × Unit) × Unit × Unit) :=
  bindO (vhead24) fun y0 =>
  bindO (vnarrow l) fun y1 =>
  bindO (vnorm y1.1.1) fun y2 =>
  bindO (vnarrow m) fun y3 =>
  bindO (vnorm y3.1.1) fun y4 =>
  bif !y2.1.2.1 then
    some ((y0.1.1, ()), (), ())
  else
    bif bif false then true else !y4.1.2.1 then
      some ((y0.1.1, ()), (), ())
    else
      iterO (X := Bool × Int) (fun y5 =>
        bif decide (y5.2 < 64) then
          bindO (vBits16 y5.2 6) fun y6 =>
          bindO (vcHolds y4.1.1 y6.1.1) fun y7 =>
          bif y7.1.1 then
            bindO (vcHolds y2.1.1 y6.1.1) fun y8 =>
            bif bif true then !y8.1.1 else false then
              gd (inK IntKind.i64 (y5.2 + 1)) <|
              some (Sum.inl (false, y5.2 + 1))
            else
              gd (inK IntKind.i64 (y5.2 + 1)) <|
              some (Sum.inl (y5.1, y5.2 + 1))
          else
            gd (inK IntKind.i64 (y5.2 + 1)) <|
            some (Sum.inl (y5.1, y5.2 + 1))
        else
          bif y0.1.1 then
            bindO (vcCovers y2.1.1 y4.1.1) fun y6 =>
            some (Sum.inr ((bif true then y6.1.1 == y5.1 else false, ()), (), ()))
          else
            some (Sum.inr ((false, ()), (), ()))) (nn) (true, 0)

def CubeCovers (l : List Int) (m : List Int) : Option ((Bool × Unit) × Unit × Unit) := CubeCoversF fuelN head24 norm narrow Bits16 cHolds cCovers l m

def CubeNormF (nn : Nat) (vhead24 : Option ((Bool × Unit) × Unit × Unit)) (vnarrow : List Int → Option ((List Int × Unit) × Unit × Unit)) (vnorm : List Int → Option ((List Int × Bool × Unit) × Unit × Unit)) (vsameInts : List Int → List Int → Option ((Bool × Unit) × Unit × Unit)) (vbits24 : List Bool → Int → Option ((List Bool × Unit) × Unit × Unit)) (vcHolds : List Int → List Bool → Option ((Bool × Unit) × Unit × Unit)) (vcCovers : List Int → List Int → Option ((Bool × Unit) × Unit × Unit)) (l : List Int) (turn : Int) (state : List Bool) : Option ((Bool × Unit) × Unit × Unit) :=
  bindO (vhead24) fun y0 =>
  bindO (vnarrow l) fun y1 =>
  bindO (vnorm y1.1.1) fun y2 =>
  iterO (X := Int × List Int) (fun y3 =>
    bif decide (y3.1 < nI y1.1.1.length) then
      gd (inK IntKind.i64 (y3.1 + IntKind.i64.wrap turn)) <|
      gd (nI y1.1.1.length ≠ 0) <|
      gd (0 ≤ Int.tmod (y3.1 + IntKind.i64.wrap turn) (nI y1.1.1.length)) <|
      gd (Int.tmod (y3.1 + IntKind.i64.wrap turn) (nI y1.1.1.length) < nI y1.1.1.length) <|
      gd ((y3.2.length + [getI y1.1.1 (Int.tmod (y3.1 + IntKind.i64.wrap turn) (nI y1.1.1.length))].length) * 8 ≤ lim) <|
      gd (y3.2.length + [getI y1.1.1 (Int.tmod (y3.1 + IntKind.i64.wrap turn) (nI y1.1.1.length))].length ≤ lim) <|
      gd (inK IntKind.i64 (y3.1 + 1)) <|
      some (Sum.inl (y3.1 + 1, y3.2 ++ [getI y1.1.1 (Int.tmod (y3.1 + IntKind.i64.wrap turn) (nI y1.1.1.length))]))
    else
      bindO (vnorm y3.2) fun y4 =>
      bif !y2.1.2.1 == y4.1.2.1 then
        some (Sum.inr ((false, ()), (), ()))
      else
        bindO (vsameInts y2.1.1 y4.1.1) fun y5 =>
        bif bif false then true else !y5.1.1 then
          some (Sum.inr ((false, ()), (), ()))
        else
          bindO (vbits24 state 6) fun y6 =>
          bif !y2.1.2.1 then
            bif y0.1.1 then
              bif bif true then nI y2.1.1.length == 0 else false then
                bindO (vcHolds y1.1.1 y6.1.1) fun y7 =>
                some (Sum.inr ((bif true then !y7.1.1 else false, ()), (), ()))
              else
                some (Sum.inr ((false, ()), (), ()))
            else
              some (Sum.inr ((false, ()), (), ()))
          else
            bindO (vnorm y2.1.1) fun y7 =>
            iterO (X := Int × Int) (fun y8 =>
              bif decide (y8.2 < nI y2.1.1.length) then
                gd (0 ≤ y8.2) <|
                gd (y8.2 < nI y2.1.1.length) <|
                gd (0 ≤ y8.2) <|
                gd (y8.2 < nI y2.1.1.length) <|
                gd (inK IntKind.i64 (0 - getI y2.1.1 y8.2)) <|
                bif decide (max2 (getI y2.1.1 y8.2) (0 - getI y2.1.1 y8.2) ≤ y8.1) then
                  some (Sum.inr (Sum.inr ((false, ()), (), ())))
                else
                  gd (0 ≤ y8.2) <|
                  gd (y8.2 < nI y2.1.1.length) <|
                  gd (0 ≤ y8.2) <|
                  gd (y8.2 < nI y2.1.1.length) <|
                  gd (inK IntKind.i64 (0 - getI y2.1.1 y8.2)) <|
                  gd (inK IntKind.i64 (y8.2 + 1)) <|
                  some (Sum.inl (max2 (getI y2.1.1 y8.2) (0 - getI y2.1.1 y8.2), y8.2 + 1))
              else
                bif y0.1.1 then
                  bif bif true then y7.1.2.1 else false then
                    bindO (vsameInts y2.1.1 y7.1.1) fun y9 =>
                    bif bif true then y9.1.1 else false then
                      bindO (vcHolds y2.1.1 y6.1.1) fun y10 =>
                      bindO (vcHolds y1.1.1 y6.1.1) fun y11 =>
                      bif bif true then y10.1.1 == y11.1.1 else false then
                        bindO (vcCovers y2.1.1 y1.1.1) fun y12 =>
                        bif bif true then y12.1.1 else false then
                          bindO (vcCovers y1.1.1 y2.1.1) fun y13 =>
                          some (Sum.inr (Sum.inr ((bif true then y13.1.1 else false, ()), (), ())))
                        else
                          some (Sum.inr (Sum.inr ((false, ()), (), ())))
                      else
                        some (Sum.inr (Sum.inr ((false, ()), (), ())))
                    else
                      some (Sum.inr (Sum.inr ((false, ()), (), ())))
                  else
                    some (Sum.inr (Sum.inr ((false, ()), (), ())))
                else
                  some (Sum.inr (Sum.inr ((false, ()), (), ())))) (nn) (0, 0)) (nn) (0, [])

def CubeNorm (l : List Int) (turn : Int) (state : List Bool) : Option ((Bool × Unit) × Unit × Unit) := CubeNormF fuelN head24 narrow norm sameInts bits24 cHolds cCovers l turn state

def CubeClauseF (nn : Nat) (vhead24 : Option ((Bool × Unit) × Unit × Unit)) (vcClause : List Int → Option ((List Int × Unit) × Unit × Unit)) (vcHolds : List Int → List Bool → Option ((Bool × Unit) × Unit × Unit)) (vcOf : List Bool → Option ((List Int × Unit) × Unit × Unit)) (vsameInts : List Int → List Int → Option ((Bool × Unit) × Unit × Unit)) (l : List Int) (state : List Bool) (pos : Int) : Option ((Bool × Unit) × Unit × Unit) :=
  bindO (vhead24) fun y0 =>
  bif decide (nI state.length > 100) then
    some ((y0.1.1, ()), (), ())
  else
    bif bif false then true else nI state.length == 0 then
      some ((y0.1.1, ()), (), ())
    else
      joinO (X := Int × List Int) (
        iterO (X := Int × List Int) (fun y1 =>
          bif decide (y1.1 < nI l.length) then
            bif bif true then decide (y1.1 < 40) else false then
              gd (0 ≤ y1.1) <|
              gd (y1.1 < nI l.length) <|
              gd (inK IntKind.i64 (nI state.length + 1)) <|
              bif Int.tmod (getI l y1.1) (nI state.length + 1) != 0 then
                gd ((y1.2.length + [Int.tmod (getI l y1.1) (nI state.length + 1)].length) * 8 ≤ lim) <|
                gd (y1.2.length + [Int.tmod (getI l y1.1) (nI state.length + 1)].length ≤ lim) <|
                gd (inK IntKind.i64 (y1.1 + 1)) <|
                some (Sum.inl (y1.1 + 1, y1.2 ++ [Int.tmod (getI l y1.1) (nI state.length + 1)]))
              else
                gd (inK IntKind.i64 (y1.1 + 1)) <|
                some (Sum.inl (y1.1 + 1, y1.2))
            else
              some (Sum.inr (Sum.inl (y1.1, y1.2)))
          else
            some (Sum.inr (Sum.inl (y1.1, y1.2)))) (nn) (0, [])) fun y1 =>
      bindO (vcClause y1.2) fun y2 =>
      iterO (X := Bool × Int) (fun y3 =>
        bif decide (y3.2 < nI y2.1.1.length) then
          bif y3.1 then
            gd (inK IntKind.i64 (y3.2 + 1)) <|
            some (Sum.inl (true, y3.2 + 1))
          else
            gd (0 ≤ y3.2) <|
            gd (y3.2 < nI y2.1.1.length) <|
            bindO (vcHolds [getI y2.1.1 y3.2] state) fun y4 =>
            gd (inK IntKind.i64 (y3.2 + 1)) <|
            some (Sum.inl (bif false then true else y4.1.1, y3.2 + 1))
        else
          bindO (vcOf state) fun y4 =>
          gd ((0 + state.length) * 1 ≤ lim) <|
          gd (0 + state.length ≤ lim) <|
          gd (nI ([] ++ state).length ≠ 0) <|
          gd (nI ([] ++ state).length ≠ 0) <|
          gd (0 ≤ (IntKind.i64.wrap pos).tmod (nI ([] ++ state).length)) <|
          gd ((IntKind.i64.wrap pos).tmod (nI ([] ++ state).length) < nI ([] ++ state).length) <|
          gd (0 ≤ (IntKind.i64.wrap pos).tmod (nI ([] ++ state).length)) <|
          gd ((IntKind.i64.wrap pos).tmod (nI ([] ++ state).length) < nI ([] ++ state).length) <|
          bif y0.1.1 then
            bindO (vcHolds y1.2 state) fun y5 =>
            bif bif true then !y3.1 == y5.1.1 else false then
              bindO (vcClause y2.1.1) fun y6 =>
              bindO (vsameInts y6.1.1 y1.2) fun y7 =>
              bif bif true then y7.1.1 else false then
                bindO (vcHolds y4.1.1 state) fun y8 =>
                bif bif true then y8.1.1 else false then
                  bindO (vcHolds y4.1.1 (([] ++ state).set ((IntKind.i64.wrap pos).tmod (nI ([] ++ state).length)).toNat !getB ([] ++ state) ((IntKind.i64.wrap pos).tmod (nI ([] ++ state).length)))) fun y9 =>
                  bif bif true then !y9.1.1 else false then
                    some (Sum.inr ((bif true then nI y4.1.1.length == nI state.length else false, ()), (), ()))
                  else
                    some (Sum.inr ((false, ()), (), ()))
                else
                  some (Sum.inr ((false, ()), (), ()))
              else
                some (Sum.inr ((false, ()), (), ()))
            else
              some (Sum.inr ((false, ()), (), ()))
          else
            some (Sum.inr ((false, ()), (), ()))) (nn) (false, 0)

def CubeClause (l : List Int) (state : List Bool) (pos : Int) : Option ((Bool × Unit) × Unit × Unit) := CubeClauseF fuelN head24 cClause cHolds cOf sameInts l state pos

end GoSx
end
section
/- Walks: the functions compute what their models say: SatA. -/
set_option linter.unusedVariables false
set_option maxHeartbeats 0
namespace GoSx
open Go Go.Proofs
theorem fol : Try.prog.follows .mixedOrders = true := by kernel_rfl
def size_s : FSig := ⟨.val int <| .nil, [], .val int <| .nil, []⟩
def size_L : Nat → Option LoopS := fun n =>
  none
def size_J : Nat → Option Shape := fun n =>
  none
set_option maxRecDepth 100000 in
theorem size_eq : ∀  xa xo, (size_s.prog (mkC Try.prog noS ⟨false, false⟩ size_L size_J) Try.f74 xa xo).run = size  xa.1 := by intros; kernel_rfl
noncomputable def T_size : FuncId → Summ := addS noS 74 (size_s.summ (fun xa xo => size xa.1))
theorem T_size_ok : ∀ g, SummOK Try.prog g (T_size g) := fn_ok noS_ok fol Try.func74 (by kernel_rfl) (by kernel_rfl) (by kernel_rfl) size_eq

def at__s : FSig := ⟨.val int <| .nil, [], .val int <| .nil, []⟩
def at__L : Nat → Option LoopS := fun n =>
  none
def at__J : Nat → Option Shape := fun n =>
  none
set_option maxRecDepth 100000 in
theorem at__eq : ∀  xa xo, (at__s.prog (mkC Try.prog T_size ⟨false, false⟩ at__L at__J) Try.f75 xa xo).run = at_  xa.1 := by intros; kernel_rfl
noncomputable def T_at_ : FuncId → Summ := addS T_size 75 (at__s.summ (fun xa xo => at_ xa.1))
theorem T_at__ok : ∀ g, SummOK Try.prog g (T_at_ g) := fn_ok T_size_ok fol Try.func75 (by kernel_rfl) (by kernel_rfl) (by kernel_rfl) at__eq

def value_s : FSig := ⟨.obj 0 <| .val int <| .nil, [(94, .skip <| .skip <| .skip <| .lend (.sl int) <| .skip <| .skip <| .skip <| .skip <| .skip <| .skip <| .skip <| .skip <| .skip <| .skip <| .skip <| .skip <| .skip <| .skip <| .nil)], .val int <| .nil, []⟩
def value_L : Nat → Option LoopS := fun n =>
  none
def value_J : Nat → Option Shape := fun n =>
  none
set_option maxRecDepth 100000 in
theorem value_eq : ∀  xa xo, (value_s.prog (mkC Try.prog T_at_ ⟨false, false⟩ value_L value_J) Try.f62 xa xo).run = value  xa.1 xo.1.1 := by intros; kernel_rfl
noncomputable def T_value : FuncId → Summ := addS T_at_ 62 (value_s.summ (fun xa xo => value xa.1 xo.1.1))
theorem T_value_ok : ∀ g, SummOK Try.prog g (T_value g) := fn_ok T_at__ok fol Try.func62 (by kernel_rfl) (by kernel_rfl) (by kernel_rfl) value_eq

def set__s : FSig := ⟨.obj 0 <| .val int <| .val int <| .nil, [(94, .skip <| .skip <| .skip <| .own 3 int <| .own 3 int <| .own 3 int <| .skip <| .skip <| .skip <| .skip <| .own 3 int <| .lend (.sl int) <| .skip <| .skip <| .skip <| .skip <| .skip <| .skip <| .nil)], .nil, []⟩
def set__L : Nat → Option LoopS := fun n =>
  none
def set__J : Nat → Option Shape := fun n =>
  none
set_option maxRecDepth 100000 in
theorem set__eq : ∀  xa xo, (set__s.prog (mkC Try.prog T_value ⟨false, false⟩ set__L set__J) Try.f63 xa xo).run = set_  xa.1 xa.2.1 xo.1.1 xo.1.2.1 xo.1.2.2.1 xo.1.2.2.2.1 xo.1.2.2.2.2.1 := by intros; kernel_rfl
noncomputable def T_set_ : FuncId → Summ := addS T_value 63 (set__s.summ (fun xa xo => set_ xa.1 xa.2.1 xo.1.1 xo.1.2.1 xo.1.2.2.1 xo.1.2.2.2.1 xo.1.2.2.2.2.1))
theorem T_set__ok : ∀ g, SummOK Try.prog g (T_set_ g) := fn_ok T_value_ok fol Try.func63 (by kernel_rfl) (by kernel_rfl) (by kernel_rfl) set__eq

def back_s : FSig := ⟨.obj 0 <| .val int <| .nil, [(94, .skip <| .skip <| .skip <| .own 3 int <| .skip <| .skip <| .own 3 int <| .skip <| .skip <| .val int <| .own 3 int <| .own 3 int <| .val int <| .skip <| .skip <| .skip <| .skip <| .skip <| .nil)], .nil, []⟩
def back_L (nn : Nat) : Nat → Option LoopS := fun n =>
  bif Nat.beq n 3 then some ⟨{ env := [(29, ASh.dat (Ty.int IntKind.i64))], heap := [(1, CSh.box 94 ((ASh.opq 18).cons ((ASh.opq 19).cons ((ASh.opq 20).cons ((ASh.arr 21).cons ((ASh.opq 22).cons ((ASh.opq 23).cons ((ASh.arr 24).cons ((ASh.opq 25).cons ((ASh.opq 26).cons ((ASh.dat (Ty.int IntKind.i64)).cons ((ASh.arr 28).cons ((ASh.arr 29).cons ((ASh.dat (Ty.int IntKind.i64)).cons ((ASh.opq 31).cons ((ASh.opq 32).cons ((ASh.opq 33).cons ((ASh.opq 34).cons ((ASh.opq 35).cons ASh.nil))))))))))))))))))), (21, CSh.arr 3 (Ty.int IntKind.i64)), (24, CSh.arr 3 (Ty.int IntKind.i64))], keep := [0, 1, 4, 27, 28], keepH := [28, 29] }, fun _ => nn⟩ else
  none
def back_J : Nat → Option Shape := fun n =>
  none
set_option maxRecDepth 100000 in
theorem back_eq : ∀ (nn : Nat)  xa xo, (back_s.prog (mkC Try.prog T_set_ ⟨false, false⟩ (back_L nn) back_J) Try.f61 xa xo).run = backF nn xa.1 xo.1.1 xo.1.2.1 xo.1.2.2.1 xo.1.2.2.2.1 xo.1.2.2.2.2.1 xo.1.2.2.2.2.2.1 := by intros; kernel_rfl
noncomputable def T_back : FuncId → Summ := addS T_set_ 61 (back_s.summ (fun xa xo => back xa.1 xo.1.1 xo.1.2.1 xo.1.2.2.1 xo.1.2.2.2.1 xo.1.2.2.2.2.1 xo.1.2.2.2.2.2.1))
theorem T_back_ok : ∀ g, SummOK Try.prog g (T_back g) := fn_ok T_set__ok fol Try.func61 (by kernel_rfl) (by kernel_rfl) (by kernel_rfl) (back_eq fuelN)

def keep_s : FSig := ⟨.obj 0 <| .lendh int <| .nil, [(94, .skip <| .own2h 24 3 int 17 <| .own2 24 3 int <| .skip <| .skip <| .skip <| .skip <| .skip <| .skip <| .skip <| .skip <| .skip <| .skip <| .skip <| .skip <| .skip <| .skip <| .skip <| .nil)], .val int <| .nil, []⟩
def keep_L : Nat → Option LoopS := fun n =>
  none
def keep_J : Nat → Option Shape := fun n =>
  none
set_option maxRecDepth 100000 in
theorem keep_eq : ∀  xa xo, (keep_s.prog (mkC Try.prog T_back ⟨false, false⟩ keep_L keep_J) Try.f64 xa xo).run = keep  xa.1 xo.1.1 xo.1.2.1 xo.1.2.2.1 := by intros; kernel_rfl
noncomputable def T_keep : FuncId → Summ := addS T_back 64 (keep_s.summ (fun xa xo => keep xa.1 xo.1.1 xo.1.2.1 xo.1.2.2.1))
theorem T_keep_ok : ∀ g, SummOK Try.prog g (T_keep g) := fn_ok T_back_ok fol Try.func64 (by kernel_rfl) (by kernel_rfl) (by kernel_rfl) keep_eq

end GoSx
end
section
/- Walks: the functions compute what their models say: SatB. -/
set_option linter.unusedVariables false
set_option maxHeartbeats 0
set_option maxRecDepth 100000
namespace GoSx
open Go Go.Proofs
def forget_s : FSig := ⟨.obj 0 <| .nil, [(94, .skip <| .skip <| .skip <| .skip <| .skip <| .skip <| .skip <| .skip <| .skip <| .skip <| .skip <| .skip <| .skip <| .skip <| .skip <| .val int <| .own 3 int <| .own 4 .bool <| .nil)], .nil, []⟩
def forget_L : Nat → Option LoopS := fun n =>
  none
def forget_J : Nat → Option Shape := fun n =>
  none
set_option maxRecDepth 100000 in
theorem forget_eq : ∀  xa xo, (forget_s.prog (mkC Try.prog T_keep ⟨false, false⟩ forget_L forget_J) Try.f59 xa xo).run = forget  xo.1.1 xo.1.2.1 xo.1.2.2.1 := by intros; kernel_rfl
noncomputable def T_forget : FuncId → Summ := addS T_keep 59 (forget_s.summ (fun xa xo => forget xo.1.1 xo.1.2.1 xo.1.2.2.1))
theorem T_forget_ok : ∀ g, SummOK Try.prog g (T_forget g) := fn_ok T_keep_ok fol Try.func59 (by kernel_rfl) (by kernel_rfl) (by kernel_rfl) forget_eq

def ownC_s : FSig := ⟨.val int <| .obj 0 <| .nil, [(57, .obj 1 <| .nil), (94, .val int <| .skip <| .skip <| .skip <| .skip <| .skip <| .skip <| .skip <| .skip <| .skip <| .skip <| .skip <| .skip <| .skip <| .skip <| .skip <| .skip <| .skip <| .nil)], .val .bool <| .nil, []⟩
def ownC_L : Nat → Option LoopS := fun n =>
  none
def ownC_J : Nat → Option Shape := fun n =>
  none
set_option maxRecDepth 100000 in
theorem ownC_eq : ∀  xa xo, (ownC_s.prog (mkC Try.prog T_forget ⟨false, false⟩ ownC_L ownC_J) Try.f73 xa xo).run = ownC  xa.1 xo.2.1.1 := by intros; kernel_rfl
noncomputable def T_ownC : FuncId → Summ := addS T_forget 73 (ownC_s.summ (fun xa xo => ownC xa.1 xo.2.1.1))
theorem T_ownC_ok : ∀ g, SummOK Try.prog g (T_ownC g) := fn_ok T_forget_ok fol Try.func73 (by kernel_rfl) (by kernel_rfl) (by kernel_rfl) ownC_eq

def IndexFunc_own_s : FSig := ⟨.val (.sl int) <| .clo 73 (.obj 0 <| .nil) <| .nil, [(57, .obj 1 <| .nil), (94, .val int <| .skip <| .skip <| .skip <| .skip <| .skip <| .skip <| .skip <| .skip <| .skip <| .skip <| .skip <| .skip <| .skip <| .skip <| .skip <| .skip <| .skip <| .nil)], .val int <| .nil, []⟩
def IndexFunc_own_L (nn : Nat) : Nat → Option LoopS := fun n =>
  bif Nat.beq n 2 then some ⟨{ env := [(8, ASh.dat (Ty.int IntKind.i64))], heap := [(1, CSh.box 57 ((ASh.ref 2 0).cons ASh.nil)), (2, CSh.box 94 ((ASh.dat (Ty.int IntKind.i64)).cons ((ASh.opq 20).cons ((ASh.opq 21).cons ((ASh.opq 22).cons ((ASh.opq 23).cons ((ASh.opq 24).cons ((ASh.opq 25).cons ((ASh.opq 26).cons ((ASh.opq 27).cons ((ASh.opq 28).cons ((ASh.opq 29).cons ((ASh.opq 30).cons ((ASh.opq 31).cons ((ASh.opq 32).cons ((ASh.opq 33).cons ((ASh.opq 34).cons ((ASh.opq 35).cons ((ASh.opq 36).cons ASh.nil)))))))))))))))))))], keep := [0, 1, 4, 7], keepH := [] }, fun _ => nn⟩ else
  none
def IndexFunc_own_J : Nat → Option Shape := fun n =>
  none
set_option maxRecDepth 100000 in
theorem IndexFunc_own_eq : ∀ (nn : Nat)  xa xo, (IndexFunc_own_s.prog (mkC Try.prog T_ownC ⟨false, false⟩ (IndexFunc_own_L nn) IndexFunc_own_J) Try.f37 xa xo).run = IndexFunc_ownF nn xa.1 xo.2.1.1 := by intros; kernel_rfl
noncomputable def T_IndexFunc_own : FuncId → Summ := addS T_ownC 37 (IndexFunc_own_s.summ (fun xa xo => IndexFunc_own xa.1 xo.2.1.1))
theorem T_IndexFunc_own_ok : ∀ g, SummOK Try.prog g (T_IndexFunc_own g) := fn_ok T_ownC_ok fol Try.func37 (by kernel_rfl) (by kernel_rfl) (by kernel_rfl) (IndexFunc_own_eq fuelN)

def ContainsFunc_own_s : FSig := ⟨.val (.sl int) <| .clo 73 (.obj 0 <| .nil) <| .nil, [(57, .obj 1 <| .nil), (94, .val int <| .skip <| .skip <| .skip <| .skip <| .skip <| .skip <| .skip <| .skip <| .skip <| .skip <| .skip <| .skip <| .skip <| .skip <| .skip <| .skip <| .skip <| .nil)], .val .bool <| .nil, []⟩
def ContainsFunc_own_L : Nat → Option LoopS := fun n =>
  none
def ContainsFunc_own_J : Nat → Option Shape := fun n =>
  none
set_option maxRecDepth 100000 in
theorem ContainsFunc_own_eq : ∀  xa xo, (ContainsFunc_own_s.prog (mkC Try.prog T_IndexFunc_own ⟨false, false⟩ ContainsFunc_own_L ContainsFunc_own_J) Try.f26 xa xo).run = ContainsFunc_own  xa.1 xo.2.1.1 := by intros; kernel_rfl
noncomputable def T_ContainsFunc_own : FuncId → Summ := addS T_IndexFunc_own 26 (ContainsFunc_own_s.summ (fun xa xo => ContainsFunc_own xa.1 xo.2.1.1))
theorem T_ContainsFunc_own_ok : ∀ g, SummOK Try.prog g (T_ContainsFunc_own g) := fn_ok T_IndexFunc_own_ok fol Try.func26 (by kernel_rfl) (by kernel_rfl) (by kernel_rfl) ContainsFunc_own_eq

def own_s : FSig := ⟨.obj 0 <| .val (.sl int) <| .nil, [(94, .val int <| .skip <| .skip <| .skip <| .skip <| .skip <| .skip <| .skip <| .skip <| .skip <| .skip <| .skip <| .skip <| .skip <| .skip <| .skip <| .skip <| .skip <| .nil)], .val .bool <| .nil, []⟩
def own_L : Nat → Option LoopS := fun n =>
  none
def own_J : Nat → Option Shape := fun n =>
  none
set_option maxRecDepth 100000 in
theorem own_eq : ∀  xa xo, (own_s.prog (mkC Try.prog T_ContainsFunc_own ⟨false, false⟩ own_L own_J) Try.f60 xa xo).run = own  xa.1 xo.1.1 := by intros; kernel_rfl
noncomputable def T_own : FuncId → Summ := addS T_ContainsFunc_own 60 (own_s.summ (fun xa xo => own xa.1 xo.1.1))
theorem T_own_ok : ∀ g, SummOK Try.prog g (T_own g) := fn_ok T_ContainsFunc_own_ok fol Try.func60 (by kernel_rfl) (by kernel_rfl) (by kernel_rfl) own_eq

def Index__s : FSig := ⟨.lend (.sl int) <| .val int <| .nil, [], .val int <| .nil, []⟩
def Index__L (nn : Nat) : Nat → Option LoopS := fun n =>
  bif Nat.beq n 2 then some ⟨{ env := [(8, ASh.dat (Ty.int IntKind.i64))], heap := [], keep := [0, 1, 4, 7], keepH := [] }, fun _ => nn⟩ else
  none
def Index__J : Nat → Option Shape := fun n =>
  none
set_option maxRecDepth 100000 in
theorem Index__eq : ∀ (nn : Nat)  xa xo, (Index__s.prog (mkC Try.prog T_own ⟨false, false⟩ (Index__L nn) Index__J) Try.f38 xa xo).run = Index_F nn xa.1 xa.2.1 := by intros; kernel_rfl
noncomputable def T_Index_ : FuncId → Summ := addS T_own 38 (Index__s.summ (fun xa xo => Index_ xa.1 xa.2.1))
theorem T_Index__ok : ∀ g, SummOK Try.prog g (T_Index_ g) := fn_ok T_own_ok fol Try.func38 (by kernel_rfl) (by kernel_rfl) (by kernel_rfl) (Index__eq fuelN)

def Contains__s : FSig := ⟨.lend (.sl int) <| .val int <| .nil, [], .val .bool <| .nil, []⟩
def Contains__L : Nat → Option LoopS := fun n =>
  none
def Contains__J : Nat → Option Shape := fun n =>
  none
set_option maxRecDepth 100000 in
theorem Contains__eq : ∀  xa xo, (Contains__s.prog (mkC Try.prog T_Index_ ⟨false, false⟩ Contains__L Contains__J) Try.f29 xa xo).run = Contains_  xa.1 xa.2.1 := by intros; kernel_rfl
noncomputable def T_Contains_ : FuncId → Summ := addS T_Index_ 29 (Contains__s.summ (fun xa xo => Contains_ xa.1 xa.2.1))
theorem T_Contains__ok : ∀ g, SummOK Try.prog g (T_Contains_ g) := fn_ok T_Index__ok fol Try.func29 (by kernel_rfl) (by kernel_rfl) (by kernel_rfl) Contains__eq

def pick_s : FSig := ⟨.obj 0 <| .nil, [(94, .val int <| .skip <| .skip <| .lend (.sl int) <| .skip <| .skip <| .lend (.sl int) <| .lend (.sl int) <| .lend (.sl int) <| .val int <| .skip <| .skip <| .skip <| .skip <| .skip <| .skip <| .skip <| .skip <| .nil)], .val int <| .nil, []⟩
def pick_L (nn : Nat) : Nat → Option LoopS := fun n =>
  bif Nat.beq n 3 then some ⟨{ env := [(3, ASh.dat (Ty.int IntKind.i64)), (11, ASh.dat (Ty.int IntKind.i64))], heap := [], keep := [0, 2, 9, 10], keepH := [1] }, fun _ => nn⟩ else
  bif Nat.beq n 8 then some ⟨{ env := [(3, ASh.dat (Ty.int IntKind.i64))], heap := [(1, CSh.box 94 ((ASh.dat (Ty.int IntKind.i64)).cons ((ASh.opq 18).cons ((ASh.opq 19).cons ((ASh.idn 20 (Ty.int IntKind.i64).sl).cons ((ASh.opq 21).cons ((ASh.opq 22).cons ((ASh.idn 23 (Ty.int IntKind.i64).sl).cons ((ASh.idn 24 (Ty.int IntKind.i64).sl).cons ((ASh.idn 25 (Ty.int IntKind.i64).sl).cons ((ASh.dat (Ty.int IntKind.i64)).cons ((ASh.opq 27).cons ((ASh.opq 28).cons ((ASh.opq 29).cons ((ASh.opq 30).cons ((ASh.opq 31).cons ((ASh.opq 32).cons ((ASh.opq 33).cons ((ASh.opq 34).cons ASh.nil)))))))))))))))))))], keep := [0, 2, 9, 10, 11], keepH := [] }, fun _ => nn⟩ else
  none
def pick_J : Nat → Option Shape := fun n =>
  none
set_option maxRecDepth 100000 in
theorem pick_eq : ∀ (nn : Nat)  xa xo, (pick_s.prog (mkC Try.prog T_Contains_ ⟨false, false⟩ (pick_L nn) pick_J) Try.f79 xa xo).run = pickF nn xo.1.1 xo.1.2.1 xo.1.2.2.1 xo.1.2.2.2.1 xo.1.2.2.2.2.1 xo.1.2.2.2.2.2.1 := by intros; kernel_rfl
noncomputable def T_pick : FuncId → Summ := addS T_Contains_ 79 (pick_s.summ (fun xa xo => pick xo.1.1 xo.1.2.1 xo.1.2.2.1 xo.1.2.2.2.1 xo.1.2.2.2.2.1 xo.1.2.2.2.2.2.1))
theorem T_pick_ok : ∀ g, SummOK Try.prog g (T_pick g) := fn_ok T_Contains__ok fol Try.func79 (by kernel_rfl) (by kernel_rfl) (by kernel_rfl) (pick_eq fuelN)

def Clone__s : FSig := ⟨.lend (.sl int) <| .nil, [], .own 3 int <| .nil, []⟩
theorem Clone__nf (s : List Int) (y : Clone__s.oty.den) : Clone__s.vcond (mkC Try.prog T_pick ⟨false, false⟩ (fun _ => none) (fun _ => none)) Try.f19 (s, ()) () y =
  ((s = [] → some (([], ()), (), ()) = some y) ∧ (([] : List Int).length + s.length) * 8 ≤ lim ∧ ([] : List Int).length + s.length ≤ lim ∧ some (([] ++ s, ()), (), ()) = some y) := by kernel_rfl
theorem Clone__vc (xa : Clone__s.args.ty.den) (xo : (objsTy Clone__s.objs).den) (y : Clone__s.oty.den) (h : Clone_ xa.1 = some y) : Clone__s.vcond (mkC Try.prog T_pick ⟨false, false⟩ (fun _ => none) (fun _ => none)) Try.f19 xa xo y := by
  have e := Clone__nf xa.1 y
  refine e.mpr ?_
  unfold Clone_ at h
  obtain ⟨h1, h⟩ := gd_some.1 h
  obtain ⟨h2, h⟩ := gd_some.1 h
  refine ⟨fun hs => ?_, h1, h2, ?_⟩
  · rw [hs] at h; exact h
  · exact h
noncomputable def T_Clone_ : FuncId → Summ := addS T_pick 19 (Clone__s.summ (fun xa xo => Clone_ xa.1))
theorem T_Clone__ok : ∀ g, SummOK Try.prog g (T_Clone_ g) := fn_ok_vc T_pick_ok fol Try.func19 (by kernel_rfl) (by kernel_rfl) (by kernel_rfl) Clone__vc

end GoSx
end
section
/- Walks: the functions compute what their models say: SatC. -/
set_option linter.unusedVariables false
set_option maxHeartbeats 0
set_option maxRecDepth 100000
namespace GoSx
open Go Go.Proofs
def more_s : FSig := ⟨.own 3 int <| .val int <| .nil, [], .own 3 int <| .nil, []⟩
def more_L : Nat → Option LoopS := fun n =>
  none
def more_J : Nat → Option Shape := fun n =>
  none
set_option maxRecDepth 100000 in
theorem more_eq : ∀  xa xo, (more_s.prog (mkC Try.prog T_Clone_ ⟨false, false⟩ more_L more_J) Try.f71 xa xo).run = more  xa.1 xa.2.1 := by intros; kernel_rfl
noncomputable def T_more : FuncId → Summ := addS T_Clone_ 71 (more_s.summ (fun xa xo => more xa.1 xa.2.1))
theorem T_more_ok : ∀ g, SummOK Try.prog g (T_more g) := fn_ok T_Clone__ok fol Try.func71 (by kernel_rfl) (by kernel_rfl) (by kernel_rfl) more_eq

def grow_s : FSig := ⟨.obj 0 <| .val int <| .nil, [(94, .val int <| .skip <| .own2 24 3 int <| .own 3 int <| .own 3 int <| .own 3 int <| .own 3 int <| .own 3 int <| .skip <| .skip <| .skip <| .skip <| .skip <| .skip <| .skip <| .skip <| .skip <| .skip <| .nil)], .nil, []⟩
def grow_L : Nat → Option LoopS := fun n =>
  none
def grow_J : Nat → Option Shape := fun n =>
  none
set_option maxRecDepth 100000 in
theorem grow_eq : ∀  xa xo, (grow_s.prog (mkC Try.prog T_more ⟨false, false⟩ grow_L grow_J) Try.f56 xa xo).run = grow  xa.1 xo.1.1 xo.1.2.1 xo.1.2.2.1 xo.1.2.2.2.1 xo.1.2.2.2.2.1 xo.1.2.2.2.2.2.1 xo.1.2.2.2.2.2.2.1 := by intros; kernel_rfl
noncomputable def T_grow : FuncId → Summ := addS T_more 56 (grow_s.summ (fun xa xo => grow xa.1 xo.1.1 xo.1.2.1 xo.1.2.2.1 xo.1.2.2.2.1 xo.1.2.2.2.2.1 xo.1.2.2.2.2.2.1 xo.1.2.2.2.2.2.2.1))
theorem T_grow_ok : ∀ g, SummOK Try.prog g (T_grow g) := fn_ok T_more_ok fol Try.func56 (by kernel_rfl) (by kernel_rfl) (by kernel_rfl) grow_eq

def New_s : FSig := ⟨.val int <| .nil, [], .obj 0 <| .nil, [(94, .val int <| .own2 24 3 int <| .own2 24 3 int <| .own 3 int <| .own 3 int <| .own 3 int <| .own 3 int <| .own 3 int <| .own 3 int <| .val int <| .own 3 int <| .own 3 int <| .val int <| .val .bool <| .own 24 (.sl int) <| .val int <| .own 3 int <| .own 4 .bool <| .nil)]⟩
def New_L : Nat → Option LoopS := fun n =>
  none
def New_J : Nat → Option Shape := fun n =>
  none
set_option maxRecDepth 100000 in
theorem New_eq : ∀  xa xo, (New_s.prog (mkC Try.prog T_grow ⟨false, false⟩ New_L New_J) Try.f39 xa xo).run = New  xa.1 := by intros; kernel_rfl
noncomputable def T_New : FuncId → Summ := addS T_grow 39 (New_s.summ (fun xa xo => New xa.1))
theorem T_New_ok : ∀ g, SummOK Try.prog g (T_New g) := fn_ok T_grow_ok fol Try.func39 (by kernel_rfl) (by kernel_rfl) (by kernel_rfl) New_eq

def Add_s : FSig := ⟨.obj 0 <| .val (.sl int) <| .nil, [(94, .val int <| .own2 24 3 int <| .own2 24 3 int <| .own 3 int <| .own 3 int <| .own 3 int <| .own 3 int <| .skip <| .skip <| .val int <| .own 3 int <| .own 3 int <| .val int <| .val .bool <| .skip <| .val int <| .own 3 int <| .own 4 .bool <| .nil)], .nil, []⟩
def Add_L (nn : Nat) : Nat → Option LoopS := fun n =>
  bif Nat.beq n 5 then some ⟨{ env := [(4, ASh.arr 49), (17, ASh.dat (Ty.int IntKind.i64))], heap := [(1, CSh.box 94 ((ASh.dat (Ty.int IntKind.i64)).cons ((ASh.arr 19).cons ((ASh.arr 20).cons ((ASh.arr 533).cons ((ASh.arr 22).cons ((ASh.arr 23).cons ((ASh.arr 536).cons ((ASh.opq 25).cons ((ASh.opq 26).cons ((ASh.dat (Ty.int IntKind.i64)).cons ((ASh.arr 540).cons ((ASh.arr 541).cons ((ASh.dat (Ty.int IntKind.i64)).cons ((ASh.dat Ty.bool).cons ((ASh.opq 32).cons ((ASh.dat (Ty.int IntKind.i64)).cons ((ASh.arr 161).cons ((ASh.arr 162).cons ASh.nil))))))))))))))))))), (49, CSh.arr 3 (Ty.int IntKind.i64))], keep := [0, 1, 15, 16], keepH := [19, 20, 533, 22, 23, 536, 540, 541, 161, 162] }, fun _ => nn⟩ else
  none
def Add_J : Nat → Option Shape := fun n =>
  none
set_option maxRecDepth 100000 in
theorem Add_eq : ∀ (nn : Nat)  xa xo, (Add_s.prog (mkC Try.prog T_New ⟨false, false⟩ (Add_L nn) Add_J) Try.f42 xa xo).run = AddF nn xa.1 xo.1.1 xo.1.2.1 xo.1.2.2.1 xo.1.2.2.2.1 xo.1.2.2.2.2.1 xo.1.2.2.2.2.2.1 xo.1.2.2.2.2.2.2.1 xo.1.2.2.2.2.2.2.2.1 xo.1.2.2.2.2.2.2.2.2.1 xo.1.2.2.2.2.2.2.2.2.2.1 xo.1.2.2.2.2.2.2.2.2.2.2.1 xo.1.2.2.2.2.2.2.2.2.2.2.2.1 xo.1.2.2.2.2.2.2.2.2.2.2.2.2.1 xo.1.2.2.2.2.2.2.2.2.2.2.2.2.2.1 xo.1.2.2.2.2.2.2.2.2.2.2.2.2.2.2.1 := by intros; kernel_rfl
noncomputable def T_Add : FuncId → Summ := addS T_New 42 (Add_s.summ (fun xa xo => Add xa.1 xo.1.1 xo.1.2.1 xo.1.2.2.1 xo.1.2.2.2.1 xo.1.2.2.2.2.1 xo.1.2.2.2.2.2.1 xo.1.2.2.2.2.2.2.1 xo.1.2.2.2.2.2.2.2.1 xo.1.2.2.2.2.2.2.2.2.1 xo.1.2.2.2.2.2.2.2.2.2.1 xo.1.2.2.2.2.2.2.2.2.2.2.1 xo.1.2.2.2.2.2.2.2.2.2.2.2.1 xo.1.2.2.2.2.2.2.2.2.2.2.2.2.1 xo.1.2.2.2.2.2.2.2.2.2.2.2.2.2.1 xo.1.2.2.2.2.2.2.2.2.2.2.2.2.2.2.1))
theorem T_Add_ok : ∀ g, SummOK Try.prog g (T_Add g) := fn_ok T_New_ok fol Try.func42 (by kernel_rfl) (by kernel_rfl) (by kernel_rfl) (Add_eq fuelN)

def blame_s : FSig := ⟨.obj 0 <| .val int <| .nil, [(94, .skip <| .own2 24 3 int <| .skip <| .skip <| .skip <| .lend (.sl int) <| .skip <| .skip <| .skip <| .skip <| .lend (.sl int) <| .lend (.sl int) <| .skip <| .skip <| .skip <| .skip <| .skip <| .skip <| .nil)], .own 3 int <| .nil, []⟩
def blame_L (nn : Nat) : Nat → Option LoopS := fun n =>
  bif Nat.beq n 4 then some ⟨{ env := [(7, ASh.dat (Ty.int IntKind.i64)), (5, ASh.arr 192)], heap := [(19, CSh.arr2 24 3 (Ty.int IntKind.i64) []), (192, CSh.arr 3 (Ty.int IntKind.i64)), (192, CSh.arr 3 (Ty.int IntKind.i64)), (320, CSh.mp IntKind.i64 Ty.bool)], keep := [0, 1, 4, 6], keepH := [1] }, fun _ => nn⟩ else
  bif Nat.beq n 11 then some ⟨{ env := [(85, ASh.dat (Ty.int IntKind.i64))], heap := [(320, CSh.mp IntKind.i64 Ty.bool)], keep := [0, 1, 4, 5, 6, 7, 8, 83, 84], keepH := [1, 19, 4672, 192] }, fun _ => nn⟩ else
  none
def blame_J : Nat → Option Shape := fun n =>
  none
set_option maxRecDepth 100000 in
theorem blame_eq : ∀ (nn : Nat)  xa xo, (blame_s.prog (mkC Try.prog T_Add ⟨false, false⟩ (blame_L nn) blame_J) Try.f78 xa xo).run = blameF nn xa.1 xo.1.1 xo.1.2.1 xo.1.2.2.1 xo.1.2.2.2.1 := by intros; kernel_rfl
noncomputable def T_blame : FuncId → Summ := addS T_Add 78 (blame_s.summ (fun xa xo => blame xa.1 xo.1.1 xo.1.2.1 xo.1.2.2.1 xo.1.2.2.2.1))
theorem T_blame_ok : ∀ g, SummOK Try.prog g (T_blame g) := fn_ok T_Add_ok fol Try.func78 (by kernel_rfl) (by kernel_rfl) (by kernel_rfl) (blame_eq fuelN)

def learn_s : FSig := ⟨.obj 0 <| .val int <| .nil, [(94, .skip <| .own2 24 3 int <| .skip <| .lend (.sl int) <| .lend (.sl int) <| .lend (.sl int) <| .skip <| .own 3 int <| .own 3 int <| .skip <| .lend (.sl int) <| .lend (.sl int) <| .skip <| .skip <| .skip <| .skip <| .skip <| .skip <| .nil)], .own 3 int <| .val int <| .nil, []⟩
def learn_L (nn : Nat) : Nat → Option LoopS := fun n =>
  bif Nat.beq n 5 then some ⟨{ env := [(7, ASh.arr 320), (8, ASh.dat (Ty.int IntKind.i64)), (9, ASh.dat (Ty.int IntKind.i64)), (10, ASh.arr 1280)], heap := [(1, CSh.box 94 ((ASh.opq 18).cons ((ASh.arr 19).cons ((ASh.opq 20).cons ((ASh.idn 21 (Ty.int IntKind.i64).sl).cons ((ASh.idn 22 (Ty.int IntKind.i64).sl).cons ((ASh.idn 23 (Ty.int IntKind.i64).sl).cons ((ASh.opq 24).cons ((ASh.arr 25).cons ((ASh.arr 26).cons ((ASh.opq 27).cons ((ASh.idn 28 (Ty.int IntKind.i64).sl).cons ((ASh.idn 29 (Ty.int IntKind.i64).sl).cons ((ASh.opq 30).cons ((ASh.opq 31).cons ((ASh.opq 32).cons ((ASh.opq 33).cons ((ASh.opq 34).cons ((ASh.opq 35).cons ASh.nil))))))))))))))))))), (19, CSh.arr2 24 3 (Ty.int IntKind.i64) [1280]), (1280, CSh.arr 3 (Ty.int IntKind.i64)), (1280, CSh.arr 3 (Ty.int IntKind.i64)), (25, CSh.arr 3 (Ty.int IntKind.i64)), (26, CSh.arr 3 (Ty.int IntKind.i64)), (192, CSh.mp IntKind.i64 Ty.bool), (320, CSh.arr 3 (Ty.int IntKind.i64))], keep := [0, 1, 4, 5, 6], keepH := [] }, fun _ => nn⟩ else
  bif Nat.beq n 6 then some ⟨{ env := [(34, ASh.dat (Ty.int IntKind.i64)), (8, ASh.dat (Ty.int IntKind.i64)), (7, ASh.arr 320)], heap := [(1, CSh.box 94 ((ASh.opq 18).cons ((ASh.arr 19).cons ((ASh.opq 20).cons ((ASh.idn 21 (Ty.int IntKind.i64).sl).cons ((ASh.idn 22 (Ty.int IntKind.i64).sl).cons ((ASh.idn 23 (Ty.int IntKind.i64).sl).cons ((ASh.opq 24).cons ((ASh.arr 25).cons ((ASh.arr 26).cons ((ASh.opq 27).cons ((ASh.idn 28 (Ty.int IntKind.i64).sl).cons ((ASh.idn 29 (Ty.int IntKind.i64).sl).cons ((ASh.opq 30).cons ((ASh.opq 31).cons ((ASh.opq 32).cons ((ASh.opq 33).cons ((ASh.opq 34).cons ((ASh.opq 35).cons ASh.nil))))))))))))))))))), (25, CSh.arr 3 (Ty.int IntKind.i64)), (26, CSh.arr 3 (Ty.int IntKind.i64)), (192, CSh.mp IntKind.i64 Ty.bool), (320, CSh.arr 3 (Ty.int IntKind.i64)), (320, CSh.arr 3 (Ty.int IntKind.i64))], keep := [0, 1, 4, 5, 6, 9, 10, 32, 33], keepH := [19, 1280] }, fun _ => nn⟩ else
  bif Nat.beq n 19 then some ⟨{ env := [(9, ASh.dat (Ty.int IntKind.i64))], heap := [], keep := [0, 1, 4, 5, 6, 7, 8, 10, 32, 33, 34], keepH := [1, 19, 1280, 25, 26, 192, 320] }, fun _ => nn⟩ else
  bif Nat.beq n 28 then some ⟨{ env := [(15, ASh.dat (Ty.int IntKind.i64)), (16, ASh.dat (Ty.int IntKind.i64))], heap := [(320, CSh.arr 3 (Ty.int IntKind.i64))], keep := [0, 1, 4, 5, 6, 7, 8, 9, 10, 14, 32, 33, 34], keepH := [1, 19, 1280, 25, 26, 192] }, fun _ => nn⟩ else
  none
def learn_J : Nat → Option Shape := fun n =>
  none
set_option maxRecDepth 100000 in
theorem learn_eq : ∀ (nn : Nat)  xa xo, (learn_s.prog (mkC Try.prog T_blame ⟨false, true⟩ (learn_L nn) learn_J) Try.f81 xa xo).run = learnF nn xa.1 xo.1.1 xo.1.2.1 xo.1.2.2.1 xo.1.2.2.2.1 xo.1.2.2.2.2.1 xo.1.2.2.2.2.2.1 xo.1.2.2.2.2.2.2.1 xo.1.2.2.2.2.2.2.2.1 := by intros; kernel_rfl
noncomputable def T_learn : FuncId → Summ := addS T_blame 81 (learn_s.summ (fun xa xo => learn xa.1 xo.1.1 xo.1.2.1 xo.1.2.2.1 xo.1.2.2.2.1 xo.1.2.2.2.2.1 xo.1.2.2.2.2.2.1 xo.1.2.2.2.2.2.2.1 xo.1.2.2.2.2.2.2.2.1))
theorem T_learn_ok : ∀ g, SummOK Try.prog g (T_learn g) := fn_ok T_blame_ok fol Try.func81 (by kernel_rfl) (by kernel_rfl) (by kernel_rfl) (learn_eq fuelN)

def unit_s : FSig := ⟨.obj 0 <| .nil, [(94, .skip <| .own2 24 3 int <| .own2 24 3 int <| .own 3 int <| .own 3 int <| .own 3 int <| .skip <| .skip <| .skip <| .skip <| .own 3 int <| .lend (.sl int) <| .val int <| .skip <| .skip <| .skip <| .skip <| .skip <| .nil)], .val int <| .nil, []⟩
def unit_L (nn : Nat) : Nat → Option LoopS := fun n =>
  bif Nat.beq n 1 then some ⟨{ env := [], heap := [(1, CSh.box 94 ((ASh.opq 17).cons ((ASh.arr 18).cons ((ASh.arr 19).cons ((ASh.arr 20).cons ((ASh.arr 21).cons ((ASh.arr 22).cons ((ASh.opq 23).cons ((ASh.opq 24).cons ((ASh.opq 25).cons ((ASh.opq 26).cons ((ASh.arr 27).cons ((ASh.idn 28 (Ty.int IntKind.i64).sl).cons ((ASh.dat (Ty.int IntKind.i64)).cons ((ASh.opq 30).cons ((ASh.opq 31).cons ((ASh.opq 32).cons ((ASh.opq 33).cons ((ASh.opq 34).cons ASh.nil))))))))))))))))))), (18, CSh.arr2 24 3 (Ty.int IntKind.i64) []), (19, CSh.arr2 24 3 (Ty.int IntKind.i64) []), (20, CSh.arr 3 (Ty.int IntKind.i64)), (21, CSh.arr 3 (Ty.int IntKind.i64)), (22, CSh.arr 3 (Ty.int IntKind.i64)), (27, CSh.arr 3 (Ty.int IntKind.i64))], keep := [0, 2], keepH := [] }, fun _ => nn⟩ else
  bif Nat.beq n 7 then some ⟨{ env := [(5, ASh.dat (Ty.int IntKind.i64)), (48, ASh.dat (Ty.int IntKind.i64))], heap := [(1, CSh.box 94 ((ASh.opq 17).cons ((ASh.arr 18).cons ((ASh.arr 19).cons ((ASh.arr 20).cons ((ASh.arr 21).cons ((ASh.arr 22).cons ((ASh.opq 23).cons ((ASh.opq 24).cons ((ASh.opq 25).cons ((ASh.opq 26).cons ((ASh.arr 27).cons ((ASh.idn 28 (Ty.int IntKind.i64).sl).cons ((ASh.dat (Ty.int IntKind.i64)).cons ((ASh.opq 30).cons ((ASh.opq 31).cons ((ASh.opq 32).cons ((ASh.opq 33).cons ((ASh.opq 34).cons ASh.nil))))))))))))))))))), (18, CSh.arr2 24 3 (Ty.int IntKind.i64) []), (19, CSh.arr2 24 3 (Ty.int IntKind.i64) [2496]), (2496, CSh.arr 3 (Ty.int IntKind.i64)), (20, CSh.arr 3 (Ty.int IntKind.i64)), (21, CSh.arr 3 (Ty.int IntKind.i64)), (22, CSh.arr 3 (Ty.int IntKind.i64)), (27, CSh.arr 3 (Ty.int IntKind.i64))], keep := [0, 2, 3, 4, 46, 47], keepH := [] }, fun _ => nn⟩ else
  bif Nat.beq n 16 then some ⟨{ env := [(9, ASh.dat (Ty.int IntKind.i64))], heap := [(1, CSh.box 94 ((ASh.opq 17).cons ((ASh.arr 18).cons ((ASh.arr 19).cons ((ASh.arr 20).cons ((ASh.arr 21).cons ((ASh.arr 22).cons ((ASh.opq 23).cons ((ASh.opq 24).cons ((ASh.opq 25).cons ((ASh.opq 26).cons ((ASh.arr 27).cons ((ASh.idn 28 (Ty.int IntKind.i64).sl).cons ((ASh.dat (Ty.int IntKind.i64)).cons ((ASh.opq 30).cons ((ASh.opq 31).cons ((ASh.opq 32).cons ((ASh.opq 33).cons ((ASh.opq 34).cons ASh.nil)))))))))))))))))))], keep := [0, 2, 3, 4, 5, 6, 7, 8, 46, 47, 48], keepH := [18, 3648, 19, 2496, 20, 21, 22, 27] }, fun _ => nn⟩ else
  none
def unit_J : Nat → Option Shape := fun n =>
  bif Nat.beq n 12 then some ({ env := [], heap := [(3648, CSh.arr 3 (Ty.int IntKind.i64))], keep := [0, 2, 3, 4, 5, 6, 7, 8, 46, 47, 48], keepH := [1, 18, 19, 2496, 20, 21, 22, 27] }) else
  bif Nat.beq n 21 then some ({ env := [(9, ASh.dat (Ty.int IntKind.i64))], heap := [(1, CSh.box 94 ((ASh.opq 17).cons ((ASh.arr 18).cons ((ASh.arr 19).cons ((ASh.arr 20).cons ((ASh.arr 21).cons ((ASh.arr 22).cons ((ASh.opq 23).cons ((ASh.opq 24).cons ((ASh.opq 25).cons ((ASh.opq 26).cons ((ASh.arr 27).cons ((ASh.idn 28 (Ty.int IntKind.i64).sl).cons ((ASh.dat (Ty.int IntKind.i64)).cons ((ASh.opq 30).cons ((ASh.opq 31).cons ((ASh.opq 32).cons ((ASh.opq 33).cons ((ASh.opq 34).cons ASh.nil)))))))))))))))))))], keep := [0, 2, 3, 4, 5, 6, 7, 8, 46, 47, 48], keepH := [18, 3648, 19, 2496, 20, 21, 22, 27] }) else
  bif Nat.beq n 29 then some ({ env := [(5, ASh.dat (Ty.int IntKind.i64)), (46, ASh.arr 2496), (47, ASh.dat (Ty.int IntKind.i64)), (48, ASh.dat (Ty.int IntKind.i64))], heap := [(1, CSh.box 94 ((ASh.opq 17).cons ((ASh.arr 18).cons ((ASh.arr 19).cons ((ASh.arr 20).cons ((ASh.arr 21).cons ((ASh.arr 22).cons ((ASh.opq 23).cons ((ASh.opq 24).cons ((ASh.opq 25).cons ((ASh.opq 26).cons ((ASh.arr 27).cons ((ASh.idn 28 (Ty.int IntKind.i64).sl).cons ((ASh.dat (Ty.int IntKind.i64)).cons ((ASh.opq 30).cons ((ASh.opq 31).cons ((ASh.opq 32).cons ((ASh.opq 33).cons ((ASh.opq 34).cons ASh.nil))))))))))))))))))), (18, CSh.arr2 24 3 (Ty.int IntKind.i64) []), (19, CSh.arr2 24 3 (Ty.int IntKind.i64) [2496]), (2496, CSh.arr 3 (Ty.int IntKind.i64)), (20, CSh.arr 3 (Ty.int IntKind.i64)), (21, CSh.arr 3 (Ty.int IntKind.i64)), (22, CSh.arr 3 (Ty.int IntKind.i64)), (27, CSh.arr 3 (Ty.int IntKind.i64))], keep := [0, 2, 3, 4], keepH := [] }) else
  none
set_option maxRecDepth 100000 in
theorem unit_eq : ∀ (nn : Nat)  xa xo, (unit_s.prog (mkC Try.prog T_learn ⟨false, false⟩ (unit_L nn) unit_J) Try.f76 xa xo).run = unitF nn xo.1.1 xo.1.2.1 xo.1.2.2.1 xo.1.2.2.2.1 xo.1.2.2.2.2.1 xo.1.2.2.2.2.2.1 xo.1.2.2.2.2.2.2.1 xo.1.2.2.2.2.2.2.2.1 := by intros; kernel_rfl
noncomputable def T_unit : FuncId → Summ := addS T_learn 76 (unit_s.summ (fun xa xo => unit xo.1.1 xo.1.2.1 xo.1.2.2.1 xo.1.2.2.2.1 xo.1.2.2.2.2.1 xo.1.2.2.2.2.2.1 xo.1.2.2.2.2.2.2.1 xo.1.2.2.2.2.2.2.2.1))
theorem T_unit_ok : ∀ g, SummOK Try.prog g (T_unit g) := fn_ok T_learn_ok fol Try.func76 (by kernel_rfl) (by kernel_rfl) (by kernel_rfl) (unit_eq fuelN)

end GoSx
end
section
/- Walks: the functions compute what their models say: SatD. -/
set_option linter.unusedVariables false
set_option maxHeartbeats 0
set_option maxRecDepth 100000
namespace GoSx
open Go Go.Proofs
def take_s : FSig := ⟨.obj 0 <| .val int <| .nil, [(94, .skip <| .own2 24 3 int <| .own2 24 3 int <| .own 3 int <| .own 3 int <| .own 3 int <| .own 3 int <| .own 3 int <| .own 3 int <| .val int <| .own 3 int <| .own 3 int <| .val int <| .skip <| .own 24 (.sl int) <| .skip <| .skip <| .skip <| .nil)], .nil, []⟩
def take_L : Nat → Option LoopS := fun n =>
  none
def take_J : Nat → Option Shape := fun n =>
  none
set_option maxRecDepth 100000 in
theorem take_eq : ∀  xa xo, (take_s.prog (mkC Try.prog T_unit ⟨false, false⟩ take_L take_J) Try.f77 xa xo).run = take  xa.1 xo.1.1 xo.1.2.1 xo.1.2.2.1 xo.1.2.2.2.1 xo.1.2.2.2.2.1 xo.1.2.2.2.2.2.1 xo.1.2.2.2.2.2.2.1 xo.1.2.2.2.2.2.2.2.1 xo.1.2.2.2.2.2.2.2.2.1 xo.1.2.2.2.2.2.2.2.2.2.1 xo.1.2.2.2.2.2.2.2.2.2.2.1 xo.1.2.2.2.2.2.2.2.2.2.2.2.1 xo.1.2.2.2.2.2.2.2.2.2.2.2.2.1 := by intros; kernel_rfl
noncomputable def T_take : FuncId → Summ := addS T_unit 77 (take_s.summ (fun xa xo => take xa.1 xo.1.1 xo.1.2.1 xo.1.2.2.1 xo.1.2.2.2.1 xo.1.2.2.2.2.1 xo.1.2.2.2.2.2.1 xo.1.2.2.2.2.2.2.1 xo.1.2.2.2.2.2.2.2.1 xo.1.2.2.2.2.2.2.2.2.1 xo.1.2.2.2.2.2.2.2.2.2.1 xo.1.2.2.2.2.2.2.2.2.2.2.1 xo.1.2.2.2.2.2.2.2.2.2.2.2.1 xo.1.2.2.2.2.2.2.2.2.2.2.2.2.1))
theorem T_take_ok : ∀ g, SummOK Try.prog g (T_take g) := fn_ok T_unit_ok fol Try.func77 (by kernel_rfl) (by kernel_rfl) (by kernel_rfl) take_eq

def search_s : FSig := ⟨.obj 0 <| .val (.sl int) <| .val int <| .nil, [(94, .val int <| .own2 24 3 int <| .own2 24 3 int <| .own 3 int <| .own 3 int <| .own 3 int <| .own 3 int <| .own 3 int <| .own 3 int <| .val int <| .own 3 int <| .own 3 int <| .val int <| .val .bool <| .own 24 (.sl int) <| .skip <| .own 3 int <| .skip <| .nil)], .val int <| .nil, []⟩
def search_L (nn : Nat) : Nat → Option LoopS := fun n =>
  bif Nat.beq n 2 then some ⟨{ env := [(7, ASh.dat (Ty.int IntKind.i64))], heap := [(1, CSh.box 94 ((ASh.dat (Ty.int IntKind.i64)).cons ((ASh.arr 20).cons ((ASh.arr 21).cons ((ASh.arr 22).cons ((ASh.arr 23).cons ((ASh.arr 24).cons ((ASh.arr 25).cons ((ASh.arr 26).cons ((ASh.arr 27).cons ((ASh.dat (Ty.int IntKind.i64)).cons ((ASh.arr 29).cons ((ASh.arr 30).cons ((ASh.dat (Ty.int IntKind.i64)).cons ((ASh.dat Ty.bool).cons ((ASh.arr 33).cons ((ASh.opq 34).cons ((ASh.arr 35).cons ((ASh.opq 36).cons ASh.nil))))))))))))))))))), (20, CSh.arr2 24 3 (Ty.int IntKind.i64) []), (21, CSh.arr2 24 3 (Ty.int IntKind.i64) []), (22, CSh.arr 3 (Ty.int IntKind.i64)), (23, CSh.arr 3 (Ty.int IntKind.i64)), (24, CSh.arr 3 (Ty.int IntKind.i64)), (25, CSh.arr 3 (Ty.int IntKind.i64)), (26, CSh.arr 3 (Ty.int IntKind.i64)), (27, CSh.arr 3 (Ty.int IntKind.i64)), (29, CSh.arr 3 (Ty.int IntKind.i64)), (30, CSh.arr 3 (Ty.int IntKind.i64)), (33, CSh.arr 24 (Ty.int IntKind.i64).sl)], keep := [0, 1, 2, 6], keepH := [35] }, fun _ => nn⟩ else
  bif Nat.beq n 12 then some ⟨{ env := [], heap := [(1, CSh.box 94 ((ASh.dat (Ty.int IntKind.i64)).cons ((ASh.arr 274).cons ((ASh.arr 275).cons ((ASh.arr 276).cons ((ASh.arr 277).cons ((ASh.arr 278).cons ((ASh.arr 25).cons ((ASh.arr 26).cons ((ASh.arr 27).cons ((ASh.dat (Ty.int IntKind.i64)).cons ((ASh.arr 283).cons ((ASh.arr 30).cons ((ASh.dat (Ty.int IntKind.i64)).cons ((ASh.dat Ty.bool).cons ((ASh.arr 33).cons ((ASh.opq 34).cons ((ASh.arr 35).cons ((ASh.opq 36).cons ASh.nil))))))))))))))))))), (30, CSh.arr 3 (Ty.int IntKind.i64))], keep := [0, 1, 2, 6, 7, 8, 9], keepH := [274, 275, 276, 277, 278, 25, 26, 27, 283, 33, 35] }, fun _ => nn⟩ else
  none
def search_J : Nat → Option Shape := fun n =>
  none
set_option maxRecDepth 100000 in
theorem search_eq : ∀ (nn : Nat)  xa xo, (search_s.prog (mkC Try.prog T_take ⟨false, false⟩ (search_L nn) search_J) Try.f65 xa xo).run = searchF nn xa.1 xa.2.1 xo.1.1 xo.1.2.1 xo.1.2.2.1 xo.1.2.2.2.1 xo.1.2.2.2.2.1 xo.1.2.2.2.2.2.1 xo.1.2.2.2.2.2.2.1 xo.1.2.2.2.2.2.2.2.1 xo.1.2.2.2.2.2.2.2.2.1 xo.1.2.2.2.2.2.2.2.2.2.1 xo.1.2.2.2.2.2.2.2.2.2.2.1 xo.1.2.2.2.2.2.2.2.2.2.2.2.1 xo.1.2.2.2.2.2.2.2.2.2.2.2.2.1 xo.1.2.2.2.2.2.2.2.2.2.2.2.2.2.1 xo.1.2.2.2.2.2.2.2.2.2.2.2.2.2.2.1 xo.1.2.2.2.2.2.2.2.2.2.2.2.2.2.2.2.1 := by intros; kernel_rfl
noncomputable def T_search : FuncId → Summ := addS T_take 65 (search_s.summ (fun xa xo => search xa.1 xa.2.1 xo.1.1 xo.1.2.1 xo.1.2.2.1 xo.1.2.2.2.1 xo.1.2.2.2.2.1 xo.1.2.2.2.2.2.1 xo.1.2.2.2.2.2.2.1 xo.1.2.2.2.2.2.2.2.1 xo.1.2.2.2.2.2.2.2.2.1 xo.1.2.2.2.2.2.2.2.2.2.1 xo.1.2.2.2.2.2.2.2.2.2.2.1 xo.1.2.2.2.2.2.2.2.2.2.2.2.1 xo.1.2.2.2.2.2.2.2.2.2.2.2.2.1 xo.1.2.2.2.2.2.2.2.2.2.2.2.2.2.1 xo.1.2.2.2.2.2.2.2.2.2.2.2.2.2.2.1 xo.1.2.2.2.2.2.2.2.2.2.2.2.2.2.2.2.1))
theorem T_search_ok : ∀ g, SummOK Try.prog g (T_search g) := fn_ok T_take_ok fol Try.func65 (by kernel_rfl) (by kernel_rfl) (by kernel_rfl) (search_eq fuelN)

def Ask_s : FSig := ⟨.obj 0 <| .val (.sl int) <| .val int <| .nil, [(94, .val int <| .own2 24 3 int <| .own2 24 3 int <| .own 3 int <| .own 3 int <| .own 3 int <| .own 3 int <| .own 3 int <| .own 3 int <| .val int <| .own 3 int <| .own 3 int <| .val int <| .val .bool <| .own 24 (.sl int) <| .val int <| .own 3 int <| .own 4 .bool <| .nil)], .val int <| .nil, []⟩
def Ask_L (nn : Nat) : Nat → Option LoopS := fun n =>
  bif Nat.beq n 11 then some ⟨{ env := [(7, ASh.dat (Ty.int IntKind.i64))], heap := [(1, CSh.box 94 ((ASh.dat (Ty.int IntKind.i64)).cons ((ASh.arr 49).cons ((ASh.arr 50).cons ((ASh.arr 51).cons ((ASh.arr 52).cons ((ASh.arr 53).cons ((ASh.arr 54).cons ((ASh.arr 55).cons ((ASh.arr 56).cons ((ASh.dat (Ty.int IntKind.i64)).cons ((ASh.arr 57).cons ((ASh.arr 58).cons ((ASh.dat (Ty.int IntKind.i64)).cons ((ASh.dat Ty.bool).cons ((ASh.arr 59).cons ((ASh.dat (Ty.int IntKind.i64)).cons ((ASh.arr 60).cons ((ASh.arr 226).cons ASh.nil))))))))))))))))))), (226, CSh.arr 4 Ty.bool)], keep := [0, 1, 2, 6, 37], keepH := [49, 50, 51, 52, 53, 54, 55, 56, 57, 58, 59, 60] }, fun _ => nn⟩ else
  bif Nat.beq n 17 then some ⟨{ env := [(8, ASh.arr 61), (69, ASh.dat (Ty.int IntKind.i64))], heap := [(61, CSh.arr 3 (Ty.int IntKind.i64))], keep := [0, 1, 2, 6, 37, 67, 68], keepH := [1, 49, 50, 51, 52, 53, 54, 55, 56, 57, 58, 59, 60, 226] }, fun _ => nn⟩ else
  none
def Ask_J : Nat → Option Shape := fun n =>
  bif Nat.beq n 8 then some ({ env := [], heap := [(1, CSh.box 94 ((ASh.dat (Ty.int IntKind.i64)).cons ((ASh.arr 49).cons ((ASh.arr 50).cons ((ASh.arr 51).cons ((ASh.arr 52).cons ((ASh.arr 53).cons ((ASh.arr 54).cons ((ASh.arr 55).cons ((ASh.arr 56).cons ((ASh.dat (Ty.int IntKind.i64)).cons ((ASh.arr 57).cons ((ASh.arr 58).cons ((ASh.dat (Ty.int IntKind.i64)).cons ((ASh.dat Ty.bool).cons ((ASh.arr 59).cons ((ASh.dat (Ty.int IntKind.i64)).cons ((ASh.arr 60).cons ((ASh.arr 226).cons ASh.nil))))))))))))))))))), (49, CSh.arr2 24 3 (Ty.int IntKind.i64) []), (50, CSh.arr2 24 3 (Ty.int IntKind.i64) []), (51, CSh.arr 3 (Ty.int IntKind.i64)), (52, CSh.arr 3 (Ty.int IntKind.i64)), (53, CSh.arr 3 (Ty.int IntKind.i64)), (54, CSh.arr 3 (Ty.int IntKind.i64)), (55, CSh.arr 3 (Ty.int IntKind.i64)), (56, CSh.arr 3 (Ty.int IntKind.i64)), (57, CSh.arr 3 (Ty.int IntKind.i64)), (58, CSh.arr 3 (Ty.int IntKind.i64)), (59, CSh.arr 24 (Ty.int IntKind.i64).sl), (60, CSh.arr 3 (Ty.int IntKind.i64))], keep := [0, 1, 2, 6], keepH := [226] }) else
  none
set_option maxRecDepth 100000 in
theorem Ask_eq : ∀ (nn : Nat)  xa xo, (Ask_s.prog (mkC Try.prog T_search ⟨false, false⟩ (Ask_L nn) Ask_J) Try.f45 xa xo).run = AskF nn xa.1 xa.2.1 xo.1.1 xo.1.2.1 xo.1.2.2.1 xo.1.2.2.2.1 xo.1.2.2.2.2.1 xo.1.2.2.2.2.2.1 xo.1.2.2.2.2.2.2.1 xo.1.2.2.2.2.2.2.2.1 xo.1.2.2.2.2.2.2.2.2.1 xo.1.2.2.2.2.2.2.2.2.2.1 xo.1.2.2.2.2.2.2.2.2.2.2.1 xo.1.2.2.2.2.2.2.2.2.2.2.2.1 xo.1.2.2.2.2.2.2.2.2.2.2.2.2.1 xo.1.2.2.2.2.2.2.2.2.2.2.2.2.2.1 xo.1.2.2.2.2.2.2.2.2.2.2.2.2.2.2.1 xo.1.2.2.2.2.2.2.2.2.2.2.2.2.2.2.2.1 xo.1.2.2.2.2.2.2.2.2.2.2.2.2.2.2.2.2.1 xo.1.2.2.2.2.2.2.2.2.2.2.2.2.2.2.2.2.2.1 := by intros; kernel_rfl
noncomputable def T_Ask : FuncId → Summ := addS T_search 45 (Ask_s.summ (fun xa xo => Ask xa.1 xa.2.1 xo.1.1 xo.1.2.1 xo.1.2.2.1 xo.1.2.2.2.1 xo.1.2.2.2.2.1 xo.1.2.2.2.2.2.1 xo.1.2.2.2.2.2.2.1 xo.1.2.2.2.2.2.2.2.1 xo.1.2.2.2.2.2.2.2.2.1 xo.1.2.2.2.2.2.2.2.2.2.1 xo.1.2.2.2.2.2.2.2.2.2.2.1 xo.1.2.2.2.2.2.2.2.2.2.2.2.1 xo.1.2.2.2.2.2.2.2.2.2.2.2.2.1 xo.1.2.2.2.2.2.2.2.2.2.2.2.2.2.1 xo.1.2.2.2.2.2.2.2.2.2.2.2.2.2.2.1 xo.1.2.2.2.2.2.2.2.2.2.2.2.2.2.2.2.1 xo.1.2.2.2.2.2.2.2.2.2.2.2.2.2.2.2.2.1 xo.1.2.2.2.2.2.2.2.2.2.2.2.2.2.2.2.2.2.1))
theorem T_Ask_ok : ∀ g, SummOK Try.prog g (T_Ask g) := fn_ok T_search_ok fol Try.func45 (by kernel_rfl) (by kernel_rfl) (by kernel_rfl) (Ask_eq fuelN)

end GoSx
end
section
/- Walks: the functions compute what their models say: CubeA. -/
set_option linter.unusedVariables false
set_option maxHeartbeats 0
set_option maxRecDepth 100000
namespace GoSx
open Go Go.Proofs
def latch_s : FSig := ⟨.val int <| .nil, [], .val int <| .nil, []⟩
def latch_L : Nat → Option LoopS := fun n =>
  none
def latch_J : Nat → Option Shape := fun n =>
  none
set_option maxRecDepth 100000 in
theorem latch_eq : ∀  xa xo, (latch_s.prog (mkC Try.prog T_Ask ⟨true, false⟩ latch_L latch_J) Try.f24 xa xo).run = latch  xa.1 := by intros; kernel_rfl
noncomputable def T_latch : FuncId → Summ := addS T_Ask 24 (latch_s.summ (fun xa xo => latch xa.1))
theorem T_latch_ok : ∀ g, SummOK Try.prog g (T_latch g) := fn_ok T_Ask_ok fol Try.func24 (by kernel_rfl) (by kernel_rfl) (by kernel_rfl) latch_eq

def holdsC_s : FSig := ⟨.val int <| .obj 0 <| .nil, [(28, .lend (.sl .bool) <| .nil)], .val .bool <| .nil, []⟩
def holdsC_L : Nat → Option LoopS := fun n =>
  none
def holdsC_J : Nat → Option Shape := fun n =>
  none
set_option maxRecDepth 100000 in
theorem holdsC_eq : ∀  xa xo, (holdsC_s.prog (mkC Try.prog T_latch ⟨false, false⟩ holdsC_L holdsC_J) Try.f27 xa xo).run = holdsC  xa.1 xo.1.1 := by intros; kernel_rfl
noncomputable def T_holdsC : FuncId → Summ := addS T_latch 27 (holdsC_s.summ (fun xa xo => holdsC xa.1 xo.1.1))
theorem T_holdsC_ok : ∀ g, SummOK Try.prog g (T_holdsC g) := fn_ok T_latch_ok fol Try.func27 (by kernel_rfl) (by kernel_rfl) (by kernel_rfl) holdsC_eq

def IndexFunc_holds_s : FSig := ⟨.lend (.sl int) <| .clo 27 (.obj 0 <| .nil) <| .nil, [(28, .lend (.sl .bool) <| .nil)], .val int <| .nil, []⟩
def IndexFunc_holds_L (nn : Nat) : Nat → Option LoopS := fun n =>
  bif Nat.beq n 2 then some ⟨{ env := [(8, ASh.dat (Ty.int IntKind.i64))], heap := [(1, CSh.box 28 ((ASh.idn 18 Ty.bool.sl).cons ASh.nil))], keep := [0, 1, 4, 7], keepH := [] }, fun _ => nn⟩ else
  none
def IndexFunc_holds_J : Nat → Option Shape := fun n =>
  none
set_option maxRecDepth 100000 in
theorem IndexFunc_holds_eq : ∀ (nn : Nat)  xa xo, (IndexFunc_holds_s.prog (mkC Try.prog T_holdsC ⟨false, false⟩ (IndexFunc_holds_L nn) IndexFunc_holds_J) Try.f37 xa xo).run = IndexFunc_holdsF nn xa.1 xo.1.1 := by intros; kernel_rfl
noncomputable def T_IndexFunc_holds : FuncId → Summ := addS T_holdsC 37 (IndexFunc_holds_s.summ (fun xa xo => IndexFunc_holds xa.1 xo.1.1))
theorem T_IndexFunc_holds_ok : ∀ g, SummOK Try.prog g (T_IndexFunc_holds g) := fn_ok T_holdsC_ok fol Try.func37 (by kernel_rfl) (by kernel_rfl) (by kernel_rfl) (IndexFunc_holds_eq fuelN)

def ContainsFunc_holds_s : FSig := ⟨.lend (.sl int) <| .clo 27 (.obj 0 <| .nil) <| .nil, [(28, .lend (.sl .bool) <| .nil)], .val .bool <| .nil, []⟩
def ContainsFunc_holds_L : Nat → Option LoopS := fun n =>
  none
def ContainsFunc_holds_J : Nat → Option Shape := fun n =>
  none
set_option maxRecDepth 100000 in
theorem ContainsFunc_holds_eq : ∀  xa xo, (ContainsFunc_holds_s.prog (mkC Try.prog T_IndexFunc_holds ⟨false, false⟩ ContainsFunc_holds_L ContainsFunc_holds_J) Try.f26 xa xo).run = ContainsFunc_holds  xa.1 xo.1.1 := by intros; kernel_rfl
noncomputable def T_ContainsFunc_holds : FuncId → Summ := addS T_IndexFunc_holds 26 (ContainsFunc_holds_s.summ (fun xa xo => ContainsFunc_holds xa.1 xo.1.1))
theorem T_ContainsFunc_holds_ok : ∀ g, SummOK Try.prog g (T_ContainsFunc_holds g) := fn_ok T_IndexFunc_holds_ok fol Try.func26 (by kernel_rfl) (by kernel_rfl) (by kernel_rfl) ContainsFunc_holds_eq

def cHolds_s : FSig := ⟨.lend (.sl int) <| .lend (.sl .bool) <| .nil, [], .val .bool <| .nil, []⟩
def cHolds_L : Nat → Option LoopS := fun n =>
  none
def cHolds_J : Nat → Option Shape := fun n =>
  none
set_option maxRecDepth 100000 in
theorem cHolds_eq : ∀  xa xo, (cHolds_s.prog (mkC Try.prog T_ContainsFunc_holds ⟨false, false⟩ cHolds_L cHolds_J) Try.f10 xa xo).run = cHolds  xa.1 xa.2.1 := by intros; kernel_rfl
noncomputable def T_cHolds : FuncId → Summ := addS T_ContainsFunc_holds 10 (cHolds_s.summ (fun xa xo => cHolds xa.1 xa.2.1))
theorem T_cHolds_ok : ∀ g, SummOK Try.prog g (T_cHolds g) := fn_ok T_ContainsFunc_holds_ok fol Try.func10 (by kernel_rfl) (by kernel_rfl) (by kernel_rfl) cHolds_eq

def coversC_s : FSig := ⟨.val int <| .obj 0 <| .nil, [(24, .lend (.sl int) <| .nil)], .val .bool <| .nil, []⟩
def coversC_L : Nat → Option LoopS := fun n =>
  none
def coversC_J : Nat → Option Shape := fun n =>
  none
set_option maxRecDepth 100000 in
theorem coversC_eq : ∀  xa xo, (coversC_s.prog (mkC Try.prog T_cHolds ⟨false, false⟩ coversC_L coversC_J) Try.f28 xa xo).run = coversC  xa.1 xo.1.1 := by intros; kernel_rfl
noncomputable def T_coversC : FuncId → Summ := addS T_cHolds 28 (coversC_s.summ (fun xa xo => coversC xa.1 xo.1.1))
theorem T_coversC_ok : ∀ g, SummOK Try.prog g (T_coversC g) := fn_ok T_cHolds_ok fol Try.func28 (by kernel_rfl) (by kernel_rfl) (by kernel_rfl) coversC_eq

def IndexFunc_covers_s : FSig := ⟨.lend (.sl int) <| .clo 28 (.obj 0 <| .nil) <| .nil, [(24, .lend (.sl int) <| .nil)], .val int <| .nil, []⟩
def IndexFunc_covers_L (nn : Nat) : Nat → Option LoopS := fun n =>
  bif Nat.beq n 2 then some ⟨{ env := [(8, ASh.dat (Ty.int IntKind.i64))], heap := [(1, CSh.box 24 ((ASh.idn 18 (Ty.int IntKind.i64).sl).cons ASh.nil))], keep := [0, 1, 4, 7], keepH := [] }, fun _ => nn⟩ else
  none
def IndexFunc_covers_J : Nat → Option Shape := fun n =>
  none
set_option maxRecDepth 100000 in
theorem IndexFunc_covers_eq : ∀ (nn : Nat)  xa xo, (IndexFunc_covers_s.prog (mkC Try.prog T_coversC ⟨false, false⟩ (IndexFunc_covers_L nn) IndexFunc_covers_J) Try.f37 xa xo).run = IndexFunc_coversF nn xa.1 xo.1.1 := by intros; kernel_rfl
noncomputable def T_IndexFunc_covers : FuncId → Summ := addS T_coversC 37 (IndexFunc_covers_s.summ (fun xa xo => IndexFunc_covers xa.1 xo.1.1))
theorem T_IndexFunc_covers_ok : ∀ g, SummOK Try.prog g (T_IndexFunc_covers g) := fn_ok T_coversC_ok fol Try.func37 (by kernel_rfl) (by kernel_rfl) (by kernel_rfl) (IndexFunc_covers_eq fuelN)

def ContainsFunc_covers_s : FSig := ⟨.lend (.sl int) <| .clo 28 (.obj 0 <| .nil) <| .nil, [(24, .lend (.sl int) <| .nil)], .val .bool <| .nil, []⟩
def ContainsFunc_covers_L : Nat → Option LoopS := fun n =>
  none
def ContainsFunc_covers_J : Nat → Option Shape := fun n =>
  none
set_option maxRecDepth 100000 in
theorem ContainsFunc_covers_eq : ∀  xa xo, (ContainsFunc_covers_s.prog (mkC Try.prog T_IndexFunc_covers ⟨false, false⟩ ContainsFunc_covers_L ContainsFunc_covers_J) Try.f26 xa xo).run = ContainsFunc_covers  xa.1 xo.1.1 := by intros; kernel_rfl
noncomputable def T_ContainsFunc_covers : FuncId → Summ := addS T_IndexFunc_covers 26 (ContainsFunc_covers_s.summ (fun xa xo => ContainsFunc_covers xa.1 xo.1.1))
theorem T_ContainsFunc_covers_ok : ∀ g, SummOK Try.prog g (T_ContainsFunc_covers g) := fn_ok T_IndexFunc_covers_ok fol Try.func26 (by kernel_rfl) (by kernel_rfl) (by kernel_rfl) ContainsFunc_covers_eq

def cCovers_s : FSig := ⟨.lend (.sl int) <| .lend (.sl int) <| .nil, [], .val .bool <| .nil, []⟩
def cCovers_L : Nat → Option LoopS := fun n =>
  none
def cCovers_J : Nat → Option Shape := fun n =>
  none
set_option maxRecDepth 100000 in
theorem cCovers_eq : ∀  xa xo, (cCovers_s.prog (mkC Try.prog T_ContainsFunc_covers ⟨false, false⟩ cCovers_L cCovers_J) Try.f11 xa xo).run = cCovers  xa.1 xa.2.1 := by intros; kernel_rfl
noncomputable def T_cCovers : FuncId → Summ := addS T_ContainsFunc_covers 11 (cCovers_s.summ (fun xa xo => cCovers xa.1 xa.2.1))
theorem T_cCovers_ok : ∀ g, SummOK Try.prog g (T_cCovers g) := fn_ok T_ContainsFunc_covers_ok fol Try.func11 (by kernel_rfl) (by kernel_rfl) (by kernel_rfl) cCovers_eq

def cClause_s : FSig := ⟨.lend (.sl int) <| .nil, [], .own 3 int <| .nil, []⟩
def cClause_L (nn : Nat) : Nat → Option LoopS := fun n =>
  bif Nat.beq n 3 then some ⟨{ env := [(3, ASh.arr 49), (8, ASh.dat (Ty.int IntKind.i64))], heap := [(49, CSh.arr 3 (Ty.int IntKind.i64))], keep := [0, 2, 6, 7], keepH := [] }, fun _ => nn⟩ else
  none
def cClause_J : Nat → Option Shape := fun n =>
  none
set_option maxRecDepth 100000 in
theorem cClause_eq : ∀ (nn : Nat)  xa xo, (cClause_s.prog (mkC Try.prog T_cCovers ⟨true, false⟩ (cClause_L nn) cClause_J) Try.f12 xa xo).run = cClauseF nn xa.1 := by intros; kernel_rfl
noncomputable def T_cClause : FuncId → Summ := addS T_cCovers 12 (cClause_s.summ (fun xa xo => cClause xa.1))
theorem T_cClause_ok : ∀ g, SummOK Try.prog g (T_cClause g) := fn_ok T_cCovers_ok fol Try.func12 (by kernel_rfl) (by kernel_rfl) (by kernel_rfl) (cClause_eq fuelN)

def cOf_s : FSig := ⟨.lend (.sl .bool) <| .nil, [], .own 3 int <| .nil, []⟩
def cOf_L (nn : Nat) : Nat → Option LoopS := fun n =>
  bif Nat.beq n 3 then some ⟨{ env := [(3, ASh.arr 49), (8, ASh.dat (Ty.int IntKind.i64))], heap := [(49, CSh.arr 3 (Ty.int IntKind.i64))], keep := [0, 2, 6, 7], keepH := [] }, fun _ => nn⟩ else
  none
def cOf_J : Nat → Option Shape := fun n =>
  none
set_option maxRecDepth 100000 in
theorem cOf_eq : ∀ (nn : Nat)  xa xo, (cOf_s.prog (mkC Try.prog T_cClause ⟨false, false⟩ (cOf_L nn) cOf_J) Try.f13 xa xo).run = cOfF nn xa.1 := by intros; kernel_rfl
noncomputable def T_cOf : FuncId → Summ := addS T_cClause 13 (cOf_s.summ (fun xa xo => cOf xa.1))
theorem T_cOf_ok : ∀ g, SummOK Try.prog g (T_cOf g) := fn_ok T_cClause_ok fol Try.func13 (by kernel_rfl) (by kernel_rfl) (by kernel_rfl) (cOf_eq fuelN)

def narrow_s : FSig := ⟨.lend (.sl (.int .i8)) <| .nil, [], .own 3 int <| .nil, []⟩
def narrow_L (nn : Nat) : Nat → Option LoopS := fun n =>
  bif Nat.beq n 3 then some ⟨{ env := [(3, ASh.arr 49), (4, ASh.dat (Ty.int IntKind.i64))], heap := [(49, CSh.arr 3 (Ty.int IntKind.i64))], keep := [0, 2], keepH := [] }, fun _ => nn⟩ else
  none
def narrow_J : Nat → Option Shape := fun n =>
  none
set_option maxRecDepth 100000 in
theorem narrow_eq : ∀ (nn : Nat)  xa xo, (narrow_s.prog (mkC Try.prog T_cOf ⟨false, false⟩ (narrow_L nn) narrow_J) Try.f8 xa xo).run = narrowF nn xa.1 := by intros; kernel_rfl
noncomputable def T_narrow : FuncId → Summ := addS T_cOf 8 (narrow_s.summ (fun xa xo => narrow xa.1))
theorem T_narrow_ok : ∀ g, SummOK Try.prog g (T_narrow g) := fn_ok T_cOf_ok fol Try.func8 (by kernel_rfl) (by kernel_rfl) (by kernel_rfl) (narrow_eq fuelN)

def bits24_s : FSig := ⟨.lend (.sl .bool) <| .val int <| .nil, [], .own 4 .bool <| .nil, []⟩
def bits24_L (nn : Nat) : Nat → Option LoopS := fun n =>
  bif Nat.beq n 3 then some ⟨{ env := [(5, ASh.arr 49), (6, ASh.dat (Ty.int IntKind.i64))], heap := [(49, CSh.arr 4 Ty.bool)], keep := [0, 1, 4], keepH := [] }, fun _ => nn⟩ else
  none
def bits24_J : Nat → Option Shape := fun n =>
  none
set_option maxRecDepth 100000 in
theorem bits24_eq : ∀ (nn : Nat)  xa xo, (bits24_s.prog (mkC Try.prog T_narrow ⟨false, false⟩ (bits24_L nn) bits24_J) Try.f15 xa xo).run = bits24F nn xa.1 xa.2.1 := by intros; kernel_rfl
noncomputable def T_bits24 : FuncId → Summ := addS T_narrow 15 (bits24_s.summ (fun xa xo => bits24 xa.1 xa.2.1))
theorem T_bits24_ok : ∀ g, SummOK Try.prog g (T_bits24 g) := fn_ok T_narrow_ok fol Try.func15 (by kernel_rfl) (by kernel_rfl) (by kernel_rfl) (bits24_eq fuelN)

def Bits16_s : FSig := ⟨.val int <| .val int <| .nil, [], .own 4 .bool <| .nil, []⟩
def Bits16_L (nn : Nat) : Nat → Option LoopS := fun n =>
  bif Nat.beq n 3 then some ⟨{ env := [(5, ASh.arr 49), (6, ASh.dat (Ty.int IntKind.i64))], heap := [(49, CSh.arr 4 Ty.bool)], keep := [0, 1, 4], keepH := [] }, fun _ => nn⟩ else
  none
def Bits16_J : Nat → Option Shape := fun n =>
  none
set_option maxRecDepth 100000 in
theorem Bits16_eq : ∀ (nn : Nat)  xa xo, (Bits16_s.prog (mkC Try.prog T_bits24 ⟨false, false⟩ (Bits16_L nn) Bits16_J) Try.f9 xa xo).run = Bits16F nn xa.1 xa.2.1 := by intros; kernel_rfl
noncomputable def T_Bits16 : FuncId → Summ := addS T_bits24 9 (Bits16_s.summ (fun xa xo => Bits16 xa.1 xa.2.1))
theorem T_Bits16_ok : ∀ g, SummOK Try.prog g (T_Bits16 g) := fn_ok T_bits24_ok fol Try.func9 (by kernel_rfl) (by kernel_rfl) (by kernel_rfl) (Bits16_eq fuelN)

def sameInts_s : FSig := ⟨.lend (.sl int) <| .lend (.sl int) <| .nil, [], .val .bool <| .nil, []⟩
def sameInts_L (nn : Nat) : Nat → Option LoopS := fun n =>
  bif Nat.beq n 4 then some ⟨{ env := [(5, ASh.dat (Ty.int IntKind.i64))], heap := [], keep := [0, 1, 4], keepH := [] }, fun _ => nn⟩ else
  none
def sameInts_J : Nat → Option Shape := fun n =>
  none
set_option maxRecDepth 100000 in
theorem sameInts_eq : ∀ (nn : Nat)  xa xo, (sameInts_s.prog (mkC Try.prog T_Bits16 ⟨false, false⟩ (sameInts_L nn) sameInts_J) Try.f14 xa xo).run = sameIntsF nn xa.1 xa.2.1 := by intros; kernel_rfl
noncomputable def T_sameInts : FuncId → Summ := addS T_Bits16 14 (sameInts_s.summ (fun xa xo => sameInts xa.1 xa.2.1))
theorem T_sameInts_ok : ∀ g, SummOK Try.prog g (T_sameInts g) := fn_ok T_Bits16_ok fol Try.func14 (by kernel_rfl) (by kernel_rfl) (by kernel_rfl) (sameInts_eq fuelN)

def cmpIsNaN_s : FSig := ⟨.val int <| .nil, [], .val .bool <| .nil, []⟩
def cmpIsNaN_L : Nat → Option LoopS := fun n =>
  none
def cmpIsNaN_J : Nat → Option Shape := fun n =>
  none
set_option maxRecDepth 100000 in
theorem cmpIsNaN_eq : ∀  xa xo, (cmpIsNaN_s.prog (mkC Try.prog T_sameInts ⟨false, false⟩ cmpIsNaN_L cmpIsNaN_J) Try.f36 xa xo).run = cmpIsNaN  xa.1 := by intros; kernel_rfl
noncomputable def T_cmpIsNaN : FuncId → Summ := addS T_sameInts 36 (cmpIsNaN_s.summ (fun xa xo => cmpIsNaN xa.1))
theorem T_cmpIsNaN_ok : ∀ g, SummOK Try.prog g (T_cmpIsNaN g) := fn_ok T_sameInts_ok fol Try.func36 (by kernel_rfl) (by kernel_rfl) (by kernel_rfl) cmpIsNaN_eq

def cmpCompare_s : FSig := ⟨.val int <| .val int <| .nil, [], .val int <| .nil, []⟩
def cmpCompare_L : Nat → Option LoopS := fun n =>
  none
def cmpCompare_J : Nat → Option Shape := fun n =>
  none
set_option maxRecDepth 100000 in
theorem cmpCompare_eq : ∀  xa xo, (cmpCompare_s.prog (mkC Try.prog T_cmpIsNaN ⟨false, false⟩ cmpCompare_L cmpCompare_J) Try.f23 xa xo).run = cmpCompare  xa.1 xa.2.1 := by intros; kernel_rfl
noncomputable def T_cmpCompare : FuncId → Summ := addS T_cmpIsNaN 23 (cmpCompare_s.summ (fun xa xo => cmpCompare xa.1 xa.2.1))
theorem T_cmpCompare_ok : ∀ g, SummOK Try.prog g (T_cmpCompare g) := fn_ok T_cmpIsNaN_ok fol Try.func23 (by kernel_rfl) (by kernel_rfl) (by kernel_rfl) cmpCompare_eq

def cmpOr_s : FSig := ⟨.lend (.sl int) <| .nil, [], .val int <| .nil, []⟩
def cmpOr_L (nn : Nat) : Nat → Option LoopS := fun n =>
  bif Nat.beq n 3 then some ⟨{ env := [(8, ASh.dat (Ty.int IntKind.i64))], heap := [], keep := [0, 2, 3, 6, 7], keepH := [] }, fun _ => nn⟩ else
  none
def cmpOr_J : Nat → Option Shape := fun n =>
  none
set_option maxRecDepth 100000 in
theorem cmpOr_eq : ∀ (nn : Nat)  xa xo, (cmpOr_s.prog (mkC Try.prog T_cmpCompare ⟨false, false⟩ (cmpOr_L nn) cmpOr_J) Try.f22 xa xo).run = cmpOrF nn xa.1 := by intros; kernel_rfl
noncomputable def T_cmpOr : FuncId → Summ := addS T_cmpCompare 22 (cmpOr_s.summ (fun xa xo => cmpOr xa.1))
theorem T_cmpOr_ok : ∀ g, SummOK Try.prog g (T_cmpOr g) := fn_ok T_cmpCompare_ok fol Try.func22 (by kernel_rfl) (by kernel_rfl) (by kernel_rfl) (cmpOr_eq fuelN)

def normC_s : FSig := ⟨.val int <| .val int <| .nil, [], .val int <| .nil, []⟩
def normC_L : Nat → Option LoopS := fun n =>
  none
def normC_J : Nat → Option Shape := fun n =>
  none
set_option maxRecDepth 100000 in
theorem normC_eq : ∀  xa xo, (normC_s.prog (mkC Try.prog T_cmpOr ⟨true, false⟩ normC_L normC_J) Try.f21 xa xo).run = normC  xa.1 xa.2.1 := by intros; kernel_rfl
noncomputable def T_normC : FuncId → Summ := addS T_cmpOr 21 (normC_s.summ (fun xa xo => normC xa.1 xa.2.1))
theorem T_normC_ok : ∀ g, SummOK Try.prog g (T_normC g) := fn_ok T_cmpOr_ok fol Try.func21 (by kernel_rfl) (by kernel_rfl) (by kernel_rfl) normC_eq

def litOf_s : FSig := ⟨.val int <| .val int <| .nil, [], .val int <| .nil, []⟩
def litOf_L : Nat → Option LoopS := fun n =>
  none
def litOf_J : Nat → Option Shape := fun n =>
  none
set_option maxRecDepth 100000 in
theorem litOf_eq : ∀  xa xo, (litOf_s.prog (mkC Try.prog T_normC ⟨false, false⟩ litOf_L litOf_J) Try.f72 xa xo).run = litOf  xa.1 xa.2.1 := by intros; kernel_rfl
noncomputable def T_litOf : FuncId → Summ := addS T_normC 72 (litOf_s.summ (fun xa xo => litOf xa.1 xa.2.1))
theorem T_litOf_ok : ∀ g, SummOK Try.prog g (T_litOf g) := fn_ok T_normC_ok fol Try.func72 (by kernel_rfl) (by kernel_rfl) (by kernel_rfl) litOf_eq

def cnfOf_s : FSig := ⟨.val int <| .val int <| .nil, [], .val int <| .nil, []⟩
def cnfOf_L : Nat → Option LoopS := fun n =>
  none
def cnfOf_J : Nat → Option Shape := fun n =>
  none
set_option maxRecDepth 100000 in
theorem cnfOf_eq : ∀  xa xo, (cnfOf_s.prog (mkC Try.prog T_litOf ⟨false, false⟩ cnfOf_L cnfOf_J) Try.f58 xa xo).run = cnfOf  xa.1 xa.2.1 := by intros; kernel_rfl
noncomputable def T_cnfOf : FuncId → Summ := addS T_litOf 58 (cnfOf_s.summ (fun xa xo => cnfOf xa.1 xa.2.1))
theorem T_cnfOf_ok : ∀ g, SummOK Try.prog g (T_cnfOf g) := fn_ok T_litOf_ok fol Try.func58 (by kernel_rfl) (by kernel_rfl) (by kernel_rfl) cnfOf_eq

def lit_s : FSig := ⟨.val int <| .nil, [], .val int <| .nil, []⟩
def lit_L : Nat → Option LoopS := fun n =>
  none
def lit_J : Nat → Option Shape := fun n =>
  none
set_option maxRecDepth 100000 in
theorem lit_eq : ∀  xa xo, (lit_s.prog (mkC Try.prog T_cnfOf ⟨false, false⟩ lit_L lit_J) Try.f44 xa xo).run = lit  xa.1 := by intros; kernel_rfl
noncomputable def T_lit : FuncId → Summ := addS T_cnfOf 44 (lit_s.summ (fun xa xo => lit xa.1))
theorem T_lit_ok : ∀ g, SummOK Try.prog g (T_lit g) := fn_ok T_cnfOf_ok fol Try.func44 (by kernel_rfl) (by kernel_rfl) (by kernel_rfl) lit_eq

def cnfVars_s : FSig := ⟨.agg (.val int <| .lend (.sl pair2) <| .nil) <| .nil, [], .val int <| .nil, []⟩
def cnfVars_L : Nat → Option LoopS := fun n =>
  none
def cnfVars_J : Nat → Option Shape := fun n =>
  none
set_option maxRecDepth 100000 in
theorem cnfVars_eq : ∀  xa xo, (cnfVars_s.prog (mkC Try.prog T_lit ⟨false, false⟩ cnfVars_L cnfVars_J) Try.f40 xa xo).run = cnfVars  xa.1.1 xa.1.2.1 := by intros; kernel_rfl
noncomputable def T_cnfVars : FuncId → Summ := addS T_lit 40 (cnfVars_s.summ (fun xa xo => cnfVars xa.1.1 xa.1.2.1))
theorem T_cnfVars_ok : ∀ g, SummOK Try.prog g (T_cnfVars g) := fn_ok T_lit_ok fol Try.func40 (by kernel_rfl) (by kernel_rfl) (by kernel_rfl) cnfVars_eq

def circFirst_s : FSig := ⟨.agg (.val int <| .lend (.sl pair2) <| .lend (.sl pair3) <| .lend (.sl latchT) <| .lend (.sl outT) <| .nil) <| .nil, [], .own 4 .bool <| .nil, []⟩
def circFirst_L (nn : Nat) : Nat → Option LoopS := fun n =>
  bif Nat.beq n 3 then some ⟨{ env := [(13, ASh.dat (Ty.int IntKind.i64))], heap := [(384, CSh.arr 4 Ty.bool)], keep := [0, 1, 2, 3, 11, 12], keepH := [64] }, fun _ => nn⟩ else
  none
def circFirst_J : Nat → Option Shape := fun n =>
  none
set_option maxRecDepth 100000 in
theorem circFirst_eq : ∀ (nn : Nat)  xa xo, (circFirst_s.prog (mkC Try.prog T_cnfVars ⟨false, false⟩ (circFirst_L nn) circFirst_J) Try.f33 xa xo).run = circFirstF nn xa.1.1 xa.1.2.1 xa.1.2.2.1 xa.1.2.2.2.1 xa.1.2.2.2.2.1 := by intros; kernel_rfl
noncomputable def T_circFirst : FuncId → Summ := addS T_cnfVars 33 (circFirst_s.summ (fun xa xo => circFirst xa.1.1 xa.1.2.1 xa.1.2.2.1 xa.1.2.2.2.1 xa.1.2.2.2.2.1))
theorem T_circFirst_ok : ∀ g, SummOK Try.prog g (T_circFirst g) := fn_ok T_cnfVars_ok fol Try.func33 (by kernel_rfl) (by kernel_rfl) (by kernel_rfl) (circFirst_eq fuelN)

def cFirst_s : FSig := ⟨.agg (.val int <| .lend (.sl pair2) <| .lend (.sl pair3) <| .lend (.sl latchT) <| .lend (.sl outT) <| .nil) <| .lend (.sl int) <| .nil, [], .val .bool <| .nil, []⟩
def cFirst_L : Nat → Option LoopS := fun n =>
  none
def cFirst_J : Nat → Option Shape := fun n =>
  none
set_option maxRecDepth 100000 in
theorem cFirst_eq : ∀  xa xo, (cFirst_s.prog (mkC Try.prog T_circFirst ⟨false, false⟩ cFirst_L cFirst_J) Try.f18 xa xo).run = cFirst  xa.1.1 xa.1.2.1 xa.1.2.2.1 xa.1.2.2.2.1 xa.1.2.2.2.2.1 xa.2.1 := by intros; kernel_rfl
noncomputable def T_cFirst : FuncId → Summ := addS T_circFirst 18 (cFirst_s.summ (fun xa xo => cFirst xa.1.1 xa.1.2.1 xa.1.2.2.1 xa.1.2.2.2.1 xa.1.2.2.2.2.1 xa.2.1))
theorem T_cFirst_ok : ∀ g, SummOK Try.prog g (T_cFirst g) := fn_ok T_circFirst_ok fol Try.func18 (by kernel_rfl) (by kernel_rfl) (by kernel_rfl) cFirst_eq

def clausesAdd_s : FSig := ⟨.obj 0 <| .val (.sl int) <| .nil, [(96, .own 24 (.sl int) <| .nil)], .nil, []⟩
def clausesAdd_L : Nat → Option LoopS := fun n =>
  none
def clausesAdd_J : Nat → Option Shape := fun n =>
  none
set_option maxRecDepth 100000 in
theorem clausesAdd_eq : ∀  xa xo, (clausesAdd_s.prog (mkC Try.prog T_cFirst ⟨false, false⟩ clausesAdd_L clausesAdd_J) Try.f57 xa xo).run = clausesAdd  xa.1 xo.1.1 := by intros; kernel_rfl
noncomputable def T_clausesAdd : FuncId → Summ := addS T_cFirst 57 (clausesAdd_s.summ (fun xa xo => clausesAdd xa.1 xo.1.1))
theorem T_clausesAdd_ok : ∀ g, SummOK Try.prog g (T_clausesAdd g) := fn_ok T_cFirst_ok fol Try.func57 (by kernel_rfl) (by kernel_rfl) (by kernel_rfl) clausesAdd_eq

def cnfClauses_s : FSig := ⟨.agg (.val int <| .lend (.sl pair2) <| .nil) <| .val int <| .nil, [], .own 24 (.sl int) <| .nil, []⟩
def cnfClauses_L (nn : Nat) : Nat → Option LoopS := fun n =>
  bif Nat.beq n 5 then some ⟨{ env := [(22, ASh.dat (Ty.int IntKind.i64))], heap := [(192, CSh.box 96 ((ASh.arr 722).cons ASh.nil)), (722, CSh.arr 24 (Ty.int IntKind.i64).sl)], keep := [0, 1, 2, 4, 5, 6, 20, 21], keepH := [64] }, fun _ => nn⟩ else
  none
def cnfClauses_J : Nat → Option Shape := fun n =>
  none
set_option maxRecDepth 100000 in
theorem cnfClauses_eq : ∀ (nn : Nat)  xa xo, (cnfClauses_s.prog (mkC Try.prog T_clausesAdd ⟨false, false⟩ (cnfClauses_L nn) cnfClauses_J) Try.f41 xa xo).run = cnfClausesF nn xa.1.1 xa.1.2.1 xa.2.1 := by intros; kernel_rfl
noncomputable def T_cnfClauses : FuncId → Summ := addS T_clausesAdd 41 (cnfClauses_s.summ (fun xa xo => cnfClauses xa.1.1 xa.1.2.1 xa.2.1))
theorem T_cnfClauses_ok : ∀ g, SummOK Try.prog g (T_cnfClauses g) := fn_ok T_clausesAdd_ok fol Try.func41 (by kernel_rfl) (by kernel_rfl) (by kernel_rfl) (cnfClauses_eq fuelN)

def wanted_s : FSig := ⟨.agg (.val int <| .lend (.sl pair2) <| .lend (.sl pair3) <| .lend (.sl latchT) <| .lend (.sl outT) <| .nil) <| .lend (.sl int) <| .val int <| .nil, [], .own 3 int <| .nil, []⟩
def wanted_L (nn : Nat) : Nat → Option LoopS := fun n =>
  bif Nat.beq n 3 then some ⟨{ env := [(7, ASh.arr 49), (17, ASh.dat (Ty.int IntKind.i64))], heap := [(49, CSh.arr 3 (Ty.int IntKind.i64))], keep := [0, 1, 2, 3, 6, 15, 16], keepH := [64] }, fun _ => nn⟩ else
  bif Nat.beq n 9 then some ⟨{ env := [(7, ASh.arr 49), (33, ASh.dat (Ty.int IntKind.i64))], heap := [(49, CSh.arr 3 (Ty.int IntKind.i64)), (49, CSh.arr 3 (Ty.int IntKind.i64))], keep := [0, 1, 2, 3, 6, 15, 16, 17, 31, 32], keepH := [64] }, fun _ => nn⟩ else
  none
def wanted_J : Nat → Option Shape := fun n =>
  none
set_option maxRecDepth 100000 in
theorem wanted_eq : ∀ (nn : Nat)  xa xo, (wanted_s.prog (mkC Try.prog T_cnfClauses ⟨false, false⟩ (wanted_L nn) wanted_J) Try.f43 xa xo).run = wantedF nn xa.1.1 xa.1.2.1 xa.1.2.2.1 xa.1.2.2.2.1 xa.1.2.2.2.2.1 xa.2.1 xa.2.2.1 := by intros; kernel_rfl
noncomputable def T_wanted : FuncId → Summ := addS T_cnfClauses 43 (wanted_s.summ (fun xa xo => wanted xa.1.1 xa.1.2.1 xa.1.2.2.1 xa.1.2.2.2.1 xa.1.2.2.2.2.1 xa.2.1 xa.2.2.1))
theorem T_wanted_ok : ∀ g, SummOK Try.prog g (T_wanted g) := fn_ok T_cnfClauses_ok fol Try.func43 (by kernel_rfl) (by kernel_rfl) (by kernel_rfl) (wanted_eq fuelN)

def Some16_s : FSig := ⟨.nil, [], .agg (.val int <| .val (.sl pair2) <| .val (.sl pair3) <| .val (.sl latchT) <| .val (.sl outT) <| .nil) <| .nil, []⟩
def Some16_L : Nat → Option LoopS := fun n =>
  none
def Some16_J : Nat → Option Shape := fun n =>
  none
set_option maxRecDepth 100000 in
theorem Some16_eq : ∀  xa xo, (Some16_s.prog (mkC Try.prog T_wanted ⟨false, false⟩ Some16_L Some16_J) Try.f17 xa xo).run = Some16   := by intros; kernel_rfl
noncomputable def T_Some16 : FuncId → Summ := addS T_wanted 17 (Some16_s.summ (fun xa xo => Some16 ))
theorem T_Some16_ok : ∀ g, SummOK Try.prog g (T_Some16 g) := fn_ok T_wanted_ok fol Try.func17 (by kernel_rfl) (by kernel_rfl) (by kernel_rfl) Some16_eq

end GoSx
end
section
/- Walks: the functions compute what their models say: CubeB. -/
set_option linter.unusedVariables false
set_option maxHeartbeats 0
set_option maxRecDepth 100000
namespace GoSx
open Go Go.Proofs
def askerOf_s : FSig := ⟨.agg (.val int <| .val (.sl pair2) <| .val (.sl pair3) <| .val (.sl latchT) <| .val (.sl outT) <| .nil) <| .lend (.sl .bool) <| .lend (.sl int) <| .val int <| .nil, [], .agg (.obj 0 <| .val int <| .val (.sl pair2) <| .val (.sl pair3) <| .val (.sl latchT) <| .val (.sl outT) <| .own 3 int <| .nil) <| .nil, [(94, .val int <| .own2 24 3 int <| .own2 24 3 int <| .own 3 int <| .own 3 int <| .own 3 int <| .own 3 int <| .own 3 int <| .own 3 int <| .val int <| .own 3 int <| .own 3 int <| .val int <| .val .bool <| .own 24 (.sl int) <| .val int <| .own 3 int <| .own 4 .bool <| .nil)]⟩
def askerOf_L (nn : Nat) : Nat → Option LoopS := fun n =>
  bif Nat.beq n 3 then some ⟨{ env := [(25, ASh.dat (Ty.int IntKind.i64))], heap := [(432, CSh.box 94 ((ASh.dat (Ty.int IntKind.i64)).cons ((ASh.arr 402).cons ((ASh.arr 403).cons ((ASh.arr 404).cons ((ASh.arr 405).cons ((ASh.arr 406).cons ((ASh.arr 407).cons ((ASh.arr 408).cons ((ASh.arr 409).cons ((ASh.dat (Ty.int IntKind.i64)).cons ((ASh.arr 411).cons ((ASh.arr 412).cons ((ASh.dat (Ty.int IntKind.i64)).cons ((ASh.dat Ty.bool).cons ((ASh.arr 415).cons ((ASh.dat (Ty.int IntKind.i64)).cons ((ASh.arr 417).cons ((ASh.arr 418).cons ASh.nil))))))))))))))))))), (402, CSh.arr2 24 3 (Ty.int IntKind.i64) []), (403, CSh.arr2 24 3 (Ty.int IntKind.i64) []), (404, CSh.arr 3 (Ty.int IntKind.i64)), (405, CSh.arr 3 (Ty.int IntKind.i64)), (406, CSh.arr 3 (Ty.int IntKind.i64)), (407, CSh.arr 3 (Ty.int IntKind.i64)), (411, CSh.arr 3 (Ty.int IntKind.i64)), (412, CSh.arr 3 (Ty.int IntKind.i64)), (417, CSh.arr 3 (Ty.int IntKind.i64)), (418, CSh.arr 4 Ty.bool)], keep := [0, 1, 2, 3, 4, 8, 9, 23, 24], keepH := [64, 128, 576, 408, 409, 415, 832] }, fun _ => nn⟩ else
  bif Nat.beq n 9 then some ⟨{ env := [(44, ASh.dat (Ty.int IntKind.i64))], heap := [(576, CSh.box 59 ((ASh.ref 432 0).cons ((ASh.dat (Ty.int IntKind.i64)).cons ((ASh.dat ((Ty.int IntKind.i64).pair ((Ty.int IntKind.i64).pair Ty.unit)).sl).cons ((ASh.dat ((Ty.int IntKind.i64).pair ((Ty.int IntKind.i64).pair ((Ty.int IntKind.i64).pair Ty.unit))).sl).cons ((ASh.dat ((Ty.int IntKind.i64).pair ((Ty.int IntKind.i64).pair (Ty.bool.pair ((Ty.int IntKind.i64).pair ((Ty.int IntKind.i64).pair Ty.unit))))).sl).cons ((ASh.dat ((Ty.int IntKind.i64).pair ((Ty.int IntKind.i64).pair ((Ty.int IntKind.i64).pair Ty.unit))).sl).cons ((ASh.arr 49).cons ASh.nil)))))))), (49, CSh.arr 3 (Ty.int IntKind.i64))], keep := [0, 1, 2, 3, 4, 8, 9, 23, 24, 25, 42, 43], keepH := [64, 128, 432, 1555, 1556, 1557, 1558, 1559, 1560, 408, 409, 1564, 1565, 415, 1570, 1571, 832] }, fun _ => nn⟩ else
  none
def askerOf_J : Nat → Option Shape := fun n =>
  none
set_option maxRecDepth 100000 in
theorem askerOf_eq : ∀ (nn : Nat)  xa xo, (askerOf_s.prog (mkC Try.prog T_Some16 ⟨false, false⟩ (askerOf_L nn) askerOf_J) Try.f30 xa xo).run = askerOfF nn xa.1.1 xa.1.2.1 xa.1.2.2.1 xa.1.2.2.2.1 xa.1.2.2.2.2.1 xa.2.1 xa.2.2.1 xa.2.2.2.1 := by intros; kernel_rfl
noncomputable def T_askerOf : FuncId → Summ := addS T_Some16 30 (askerOf_s.summ (fun xa xo => askerOf xa.1.1 xa.1.2.1 xa.1.2.2.1 xa.1.2.2.2.1 xa.1.2.2.2.2.1 xa.2.1 xa.2.2.1 xa.2.2.2.1))
theorem T_askerOf_ok : ∀ g, SummOK Try.prog g (T_askerOf g) := fn_ok T_Some16_ok fol Try.func30 (by kernel_rfl) (by kernel_rfl) (by kernel_rfl) (askerOf_eq fuelN)

def askAll_s : FSig := ⟨.agg (.obj 0 <| .val int <| .val (.sl pair2) <| .val (.sl pair3) <| .val (.sl latchT) <| .val (.sl outT) <| .val (.sl int) <| .nil) <| .val (.sl int) <| .nil, [(94, .val int <| .own2 24 3 int <| .own2 24 3 int <| .own 3 int <| .own 3 int <| .own 3 int <| .own 3 int <| .own 3 int <| .own 3 int <| .val int <| .own 3 int <| .own 3 int <| .val int <| .val .bool <| .own 24 (.sl int) <| .val int <| .own 3 int <| .own 4 .bool <| .nil)], .val .bool <| .nil, []⟩
def askAll_L (nn : Nat) : Nat → Option LoopS := fun n =>
  bif Nat.beq n 3 then some ⟨{ env := [(5, ASh.arr 320), (14, ASh.dat (Ty.int IntKind.i64))], heap := [(320, CSh.arr 3 (Ty.int IntKind.i64)), (320, CSh.arr 3 (Ty.int IntKind.i64))], keep := [0, 1, 2, 4, 12, 13], keepH := [1, 25, 26, 27, 28, 29, 30, 31, 32, 34, 35, 38, 40, 41, 64] }, fun _ => nn⟩ else
  bif Nat.beq n 10 then some ⟨{ env := [], heap := [(1, CSh.box 94 ((ASh.dat (Ty.int IntKind.i64)).cons ((ASh.arr 25).cons ((ASh.arr 26).cons ((ASh.arr 27).cons ((ASh.arr 28).cons ((ASh.arr 29).cons ((ASh.arr 30).cons ((ASh.arr 31).cons ((ASh.arr 32).cons ((ASh.dat (Ty.int IntKind.i64)).cons ((ASh.arr 34).cons ((ASh.arr 35).cons ((ASh.dat (Ty.int IntKind.i64)).cons ((ASh.dat Ty.bool).cons ((ASh.arr 38).cons ((ASh.dat (Ty.int IntKind.i64)).cons ((ASh.arr 40).cons ((ASh.arr 41).cons ASh.nil))))))))))))))))))), (25, CSh.arr2 24 3 (Ty.int IntKind.i64) []), (26, CSh.arr2 24 3 (Ty.int IntKind.i64) []), (27, CSh.arr 3 (Ty.int IntKind.i64)), (28, CSh.arr 3 (Ty.int IntKind.i64)), (29, CSh.arr 3 (Ty.int IntKind.i64)), (30, CSh.arr 3 (Ty.int IntKind.i64)), (31, CSh.arr 3 (Ty.int IntKind.i64)), (32, CSh.arr 3 (Ty.int IntKind.i64)), (34, CSh.arr 3 (Ty.int IntKind.i64)), (35, CSh.arr 3 (Ty.int IntKind.i64)), (38, CSh.arr 24 (Ty.int IntKind.i64).sl), (40, CSh.arr 3 (Ty.int IntKind.i64)), (41, CSh.arr 4 Ty.bool), (320, CSh.sld (Ty.int IntKind.i64))], keep := [0, 1, 2, 4, 5, 12, 13, 14], keepH := [64] }, fun _ => nn⟩ else
  none
def askAll_J : Nat → Option Shape := fun n =>
  none
set_option maxRecDepth 100000 in
theorem askAll_eq : ∀ (nn : Nat)  xa xo, (askAll_s.prog (mkC Try.prog T_askerOf ⟨false, false⟩ (askAll_L nn) askAll_J) Try.f32 xa xo).run = askAllF nn xa.1.1 xa.1.2.1 xa.1.2.2.1 xa.1.2.2.2.1 xa.1.2.2.2.2.1 xa.1.2.2.2.2.2.1 xa.2.1 xo.1.1 xo.1.2.1 xo.1.2.2.1 xo.1.2.2.2.1 xo.1.2.2.2.2.1 xo.1.2.2.2.2.2.1 xo.1.2.2.2.2.2.2.1 xo.1.2.2.2.2.2.2.2.1 xo.1.2.2.2.2.2.2.2.2.1 xo.1.2.2.2.2.2.2.2.2.2.1 xo.1.2.2.2.2.2.2.2.2.2.2.1 xo.1.2.2.2.2.2.2.2.2.2.2.2.1 xo.1.2.2.2.2.2.2.2.2.2.2.2.2.1 xo.1.2.2.2.2.2.2.2.2.2.2.2.2.2.1 xo.1.2.2.2.2.2.2.2.2.2.2.2.2.2.2.1 xo.1.2.2.2.2.2.2.2.2.2.2.2.2.2.2.2.1 xo.1.2.2.2.2.2.2.2.2.2.2.2.2.2.2.2.2.1 xo.1.2.2.2.2.2.2.2.2.2.2.2.2.2.2.2.2.2.1 := by intros; kernel_rfl
noncomputable def T_askAll : FuncId → Summ := addS T_askerOf 32 (askAll_s.summ (fun xa xo => askAll xa.1.1 xa.1.2.1 xa.1.2.2.1 xa.1.2.2.2.1 xa.1.2.2.2.2.1 xa.1.2.2.2.2.2.1 xa.2.1 xo.1.1 xo.1.2.1 xo.1.2.2.1 xo.1.2.2.2.1 xo.1.2.2.2.2.1 xo.1.2.2.2.2.2.1 xo.1.2.2.2.2.2.2.1 xo.1.2.2.2.2.2.2.2.1 xo.1.2.2.2.2.2.2.2.2.1 xo.1.2.2.2.2.2.2.2.2.2.1 xo.1.2.2.2.2.2.2.2.2.2.2.1 xo.1.2.2.2.2.2.2.2.2.2.2.2.1 xo.1.2.2.2.2.2.2.2.2.2.2.2.2.1 xo.1.2.2.2.2.2.2.2.2.2.2.2.2.2.1 xo.1.2.2.2.2.2.2.2.2.2.2.2.2.2.2.1 xo.1.2.2.2.2.2.2.2.2.2.2.2.2.2.2.2.1 xo.1.2.2.2.2.2.2.2.2.2.2.2.2.2.2.2.2.1 xo.1.2.2.2.2.2.2.2.2.2.2.2.2.2.2.2.2.2.1))
theorem T_askAll_ok : ∀ g, SummOK Try.prog g (T_askAll g) := fn_ok T_askerOf_ok fol Try.func32 (by kernel_rfl) (by kernel_rfl) (by kernel_rfl) (askAll_eq fuelN)

end GoSx
end
section
/- Walks: the functions compute what their models say: CubeC. -/
set_option linter.unusedVariables false
set_option maxHeartbeats 0
set_option maxRecDepth 100000
namespace GoSx
open Go Go.Proofs
def bitsLen64_s : FSig := ⟨.val (.int .u64) <| .nil, [], .val int <| .nil, []⟩
def bitsLen64_L : Nat → Option LoopS := fun n =>
  none
def bitsLen64_J : Nat → Option Shape := fun n =>
  bif Nat.beq n 4 then some ({ env := [(0, ASh.dat (Ty.int IntKind.u64)), (2, ASh.dat (Ty.int IntKind.i64))], heap := [], keep := [], keepH := [] }) else
  bif Nat.beq n 7 then some ({ env := [(0, ASh.dat (Ty.int IntKind.u64)), (2, ASh.dat (Ty.int IntKind.i64))], heap := [], keep := [], keepH := [] }) else
  bif Nat.beq n 10 then some ({ env := [(0, ASh.dat (Ty.int IntKind.u64)), (2, ASh.dat (Ty.int IntKind.i64))], heap := [], keep := [], keepH := [] }) else
  none
set_option maxRecDepth 100000 in
theorem bitsLen64_eq : ∀  xa xo, (bitsLen64_s.prog (mkC Try.prog T_askAll ⟨false, false⟩ bitsLen64_L bitsLen64_J) Try.f55 xa xo).run = bitsLen64  xa.1 := by intros; kernel_rfl
noncomputable def T_bitsLen64 : FuncId → Summ := addS T_askAll 55 (bitsLen64_s.summ (fun xa xo => bitsLen64 xa.1))
theorem T_bitsLen64_ok : ∀ g, SummOK Try.prog g (T_bitsLen64 g) := fn_ok T_askAll_ok fol Try.func55 (by kernel_rfl) (by kernel_rfl) (by kernel_rfl) bitsLen64_eq

def bitsLen_s : FSig := ⟨.val (.int .u64) <| .nil, [], .val int <| .nil, []⟩
def bitsLen_L : Nat → Option LoopS := fun n =>
  none
def bitsLen_J : Nat → Option Shape := fun n =>
  none
set_option maxRecDepth 100000 in
theorem bitsLen_eq : ∀  xa xo, (bitsLen_s.prog (mkC Try.prog T_bitsLen64 ⟨false, false⟩ bitsLen_L bitsLen_J) Try.f35 xa xo).run = bitsLen  xa.1 := by intros; kernel_rfl
noncomputable def T_bitsLen : FuncId → Summ := addS T_bitsLen64 35 (bitsLen_s.summ (fun xa xo => bitsLen xa.1))
theorem T_bitsLen_ok : ∀ g, SummOK Try.prog g (T_bitsLen g) := fn_ok T_bitsLen64_ok fol Try.func35 (by kernel_rfl) (by kernel_rfl) (by kernel_rfl) bitsLen_eq

def insSort_s : RSig := ⟨3, int, .val int <| .val int <| .clo 21 (.nil) <| .nil⟩
def insSort_L (nn : Nat) : Nat → Option LoopS := fun n =>
  bif Nat.beq n 1 then some ⟨{ env := [(8, ASh.dat (Ty.int IntKind.i64))], heap := [(1, CSh.arr 3 (Ty.int IntKind.i64))], keep := [0, 1, 2, 3], keepH := [] }, fun _ => nn⟩ else
  bif Nat.beq n 4 then some ⟨{ env := [(9, ASh.dat (Ty.int IntKind.i64))], heap := [(1, CSh.arr 3 (Ty.int IntKind.i64))], keep := [0, 1, 2, 3, 8], keepH := [] }, fun _ => nn⟩ else
  none
def insSort_J : Nat → Option Shape := fun n =>
  none
set_option maxRecDepth 100000 in
theorem insSort_eq : ∀ (nn : Nat)  xa, (insSort_s.prog (mkC Try.prog T_bitsLen ⟨false, false⟩ (insSort_L nn) insSort_J) Try.f46 xa).run = insSortF nn xa.1 xa.2.1 xa.2.2.1 := by intros; kernel_rfl
noncomputable def T_insSort : FuncId → Summ := addS T_bitsLen 46 (insSort_s.summ (fun xa => insSort xa.1 xa.2.1 xa.2.2.1))
theorem T_insSort_ok : ∀ g, SummOK Try.prog g (T_insSort g) := row_fn_ok T_bitsLen_ok fol Try.func46 (by kernel_rfl) (by kernel_rfl) (by kernel_rfl) (insSort_eq fuelN)

def pdq_s : RSig := ⟨3, int, .val int <| .val int <| .val int <| .clo 21 (.nil) <| .nil⟩
def pdq_L (nn : Nat) : Nat → Option LoopS := fun n =>
  bif Nat.beq n 2 then some ⟨{ env := [], heap := [], keep := [0, 1, 2, 3, 4, 10, 11], keepH := [1] }, fun _ => nn⟩ else
  none
def pdq_J : Nat → Option Shape := fun n =>
  none
set_option maxRecDepth 100000 in
theorem pdq_eq : ∀ (nn : Nat)  xa, (pdq_s.prog (mkC Try.prog T_insSort ⟨false, false⟩ (pdq_L nn) pdq_J) Try.f34 xa).run = pdqF nn xa.1 xa.2.1 xa.2.2.1 xa.2.2.2.1 := by intros; kernel_rfl
noncomputable def T_pdq : FuncId → Summ := addS T_insSort 34 (pdq_s.summ (fun xa => pdq xa.1 xa.2.1 xa.2.2.1 xa.2.2.2.1))
theorem T_pdq_ok : ∀ g, SummOK Try.prog g (T_pdq g) := row_fn_ok T_insSort_ok fol Try.func34 (by kernel_rfl) (by kernel_rfl) (by kernel_rfl) (pdq_eq fuelN)

def sortFunc_s : RSig := ⟨3, int, .clo 21 (.nil) <| .nil⟩
def sortFunc_L : Nat → Option LoopS := fun n =>
  none
def sortFunc_J : Nat → Option Shape := fun n =>
  none
set_option maxRecDepth 100000 in
theorem sortFunc_eq : ∀  xa, (sortFunc_s.prog (mkC Try.prog T_pdq ⟨false, false⟩ sortFunc_L sortFunc_J) Try.f20 xa).run = sortFunc  xa.1 := by intros; kernel_rfl
noncomputable def T_sortFunc : FuncId → Summ := addS T_pdq 20 (sortFunc_s.summ (fun xa => sortFunc xa.1))
theorem T_sortFunc_ok : ∀ g, SummOK Try.prog g (T_sortFunc g) := row_fn_ok T_pdq_ok fol Try.func20 (by kernel_rfl) (by kernel_rfl) (by kernel_rfl) sortFunc_eq

end GoSx
end
section
/- Walks: the functions compute what their models say: CubeD. -/
set_option linter.unusedVariables false
set_option maxHeartbeats 0
set_option maxRecDepth 100000
namespace GoSx
open Go Go.Proofs
def rho_20 : Go.Shelf.Ren := ⟨fun _ => 25, fun n => bif Nat.beq n 3 then 3 else bif Nat.beq n 4 then 4 else bif Nat.beq n 22 then 24 else 0, fun n => n⟩
theorem lays_20 : Lays2.n20 Try.prog rho_20 where
  mixed := fol
  f20 := (Try.func25).trans (congrArg some (by kernel_rfl))
  t0 := Try.underlying0
  a0 := Try.isAgg0
  z0 := Try.sizeOf0
  v0 := Try.zeroValue0
  t3 := Try.underlying3
  a3 := Try.isAgg3
  z3 := Try.sizeOf3
  v3 := Try.zeroValue3
  t4 := Try.underlying4
  a4 := Try.isAgg4
  z4 := Try.sizeOf4
  v4 := Try.zeroValue4
  t22 := Try.underlying24
  a22 := Try.isAgg24
  z22 := Try.sizeOf24
  v22 := Try.zeroValue24
  i3 := by kernel_rfl
noncomputable def T_compact : FuncId → Summ := addS T_sortFunc 25 (compactS 3)
theorem T_compact_ok : ∀ g, SummOK Try.prog g (T_compact g) := addS_ok T_sortFunc_ok (compactS_ok (f := 25) lays_20 rfl (call_of Try.func25 (by kernel_rfl) (by kernel_rfl)))

def rho_23 : Go.Shelf.Ren := ⟨fun _ => 31, fun n => bif Nat.beq n 3 then 3 else bif Nat.beq n 4 then 4 else bif Nat.beq n 22 then 24 else 0, fun n => n⟩
theorem lays_23 : Lays2.n23 Try.prog rho_23 where
  mixed := fol
  f23 := (Try.func31).trans (congrArg some (by kernel_rfl))
  t0 := Try.underlying0
  a0 := Try.isAgg0
  z0 := Try.sizeOf0
  v0 := Try.zeroValue0
  t3 := Try.underlying3
  a3 := Try.isAgg3
  z3 := Try.sizeOf3
  v3 := Try.zeroValue3
  t4 := Try.underlying4
  a4 := Try.isAgg4
  z4 := Try.sizeOf4
  v4 := Try.zeroValue4
  t22 := Try.underlying24
  a22 := Try.isAgg24
  z22 := Try.sizeOf24
  v22 := Try.zeroValue24
  i3 := by kernel_rfl
noncomputable def T_delete : FuncId → Summ := addS T_compact 31 (deleteS 3)
theorem T_delete_ok : ∀ g, SummOK Try.prog g (T_delete g) := addS_ok T_compact_ok (deleteS_ok (f := 31) lays_23 rfl (call_of Try.func31 (by kernel_rfl) (by kernel_rfl)))

def norm_s : FSig := ⟨.lend (.sl int) <| .nil, [], .own 3 int <| .val .bool <| .nil, []⟩
def norm_L (nn : Nat) : Nat → Option LoopS := fun n =>
  bif Nat.beq n 5 then some ⟨{ env := [(15, ASh.dat (Ty.int IntKind.i64))], heap := [], keep := [0, 2, 3, 4, 13, 14], keepH := [576] }, fun _ => nn⟩ else
  none
def norm_J : Nat → Option Shape := fun n =>
  none
set_option maxRecDepth 100000 in
theorem norm_eq : ∀ (nn : Nat)  xa xo, (norm_s.prog (mkC Try.prog T_delete ⟨false, false⟩ (norm_L nn) norm_J) Try.f7 xa xo).run = normF nn xa.1 := by intros; kernel_rfl
noncomputable def T_norm : FuncId → Summ := addS T_delete 7 (norm_s.summ (fun xa xo => norm xa.1))
theorem T_norm_ok : ∀ g, SummOK Try.prog g (T_norm g) := fn_ok T_delete_ok fol Try.func7 (by kernel_rfl) (by kernel_rfl) (by kernel_rfl) (norm_eq fuelN)

def shrink_s : FSig := ⟨.agg (.val int <| .val (.sl pair2) <| .val (.sl pair3) <| .val (.sl latchT) <| .val (.sl outT) <| .nil) <| .val (.sl .bool) <| .val (.sl .bool) <| .val (.sl int) <| .val int <| .nil, [], .val (.sl int) <| .nil, []⟩
def shrink_L (nn : Nat) : Nat → Option LoopS := fun n =>
  bif Nat.beq n 4 then some ⟨{ env := [(12, ASh.arr 704), (13, ASh.dat (Ty.int IntKind.i64))], heap := [(496, CSh.box 94 ((ASh.dat (Ty.int IntKind.i64)).cons ((ASh.arr 473).cons ((ASh.arr 474).cons ((ASh.arr 475).cons ((ASh.arr 476).cons ((ASh.arr 477).cons ((ASh.arr 478).cons ((ASh.arr 479).cons ((ASh.arr 480).cons ((ASh.dat (Ty.int IntKind.i64)).cons ((ASh.arr 482).cons ((ASh.arr 483).cons ((ASh.dat (Ty.int IntKind.i64)).cons ((ASh.dat Ty.bool).cons ((ASh.arr 486).cons ((ASh.dat (Ty.int IntKind.i64)).cons ((ASh.arr 488).cons ((ASh.arr 489).cons ASh.nil))))))))))))))))))), (473, CSh.arr2 24 3 (Ty.int IntKind.i64) []), (474, CSh.arr2 24 3 (Ty.int IntKind.i64) []), (475, CSh.arr 3 (Ty.int IntKind.i64)), (476, CSh.arr 3 (Ty.int IntKind.i64)), (477, CSh.arr 3 (Ty.int IntKind.i64)), (478, CSh.arr 3 (Ty.int IntKind.i64)), (479, CSh.arr 3 (Ty.int IntKind.i64)), (480, CSh.arr 3 (Ty.int IntKind.i64)), (482, CSh.arr 3 (Ty.int IntKind.i64)), (483, CSh.arr 3 (Ty.int IntKind.i64)), (486, CSh.arr 24 (Ty.int IntKind.i64).sl), (488, CSh.arr 3 (Ty.int IntKind.i64)), (489, CSh.arr 4 Ty.bool), (454, CSh.sld (Ty.int IntKind.i64)), (704, CSh.sld (Ty.int IntKind.i64))], keep := [0, 1, 2, 3, 4, 5, 10, 11], keepH := [64, 512] }, fun _ => nn⟩ else
  none
def shrink_J : Nat → Option Shape := fun n =>
  none
set_option maxRecDepth 100000 in
theorem shrink_eq : ∀ (nn : Nat)  xa xo, (shrink_s.prog (mkC Try.prog T_norm ⟨false, false⟩ (shrink_L nn) shrink_J) Try.f16 xa xo).run = shrinkF nn xa.1.1 xa.1.2.1 xa.1.2.2.1 xa.1.2.2.2.1 xa.1.2.2.2.2.1 xa.2.1 xa.2.2.1 xa.2.2.2.1 xa.2.2.2.2.1 := by intros; kernel_rfl
noncomputable def T_shrink : FuncId → Summ := addS T_norm 16 (shrink_s.summ (fun xa xo => shrink xa.1.1 xa.1.2.1 xa.1.2.2.1 xa.1.2.2.2.1 xa.1.2.2.2.2.1 xa.2.1 xa.2.2.1 xa.2.2.2.1 xa.2.2.2.2.1))
theorem T_shrink_ok : ∀ g, SummOK Try.prog g (T_shrink g) := fn_ok T_norm_ok fol Try.func16 (by kernel_rfl) (by kernel_rfl) (by kernel_rfl) (shrink_eq fuelN)

end GoSx
end
section
/- Walks: the functions compute what their models say: CubeE. -/
set_option linter.unusedVariables false
set_option maxHeartbeats 0
set_option maxRecDepth 100000
namespace GoSx
open Go Go.Proofs
def head24_s : FSig := ⟨.nil, [], .val .bool <| .nil, []⟩
def head24_L : Nat → Option LoopS := fun n =>
  none
def head24_J : Nat → Option Shape := fun n =>
  none
set_option maxRecDepth 100000 in
theorem head24_eq : ∀ (vnorm : List Int → Option ((List Int × Bool × Unit) × Unit × Unit)) (vSome16 : Option (((Int × List (Int × Int × Unit) × List (Int × Int × Int × Unit) × List (Int × Int × Bool × Int × Int × Unit) × List (Int × Int × Int × Unit) × Unit) × Unit) × Unit × Unit)) (vshrink : Int → List (Int × Int × Unit) → List (Int × Int × Int × Unit) → List (Int × Int × Bool × Int × Int × Unit) → List (Int × Int × Int × Unit) → List Bool → List Bool → List Int → Int → Option ((List Int × Unit) × Unit × Unit)) (vsameInts : List Int → List Int → Option ((Bool × Unit) × Unit × Unit)) (vcHolds : List Int → List Bool → Option ((Bool × Unit) × Unit × Unit)) (vcCovers : List Int → List Int → Option ((Bool × Unit) × Unit × Unit)) (vcFirst : Int → List (Int × Int × Unit) → List (Int × Int × Int × Unit) → List (Int × Int × Bool × Int × Int × Unit) → List (Int × Int × Int × Unit) → List Int → Option ((Bool × Unit) × Unit × Unit)) (vcOf : List Bool → Option ((List Int × Unit) × Unit × Unit)) (vcClause : List Int → Option ((List Int × Unit) × Unit × Unit)) xa xo, (head24_s.prog (mkC Try.prog (addS (addS (addS (addS (addS (addS (addS (addS (addS noS 7 (norm_s.summ (fun xa xo => vnorm xa.1))) 17 (Some16_s.summ (fun xa xo => vSome16 ))) 16 (shrink_s.summ (fun xa xo => vshrink xa.1.1 xa.1.2.1 xa.1.2.2.1 xa.1.2.2.2.1 xa.1.2.2.2.2.1 xa.2.1 xa.2.2.1 xa.2.2.2.1 xa.2.2.2.2.1))) 14 (sameInts_s.summ (fun xa xo => vsameInts xa.1 xa.2.1))) 10 (cHolds_s.summ (fun xa xo => vcHolds xa.1 xa.2.1))) 11 (cCovers_s.summ (fun xa xo => vcCovers xa.1 xa.2.1))) 18 (cFirst_s.summ (fun xa xo => vcFirst xa.1.1 xa.1.2.1 xa.1.2.2.1 xa.1.2.2.2.1 xa.1.2.2.2.2.1 xa.2.1))) 13 (cOf_s.summ (fun xa xo => vcOf xa.1))) 12 (cClause_s.summ (fun xa xo => vcClause xa.1))) ⟨false, false⟩ head24_L head24_J) Try.f6 xa xo).run = head24F vnorm vSome16 vshrink vsameInts vcHolds vcCovers vcFirst vcOf vcClause  := by intros; kernel_rfl
noncomputable def U_head24 : FuncId → Summ := (addS (addS (addS (addS (addS (addS (addS (addS (addS noS 7 (norm_s.summ (fun xa xo => norm xa.1))) 17 (Some16_s.summ (fun xa xo => Some16 ))) 16 (shrink_s.summ (fun xa xo => shrink xa.1.1 xa.1.2.1 xa.1.2.2.1 xa.1.2.2.2.1 xa.1.2.2.2.2.1 xa.2.1 xa.2.2.1 xa.2.2.2.1 xa.2.2.2.2.1))) 14 (sameInts_s.summ (fun xa xo => sameInts xa.1 xa.2.1))) 10 (cHolds_s.summ (fun xa xo => cHolds xa.1 xa.2.1))) 11 (cCovers_s.summ (fun xa xo => cCovers xa.1 xa.2.1))) 18 (cFirst_s.summ (fun xa xo => cFirst xa.1.1 xa.1.2.1 xa.1.2.2.1 xa.1.2.2.2.1 xa.1.2.2.2.2.1 xa.2.1))) 13 (cOf_s.summ (fun xa xo => cOf xa.1))) 12 (cClause_s.summ (fun xa xo => cClause xa.1)))
theorem U_head24_ok : ∀ g, SummOK Try.prog g (U_head24 g) := (addS_ok (addS_ok (addS_ok (addS_ok (addS_ok (addS_ok (addS_ok (addS_ok (addS_ok noS_ok (summ_at T_shrink_ok 7 (S := (norm_s.summ (fun xa xo => norm xa.1))) (by kernel_rfl))) (summ_at T_shrink_ok 17 (S := (Some16_s.summ (fun xa xo => Some16 ))) (by kernel_rfl))) (summ_at T_shrink_ok 16 (S := (shrink_s.summ (fun xa xo => shrink xa.1.1 xa.1.2.1 xa.1.2.2.1 xa.1.2.2.2.1 xa.1.2.2.2.2.1 xa.2.1 xa.2.2.1 xa.2.2.2.1 xa.2.2.2.2.1))) (by kernel_rfl))) (summ_at T_shrink_ok 14 (S := (sameInts_s.summ (fun xa xo => sameInts xa.1 xa.2.1))) (by kernel_rfl))) (summ_at T_shrink_ok 10 (S := (cHolds_s.summ (fun xa xo => cHolds xa.1 xa.2.1))) (by kernel_rfl))) (summ_at T_shrink_ok 11 (S := (cCovers_s.summ (fun xa xo => cCovers xa.1 xa.2.1))) (by kernel_rfl))) (summ_at T_shrink_ok 18 (S := (cFirst_s.summ (fun xa xo => cFirst xa.1.1 xa.1.2.1 xa.1.2.2.1 xa.1.2.2.2.1 xa.1.2.2.2.2.1 xa.2.1))) (by kernel_rfl))) (summ_at T_shrink_ok 13 (S := (cOf_s.summ (fun xa xo => cOf xa.1))) (by kernel_rfl))) (summ_at T_shrink_ok 12 (S := (cClause_s.summ (fun xa xo => cClause xa.1))) (by kernel_rfl)))
noncomputable def T_head24 : FuncId → Summ := addS T_shrink 6 (head24_s.summ (fun xa xo => head24 ))
theorem T_head24_ok : ∀ g, SummOK Try.prog g (T_head24 g) := fn_ok2 T_shrink_ok U_head24_ok fol Try.func6 (by kernel_rfl) (by kernel_rfl) (by kernel_rfl) (head24_eq norm Some16 shrink sameInts cHolds cCovers cFirst cOf cClause)

def CubeCovers_s : FSig := ⟨.lend (.sl (.int .i8)) <| .lend (.sl (.int .i8)) <| .nil, [], .val .bool <| .nil, []⟩
def CubeCovers_L (nn : Nat) : Nat → Option LoopS := fun n =>
  bif Nat.beq n 8 then some ⟨{ env := [(10, ASh.dat Ty.bool), (11, ASh.dat (Ty.int IntKind.i64))], heap := [], keep := [0, 1, 4, 5, 6, 7, 8, 9], keepH := [384, 896] }, fun _ => nn⟩ else
  none
def CubeCovers_J : Nat → Option Shape := fun n =>
  none
set_option maxRecDepth 100000 in
theorem CubeCovers_eq : ∀ (nn : Nat) (vhead24 : Option ((Bool × Unit) × Unit × Unit)) (vnorm : List Int → Option ((List Int × Bool × Unit) × Unit × Unit)) (vnarrow : List Int → Option ((List Int × Unit) × Unit × Unit)) (vBits16 : Int → Int → Option ((List Bool × Unit) × Unit × Unit)) (vcHolds : List Int → List Bool → Option ((Bool × Unit) × Unit × Unit)) (vcCovers : List Int → List Int → Option ((Bool × Unit) × Unit × Unit)) xa xo, (CubeCovers_s.prog (mkC Try.prog (addS (addS (addS (addS (addS (addS noS 6 (head24_s.summ (fun xa xo => vhead24 ))) 7 (norm_s.summ (fun xa xo => vnorm xa.1))) 8 (narrow_s.summ (fun xa xo => vnarrow xa.1))) 9 (Bits16_s.summ (fun xa xo => vBits16 xa.1 xa.2.1))) 10 (cHolds_s.summ (fun xa xo => vcHolds xa.1 xa.2.1))) 11 (cCovers_s.summ (fun xa xo => vcCovers xa.1 xa.2.1))) ⟨false, false⟩ (CubeCovers_L nn) CubeCovers_J) Try.f3 xa xo).run = CubeCoversF nn vhead24 vnorm vnarrow vBits16 vcHolds vcCovers xa.1 xa.2.1 := by intros; kernel_rfl
noncomputable def U_CubeCovers : FuncId → Summ := (addS (addS (addS (addS (addS (addS noS 6 (head24_s.summ (fun xa xo => head24 ))) 7 (norm_s.summ (fun xa xo => norm xa.1))) 8 (narrow_s.summ (fun xa xo => narrow xa.1))) 9 (Bits16_s.summ (fun xa xo => Bits16 xa.1 xa.2.1))) 10 (cHolds_s.summ (fun xa xo => cHolds xa.1 xa.2.1))) 11 (cCovers_s.summ (fun xa xo => cCovers xa.1 xa.2.1)))
theorem U_CubeCovers_ok : ∀ g, SummOK Try.prog g (U_CubeCovers g) := (addS_ok (addS_ok (addS_ok (addS_ok (addS_ok (addS_ok noS_ok (summ_at T_head24_ok 6 (S := (head24_s.summ (fun xa xo => head24 ))) (by kernel_rfl))) (summ_at T_head24_ok 7 (S := (norm_s.summ (fun xa xo => norm xa.1))) (by kernel_rfl))) (summ_at T_head24_ok 8 (S := (narrow_s.summ (fun xa xo => narrow xa.1))) (by kernel_rfl))) (summ_at T_head24_ok 9 (S := (Bits16_s.summ (fun xa xo => Bits16 xa.1 xa.2.1))) (by kernel_rfl))) (summ_at T_head24_ok 10 (S := (cHolds_s.summ (fun xa xo => cHolds xa.1 xa.2.1))) (by kernel_rfl))) (summ_at T_head24_ok 11 (S := (cCovers_s.summ (fun xa xo => cCovers xa.1 xa.2.1))) (by kernel_rfl)))
noncomputable def T_CubeCovers : FuncId → Summ := addS T_head24 3 (CubeCovers_s.summ (fun xa xo => CubeCovers xa.1 xa.2.1))
theorem T_CubeCovers_ok : ∀ g, SummOK Try.prog g (T_CubeCovers g) := fn_ok2 T_head24_ok U_CubeCovers_ok fol Try.func3 (by kernel_rfl) (by kernel_rfl) (by kernel_rfl) (CubeCovers_eq fuelN head24 norm narrow Bits16 cHolds cCovers)

def CubeNorm_s : FSig := ⟨.lend (.sl (.int .i8)) <| .val (.int .u8) <| .lend (.sl .bool) <| .nil, [], .val .bool <| .nil, []⟩
def CubeNorm_L (nn : Nat) : Nat → Option LoopS := fun n =>
  bif Nat.beq n 6 then some ⟨{ env := [(11, ASh.arr 49), (12, ASh.dat (Ty.int IntKind.i64))], heap := [(49, CSh.arr 3 (Ty.int IntKind.i64))], keep := [0, 1, 2, 6, 7, 8, 9, 10], keepH := [320, 512] }, fun _ => nn⟩ else
  bif Nat.beq n 18 then some ⟨{ env := [(18, ASh.dat (Ty.int IntKind.i64)), (19, ASh.dat (Ty.int IntKind.i64))], heap := [], keep := [0, 1, 2, 6, 7, 8, 9, 10, 11, 12, 13, 14, 15, 16, 17], keepH := [320, 512, 49, 1344, 2368, 2688] }, fun _ => nn⟩ else
  none
def CubeNorm_J : Nat → Option Shape := fun n =>
  none
set_option maxRecDepth 100000 in
theorem CubeNorm_eq : ∀ (nn : Nat) (vhead24 : Option ((Bool × Unit) × Unit × Unit)) (vnarrow : List Int → Option ((List Int × Unit) × Unit × Unit)) (vnorm : List Int → Option ((List Int × Bool × Unit) × Unit × Unit)) (vsameInts : List Int → List Int → Option ((Bool × Unit) × Unit × Unit)) (vbits24 : List Bool → Int → Option ((List Bool × Unit) × Unit × Unit)) (vcHolds : List Int → List Bool → Option ((Bool × Unit) × Unit × Unit)) (vcCovers : List Int → List Int → Option ((Bool × Unit) × Unit × Unit)) xa xo, (CubeNorm_s.prog (mkC Try.prog (addS (addS (addS (addS (addS (addS (addS noS 6 (head24_s.summ (fun xa xo => vhead24 ))) 8 (narrow_s.summ (fun xa xo => vnarrow xa.1))) 7 (norm_s.summ (fun xa xo => vnorm xa.1))) 14 (sameInts_s.summ (fun xa xo => vsameInts xa.1 xa.2.1))) 15 (bits24_s.summ (fun xa xo => vbits24 xa.1 xa.2.1))) 10 (cHolds_s.summ (fun xa xo => vcHolds xa.1 xa.2.1))) 11 (cCovers_s.summ (fun xa xo => vcCovers xa.1 xa.2.1))) ⟨false, false⟩ (CubeNorm_L nn) CubeNorm_J) Try.f5 xa xo).run = CubeNormF nn vhead24 vnarrow vnorm vsameInts vbits24 vcHolds vcCovers xa.1 xa.2.1 xa.2.2.1 := by intros; kernel_rfl
noncomputable def U_CubeNorm : FuncId → Summ := (addS (addS (addS (addS (addS (addS (addS noS 6 (head24_s.summ (fun xa xo => head24 ))) 8 (narrow_s.summ (fun xa xo => narrow xa.1))) 7 (norm_s.summ (fun xa xo => norm xa.1))) 14 (sameInts_s.summ (fun xa xo => sameInts xa.1 xa.2.1))) 15 (bits24_s.summ (fun xa xo => bits24 xa.1 xa.2.1))) 10 (cHolds_s.summ (fun xa xo => cHolds xa.1 xa.2.1))) 11 (cCovers_s.summ (fun xa xo => cCovers xa.1 xa.2.1)))
theorem U_CubeNorm_ok : ∀ g, SummOK Try.prog g (U_CubeNorm g) := (addS_ok (addS_ok (addS_ok (addS_ok (addS_ok (addS_ok (addS_ok noS_ok (summ_at T_CubeCovers_ok 6 (S := (head24_s.summ (fun xa xo => head24 ))) (by kernel_rfl))) (summ_at T_CubeCovers_ok 8 (S := (narrow_s.summ (fun xa xo => narrow xa.1))) (by kernel_rfl))) (summ_at T_CubeCovers_ok 7 (S := (norm_s.summ (fun xa xo => norm xa.1))) (by kernel_rfl))) (summ_at T_CubeCovers_ok 14 (S := (sameInts_s.summ (fun xa xo => sameInts xa.1 xa.2.1))) (by kernel_rfl))) (summ_at T_CubeCovers_ok 15 (S := (bits24_s.summ (fun xa xo => bits24 xa.1 xa.2.1))) (by kernel_rfl))) (summ_at T_CubeCovers_ok 10 (S := (cHolds_s.summ (fun xa xo => cHolds xa.1 xa.2.1))) (by kernel_rfl))) (summ_at T_CubeCovers_ok 11 (S := (cCovers_s.summ (fun xa xo => cCovers xa.1 xa.2.1))) (by kernel_rfl)))
noncomputable def T_CubeNorm : FuncId → Summ := addS T_CubeCovers 5 (CubeNorm_s.summ (fun xa xo => CubeNorm xa.1 xa.2.1 xa.2.2.1))
theorem T_CubeNorm_ok : ∀ g, SummOK Try.prog g (T_CubeNorm g) := fn_ok2 T_CubeCovers_ok U_CubeNorm_ok fol Try.func5 (by kernel_rfl) (by kernel_rfl) (by kernel_rfl) (CubeNorm_eq fuelN head24 narrow norm sameInts bits24 cHolds cCovers)

def CubeClause_s : FSig := ⟨.lend (.sl int) <| .lend (.sl .bool) <| .val (.int .u8) <| .nil, [], .val .bool <| .nil, []⟩
def CubeClause_L (nn : Nat) : Nat → Option LoopS := fun n =>
  bif Nat.beq n 6 then some ⟨{ env := [(8, ASh.arr 49), (9, ASh.dat (Ty.int IntKind.i64))], heap := [(49, CSh.arr 3 (Ty.int IntKind.i64))], keep := [0, 1, 2, 6, 7], keepH := [] }, fun _ => nn⟩ else
  bif Nat.beq n 14 then some ⟨{ env := [(11, ASh.dat Ty.bool), (13, ASh.dat (Ty.int IntKind.i64))], heap := [], keep := [0, 1, 2, 6, 7, 8, 9, 12], keepH := [49, 960] }, fun _ => nn⟩ else
  none
def CubeClause_J : Nat → Option Shape := fun n =>
  bif Nat.beq n 11 then some ({ env := [(8, ASh.arr 49), (9, ASh.dat (Ty.int IntKind.i64))], heap := [(49, CSh.arr 3 (Ty.int IntKind.i64))], keep := [0, 1, 2, 6, 7], keepH := [] }) else
  none
set_option maxRecDepth 100000 in
theorem CubeClause_eq : ∀ (nn : Nat) (vhead24 : Option ((Bool × Unit) × Unit × Unit)) (vcClause : List Int → Option ((List Int × Unit) × Unit × Unit)) (vcHolds : List Int → List Bool → Option ((Bool × Unit) × Unit × Unit)) (vcOf : List Bool → Option ((List Int × Unit) × Unit × Unit)) (vsameInts : List Int → List Int → Option ((Bool × Unit) × Unit × Unit)) xa xo, (CubeClause_s.prog (mkC Try.prog (addS (addS (addS (addS (addS noS 6 (head24_s.summ (fun xa xo => vhead24 ))) 12 (cClause_s.summ (fun xa xo => vcClause xa.1))) 10 (cHolds_s.summ (fun xa xo => vcHolds xa.1 xa.2.1))) 13 (cOf_s.summ (fun xa xo => vcOf xa.1))) 14 (sameInts_s.summ (fun xa xo => vsameInts xa.1 xa.2.1))) ⟨false, false⟩ (CubeClause_L nn) CubeClause_J) Try.f4 xa xo).run = CubeClauseF nn vhead24 vcClause vcHolds vcOf vsameInts xa.1 xa.2.1 xa.2.2.1 := by intros; kernel_rfl
noncomputable def U_CubeClause : FuncId → Summ := (addS (addS (addS (addS (addS noS 6 (head24_s.summ (fun xa xo => head24 ))) 12 (cClause_s.summ (fun xa xo => cClause xa.1))) 10 (cHolds_s.summ (fun xa xo => cHolds xa.1 xa.2.1))) 13 (cOf_s.summ (fun xa xo => cOf xa.1))) 14 (sameInts_s.summ (fun xa xo => sameInts xa.1 xa.2.1)))
theorem U_CubeClause_ok : ∀ g, SummOK Try.prog g (U_CubeClause g) := (addS_ok (addS_ok (addS_ok (addS_ok (addS_ok noS_ok (summ_at T_CubeNorm_ok 6 (S := (head24_s.summ (fun xa xo => head24 ))) (by kernel_rfl))) (summ_at T_CubeNorm_ok 12 (S := (cClause_s.summ (fun xa xo => cClause xa.1))) (by kernel_rfl))) (summ_at T_CubeNorm_ok 10 (S := (cHolds_s.summ (fun xa xo => cHolds xa.1 xa.2.1))) (by kernel_rfl))) (summ_at T_CubeNorm_ok 13 (S := (cOf_s.summ (fun xa xo => cOf xa.1))) (by kernel_rfl))) (summ_at T_CubeNorm_ok 14 (S := (sameInts_s.summ (fun xa xo => sameInts xa.1 xa.2.1))) (by kernel_rfl)))
noncomputable def T_CubeClause : FuncId → Summ := addS T_CubeNorm 4 (CubeClause_s.summ (fun xa xo => CubeClause xa.1 xa.2.1 xa.2.2.1))
theorem T_CubeClause_ok : ∀ g, SummOK Try.prog g (T_CubeClause g) := fn_ok2 T_CubeNorm_ok U_CubeClause_ok fol Try.func4 (by kernel_rfl) (by kernel_rfl) (by kernel_rfl) (CubeClause_eq fuelN head24 cClause cHolds cOf sameInts)

end GoSx
end
