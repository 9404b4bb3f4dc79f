/- The texts MSatA, MSatB, MSatC, MSatD, MCertA, MCertB, MCertC, MCertD, MCertE, MCertF, WSatA, WSatB, one behind the other. -/
import Derived.Test.YtjoemkjibcfgnaaGreatGA3
import Derived.Test.YtjoemkjibcfgnaaGreatProg
set_option linter.unusedVariables false
set_option linter.unusedSimpArgs false
section
/- Models of functions: what they compute, if all goes well: SatA. -/
namespace GoSx
open Go
def size (x : Int) : Option ((Int × Unit) × Unit × Unit) :=
  gd (inK IntKind.i64 (0 - x)) <|
  some ((max2 x (0 - x), ()), (), ())

def at_ (x : Int) : Option ((Int × Unit) × Unit × Unit) :=
  bif decide (x < 0) then
    gd (inK IntKind.i64 (-2 * x)) <|
    gd (inK IntKind.i64 (-2 * x + 1)) <|
    some ((-2 * x + 1, ()), (), ())
  else
    gd (inK IntKind.i64 (2 * x)) <|
    some ((2 * x, ()), (), ())

def value (x : Int) (is : List Int) : Option ((Int × Unit) × ((List Int × Unit) × Unit) × Unit) :=
  bif decide (x < 0) then
    gd (inK IntKind.i64 (0 - x)) <|
    gd (0 ≤ 0 - x) <|
    gd (0 - x < nI is.length) <|
    gd (inK IntKind.i64 (0 - getI is (0 - x))) <|
    some ((0 - getI is (0 - x), ()), ((is, ()), ()), ())
  else
    gd (0 ≤ x) <|
    gd (x < nI is.length) <|
    some ((getI is x, ()), ((is, ()), ()), ())

def set_ (x : Int) (y : Int) (is : List Int) (depth : List Int) (why : List Int) (row : List Int) (begin : List Int) : Option (Unit × ((List Int × List Int × List Int × List Int × List Int × Unit) × Unit) × Unit) :=
  bindO (size x) fun y0 =>
  gd (0 ≤ y0.1.1) <|
  gd (y0.1.1 < nI is.length) <|
  bif decide (x < 0) then
    gd (0 ≤ y0.1.1) <|
    gd (y0.1.1 < nI (is.set y0.1.1.toNat 1).length) <|
    gd (0 ≤ y0.1.1) <|
    gd (y0.1.1 < nI depth.length) <|
    gd (0 ≤ y0.1.1) <|
    gd (y0.1.1 < nI why.length) <|
    gd ((row.length + [x].length) * 8 ≤ lim) <|
    gd (row.length + [x].length ≤ lim) <|
    some ((), (((is.set y0.1.1.toNat 1).set y0.1.1.toNat (-1), depth.set y0.1.1.toNat (nI begin.length), why.set y0.1.1.toNat y, row ++ [x], begin, ()), ()), ())
  else
    gd (0 ≤ y0.1.1) <|
    gd (y0.1.1 < nI depth.length) <|
    gd (0 ≤ y0.1.1) <|
    gd (y0.1.1 < nI why.length) <|
    gd ((row.length + [x].length) * 8 ≤ lim) <|
    gd (row.length + [x].length ≤ lim) <|
    some ((), ((is.set y0.1.1.toNat 1, depth.set y0.1.1.toNat (nI begin.length), why.set y0.1.1.toNat y, row ++ [x], begin, ()), ()), ())

def backF (nn : Nat)  (level : Int) (is : List Int) (old : List Int) (cold : Int) (row : List Int) (begin : List Int) (done : Int) : Option (Unit × ((List Int × List Int × Int × List Int × List Int × Int × Unit) × Unit) × Unit) :=
  bif decide (level ≥ nI begin.length) then
    some ((), ((is, old, cold, row, begin, done, ()), ()), ())
  else
    gd (0 ≤ level) <|
    gd (level < nI begin.length) <|
    gd (0 ≤ getI begin level) <|
    gd (getI begin level ≤ nI row.length) <|
    gd (nI row.length ≤ nI row.length) <|
    gd (nI row.length - getI begin level ≤ nI lim) <|
    iterO (X := Int × (Int × Int) × List Int × List Int) (fun y0 =>
      bif decide (y0.1 < nI row.length - getI begin level) then
        gd (0 ≤ y0.1) <|
        gd (y0.1 < nI row.length - getI begin level) <|
        bindO (size (getI row (getI begin level + y0.1))) fun y1 =>
        gd (0 ≤ y1.1.1) <|
        gd (y1.1.1 < nI y0.2.2.1.length) <|
        gd (0 ≤ y1.1.1) <|
        gd (y1.1.1 < nI y0.2.2.2.length) <|
        gd (0 ≤ y1.1.1) <|
        gd (y1.1.1 < nI y0.2.2.1.length) <|
        gd (inK IntKind.i64 (y0.1 + 1)) <|
        some (Sum.inl (y0.1 + 1, (min2 y0.2.1.1 y1.1.1, y0.2.1.2), y0.2.2.1.set y1.1.1.toNat 0, y0.2.2.2.set y1.1.1.toNat (getI y0.2.2.1 y1.1.1)))
      else
        gd (0 ≤ getI begin level) <|
        gd (getI begin level ≤ nI row.length) <|
        gd (0 ≤ level) <|
        gd (level ≤ nI begin.length) <|
        some (Sum.inr ((), ((y0.2.2.1, y0.2.2.2, y0.2.1.1, List.take (Int.toNat (getI begin level)) row, List.take level.toNat begin, getI begin level, ()), ()), ()))) (nn) (0, (cold, done), is, old)

def back (level : Int) (is : List Int) (old : List Int) (cold : Int) (row : List Int) (begin : List Int) (done : Int) : Option (Unit × ((List Int × List Int × Int × List Int × List Int × Int × Unit) × Unit) × Unit) := backF fuelN level is old cold row begin done

def keep (c : List Int) (all : List (List Int)) (ix : Int) (watch : List (List Int)) : Option ((Int × Unit) × ((List (List Int) × Int × List (List Int) × Unit) × Unit) × Unit) :=
  gd ((all.length + 1) * 24 ≤ lim) <|
  gd (all.length + 1 ≤ lim) <|
  gd (inK IntKind.i64 (nI (all ++ [c]).length - 1)) <|
  gd (0 < nI c.length) <|
  bindO (at_ (getI c 0)) fun y0 =>
  gd (0 < nI c.length) <|
  bindO (at_ (getI c 0)) fun y1 =>
  gd (0 ≤ y1.1.1) <|
  gd (y1.1.1 < nI watch.length) <|
  gd ((List.length (getL watch y1.1.1) + [nI (all ++ [c]).length - 1].length) * 8 ≤ lim) <|
  gd (List.length (getL watch y1.1.1) + [nI (all ++ [c]).length - 1].length ≤ lim) <|
  gd (0 ≤ y0.1.1) <|
  gd (y0.1.1 < nI watch.length) <|
  gd (y1.1.1 = y0.1.1) <|
  gd (1 < nI c.length) <|
  bindO (at_ (getI c 1)) fun y2 =>
  gd (1 < nI c.length) <|
  bindO (at_ (getI c 1)) fun y3 =>
  gd (0 ≤ y3.1.1) <|
  gd (y3.1.1 < nI (watch.set y0.1.1.toNat (getL watch y1.1.1 ++ [nI (all ++ [c]).length - 1])).length) <|
  gd ((List.length (getL (watch.set y0.1.1.toNat (getL watch y1.1.1 ++ [nI (all ++ [c]).length - 1])) y3.1.1) + [nI (all ++ [c]).length - 1].length) * 8 ≤ lim) <|
  gd (List.length (getL (watch.set y0.1.1.toNat (getL watch y1.1.1 ++ [nI (all ++ [c]).length - 1])) y3.1.1) + [nI (all ++ [c]).length - 1].length ≤ lim) <|
  gd (0 ≤ y2.1.1) <|
  gd (y2.1.1 < nI (watch.set y0.1.1.toNat (getL watch y1.1.1 ++ [nI (all ++ [c]).length - 1])).length) <|
  gd (y3.1.1 = y2.1.1) <|
  some ((nI (all ++ [c]).length - 1, ()), ((all ++ [c], nI all.length, (watch.set y0.1.1.toNat (getL watch y1.1.1 ++ [nI (all ++ [c]).length - 1])).set y2.1.1.toNat (getL (watch.set y0.1.1.toNat (getL watch y1.1.1 ++ [nI (all ++ [c]).length - 1])) y3.1.1 ++ [nI (all ++ [c]).length - 1]), ()), ()), ())

end GoSx
end
section
/- Models of functions: what they compute, if all goes well: SatB. -/
namespace GoSx
open Go
def forget (answer : Int) (core : List Int) (model : List Bool) : Option (Unit × ((Int × List Int × List Bool × Unit) × Unit) × Unit) :=
  some ((), ((0, [], [], ()), ()), ())

def ownC (x : Int) (vars : Int) : Option ((Bool × Unit) × (Unit × (Int × Unit) × Unit) × Unit) :=
  bif x == 0 then
    some ((true, ()), ((), (vars, ()), ()), ())
  else
    gd (inK IntKind.i64 (0 - vars)) <|
    bif bif false then true else decide (x < 0 - vars) then
      some ((true, ()), ((), (vars, ()), ()), ())
    else
      some ((bif false then true else decide (x > vars), ()), ((), (vars, ()), ()), ())

def IndexFunc_ownF (nn : Nat)  (s : List Int) (vars : Int) : Option ((Int × Unit) × (Unit × (Int × Unit) × Unit) × Unit) :=
  iterO (X := Int × Int) (fun y0 =>
    bif decide (y0.1 < nI s.length) then
      gd (0 ≤ y0.1) <|
      gd (y0.1 < nI s.length) <|
      bindO (ownC (getI s y0.1) y0.2) fun y1 =>
      bif y1.1.1 then
        some (Sum.inr ((y0.1, ()), ((), (y1.2.1.2.1.1, ()), ()), ()))
      else
        gd (inK IntKind.i64 (y0.1 + 1)) <|
        some (Sum.inl (y0.1 + 1, y1.2.1.2.1.1))
    else
      some (Sum.inr ((-1, ()), ((), (y0.2, ()), ()), ()))) (nn) (0, vars)

def IndexFunc_own (s : List Int) (vars : Int) : Option ((Int × Unit) × (Unit × (Int × Unit) × Unit) × Unit) := IndexFunc_ownF fuelN s vars

def ContainsFunc_own (s : List Int) (vars : Int) : Option ((Bool × Unit) × (Unit × (Int × Unit) × Unit) × Unit) :=
  bindO (IndexFunc_own s vars) fun y0 =>
  some ((decide (y0.1.1 ≥ 0), ()), ((), (y0.2.1.2.1.1, ()), ()), ())

def own (l : List Int) (vars : Int) : Option ((Bool × Unit) × ((Int × Unit) × Unit) × Unit) :=
  bindO (ContainsFunc_own l vars) fun y0 =>
  some ((!y0.1.1, ()), ((y0.2.1.2.1.1, ()), ()), ())

def Index_F (nn : Nat)  (s : List Int) (v : Int) : Option ((Int × Unit) × Unit × Unit) :=
  iterO (X := Int) (fun y0 =>
    bif decide (y0 < nI s.length) then
      gd (0 ≤ y0) <|
      gd (y0 < nI s.length) <|
      bif v == getI s y0 then
        some (Sum.inr ((y0, ()), (), ()))
      else
        gd (inK IntKind.i64 (y0 + 1)) <|
        some (Sum.inl (y0 + 1))
    else
      some (Sum.inr ((-1, ()), (), ()))) (nn) 0

def Index_ (s : List Int) (v : Int) : Option ((Int × Unit) × Unit × Unit) := Index_F fuelN s v

def Contains_ (s : List Int) (v : Int) : Option ((Bool × Unit) × Unit × Unit) :=
  bindO (Index_ s v) fun y0 =>
  some ((decide (y0.1.1 ≥ 0), ()), (), ())

def pickF (nn : Nat)  (vars : Int) (is : List Int) (old : List Int) (hot : List Int) (warm : List Int) (cold : Int) : Option ((Int × Unit) × ((Int × List Int × List Int × List Int × List Int × Int × Unit) × Unit) × Unit) :=
  iterO (X := Int × Int) (fun y0 =>
    bif decide (y0.2 < nI warm.length) then
      gd (0 ≤ y0.2) <|
      gd (y0.2 < nI warm.length) <|
      gd (0 ≤ getI warm y0.2) <|
      gd (getI warm y0.2 < nI is.length) <|
      bif getI is (getI warm y0.2) == 0 then
        bif y0.1 == 0 then
          gd (inK IntKind.i64 (y0.2 + 1)) <|
          some (Sum.inl (getI warm y0.2, y0.2 + 1))
        else
          gd (0 ≤ getI warm y0.2) <|
          gd (getI warm y0.2 < nI hot.length) <|
          gd (0 ≤ y0.1) <|
          gd (y0.1 < nI hot.length) <|
          bif bif false then true else decide (getI hot (getI warm y0.2) > getI hot y0.1) then
            gd (inK IntKind.i64 (y0.2 + 1)) <|
            some (Sum.inl (getI warm y0.2, y0.2 + 1))
          else
            gd (0 ≤ getI warm y0.2) <|
            gd (getI warm y0.2 < nI hot.length) <|
            gd (0 ≤ y0.1) <|
            gd (y0.1 < nI hot.length) <|
            bif getI hot (getI warm y0.2) == getI hot y0.1 then
              bif bif true then bif false then true else bif true then decide (getI warm y0.2 < y0.1) else false else false then
                gd (inK IntKind.i64 (y0.2 + 1)) <|
                some (Sum.inl (getI warm y0.2, y0.2 + 1))
              else
                gd (inK IntKind.i64 (y0.2 + 1)) <|
                some (Sum.inl (y0.1, y0.2 + 1))
            else
              gd (inK IntKind.i64 (y0.2 + 1)) <|
              some (Sum.inl (y0.1, y0.2 + 1))
      else
        gd (inK IntKind.i64 (y0.2 + 1)) <|
        some (Sum.inl (y0.1, y0.2 + 1))
    else
      iterO (X := Int × Int × List Int × List Int × List Int × List Int × Int) (fun y1 =>
        bif y1.1 == 0 then
          bif bif true then decide (y1.2.2.2.2.2.2 ≤ y1.2.1) else false then
            gd (0 ≤ y1.2.2.2.2.2.2) <|
            gd (y1.2.2.2.2.2.2 < nI y1.2.2.1.length) <|
            bif getI y1.2.2.1 y1.2.2.2.2.2.2 == 0 then
              gd (0 ≤ y1.2.2.2.2.2.2) <|
              gd (y1.2.2.2.2.2.2 < nI y1.2.2.2.2.1.length) <|
              bif bif true then getI y1.2.2.2.2.1 y1.2.2.2.2.2.2 == 0 else false then
                gd (inK IntKind.i64 (y1.2.2.2.2.2.2 + 1)) <|
                some (Sum.inl (y1.2.2.2.2.2.2, y1.2.1, y1.2.2.1, y1.2.2.2.1, y1.2.2.2.2.1, y1.2.2.2.2.2.1, y1.2.2.2.2.2.2 + 1))
              else
                gd (inK IntKind.i64 (y1.2.2.2.2.2.2 + 1)) <|
                some (Sum.inl (y1.1, y1.2.1, y1.2.2.1, y1.2.2.2.1, y1.2.2.2.2.1, y1.2.2.2.2.2.1, y1.2.2.2.2.2.2 + 1))
            else
              gd (inK IntKind.i64 (y1.2.2.2.2.2.2 + 1)) <|
              some (Sum.inl (y1.1, y1.2.1, y1.2.2.1, y1.2.2.2.1, y1.2.2.2.2.1, y1.2.2.2.2.2.1, y1.2.2.2.2.2.2 + 1))
          else
            bif decide (y1.1 > 0) then
              gd (0 ≤ y1.1) <|
              gd (y1.1 < nI y1.2.2.2.1.length) <|
              bif bif true then getI y1.2.2.2.1 y1.1 == 1 else false then
                some (Sum.inr (Sum.inr ((y1.1, ()), ((y1.2.1, y1.2.2.1, y1.2.2.2.1, y1.2.2.2.2.1, y1.2.2.2.2.2.1, y1.2.2.2.2.2.2, ()), ()), ())))
              else
                gd (inK IntKind.i64 (0 - y1.1)) <|
                some (Sum.inr (Sum.inr ((0 - y1.1, ()), ((y1.2.1, y1.2.2.1, y1.2.2.2.1, y1.2.2.2.2.1, y1.2.2.2.2.2.1, y1.2.2.2.2.2.2, ()), ()), ())))
            else
              gd (inK IntKind.i64 (0 - y1.1)) <|
              some (Sum.inr (Sum.inr ((0 - y1.1, ()), ((y1.2.1, y1.2.2.1, y1.2.2.2.1, y1.2.2.2.2.1, y1.2.2.2.2.2.1, y1.2.2.2.2.2.2, ()), ()), ())))
        else
          bif decide (y1.1 > 0) then
            gd (0 ≤ y1.1) <|
            gd (y1.1 < nI y1.2.2.2.1.length) <|
            bif bif true then getI y1.2.2.2.1 y1.1 == 1 else false then
              some (Sum.inr (Sum.inr ((y1.1, ()), ((y1.2.1, y1.2.2.1, y1.2.2.2.1, y1.2.2.2.2.1, y1.2.2.2.2.2.1, y1.2.2.2.2.2.2, ()), ()), ())))
            else
              gd (inK IntKind.i64 (0 - y1.1)) <|
              some (Sum.inr (Sum.inr ((0 - y1.1, ()), ((y1.2.1, y1.2.2.1, y1.2.2.2.1, y1.2.2.2.2.1, y1.2.2.2.2.2.1, y1.2.2.2.2.2.2, ()), ()), ())))
          else
            gd (inK IntKind.i64 (0 - y1.1)) <|
            some (Sum.inr (Sum.inr ((0 - y1.1, ()), ((y1.2.1, y1.2.2.1, y1.2.2.2.1, y1.2.2.2.2.1, y1.2.2.2.2.2.1, y1.2.2.2.2.2.2, ()), ()), ())))) (nn) (y0.1, vars, is, old, hot, warm, cold)) (nn) (0, 0)

def pick (vars : Int) (is : List Int) (old : List Int) (hot : List Int) (warm : List Int) (cold : Int) : Option ((Int × Unit) × ((Int × List Int × List Int × List Int × List Int × Int × Unit) × Unit) × Unit) := pickF fuelN vars is old hot warm cold

def Clone_ (s : List Int) : Option ((List Int × Unit) × Unit × Unit) :=
  gd ((([] : List Int).length + s.length) * 8 ≤ lim) <|
  gd (([] : List Int).length + s.length ≤ lim) <|
  some ((s, ()), (), ())

end GoSx
end
section
/- Models of functions: what they compute, if all goes well: SatC. -/
namespace GoSx
open Go
def more (l : List Int) (n : Int) : Option ((List Int × Unit) × Unit × Unit) :=
  gd (inK IntKind.i64 (n - nI l.length)) <|
  gd (0 ≤ n - nI l.length) <|
  gd ((l.length + Int.toNat (n - nI l.length)) * 8 ≤ lim) <|
  gd (l.length + Int.toNat (n - nI l.length) ≤ lim) <|
  some ((l ++ List.replicate (Int.toNat (n - nI l.length)) 0, ()), (), ())

def grow (n : Int) (vars : Int) (watch : List (List Int)) (is : List Int) (depth : List Int) (why : List Int) (old : List Int) (hot : List Int) : Option (Unit × ((Int × List (List Int) × List Int × List Int × List Int × List Int × List Int × Unit) × Unit) × Unit) :=
  gd (inK IntKind.i64 (n + 1)) <|
  bindO (more is (n + 1)) fun y0 =>
  gd (inK IntKind.i64 (n + 1)) <|
  bindO (more depth (n + 1)) fun y1 =>
  gd (inK IntKind.i64 (n + 1)) <|
  bindO (more why (n + 1)) fun y2 =>
  gd (inK IntKind.i64 (n + 1)) <|
  bindO (more old (n + 1)) fun y3 =>
  gd (inK IntKind.i64 (n + 1)) <|
  bindO (more hot (n + 1)) fun y4 =>
  gd (inK IntKind.i64 (2 * n)) <|
  gd (inK IntKind.i64 (2 * n + 2)) <|
  gd (inK IntKind.i64 (2 * n + 2 - nI watch.length)) <|
  gd (0 ≤ 2 * n + 2 - nI watch.length) <|
  gd ((watch.length + Int.toNat (2 * n + 2 - nI watch.length)) * 24 ≤ lim) <|
  gd (watch.length + Int.toNat (2 * n + 2 - nI watch.length) ≤ lim) <|
  some ((), ((n, watch ++ List.replicate (Int.toNat (2 * n + 2 - nI watch.length)) [], y0.1.1, y1.1.1, y2.1.1, y3.1.1, y4.1.1, ()), ()), ())

def New (n : Int) : Option (Unit × Unit × (Int × List (List Int) × List (List Int) × List Int × List Int × List Int × List Int × List Int × List Int × Int × List Int × List Int × Int × Bool × List (List Int) × Int × List Int × List Bool × Unit) × Unit) :=
  bindO (grow (min2 (max2 n 0) 1048576) 0 [] [] [] [] [] []) fun y0 =>
  some ((), (), (y0.2.1.1.1, [], y0.2.1.1.2.1, y0.2.1.1.2.2.1, y0.2.1.1.2.2.2.1, y0.2.1.1.2.2.2.2.1, y0.2.1.1.2.2.2.2.2.1, y0.2.1.1.2.2.2.2.2.2.1, [], 1, [], [], 0, false, [], 0, [], [], ()), ())

def Grow (n : Int) (vars : Int) (watch : List (List Int)) (is : List Int) (depth : List Int) (why : List Int) (old : List Int) (hot : List Int) (answer : Int) (core : List Int) (model : List Bool) : Option (Unit × ((Int × List (List Int) × List Int × List Int × List Int × List Int × List Int × Int × List Int × List Bool × Unit) × Unit) × Unit) :=
  bindO (forget answer core model) fun y0 =>
  bif decide (n > vars) then
    bif bif true then decide (n ≤ 1048576) else false then
      bindO (grow n vars watch is depth why old hot) fun y1 =>
      some ((), ((y1.2.1.1.1, y1.2.1.1.2.1, y1.2.1.1.2.2.1, y1.2.1.1.2.2.2.1, y1.2.1.1.2.2.2.2.1, y1.2.1.1.2.2.2.2.2.1, y1.2.1.1.2.2.2.2.2.2.1, y0.2.1.1.1, y0.2.1.1.2.1, y0.2.1.1.2.2.1, ()), ()), ())
    else
      some ((), ((vars, watch, is, depth, why, old, hot, y0.2.1.1.1, y0.2.1.1.2.1, y0.2.1.1.2.2.1, ()), ()), ())
  else
    some ((), ((vars, watch, is, depth, why, old, hot, y0.2.1.1.1, y0.2.1.1.2.1, y0.2.1.1.2.2.1, ()), ()), ())

def AddF (nn : Nat)  (c : List Int) (vars : Int) (all : List (List Int)) (watch : List (List Int)) (is : List Int) (depth : List Int) (why : List Int) (old : List Int) (cold : Int) (row : List Int) (begin : List Int) (done : Int) (empty : Bool) (answer : Int) (core : List Int) (model : List Bool) : Option (Unit × ((Int × List (List Int) × List (List Int) × List Int × List Int × List Int × List Int × Int × List Int × List Int × Int × Bool × Int × List Int × List Bool × Unit) × Unit) × Unit) :=
  bindO (forget answer core model) fun y0 =>
  bindO (own c vars) fun y1 =>
  bif !y1.1.1 then
    some ((), ((y1.2.1.1.1, all, watch, is, depth, why, old, cold, row, begin, done, empty, y0.2.1.1.1, y0.2.1.1.2.1, y0.2.1.1.2.2.1, ()), ()), ())
  else
    bindO (back 0 is old cold row begin done) fun y2 =>
    iterO (X := Int × (Int × Int × Int × Bool × Int) × List Int) (fun y3 =>
      bif decide (y3.1 < nI c.length) then
        gd (0 ≤ y3.1) <|
        gd (y3.1 < nI c.length) <|
        bindO (value (getI c y3.1) y2.2.1.1.1) fun y4 =>
        bif y4.1.1 == 1 then
          some (Sum.inr ((), ((y3.2.1.1, all, watch, y2.2.1.1.1, depth, why, y2.2.1.1.2.1, y3.2.1.2.1, y2.2.1.1.2.2.2.1, y2.2.1.1.2.2.2.2.1, y3.2.1.2.2.1, y3.2.1.2.2.2.1, y3.2.1.2.2.2.2, y0.2.1.1.2.1, y0.2.1.1.2.2.1, ()), ()), ()))
        else
          gd (inK IntKind.i64 (0 - getI c y3.1)) <|
          bindO (Contains_ c (0 - getI c y3.1)) fun y5 =>
          bif bif false then true else y5.1.1 then
            some (Sum.inr ((), ((y3.2.1.1, all, watch, y2.2.1.1.1, depth, why, y2.2.1.1.2.1, y3.2.1.2.1, y2.2.1.1.2.2.2.1, y2.2.1.1.2.2.2.2.1, y3.2.1.2.2.1, y3.2.1.2.2.2.1, y3.2.1.2.2.2.2, y0.2.1.1.2.1, y0.2.1.1.2.2.1, ()), ()), ()))
          else
            bindO (value (getI c y3.1) y2.2.1.1.1) fun y6 =>
            bif y6.1.1 == 0 then
              bindO (Contains_ y3.2.2 (getI c y3.1)) fun y7 =>
              bif bif true then !y7.1.1 else false then
                gd ((y3.2.2.length + [getI c y3.1].length) * 8 ≤ lim) <|
                gd (y3.2.2.length + [getI c y3.1].length ≤ lim) <|
                gd (inK IntKind.i64 (y3.1 + 1)) <|
                some (Sum.inl (y3.1 + 1, (y3.2.1.1, y3.2.1.2.1, y3.2.1.2.2.1, y3.2.1.2.2.2.1, y3.2.1.2.2.2.2), y3.2.2 ++ [getI c y3.1]))
              else
                gd (inK IntKind.i64 (y3.1 + 1)) <|
                some (Sum.inl (y3.1 + 1, (y3.2.1.1, y3.2.1.2.1, y3.2.1.2.2.1, y3.2.1.2.2.2.1, y3.2.1.2.2.2.2), y3.2.2))
            else
              gd (inK IntKind.i64 (y3.1 + 1)) <|
              some (Sum.inl (y3.1 + 1, (y3.2.1.1, y3.2.1.2.1, y3.2.1.2.2.1, y3.2.1.2.2.2.1, y3.2.1.2.2.2.2), y3.2.2))
      else
        bif nI y3.2.2.length == 0 then
          some (Sum.inr ((), ((y3.2.1.1, all, watch, y2.2.1.1.1, depth, why, y2.2.1.1.2.1, y3.2.1.2.1, y2.2.1.1.2.2.2.1, y2.2.1.1.2.2.2.2.1, y3.2.1.2.2.1, true, y3.2.1.2.2.2.2, y0.2.1.1.2.1, y0.2.1.1.2.2.1, ()), ()), ()))
        else
          bif nI y3.2.2.length == 1 then
            gd (0 < nI y3.2.2.length) <|
            bindO (set_ (getI y3.2.2 0) (-1) y2.2.1.1.1 depth why y2.2.1.1.2.2.2.1 y2.2.1.1.2.2.2.2.1) fun y4 =>
            some (Sum.inr ((), ((y3.2.1.1, all, watch, y4.2.1.1.1, y4.2.1.1.2.1, y4.2.1.1.2.2.1, y2.2.1.1.2.1, y3.2.1.2.1, y4.2.1.1.2.2.2.1, y2.2.1.1.2.2.2.2.1, y3.2.1.2.2.1, y3.2.1.2.2.2.1, y3.2.1.2.2.2.2, y0.2.1.1.2.1, y0.2.1.1.2.2.1, ()), ()), ()))
          else
            bindO (keep y3.2.2 all 0 watch) fun y4 =>
            some (Sum.inr ((), ((y3.2.1.1, y4.2.1.1.1.set y4.2.1.1.2.1.toNat y3.2.2, y4.2.1.1.2.2.1, y2.2.1.1.1, depth, why, y2.2.1.1.2.1, y3.2.1.2.1, y2.2.1.1.2.2.2.1, y2.2.1.1.2.2.2.2.1, y3.2.1.2.2.1, y3.2.1.2.2.2.1, y3.2.1.2.2.2.2, y0.2.1.1.2.1, y0.2.1.1.2.2.1, ()), ()), ()))) (nn) (0, (y1.2.1.1.1, y2.2.1.1.2.2.1, y2.2.1.1.2.2.2.2.2.1, empty, y0.2.1.1.1), [])

def Add (c : List Int) (vars : Int) (all : List (List Int)) (watch : List (List Int)) (is : List Int) (depth : List Int) (why : List Int) (old : List Int) (cold : Int) (row : List Int) (begin : List Int) (done : Int) (empty : Bool) (answer : Int) (core : List Int) (model : List Bool) : Option (Unit × ((Int × List (List Int) × List (List Int) × List Int × List Int × List Int × List Int × Int × List Int × List Int × Int × Bool × Int × List Int × List Bool × Unit) × Unit) × Unit) := AddF fuelN c vars all watch is depth why old cold row begin done empty answer core model

def Core (core : List Int) : Option ((List Int × Unit) × ((List Int × Unit) × Unit) × Unit) :=
  bindO (Clone_ core) fun y0 =>
  some ((y0.1.1, ()), ((core, ()), ()), ())

def ProofF (nn : Nat)  (proof : List (List Int)) (answer : Int) : Option ((List (List Int) × Unit) × ((List (List Int) × Int × Unit) × Unit) × Unit) :=
  bif answer != 2 then
    some (([], ()), ((proof, answer, ()), ()), ())
  else
    iterO (X := Int × List (List Int)) (fun y0 =>
      bif decide (y0.1 < nI proof.length) then
        gd (0 ≤ y0.1) <|
        gd (y0.1 < nI proof.length) <|
        bindO (Clone_ (getL proof y0.1)) fun y1 =>
        gd ((y0.2.length + [y1.1.1].length) * 24 ≤ lim) <|
        gd (y0.2.length + [y1.1.1].length ≤ lim) <|
        gd (inK IntKind.i64 (y0.1 + 1)) <|
        some (Sum.inl (y0.1 + 1, y0.2 ++ [y1.1.1]))
      else
        some (Sum.inr ((y0.2, ()), ((proof, answer, ()), ()), ()))) (nn) (0, [])

def Proof (proof : List (List Int)) (answer : Int) : Option ((List (List Int) × Unit) × ((List (List Int) × Int × Unit) × Unit) × Unit) := ProofF fuelN proof answer

def blameF (nn : Nat)  (x : Int) (all : List (List Int)) (why : List Int) (row : List Int) (begin : List Int) : Option ((List Int × Unit) × ((List (List Int) × List Int × List Int × List Int × Unit) × Unit) × Unit) :=
  bindO (size x) fun y0 =>
  gd (inK IntKind.i64 (nI row.length - 1)) <|
  iterO (X := Int × List (List Int) × List Int × List Int × List (Int × Bool)) (fun y1 =>
    bif decide (y1.1 ≥ 0) then
      bif bif true then decide (nI begin.length > 0) else false then
        gd (0 < nI begin.length) <|
        bif bif true then decide (y1.1 ≥ getI begin 0) else false then
          gd (0 ≤ y1.1) <|
          gd (y1.1 < nI row.length) <|
          bindO (size (getI row y1.1)) fun y2 =>
          bif !mapGet Ty.bool.dflt y1.2.2.2.2 y2.1.1 then
            gd (inK IntKind.i64 (y1.1 - 1)) <|
            some (Sum.inl (y1.1 - 1, y1.2.1, y1.2.2.1, y1.2.2.1, y1.2.2.2.2))
          else
            bindO (size (getI row y1.1)) fun y3 =>
            gd (0 ≤ y3.1.1) <|
            gd (y3.1.1 < nI why.length) <|
            bif getI why y3.1.1 == -1 then
              gd ((y1.2.2.1.length + [getI row y1.1].length) * 8 ≤ lim) <|
              gd (y1.2.2.1.length + [getI row y1.1].length ≤ lim) <|
              gd (inK IntKind.i64 (y1.1 - 1)) <|
              some (Sum.inl (y1.1 - 1, y1.2.1, y1.2.2.1 ++ [getI row y1.1], y1.2.2.1 ++ [getI row y1.1], y1.2.2.2.2))
            else
              bindO (size (getI row y1.1)) fun y4 =>
              gd (0 ≤ y4.1.1) <|
              gd (y4.1.1 < nI why.length) <|
              gd (0 ≤ getI why y4.1.1) <|
              gd (getI why y4.1.1 < nI y1.2.1.length) <|
              iterO (X := Int × List (Int × Bool)) (fun y5 =>
                bif decide (y5.1 < nI (List.length (getL y1.2.1 (getI why y4.1.1)))) then
                  gd (0 ≤ y5.1) <|
                  gd (y5.1 < nI (List.length (getL y1.2.1 (getI why y4.1.1)))) <|
                  bindO (size (getI (getL y1.2.1 (getI why y4.1.1)) y5.1)) fun y6 =>
                  gd (y5.2.length < lim) <|
                  gd (inK IntKind.i64 (y5.1 + 1)) <|
                  some (Sum.inl (y5.1 + 1, mapSet true y5.2 y6.1.1))
                else
                  gd (inK IntKind.i64 (y1.1 - 1)) <|
                  some (Sum.inr (Sum.inl (y1.1 - 1, y1.2.1.set (Int.toNat (getI why y4.1.1)) (getL y1.2.1 (getI why y4.1.1)), y1.2.2.1, y1.2.2.1, y5.2)))) (nn) (0, y1.2.2.2.2)
        else
          some (Sum.inr ((y1.2.2.1, ()), ((y1.2.1, why, row, begin, ()), ()), ()))
      else
        some (Sum.inr ((y1.2.2.1, ()), ((y1.2.1, why, row, begin, ()), ()), ()))
    else
      some (Sum.inr ((y1.2.2.1, ()), ((y1.2.1, why, row, begin, ()), ()), ()))) (nn) (nI row.length - 1, all, [x], [x], mapSet true [] y0.1.1)

def blame (x : Int) (all : List (List Int)) (why : List Int) (row : List Int) (begin : List Int) : Option ((List Int × Unit) × ((List (List Int) × List Int × List Int × List Int × Unit) × Unit) × Unit) := blameF fuelN x all why row begin

def learnF (nn : Nat)  (n : Int) (all : List (List Int)) (is : List Int) (depth : List Int) (why : List Int) (hot : List Int) (warm : List Int) (row : List Int) (begin : List Int) : Option ((List Int × Int × Unit) × ((List (List Int) × List Int × List Int × List Int × List Int × List Int × List Int × List Int × Unit) × Unit) × Unit) :=
  gd (0 ≤ n) <|
  gd (n < nI all.length) <|
  iterO (X := (Int × Int) × (List Int × List Int × List Int × List Int × List Int) × (List (List Int) × Int) × List Int × List Int × List Int × List Int × List (Int × Bool) × List Int) (fun y0 =>
    iterO (X := (Int × Int) × (List Int × List Int × List Int × List Int × List Int) × List Int × List Int × List (Int × Bool) × List Int × List Int) (fun y1 =>
      bif decide (y1.1.1 < nI y0.2.2.2.1.length) then
        gd (0 ≤ y1.1.1) <|
        gd (y1.1.1 < nI y0.2.2.2.1.length) <|
        bindO (size (getI y0.2.2.2.1 y1.1.1)) fun y2 =>
        bif mapGet Ty.bool.dflt y1.2.2.2.2.1 y2.1.1 then
          gd (inK IntKind.i64 (y1.1.1 + 1)) <|
          some (Sum.inl ((y1.1.1 + 1, y1.1.2), (y1.2.1.1, y1.2.1.2.1, y1.2.1.2.2.1, y1.2.1.2.2.2.1, y1.2.1.2.2.2.2), y1.2.2.1, y1.2.2.2.1, y1.2.2.2.2.1, y1.2.2.2.2.2.1, y1.2.2.2.2.2.1))
        else
          bindO (value (getI y0.2.2.2.1 y1.1.1) y1.2.1.1) fun y3 =>
          bif bif false then true else y3.1.1 != -1 then
            gd (inK IntKind.i64 (y1.1.1 + 1)) <|
            some (Sum.inl ((y1.1.1 + 1, y1.1.2), (y1.2.1.1, y1.2.1.2.1, y1.2.1.2.2.1, y1.2.1.2.2.2.1, y1.2.1.2.2.2.2), y1.2.2.1, y1.2.2.2.1, y1.2.2.2.2.1, y1.2.2.2.2.2.1, y1.2.2.2.2.2.1))
          else
            gd (0 ≤ y2.1.1) <|
            gd (y2.1.1 < nI y1.2.1.2.1.length) <|
            bif bif false then true else getI y1.2.1.2.1 y2.1.1 == 0 then
              gd (inK IntKind.i64 (y1.1.1 + 1)) <|
              some (Sum.inl ((y1.1.1 + 1, y1.1.2), (y1.2.1.1, y1.2.1.2.1, y1.2.1.2.2.1, y1.2.1.2.2.2.1, y1.2.1.2.2.2.2), y1.2.2.1, y1.2.2.2.1, y1.2.2.2.2.1, y1.2.2.2.2.2.1, y1.2.2.2.2.2.1))
            else
              gd (y1.2.2.2.2.1.length < lim) <|
              gd (0 ≤ y2.1.1) <|
              gd (y2.1.1 < nI y1.2.2.1.length) <|
              bif getI y1.2.2.1 y2.1.1 == 0 then
                gd ((y1.2.2.2.1.length + [y2.1.1].length) * 8 ≤ lim) <|
                gd (y1.2.2.2.1.length + [y2.1.1].length ≤ lim) <|
                gd (0 ≤ y2.1.1) <|
                gd (y2.1.1 < nI y1.2.2.1.length) <|
                gd (inK IntKind.i64 (getI y1.2.2.1 y2.1.1 + 1)) <|
                gd (0 ≤ y2.1.1) <|
                gd (y2.1.1 < nI y1.2.2.1.length) <|
                gd (0 ≤ y2.1.1) <|
                gd (y2.1.1 < nI y1.2.1.2.1.length) <|
                bif getI y1.2.1.2.1 y2.1.1 == nI y1.2.1.2.2.2.2.length then
                  gd (inK IntKind.i64 (y1.1.2 + 1)) <|
                  gd (inK IntKind.i64 (y1.1.1 + 1)) <|
                  some (Sum.inl ((y1.1.1 + 1, y1.1.2 + 1), (y1.2.1.1, y1.2.1.2.1, y1.2.1.2.2.1, y1.2.1.2.2.2.1, y1.2.1.2.2.2.2), y1.2.2.1.set y2.1.1.toNat (getI y1.2.2.1 y2.1.1 + 1), y1.2.2.2.1 ++ [y2.1.1], mapSet true y1.2.2.2.2.1 y2.1.1, y1.2.2.2.2.2.1, y1.2.2.2.2.2.1))
                else
                  gd ((y1.2.2.2.2.2.1.length + [getI y0.2.2.2.1 y1.1.1].length) * 8 ≤ lim) <|
                  gd (y1.2.2.2.2.2.1.length + [getI y0.2.2.2.1 y1.1.1].length ≤ lim) <|
                  gd (inK IntKind.i64 (y1.1.1 + 1)) <|
                  some (Sum.inl ((y1.1.1 + 1, y1.1.2), (y1.2.1.1, y1.2.1.2.1, y1.2.1.2.2.1, y1.2.1.2.2.2.1, y1.2.1.2.2.2.2), y1.2.2.1.set y2.1.1.toNat (getI y1.2.2.1 y2.1.1 + 1), y1.2.2.2.1 ++ [y2.1.1], mapSet true y1.2.2.2.2.1 y2.1.1, y1.2.2.2.2.2.1 ++ [getI y0.2.2.2.1 y1.1.1], y1.2.2.2.2.2.1 ++ [getI y0.2.2.2.1 y1.1.1]))
              else
                gd (0 ≤ y2.1.1) <|
                gd (y2.1.1 < nI y1.2.2.1.length) <|
                gd (inK IntKind.i64 (getI y1.2.2.1 y2.1.1 + 1)) <|
                gd (0 ≤ y2.1.1) <|
                gd (y2.1.1 < nI y1.2.2.1.length) <|
                gd (0 ≤ y2.1.1) <|
                gd (y2.1.1 < nI y1.2.1.2.1.length) <|
                bif getI y1.2.1.2.1 y2.1.1 == nI y1.2.1.2.2.2.2.length then
                  gd (inK IntKind.i64 (y1.1.2 + 1)) <|
                  gd (inK IntKind.i64 (y1.1.1 + 1)) <|
                  some (Sum.inl ((y1.1.1 + 1, y1.1.2 + 1), (y1.2.1.1, y1.2.1.2.1, y1.2.1.2.2.1, y1.2.1.2.2.2.1, y1.2.1.2.2.2.2), y1.2.2.1.set y2.1.1.toNat (getI y1.2.2.1 y2.1.1 + 1), y1.2.2.2.1, mapSet true y1.2.2.2.2.1 y2.1.1, y1.2.2.2.2.2.1, y1.2.2.2.2.2.1))
                else
                  gd ((y1.2.2.2.2.2.1.length + [getI y0.2.2.2.1 y1.1.1].length) * 8 ≤ lim) <|
                  gd (y1.2.2.2.2.2.1.length + [getI y0.2.2.2.1 y1.1.1].length ≤ lim) <|
                  gd (inK IntKind.i64 (y1.1.1 + 1)) <|
                  some (Sum.inl ((y1.1.1 + 1, y1.1.2), (y1.2.1.1, y1.2.1.2.1, y1.2.1.2.2.1, y1.2.1.2.2.2.1, y1.2.1.2.2.2.2), y1.2.2.1.set y2.1.1.toNat (getI y1.2.2.1 y2.1.1 + 1), y1.2.2.2.1, mapSet true y1.2.2.2.2.1 y2.1.1, y1.2.2.2.2.2.1 ++ [getI y0.2.2.2.1 y1.1.1], y1.2.2.2.2.2.1 ++ [getI y0.2.2.2.1 y1.1.1]))
      else
        gd (inK IntKind.i64 (y0.1.2 - 1)) <|
        iterO (X := Int) (fun y2 =>
          gd (0 ≤ y2) <|
          gd (y2 < nI y1.2.1.2.2.2.1.length) <|
          bindO (size (getI y1.2.1.2.2.2.1 y2)) fun y3 =>
          bif !mapGet Ty.bool.dflt y1.2.2.2.2.1 y3.1.1 then
            gd (inK IntKind.i64 (y2 - 1)) <|
            some (Sum.inl (y2 - 1))
          else
            gd (0 ≤ y2) <|
            gd (y2 < nI y1.2.1.2.2.2.1.length) <|
            gd (inK IntKind.i64 (y1.1.2 - 1)) <|
            bif y1.1.2 - 1 == 0 then
              gd (inK IntKind.i64 (0 - getI y1.2.1.2.2.2.1 y2)) <|
              gd (0 < nI y1.2.2.2.2.2.1.length) <|
              iterO (X := (Int × Int) × List Int) (fun y4 =>
                bif decide (y4.1.2 < nI y4.2.length) then
                  gd (0 ≤ y4.1.2) <|
                  gd (y4.1.2 < nI y4.2.length) <|
                  bindO (size (getI y4.2 y4.1.2)) fun y5 =>
                  gd (0 ≤ y5.1.1) <|
                  gd (y5.1.1 < nI y1.2.1.2.1.length) <|
                  bif decide (getI y1.2.1.2.1 y5.1.1 > y4.1.1) then
                    gd (0 ≤ y4.1.2) <|
                    gd (y4.1.2 < nI y4.2.length) <|
                    gd (1 < nI y4.2.length) <|
                    gd (1 < nI y4.2.length) <|
                    gd (0 ≤ y4.1.2) <|
                    gd (y4.1.2 < nI (y4.2.set 1 (getI y4.2 y4.1.2)).length) <|
                    gd (inK IntKind.i64 (y4.1.2 + 1)) <|
                    some (Sum.inl ((getI y1.2.1.2.1 y5.1.1, y4.1.2 + 1), (y4.2.set 1 (getI y4.2 y4.1.2)).set y4.1.2.toNat (getI y4.2 1)))
                  else
                    gd (inK IntKind.i64 (y4.1.2 + 1)) <|
                    some (Sum.inl ((y4.1.1, y4.1.2 + 1), y4.2))
                else
                  some (Sum.inr (Sum.inr (Sum.inr (Sum.inr ((y4.2, y4.1.1, ()), ((y0.2.2.1.1.set y0.2.2.1.2.toNat y0.2.2.2.1, y1.2.1.1, y1.2.1.2.1, y1.2.1.2.2.1, y1.2.2.1, y1.2.2.2.1, y1.2.1.2.2.2.1, y1.2.1.2.2.2.2, ()), ()), ())))))) (nn) ((0, 1), y1.2.2.2.2.2.1.set 0 (0 - getI y1.2.1.2.2.2.1 y2))
            else
              bindO (size (getI y1.2.1.2.2.2.1 y2)) fun y4 =>
              gd (0 ≤ y4.1.1) <|
              gd (y4.1.1 < nI y1.2.1.2.2.1.length) <|
              gd (0 ≤ getI y1.2.1.2.2.1 y4.1.1) <|
              gd (getI y1.2.1.2.2.1 y4.1.1 < nI y0.2.2.1.1.length) <|
              some (Sum.inr (Sum.inr (Sum.inl ((y1.1.2 - 1, y2), (y1.2.1.1, y1.2.1.2.1, y1.2.1.2.2.1, y1.2.1.2.2.2.1, y1.2.1.2.2.2.2), (y0.2.2.1.1.set y0.2.2.1.2.toNat y0.2.2.2.1, getI y1.2.1.2.2.1 y4.1.1), getL (y0.2.2.1.1.set y0.2.2.1.2.toNat y0.2.2.2.1) (getI y1.2.1.2.2.1 y4.1.1), getL (y0.2.2.1.1.set y0.2.2.1.2.toNat y0.2.2.2.1) (getI y1.2.1.2.2.1 y4.1.1), y1.2.2.1, y1.2.2.2.1, y1.2.2.2.2.1, y1.2.2.2.2.2.1))))) (nn) (y0.1.2 - 1)) (nn) ((0, y0.1.1), (y0.2.1.1, y0.2.1.2.1, y0.2.1.2.2.1, y0.2.1.2.2.2.1, y0.2.1.2.2.2.2), y0.2.2.2.2.2.1, y0.2.2.2.2.2.2.1, y0.2.2.2.2.2.2.2.1, y0.2.2.2.2.2.2.2.2, y0.2.2.2.2.2.2.2.2)) (nn) ((0, nI row.length), (is, depth, why, row, begin), (all, n), getL all n, getL all n, hot, warm, [], [0])

def learn (n : Int) (all : List (List Int)) (is : List Int) (depth : List Int) (why : List Int) (hot : List Int) (warm : List Int) (row : List Int) (begin : List Int) : Option ((List Int × Int × Unit) × ((List (List Int) × List Int × List Int × List Int × List Int × List Int × List Int × List Int × Unit) × Unit) × Unit) := learnF fuelN n all is depth why hot warm row begin

def unitF (nn : Nat)  (all : List (List Int)) (watch : List (List Int)) (is : List Int) (depth : List Int) (why : List Int) (row : List Int) (begin : List Int) (done : Int) : Option ((Int × Unit) × ((List (List Int) × List (List Int) × List Int × List Int × List Int × List Int × List Int × Int × Unit) × Unit) × Unit) :=
  iterO (X := (List Int × Int) × List (List Int) × List (List Int) × List Int × List Int × List Int × List Int) (fun y0 =>
    bif decide (y0.1.2 < nI y0.2.2.2.2.2.2.length) then
      gd (0 ≤ y0.1.2) <|
      gd (y0.1.2 < nI y0.2.2.2.2.2.2.length) <|
      gd (inK IntKind.i64 (0 - getI y0.2.2.2.2.2.2 y0.1.2)) <|
      gd (inK IntKind.i64 (y0.1.2 + 1)) <|
      bindO (at_ (0 - getI y0.2.2.2.2.2.2 y0.1.2)) fun y1 =>
      gd (0 ≤ y1.1.1) <|
      gd (y1.1.1 < nI y0.2.2.1.length) <|
      joinO (X := (Int × Int × Int) × (List Int × Int) × List (List Int) × (List (List Int) × Int) × List Int × List Int × List Int × List Int × List Int) (
        iterO (X := (Int × Int) × (List Int × Int) × List (List Int) × (List (List Int) × Int) × List Int × List Int × List Int × List Int × List Int) (fun y2 =>
          bif decide (y2.1.2 < nI (List.length (getL y0.2.2.1 y1.1.1))) then
            gd (0 ≤ y2.1.2) <|
            gd (y2.1.2 < nI y2.2.2.2.2.1.length) <|
            gd (0 ≤ getI y2.2.2.2.2.1 y2.1.2) <|
            gd (getI y2.2.2.2.2.1 y2.1.2 < nI y2.2.2.1.length) <|
            joinO (X := List Int) (
              gd (0 < nI (List.length (getL y2.2.2.1 (getI y2.2.2.2.2.1 y2.1.2)))) <|
              bif getI (getL y2.2.2.1 (getI y2.2.2.2.2.1 y2.1.2)) 0 == 0 - getI y0.2.2.2.2.2.2 y0.1.2 then
                gd (1 < nI (List.length (getL y2.2.2.1 (getI y2.2.2.2.2.1 y2.1.2)))) <|
                gd (0 < nI (List.length (getL y2.2.2.1 (getI y2.2.2.2.2.1 y2.1.2)))) <|
                gd (0 < nI (List.length (getL y2.2.2.1 (getI y2.2.2.2.2.1 y2.1.2)))) <|
                gd (1 < nI (List.set (getL y2.2.2.1 (getI y2.2.2.2.2.1 y2.1.2)) 0 (getI (getL y2.2.2.1 (getI y2.2.2.2.2.1 y2.1.2)) 1)).length) <|
                some (Sum.inl ((List.set (getL y2.2.2.1 (getI y2.2.2.2.2.1 y2.1.2)) 0 (getI (getL y2.2.2.1 (getI y2.2.2.2.2.1 y2.1.2)) 1)).set 1 (getI (getL y2.2.2.1 (getI y2.2.2.2.2.1 y2.1.2)) 0)))
              else
                some (Sum.inl (getL y2.2.2.1 (getI y2.2.2.2.2.1 y2.1.2)))) fun y3 =>
            gd (0 < nI y3.length) <|
            bindO (value (getI y3 0) y2.2.2.2.2.2.1) fun y4 =>
            bif y4.1.1 == 1 then
              gd (0 ≤ y2.1.1) <|
              gd (y2.1.1 < nI y2.2.2.2.2.1.length) <|
              gd (inK IntKind.i64 (y2.1.1 + 1)) <|
              gd (inK IntKind.i64 (y2.1.2 + 1)) <|
              some (Sum.inl ((y2.1.1 + 1, y2.1.2 + 1), (y2.2.1.1, y2.2.1.2), y2.2.2.1.set (Int.toNat (getI y2.2.2.2.2.1 y2.1.2)) y3, (y2.2.2.2.1.1, y2.2.2.2.1.2), y2.2.2.2.2.1.set y2.1.1.toNat (getI y2.2.2.2.2.1 y2.1.2), y2.2.2.2.2.2.1, y2.2.2.2.2.2.2.1, y2.2.2.2.2.2.2.2.1, y2.2.2.2.2.2.2.2.2))
            else
              joinO (X := Int × List Int × Int) (
                iterO (X := Int × List Int × Int) (fun y5 =>
                  bif decide (y5.1 < nI y3.length) then
                    gd (0 ≤ y5.1) <|
                    gd (y5.1 < nI y3.length) <|
                    bindO (value (getI y3 y5.1) y2.2.2.2.2.2.1) fun y6 =>
                    bif y6.1.1 != -1 then
                      gd (0 ≤ y5.1) <|
                      gd (y5.1 < nI y3.length) <|
                      gd (1 < nI y3.length) <|
                      gd (1 < nI y3.length) <|
                      gd (0 ≤ y5.1) <|
                      gd (y5.1 < nI (y3.set 1 (getI y3 y5.1)).length) <|
                      gd (1 < nI ((y3.set 1 (getI y3 y5.1)).set y5.1.toNat (getI y3 1)).length) <|
                      bindO (at_ (getI ((y3.set 1 (getI y3 y5.1)).set y5.1.toNat (getI y3 1)) 1)) fun y7 =>
                      gd (1 < nI ((y3.set 1 (getI y3 y5.1)).set y5.1.toNat (getI y3 1)).length) <|
                      bindO (at_ (getI ((y3.set 1 (getI y3 y5.1)).set y5.1.toNat (getI y3 1)) 1)) fun y8 =>
                      gd (0 ≤ y8.1.1) <|
                      gd (y8.1.1 < nI y2.2.2.2.1.1.length) <|
                      gd (y2.2.2.2.1.2 ≠ y8.1.1) <|
                      gd ((List.length (getL y2.2.2.2.1.1 y8.1.1) + [getI y2.2.2.2.2.1 y2.1.2].length) * 8 ≤ lim) <|
                      gd (List.length (getL y2.2.2.2.1.1 y8.1.1) + [getI y2.2.2.2.2.1 y2.1.2].length ≤ lim) <|
                      gd (0 ≤ y7.1.1) <|
                      gd (y7.1.1 < nI y2.2.2.2.1.1.length) <|
                      gd (y8.1.1 = y7.1.1) <|
                      gd (y2.2.2.2.1.2 ≠ y7.1.1) <|
                      gd (inK IntKind.i64 (y2.1.2 + 1)) <|
                      some (Sum.inr (Sum.inr (Sum.inl ((y2.1.1, y2.1.2 + 1), (y5.2.1, y5.2.2), y2.2.2.1.set (Int.toNat (getI y2.2.2.2.2.1 y2.1.2)) ((y3.set 1 (getI y3 y5.1)).set y5.1.toNat (getI y3 1)), (y2.2.2.2.1.1.set y7.1.1.toNat (getL y2.2.2.2.1.1 y8.1.1 ++ [getI y2.2.2.2.2.1 y2.1.2]), y2.2.2.2.1.2), y2.2.2.2.2.1, y2.2.2.2.2.2.1, y2.2.2.2.2.2.2.1, y2.2.2.2.2.2.2.2.1, y2.2.2.2.2.2.2.2.2))))
                    else
                      gd (inK IntKind.i64 (y5.1 + 1)) <|
                      some (Sum.inl (y5.1 + 1, y5.2.1, y5.2.2))
                  else
                    some (Sum.inr (Sum.inl (y5.1, y5.2.1, y5.2.2)))) (nn) (2, y2.2.1.1, y2.2.1.2)) fun y5 =>
              gd (0 ≤ y2.1.1) <|
              gd (y2.1.1 < nI y2.2.2.2.2.1.length) <|
              gd (inK IntKind.i64 (y2.1.1 + 1)) <|
              gd (0 < nI y3.length) <|
              bindO (value (getI y3 0) y2.2.2.2.2.2.1) fun y6 =>
              bif y6.1.1 == -1 then
                gd (0 ≤ y2.1.1 + 1) <|
                gd (y2.1.1 + 1 ≤ nI (y2.2.2.2.2.1.set y2.1.1.toNat (getI y2.2.2.2.2.1 y2.1.2)).length) <|
                gd (nI (y2.2.2.2.2.1.set y2.1.1.toNat (getI y2.2.2.2.2.1 y2.1.2)).length ≤ nI (y2.2.2.2.2.1.set y2.1.1.toNat (getI y2.2.2.2.2.1 y2.1.2)).length) <|
                gd (inK IntKind.i64 (y2.1.2 + 1)) <|
                gd (0 ≤ y2.1.2 + 1) <|
                gd (y2.1.2 + 1 ≤ nI (y2.2.2.2.2.1.set y2.1.1.toNat (getI y2.2.2.2.2.1 y2.1.2)).length) <|
                gd (nI (y2.2.2.2.2.1.set y2.1.1.toNat (getI y2.2.2.2.2.1 y2.1.2)).length ≤ nI (y2.2.2.2.2.1.set y2.1.1.toNat (getI y2.2.2.2.2.1 y2.1.2)).length) <|
                gd ((List.drop (Int.toNat (y2.1.2 + 1)) (List.take (nI (y2.2.2.2.2.1.set y2.1.1.toNat (getI y2.2.2.2.2.1 y2.1.2)).length).toNat (y2.2.2.2.2.1.set y2.1.1.toNat (getI y2.2.2.2.2.1 y2.1.2)))).length ≤ lim) <|
                gd (inK IntKind.i64 (y2.1.1 + 1 + nI ((List.drop (Int.toNat (y2.1.2 + 1)) (List.take (nI (y2.2.2.2.2.1.set y2.1.1.toNat (getI y2.2.2.2.2.1 y2.1.2)).length).toNat (y2.2.2.2.2.1.set y2.1.1.toNat (getI y2.2.2.2.2.1 y2.1.2)))).length.min (((some (nI (y2.2.2.2.2.1.set y2.1.1.toNat (getI y2.2.2.2.2.1 y2.1.2)).length)).getD (nI (y2.2.2.2.2.1.set y2.1.1.toNat (getI y2.2.2.2.2.1 y2.1.2)).length)).toNat - Int.toNat (y2.1.1 + 1))))) <|
                bindO (at_ (0 - getI y0.2.2.2.2.2.2 y0.1.2)) fun y7 =>
                gd (0 ≤ y2.1.1 + 1 + nI ((List.drop (Int.toNat (y2.1.2 + 1)) (List.take (nI (y2.2.2.2.2.1.set y2.1.1.toNat (getI y2.2.2.2.2.1 y2.1.2)).length).toNat (y2.2.2.2.2.1.set y2.1.1.toNat (getI y2.2.2.2.2.1 y2.1.2)))).length.min (((some (nI (y2.2.2.2.2.1.set y2.1.1.toNat (getI y2.2.2.2.2.1 y2.1.2)).length)).getD (nI (y2.2.2.2.2.1.set y2.1.1.toNat (getI y2.2.2.2.2.1 y2.1.2)).length)).toNat - Int.toNat (y2.1.1 + 1)))) <|
                gd (y2.1.1 + 1 + nI ((List.drop (Int.toNat (y2.1.2 + 1)) (List.take (nI (y2.2.2.2.2.1.set y2.1.1.toNat (getI y2.2.2.2.2.1 y2.1.2)).length).toNat (y2.2.2.2.2.1.set y2.1.1.toNat (getI y2.2.2.2.2.1 y2.1.2)))).length.min (((some (nI (y2.2.2.2.2.1.set y2.1.1.toNat (getI y2.2.2.2.2.1 y2.1.2)).length)).getD (nI (y2.2.2.2.2.1.set y2.1.1.toNat (getI y2.2.2.2.2.1 y2.1.2)).length)).toNat - Int.toNat (y2.1.1 + 1))) ≤ nI (List.take (Int.toNat (y2.1.1 + 1)) (y2.2.2.2.2.1.set y2.1.1.toNat (getI y2.2.2.2.2.1 y2.1.2)) ++ List.take ((List.drop (Int.toNat (y2.1.2 + 1)) (List.take (nI (y2.2.2.2.2.1.set y2.1.1.toNat (getI y2.2.2.2.2.1 y2.1.2)).length).toNat (y2.2.2.2.2.1.set y2.1.1.toNat (getI y2.2.2.2.2.1 y2.1.2)))).length.min (((some (nI (y2.2.2.2.2.1.set y2.1.1.toNat (getI y2.2.2.2.2.1 y2.1.2)).length)).getD (nI (y2.2.2.2.2.1.set y2.1.1.toNat (getI y2.2.2.2.2.1 y2.1.2)).length)).toNat - Int.toNat (y2.1.1 + 1))) (List.drop (Int.toNat (y2.1.2 + 1)) (List.take (nI (y2.2.2.2.2.1.set y2.1.1.toNat (getI y2.2.2.2.2.1 y2.1.2)).length).toNat (y2.2.2.2.2.1.set y2.1.1.toNat (getI y2.2.2.2.2.1 y2.1.2)))) ++ List.drop (Int.toNat (y2.1.1 + 1) + (List.drop (Int.toNat (y2.1.2 + 1)) (List.take (nI (y2.2.2.2.2.1.set y2.1.1.toNat (getI y2.2.2.2.2.1 y2.1.2)).length).toNat (y2.2.2.2.2.1.set y2.1.1.toNat (getI y2.2.2.2.2.1 y2.1.2)))).length.min (((some (nI (y2.2.2.2.2.1.set y2.1.1.toNat (getI y2.2.2.2.2.1 y2.1.2)).length)).getD (nI (y2.2.2.2.2.1.set y2.1.1.toNat (getI y2.2.2.2.2.1 y2.1.2)).length)).toNat - Int.toNat (y2.1.1 + 1))) (y2.2.2.2.2.1.set y2.1.1.toNat (getI y2.2.2.2.2.1 y2.1.2))).length) <|
                gd (0 ≤ y7.1.1) <|
                gd (y7.1.1 < nI y2.2.2.2.1.1.length) <|
                gd (y2.2.2.2.1.2 = y7.1.1) <|
                some (Sum.inr (Sum.inr (Sum.inr ((getI y2.2.2.2.2.1 y2.1.2, ()), ((y2.2.2.1.set (Int.toNat (getI y2.2.2.2.2.1 y2.1.2)) y3, y2.2.2.2.1.1.set y7.1.1.toNat (List.take (Int.toNat (y2.1.1 + 1 + nI ((List.drop (Int.toNat (y2.1.2 + 1)) (List.take (nI (y2.2.2.2.2.1.set y2.1.1.toNat (getI y2.2.2.2.2.1 y2.1.2)).length).toNat (y2.2.2.2.2.1.set y2.1.1.toNat (getI y2.2.2.2.2.1 y2.1.2)))).length.min (((some (nI (y2.2.2.2.2.1.set y2.1.1.toNat (getI y2.2.2.2.2.1 y2.1.2)).length)).getD (nI (y2.2.2.2.2.1.set y2.1.1.toNat (getI y2.2.2.2.2.1 y2.1.2)).length)).toNat - Int.toNat (y2.1.1 + 1))))) (List.take (Int.toNat (y2.1.1 + 1)) (y2.2.2.2.2.1.set y2.1.1.toNat (getI y2.2.2.2.2.1 y2.1.2)) ++ List.take ((List.drop (Int.toNat (y2.1.2 + 1)) (List.take (nI (y2.2.2.2.2.1.set y2.1.1.toNat (getI y2.2.2.2.2.1 y2.1.2)).length).toNat (y2.2.2.2.2.1.set y2.1.1.toNat (getI y2.2.2.2.2.1 y2.1.2)))).length.min (((some (nI (y2.2.2.2.2.1.set y2.1.1.toNat (getI y2.2.2.2.2.1 y2.1.2)).length)).getD (nI (y2.2.2.2.2.1.set y2.1.1.toNat (getI y2.2.2.2.2.1 y2.1.2)).length)).toNat - Int.toNat (y2.1.1 + 1))) (List.drop (Int.toNat (y2.1.2 + 1)) (List.take (nI (y2.2.2.2.2.1.set y2.1.1.toNat (getI y2.2.2.2.2.1 y2.1.2)).length).toNat (y2.2.2.2.2.1.set y2.1.1.toNat (getI y2.2.2.2.2.1 y2.1.2)))) ++ List.drop (Int.toNat (y2.1.1 + 1) + (List.drop (Int.toNat (y2.1.2 + 1)) (List.take (nI (y2.2.2.2.2.1.set y2.1.1.toNat (getI y2.2.2.2.2.1 y2.1.2)).length).toNat (y2.2.2.2.2.1.set y2.1.1.toNat (getI y2.2.2.2.2.1 y2.1.2)))).length.min (((some (nI (y2.2.2.2.2.1.set y2.1.1.toNat (getI y2.2.2.2.2.1 y2.1.2)).length)).getD (nI (y2.2.2.2.2.1.set y2.1.1.toNat (getI y2.2.2.2.2.1 y2.1.2)).length)).toNat - Int.toNat (y2.1.1 + 1))) (y2.2.2.2.2.1.set y2.1.1.toNat (getI y2.2.2.2.2.1 y2.1.2)))), y2.2.2.2.2.2.1, y2.2.2.2.2.2.2.1, y2.2.2.2.2.2.2.2.1, y2.2.2.2.2.2.2.2.2, y5.2.1, y5.2.2, ()), ()), ()))))
              else
                gd (0 < nI y3.length) <|
                bindO (set_ (getI y3 0) (getI y2.2.2.2.2.1 y2.1.2) y2.2.2.2.2.2.1 y2.2.2.2.2.2.2.1 y2.2.2.2.2.2.2.2.1 y2.2.2.2.2.2.2.2.2 y5.2.1) fun y7 =>
                gd (inK IntKind.i64 (y2.1.2 + 1)) <|
                some (Sum.inl ((y2.1.1 + 1, y2.1.2 + 1), (y5.2.1, y5.2.2), y2.2.2.1.set (Int.toNat (getI y2.2.2.2.2.1 y2.1.2)) y3, (y2.2.2.2.1.1, y2.2.2.2.1.2), y2.2.2.2.2.1.set y2.1.1.toNat (getI y2.2.2.2.2.1 y2.1.2), y7.2.1.1.1, y7.2.1.1.2.1, y7.2.1.1.2.2.1, y7.2.1.1.2.2.2.1))
          else
            some (Sum.inr (Sum.inl ((y2.1.1, nI (List.length (getL y0.2.2.1 y1.1.1)), y2.1.2), (y2.2.1.1, y2.2.1.2), y2.2.2.1, (y2.2.2.2.1.1, y2.2.2.2.1.2), y2.2.2.2.2.1, y2.2.2.2.2.2.1, y2.2.2.2.2.2.2.1, y2.2.2.2.2.2.2.2.1, y2.2.2.2.2.2.2.2.2)))) (nn) ((0, 0), (y0.1.1, y0.1.2 + 1), y0.2.1, (y0.2.2.1, y1.1.1), getL y0.2.2.1 y1.1.1, y0.2.2.2.1, y0.2.2.2.2.1, y0.2.2.2.2.2.1, y0.2.2.2.2.2.2)) fun y2 =>
      bindO (at_ (0 - getI y0.2.2.2.2.2.2 y0.1.2)) fun y3 =>
      gd (0 ≤ y2.1.1) <|
      gd (y2.1.1 ≤ nI y2.2.2.2.2.1.length) <|
      gd (0 ≤ y3.1.1) <|
      gd (y3.1.1 < nI y2.2.2.2.1.1.length) <|
      gd (y2.2.2.2.1.2 = y3.1.1) <|
      some (Sum.inl ((y2.2.1.1, y2.2.1.2), y2.2.2.1, y2.2.2.2.1.1.set y3.1.1.toNat (List.take y2.1.1.toNat y2.2.2.2.2.1), y2.2.2.2.2.2.1, y2.2.2.2.2.2.2.1, y2.2.2.2.2.2.2.2.1, y2.2.2.2.2.2.2.2.2))
    else
      some (Sum.inr ((-1, ()), ((y0.2.1, y0.2.2.1, y0.2.2.2.1, y0.2.2.2.2.1, y0.2.2.2.2.2.1, y0.2.2.2.2.2.2, y0.1.1, y0.1.2, ()), ()), ()))) (nn) ((begin, done), all, watch, is, depth, why, row)

def unit (all : List (List Int)) (watch : List (List Int)) (is : List Int) (depth : List Int) (why : List Int) (row : List Int) (begin : List Int) (done : Int) : Option ((Int × Unit) × ((List (List Int) × List (List Int) × List Int × List Int × List Int × List Int × List Int × Int × Unit) × Unit) × Unit) := unitF fuelN all watch is depth why row begin done

end GoSx
end
section
/- Models of functions: what they compute, if all goes well: SatD. -/
namespace GoSx
open Go
def take (n : Int) (all : List (List Int)) (watch : List (List Int)) (is : List Int) (depth : List Int) (why : List Int) (old : List Int) (hot : List Int) (warm : List Int) (cold : Int) (row : List Int) (begin : List Int) (done : Int) (proof : List (List Int)) : Option (Unit × ((List (List Int) × List (List Int) × List Int × List Int × List Int × List Int × List Int × List Int × Int × List Int × List Int × Int × List (List Int) × Unit) × Unit) × Unit) :=
  bindO (learn n all is depth why hot warm row begin) fun y0 =>
  bindO (Clone_ y0.1.1) fun y1 =>
  gd ((proof.length + [y1.1.1].length) * 24 ≤ lim) <|
  gd (proof.length + [y1.1.1].length ≤ lim) <|
  bindO (back y0.1.2.1 is old cold row begin done) fun y2 =>
  bif nI y0.1.1.length == 1 then
    gd (0 < nI y0.1.1.length) <|
    bindO (set_ (getI y0.1.1 0) (-1) y2.2.1.1.1 depth why y2.2.1.1.2.2.2.1 y2.2.1.1.2.2.2.2.1) fun y3 =>
    some ((), ((y0.2.1.1.1, watch, y3.2.1.1.1, y3.2.1.1.2.1, y3.2.1.1.2.2.1, y2.2.1.1.2.1, y0.2.1.1.2.2.2.2.1, y0.2.1.1.2.2.2.2.2.1, y2.2.1.1.2.2.1, y3.2.1.1.2.2.2.1, y2.2.1.1.2.2.2.2.1, y2.2.1.1.2.2.2.2.2.1, proof ++ [y1.1.1], ()), ()), ())
  else
    gd (0 < nI y0.1.1.length) <|
    bindO (keep y0.1.1 y0.2.1.1.1 0 watch) fun y3 =>
    bindO (set_ (getI y0.1.1 0) y3.1.1 y2.2.1.1.1 depth why y2.2.1.1.2.2.2.1 y2.2.1.1.2.2.2.2.1) fun y4 =>
    some ((), ((y3.2.1.1.1.set y3.2.1.1.2.1.toNat y0.1.1, y3.2.1.1.2.2.1, y4.2.1.1.1, y4.2.1.1.2.1, y4.2.1.1.2.2.1, y2.2.1.1.2.1, y0.2.1.1.2.2.2.2.1, y0.2.1.1.2.2.2.2.2.1, y2.2.1.1.2.2.1, y4.2.1.1.2.2.2.1, y2.2.1.1.2.2.2.2.1, y2.2.1.1.2.2.2.2.2.1, proof ++ [y1.1.1], ()), ()), ())

def searchF (nn : Nat)  (assume : List Int) (fuel : Int) (vars : Int) (all : List (List Int)) (watch : List (List Int)) (is : List Int) (depth : List Int) (why : List Int) (old : List Int) (hot : List Int) (warm : List Int) (cold : Int) (row : List Int) (begin : List Int) (done : Int) (empty : Bool) (proof : List (List Int)) (core : List Int) : Option ((Int × Unit) × ((Int × List (List Int) × List (List Int) × List Int × List Int × List Int × List Int × List Int × List Int × Int × List Int × List Int × Int × Bool × List (List Int) × List Int × Unit) × Unit) × Unit) :=
  iterO (X := Int × (Int × Int × Int × Bool) × List (List Int) × List (List Int) × List Int × List Int × List Int × List Int × List Int × List Int × List Int × List Int × List (List Int)) (fun y0 =>
    bindO (unit y0.2.2.1 y0.2.2.2.1 y0.2.2.2.2.1 y0.2.2.2.2.2.1 y0.2.2.2.2.2.2.1 y0.2.2.2.2.2.2.2.2.2.2.1 y0.2.2.2.2.2.2.2.2.2.2.2.1 y0.2.1.2.2.1) fun y1 =>
    bif y1.1.1 != -1 then
      bif nI y0.2.2.2.2.2.2.2.2.2.2.2.1.length == 0 then
        some (Sum.inr ((2, ()), ((y0.2.1.1, y1.2.1.1.1, y1.2.1.1.2.1, y1.2.1.1.2.2.1, y1.2.1.1.2.2.2.1, y1.2.1.1.2.2.2.2.1, y0.2.2.2.2.2.2.2.1, y0.2.2.2.2.2.2.2.2.1, y0.2.2.2.2.2.2.2.2.2.1, y0.2.1.2.1, y1.2.1.1.2.2.2.2.2.1, y0.2.2.2.2.2.2.2.2.2.2.2.1, y1.2.1.1.2.2.2.2.2.2.2.1, true, y0.2.2.2.2.2.2.2.2.2.2.2.2, core, ()), ()), ()))
      else
        bif decide (fuel ≥ 0) then
          bif bif true then decide (y0.1 ≥ fuel) else false then
            some (Sum.inr ((3, ()), ((y0.2.1.1, y1.2.1.1.1, y1.2.1.1.2.1, y1.2.1.1.2.2.1, y1.2.1.1.2.2.2.1, y1.2.1.1.2.2.2.2.1, y0.2.2.2.2.2.2.2.1, y0.2.2.2.2.2.2.2.2.1, y0.2.2.2.2.2.2.2.2.2.1, y0.2.1.2.1, y1.2.1.1.2.2.2.2.2.1, y0.2.2.2.2.2.2.2.2.2.2.2.1, y1.2.1.1.2.2.2.2.2.2.2.1, y0.2.1.2.2.2, y0.2.2.2.2.2.2.2.2.2.2.2.2, core, ()), ()), ()))
          else
            bindO (take y1.1.1 y1.2.1.1.1 y1.2.1.1.2.1 y1.2.1.1.2.2.1 y1.2.1.1.2.2.2.1 y1.2.1.1.2.2.2.2.1 y0.2.2.2.2.2.2.2.1 y0.2.2.2.2.2.2.2.2.1 y0.2.2.2.2.2.2.2.2.2.1 y0.2.1.2.1 y1.2.1.1.2.2.2.2.2.1 y0.2.2.2.2.2.2.2.2.2.2.2.1 y1.2.1.1.2.2.2.2.2.2.2.1 y0.2.2.2.2.2.2.2.2.2.2.2.2) fun y2 =>
            gd (inK IntKind.i64 (y0.1 + 1)) <|
            some (Sum.inl (y0.1 + 1, (y0.2.1.1, y2.2.1.1.2.2.2.2.2.2.2.2.1, y2.2.1.1.2.2.2.2.2.2.2.2.2.2.2.1, y0.2.1.2.2.2), y2.2.1.1.1, y2.2.1.1.2.1, y2.2.1.1.2.2.1, y2.2.1.1.2.2.2.1, y2.2.1.1.2.2.2.2.1, y2.2.1.1.2.2.2.2.2.1, y2.2.1.1.2.2.2.2.2.2.1, y2.2.1.1.2.2.2.2.2.2.2.1, y2.2.1.1.2.2.2.2.2.2.2.2.2.1, y2.2.1.1.2.2.2.2.2.2.2.2.2.2.1, y2.2.1.1.2.2.2.2.2.2.2.2.2.2.2.2.1))
        else
          bindO (take y1.1.1 y1.2.1.1.1 y1.2.1.1.2.1 y1.2.1.1.2.2.1 y1.2.1.1.2.2.2.1 y1.2.1.1.2.2.2.2.1 y0.2.2.2.2.2.2.2.1 y0.2.2.2.2.2.2.2.2.1 y0.2.2.2.2.2.2.2.2.2.1 y0.2.1.2.1 y1.2.1.1.2.2.2.2.2.1 y0.2.2.2.2.2.2.2.2.2.2.2.1 y1.2.1.1.2.2.2.2.2.2.2.1 y0.2.2.2.2.2.2.2.2.2.2.2.2) fun y2 =>
          gd (inK IntKind.i64 (y0.1 + 1)) <|
          some (Sum.inl (y0.1 + 1, (y0.2.1.1, y2.2.1.1.2.2.2.2.2.2.2.2.1, y2.2.1.1.2.2.2.2.2.2.2.2.2.2.2.1, y0.2.1.2.2.2), y2.2.1.1.1, y2.2.1.1.2.1, y2.2.1.1.2.2.1, y2.2.1.1.2.2.2.1, y2.2.1.1.2.2.2.2.1, y2.2.1.1.2.2.2.2.2.1, y2.2.1.1.2.2.2.2.2.2.1, y2.2.1.1.2.2.2.2.2.2.2.1, y2.2.1.1.2.2.2.2.2.2.2.2.2.1, y2.2.1.1.2.2.2.2.2.2.2.2.2.2.1, y2.2.1.1.2.2.2.2.2.2.2.2.2.2.2.2.1))
    else
      iterO (X := (Int × Int × Int × Bool) × List Int) (fun y2 =>
        bif decide (nI y2.2.length < nI assume.length) then
          gd (nI y2.2.length < nI assume.length) <|
          bindO (value (getI assume (nI y2.2.length)) y1.2.1.1.2.2.1) fun y3 =>
          bif y3.1.1 == -1 then
            bindO (blame (getI assume (nI y2.2.length)) y1.2.1.1.1 y1.2.1.1.2.2.2.2.1 y1.2.1.1.2.2.2.2.2.1 y2.2) fun y4 =>
            some (Sum.inr (Sum.inr ((2, ()), ((y2.1.1, y4.2.1.1.1, y1.2.1.1.2.1, y1.2.1.1.2.2.1, y1.2.1.1.2.2.2.1, y1.2.1.1.2.2.2.2.1, y0.2.2.2.2.2.2.2.1, y0.2.2.2.2.2.2.2.2.1, y0.2.2.2.2.2.2.2.2.2.1, y2.1.2.1, y1.2.1.1.2.2.2.2.2.1, y2.2, y2.1.2.2.1, y2.1.2.2.2, y0.2.2.2.2.2.2.2.2.2.2.2.2, y4.1.1, ()), ()), ())))
          else
            bif y3.1.1 == 0 then
              bif getI assume (nI y2.2.length) == 0 then
                bindO (pick y2.1.1 y1.2.1.1.2.2.1 y0.2.2.2.2.2.2.2.1 y0.2.2.2.2.2.2.2.2.1 y0.2.2.2.2.2.2.2.2.2.1 y2.1.2.1) fun y4 =>
                bif y4.1.1 == 0 then
                  some (Sum.inr (Sum.inr ((1, ()), ((y4.2.1.1.1, y1.2.1.1.1, y1.2.1.1.2.1, y1.2.1.1.2.2.1, y1.2.1.1.2.2.2.1, y1.2.1.1.2.2.2.2.1, y0.2.2.2.2.2.2.2.1, y0.2.2.2.2.2.2.2.2.1, y0.2.2.2.2.2.2.2.2.2.1, y4.2.1.1.2.2.2.2.2.1, y1.2.1.1.2.2.2.2.2.1, y2.2, y2.1.2.2.1, y2.1.2.2.2, y0.2.2.2.2.2.2.2.2.2.2.2.2, core, ()), ()), ())))
                else
                  gd ((y2.2.length + [nI y1.2.1.1.2.2.2.2.2.1.length].length) * 8 ≤ lim) <|
                  gd (y2.2.length + [nI y1.2.1.1.2.2.2.2.2.1.length].length ≤ lim) <|
                  bindO (set_ y4.1.1 (-1) y1.2.1.1.2.2.1 y1.2.1.1.2.2.2.1 y1.2.1.1.2.2.2.2.1 y1.2.1.1.2.2.2.2.2.1 (y2.2 ++ [nI y1.2.1.1.2.2.2.2.2.1.length])) fun y5 =>
                  some (Sum.inr (Sum.inl (y0.1, (y4.2.1.1.1, y4.2.1.1.2.2.2.2.2.1, y2.1.2.2.1, y2.1.2.2.2), y1.2.1.1.1, y1.2.1.1.2.1, y5.2.1.1.1, y5.2.1.1.2.1, y5.2.1.1.2.2.1, y0.2.2.2.2.2.2.2.1, y0.2.2.2.2.2.2.2.2.1, y0.2.2.2.2.2.2.2.2.2.1, y5.2.1.1.2.2.2.1, y2.2 ++ [nI y1.2.1.1.2.2.2.2.2.1.length], y0.2.2.2.2.2.2.2.2.2.2.2.2)))
              else
                bif getI assume (nI y2.2.length) == 0 then
                  some (Sum.inr (Sum.inr ((1, ()), ((y2.1.1, y1.2.1.1.1, y1.2.1.1.2.1, y1.2.1.1.2.2.1, y1.2.1.1.2.2.2.1, y1.2.1.1.2.2.2.2.1, y0.2.2.2.2.2.2.2.1, y0.2.2.2.2.2.2.2.2.1, y0.2.2.2.2.2.2.2.2.2.1, y2.1.2.1, y1.2.1.1.2.2.2.2.2.1, y2.2, y2.1.2.2.1, y2.1.2.2.2, y0.2.2.2.2.2.2.2.2.2.2.2.2, core, ()), ()), ())))
                else
                  gd ((y2.2.length + [nI y1.2.1.1.2.2.2.2.2.1.length].length) * 8 ≤ lim) <|
                  gd (y2.2.length + [nI y1.2.1.1.2.2.2.2.2.1.length].length ≤ lim) <|
                  bindO (set_ (getI assume (nI y2.2.length)) (-1) y1.2.1.1.2.2.1 y1.2.1.1.2.2.2.1 y1.2.1.1.2.2.2.2.1 y1.2.1.1.2.2.2.2.2.1 (y2.2 ++ [nI y1.2.1.1.2.2.2.2.2.1.length])) fun y4 =>
                  some (Sum.inr (Sum.inl (y0.1, (y2.1.1, y2.1.2.1, y2.1.2.2.1, y2.1.2.2.2), y1.2.1.1.1, y1.2.1.1.2.1, y4.2.1.1.1, y4.2.1.1.2.1, y4.2.1.1.2.2.1, y0.2.2.2.2.2.2.2.1, y0.2.2.2.2.2.2.2.2.1, y0.2.2.2.2.2.2.2.2.2.1, y4.2.1.1.2.2.2.1, y2.2 ++ [nI y1.2.1.1.2.2.2.2.2.1.length], y0.2.2.2.2.2.2.2.2.2.2.2.2)))
            else
              gd ((y2.2.length + [nI y1.2.1.1.2.2.2.2.2.1.length].length) * 8 ≤ lim) <|
              gd (y2.2.length + [nI y1.2.1.1.2.2.2.2.2.1.length].length ≤ lim) <|
              some (Sum.inl ((y2.1.1, y2.1.2.1, y2.1.2.2.1, y2.1.2.2.2), y2.2 ++ [nI y1.2.1.1.2.2.2.2.2.1.length]))
        else
          bindO (pick y2.1.1 y1.2.1.1.2.2.1 y0.2.2.2.2.2.2.2.1 y0.2.2.2.2.2.2.2.2.1 y0.2.2.2.2.2.2.2.2.2.1 y2.1.2.1) fun y3 =>
          bif y3.1.1 == 0 then
            some (Sum.inr (Sum.inr ((1, ()), ((y3.2.1.1.1, y1.2.1.1.1, y1.2.1.1.2.1, y1.2.1.1.2.2.1, y1.2.1.1.2.2.2.1, y1.2.1.1.2.2.2.2.1, y0.2.2.2.2.2.2.2.1, y0.2.2.2.2.2.2.2.2.1, y0.2.2.2.2.2.2.2.2.2.1, y3.2.1.1.2.2.2.2.2.1, y1.2.1.1.2.2.2.2.2.1, y2.2, y2.1.2.2.1, y2.1.2.2.2, y0.2.2.2.2.2.2.2.2.2.2.2.2, core, ()), ()), ())))
          else
            gd ((y2.2.length + [nI y1.2.1.1.2.2.2.2.2.1.length].length) * 8 ≤ lim) <|
            gd (y2.2.length + [nI y1.2.1.1.2.2.2.2.2.1.length].length ≤ lim) <|
            bindO (set_ y3.1.1 (-1) y1.2.1.1.2.2.1 y1.2.1.1.2.2.2.1 y1.2.1.1.2.2.2.2.1 y1.2.1.1.2.2.2.2.2.1 (y2.2 ++ [nI y1.2.1.1.2.2.2.2.2.1.length])) fun y4 =>
            some (Sum.inr (Sum.inl (y0.1, (y3.2.1.1.1, y3.2.1.1.2.2.2.2.2.1, y2.1.2.2.1, y2.1.2.2.2), y1.2.1.1.1, y1.2.1.1.2.1, y4.2.1.1.1, y4.2.1.1.2.1, y4.2.1.1.2.2.1, y0.2.2.2.2.2.2.2.1, y0.2.2.2.2.2.2.2.2.1, y0.2.2.2.2.2.2.2.2.2.1, y4.2.1.1.2.2.2.1, y2.2 ++ [nI y1.2.1.1.2.2.2.2.2.1.length], y0.2.2.2.2.2.2.2.2.2.2.2.2)))) (nn) ((y0.2.1.1, y0.2.1.2.1, y1.2.1.1.2.2.2.2.2.2.2.1, y0.2.1.2.2.2), y0.2.2.2.2.2.2.2.2.2.2.2.1)) (nn) (0, (vars, cold, done, empty), all, watch, is, depth, why, old, hot, warm, row, begin, proof)

def search (assume : List Int) (fuel : Int) (vars : Int) (all : List (List Int)) (watch : List (List Int)) (is : List Int) (depth : List Int) (why : List Int) (old : List Int) (hot : List Int) (warm : List Int) (cold : Int) (row : List Int) (begin : List Int) (done : Int) (empty : Bool) (proof : List (List Int)) (core : List Int) : Option ((Int × Unit) × ((Int × List (List Int) × List (List Int) × List Int × List Int × List Int × List Int × List Int × List Int × Int × List Int × List Int × Int × Bool × List (List Int) × List Int × Unit) × Unit) × Unit) := searchF fuelN assume fuel vars all watch is depth why old hot warm cold row begin done empty proof core

def AskF (nn : Nat)  (assume : List Int) (fuel : Int) (vars : Int) (all : List (List Int)) (watch : List (List Int)) (is : List Int) (depth : List Int) (why : List Int) (old : List Int) (hot : List Int) (warm : List Int) (cold : Int) (row : List Int) (begin : List Int) (done : Int) (empty : Bool) (proof : List (List Int)) (answer : Int) (core : List Int) (model : List Bool) : Option ((Int × Unit) × ((Int × List (List Int) × List (List Int) × List Int × List Int × List Int × List Int × List Int × List Int × Int × List Int × List Int × Int × Bool × List (List Int) × Int × List Int × List Bool × Unit) × Unit) × Unit) :=
  bindO (forget answer core model) fun y0 =>
  bindO (own assume vars) fun y1 =>
  bif !y1.1.1 then
    some ((0, ()), ((y1.2.1.1.1, all, watch, is, depth, why, old, hot, warm, cold, row, begin, done, empty, proof, y0.2.1.1.1, y0.2.1.1.2.1, y0.2.1.1.2.2.1, ()), ()), ())
  else
    bindO (back 0 is old cold row begin done) fun y2 =>
    joinO (X := (Int × Int × Int × Bool × Int) × List (List Int) × List (List Int) × List Int × List Int × List Int × List Int × List Int × List Int × List Int × List Int × List (List Int) × List Int) (
      bif !empty then
        bindO (search assume fuel y1.2.1.1.1 all watch y2.2.1.1.1 depth why y2.2.1.1.2.1 hot warm y2.2.1.1.2.2.1 y2.2.1.1.2.2.2.1 y2.2.1.1.2.2.2.2.1 y2.2.1.1.2.2.2.2.2.1 empty proof y0.2.1.1.2.1) fun y3 =>
        some (Sum.inl ((y3.2.1.1.1, y3.2.1.1.2.2.2.2.2.2.2.2.2.1, y3.2.1.1.2.2.2.2.2.2.2.2.2.2.2.2.1, y3.2.1.1.2.2.2.2.2.2.2.2.2.2.2.2.2.1, y3.1.1), y3.2.1.1.2.1, y3.2.1.1.2.2.1, y3.2.1.1.2.2.2.1, y3.2.1.1.2.2.2.2.1, y3.2.1.1.2.2.2.2.2.1, y3.2.1.1.2.2.2.2.2.2.1, y3.2.1.1.2.2.2.2.2.2.2.1, y3.2.1.1.2.2.2.2.2.2.2.2.1, y3.2.1.1.2.2.2.2.2.2.2.2.2.2.1, y3.2.1.1.2.2.2.2.2.2.2.2.2.2.2.1, y3.2.1.1.2.2.2.2.2.2.2.2.2.2.2.2.2.2.1, y3.2.1.1.2.2.2.2.2.2.2.2.2.2.2.2.2.2.2.1))
      else
        some (Sum.inl ((y1.2.1.1.1, y2.2.1.1.2.2.1, y2.2.1.1.2.2.2.2.2.1, empty, 2), all, watch, y2.2.1.1.1, depth, why, y2.2.1.1.2.1, hot, warm, y2.2.1.1.2.2.2.1, y2.2.1.1.2.2.2.2.1, proof, y0.2.1.1.2.1))) fun y3 =>
    bif y3.1.2.2.2.2 == 1 then
      iterO (X := Int × (Int × Int × Int × Bool × Int) × List Bool) (fun y4 =>
        bif decide (y4.1 ≤ y4.2.1.1) then
          gd (0 ≤ y4.1) <|
          gd (y4.1 < nI y3.2.2.2.1.length) <|
          gd ((y4.2.2.length + [getI y3.2.2.2.1 y4.1 == 1].length) * 1 ≤ lim) <|
          gd (y4.2.2.length + [getI y3.2.2.2.1 y4.1 == 1].length ≤ lim) <|
          gd (inK IntKind.i64 (y4.1 + 1)) <|
          some (Sum.inl (y4.1 + 1, (y4.2.1.1, y4.2.1.2.1, y4.2.1.2.2.1, y4.2.1.2.2.2.1, y4.2.1.2.2.2.2), y4.2.2 ++ [getI y3.2.2.2.1 y4.1 == 1]))
        else
          bindO (back 0 y3.2.2.2.1 y3.2.2.2.2.2.2.1 y4.2.1.2.1 y3.2.2.2.2.2.2.2.2.2.1 y3.2.2.2.2.2.2.2.2.2.2.1 y4.2.1.2.2.1) fun y5 =>
          some (Sum.inr ((y4.2.1.2.2.2.2, ()), ((y4.2.1.1, y3.2.1, y3.2.2.1, y5.2.1.1.1, y3.2.2.2.2.1, y3.2.2.2.2.2.1, y5.2.1.1.2.1, y3.2.2.2.2.2.2.2.1, y3.2.2.2.2.2.2.2.2.1, y5.2.1.1.2.2.1, y5.2.1.1.2.2.2.1, y5.2.1.1.2.2.2.2.1, y5.2.1.1.2.2.2.2.2.1, y4.2.1.2.2.2.1, y3.2.2.2.2.2.2.2.2.2.2.2.1, y4.2.1.2.2.2.2, y3.2.2.2.2.2.2.2.2.2.2.2.2, y4.2.2, ()), ()), ()))) (nn) (1, (y3.1.1, y3.1.2.1, y3.1.2.2.1, y3.1.2.2.2.1, y3.1.2.2.2.2), y0.2.1.1.2.2.1)
    else
      bif y3.1.2.2.2.2 == 2 then
        iterO (X := Int × List Int) (fun y4 =>
          bif decide (y4.1 < nI assume.length) then
            gd (0 ≤ y4.1) <|
            gd (y4.1 < nI assume.length) <|
            bindO (Contains_ y3.2.2.2.2.2.2.2.2.2.2.2.2 (getI assume y4.1)) fun y5 =>
            bif y5.1.1 then
              bindO (Contains_ y4.2 (getI assume y4.1)) fun y6 =>
              bif bif true then !y6.1.1 else false then
                gd ((y4.2.length + [getI assume y4.1].length) * 8 ≤ lim) <|
                gd (y4.2.length + [getI assume y4.1].length ≤ lim) <|
                gd (inK IntKind.i64 (y4.1 + 1)) <|
                some (Sum.inl (y4.1 + 1, y4.2 ++ [getI assume y4.1]))
              else
                gd (inK IntKind.i64 (y4.1 + 1)) <|
                some (Sum.inl (y4.1 + 1, y4.2))
            else
              gd (inK IntKind.i64 (y4.1 + 1)) <|
              some (Sum.inl (y4.1 + 1, y4.2))
          else
            bindO (back 0 y3.2.2.2.1 y3.2.2.2.2.2.2.1 y3.1.2.1 y3.2.2.2.2.2.2.2.2.2.1 y3.2.2.2.2.2.2.2.2.2.2.1 y3.1.2.2.1) fun y5 =>
            some (Sum.inr ((y3.1.2.2.2.2, ()), ((y3.1.1, y3.2.1, y3.2.2.1, y5.2.1.1.1, y3.2.2.2.2.1, y3.2.2.2.2.2.1, y5.2.1.1.2.1, y3.2.2.2.2.2.2.2.1, y3.2.2.2.2.2.2.2.2.1, y5.2.1.1.2.2.1, y5.2.1.1.2.2.2.1, y5.2.1.1.2.2.2.2.1, y5.2.1.1.2.2.2.2.2.1, y3.1.2.2.2.1, y3.2.2.2.2.2.2.2.2.2.2.2.1, y3.1.2.2.2.2, y4.2, y0.2.1.1.2.2.1, ()), ()), ()))) (nn) (0, [])
      else
        bindO (back 0 y3.2.2.2.1 y3.2.2.2.2.2.2.1 y3.1.2.1 y3.2.2.2.2.2.2.2.2.2.1 y3.2.2.2.2.2.2.2.2.2.2.1 y3.1.2.2.1) fun y4 =>
        some ((y3.1.2.2.2.2, ()), ((y3.1.1, y3.2.1, y3.2.2.1, y4.2.1.1.1, y3.2.2.2.2.1, y3.2.2.2.2.2.1, y4.2.1.1.2.1, y3.2.2.2.2.2.2.2.1, y3.2.2.2.2.2.2.2.2.1, y4.2.1.1.2.2.1, y4.2.1.1.2.2.2.1, y4.2.1.1.2.2.2.2.1, y4.2.1.1.2.2.2.2.2.1, y3.1.2.2.2.1, y3.2.2.2.2.2.2.2.2.2.2.2.1, y3.1.2.2.2.2, y3.2.2.2.2.2.2.2.2.2.2.2.2, y0.2.1.1.2.2.1, ()), ()), ())

def Ask (assume : List Int) (fuel : Int) (vars : Int) (all : List (List Int)) (watch : List (List Int)) (is : List Int) (depth : List Int) (why : List Int) (old : List Int) (hot : List Int) (warm : List Int) (cold : Int) (row : List Int) (begin : List Int) (done : Int) (empty : Bool) (proof : List (List Int)) (answer : Int) (core : List Int) (model : List Bool) : Option ((Int × Unit) × ((Int × List (List Int) × List (List Int) × List Int × List Int × List Int × List Int × List Int × List Int × Int × List Int × List Int × Int × Bool × List (List Int) × Int × List Int × List Bool × Unit) × Unit) × Unit) := AskF fuelN assume fuel vars all watch is depth why old hot warm cold row begin done empty proof answer core model

end GoSx
end
section
/- Models of functions: what they compute, if all goes well: CertA. -/
namespace GoSx
open Go
def pvar (x : Int) : Option ((Int × Unit) × Unit × Unit) :=
  gd (inK IntKind.i64 (0 - x)) <|
  some ((max2 (max2 x (0 - x)) 0, ()), (), ())

def pRightF (nn : Nat)  (l : List (List Int)) (vars : Int) : Option ((Bool × Unit) × Unit × Unit) :=
  bif decide (vars < 0) then
    some ((false, ()), (), ())
  else
    bif bif false then true else decide (vars > 1048576) then
      some ((false, ()), (), ())
    else
      iterO (X := Int) (fun y0 =>
        bif decide (y0 < nI l.length) then
          gd (0 ≤ y0) <|
          gd (y0 < nI l.length) <|
          iterO (X := Int) (fun y1 =>
            bif decide (y1 < nI (List.length (getL l y0))) then
              gd (0 ≤ y1) <|
              gd (y1 < nI (List.length (getL l y0))) <|
              bindO (pvar (getI (getL l y0) y1)) fun y2 =>
              bif y2.1.1 == 0 then
                some (Sum.inr (Sum.inr ((false, ()), (), ())))
              else
                bif bif false then true else decide (y2.1.1 > vars) then
                  some (Sum.inr (Sum.inr ((false, ()), (), ())))
                else
                  gd (inK IntKind.i64 (y1 + 1)) <|
                  some (Sum.inl (y1 + 1))
            else
              gd (inK IntKind.i64 (y0 + 1)) <|
              some (Sum.inr (Sum.inl (y0 + 1)))) (nn) 0
        else
          some (Sum.inr ((true, ()), (), ()))) (nn) 0

def pRight (l : List (List Int)) (vars : Int) : Option ((Bool × Unit) × Unit × Unit) := pRightF fuelN l vars

def plookF (nn : Nat)  (c : List Int) (taken : List (Int × Bool)) (ch : Int) (v : Int) : Option ((Bool × Unit) × ((List (Int × Bool) × (Int × Int) × Unit) × Unit) × Unit) :=
  iterO (X := Int × Int) (fun y0 =>
    bif decide (y0.2 < nI c.length) then
      gd (0 ≤ y0.2) <|
      gd (y0.2 < nI c.length) <|
      bif mapGet Ty.bool.dflt taken (getI c y0.2) then
        some (Sum.inr ((true, ()), ((taken, (ch, v), ()), ()), ()))
      else
        gd (inK IntKind.i64 (0 - getI c y0.2)) <|
        bif !mapGet Ty.bool.dflt taken (0 - getI c y0.2) then
          bif bif true then y0.1 != 0 else false then
            bif bif true then y0.1 != getI c y0.2 else false then
              some (Sum.inr ((true, ()), ((taken, (ch, v), ()), ()), ()))
            else
              gd (inK IntKind.i64 (0 - getI c y0.2)) <|
              bif !mapGet Ty.bool.dflt taken (0 - getI c y0.2) then
                gd (inK IntKind.i64 (y0.2 + 1)) <|
                some (Sum.inl (getI c y0.2, y0.2 + 1))
              else
                gd (inK IntKind.i64 (y0.2 + 1)) <|
                some (Sum.inl (y0.1, y0.2 + 1))
          else
            gd (inK IntKind.i64 (0 - getI c y0.2)) <|
            bif !mapGet Ty.bool.dflt taken (0 - getI c y0.2) then
              gd (inK IntKind.i64 (y0.2 + 1)) <|
              some (Sum.inl (getI c y0.2, y0.2 + 1))
            else
              gd (inK IntKind.i64 (y0.2 + 1)) <|
              some (Sum.inl (y0.1, y0.2 + 1))
        else
          gd (inK IntKind.i64 (0 - getI c y0.2)) <|
          bif !mapGet Ty.bool.dflt taken (0 - getI c y0.2) then
            gd (inK IntKind.i64 (y0.2 + 1)) <|
            some (Sum.inl (getI c y0.2, y0.2 + 1))
          else
            gd (inK IntKind.i64 (y0.2 + 1)) <|
            some (Sum.inl (y0.1, y0.2 + 1))
    else
      bif y0.1 != 0 then
        bindO (takeM taken ch v y0.1) fun y1 =>
        some (Sum.inr ((bif true then y1.1 else false, ()), ((y1.2.1, (ch, y1.2.2), ()), ()), ()))
      else
        some (Sum.inr ((false, ()), ((taken, (ch, v), ()), ()), ()))) (nn) (0, 0)

def plook (c : List Int) (taken : List (Int × Bool)) (ch : Int) (v : Int) : Option ((Bool × Unit) × ((List (Int × Bool) × (Int × Int) × Unit) × Unit) × Unit) := plookF fuelN c taken ch v

end GoSx
end
section
/- Models of functions: what they compute, if all goes well: CertB. -/
namespace GoSx
open Go
def pUnitF (nn : Nat) (vpRight : List (List Int) → Int → Option ((Bool × Unit) × Unit × Unit)) (vplook : List Int → List (Int × Bool) → Int → Int → Option ((Bool × Unit) × ((List (Int × Bool) × (Int × Int) × Unit) × Unit) × Unit)) (l : List (List Int)) (vars : Int) (known : List Int) : Option ((List Int × Bool × Unit) × Unit × Unit) :=
  bindO (vpRight l vars) fun y0 =>
  bif !y0.1.1 then
    some (([], false, ()), (), ())
  else
    bindO (vpRight [known] vars) fun y1 =>
    bif bif false then true else !y1.1.1 then
      some (([], false, ()), (), ())
    else
      iterO (X := Int × Int) (fun y2 =>
        bif decide (y2.2 < nI l.length) then
          gd (0 ≤ y2.2) <|
          gd (y2.2 < nI l.length) <|
          some (Sum.inl (IntKind.i64.wrap (y2.1 + nI (List.length (getL l y2.2))), IntKind.i64.wrap (y2.2 + 1)))
        else
          gd (0 ≤ y2.1) <|
          gd (y2.1 ≤ IntKind.i64.max) <|
          gd (nI 8 * y2.1 ≤ 2 ^ 48 - 112) <|
          iterO (X := Int × Int) (fun y3 =>
            bif decide (y3.1 < nI l.length) then
              gd (0 ≤ y3.1) <|
              gd (y3.1 < nI l.length) <|
              iterO (X := Int × Int) (fun y4 =>
                bif decide (y4.1 < nI (List.length (getL l y3.1))) then
                  gd (0 ≤ y4.1) <|
                  gd (y4.1 < nI (List.length (getL l y3.1))) <|
                  gd (0 ≤ y4.2) <|
                  gd ((y4.2 + 1) * 8 ≤ nI lim) <|
                  some (Sum.inl (IntKind.i64.wrap (y4.1 + 1), y4.2 + 1))
                else
                  some (Sum.inr (Sum.inl (IntKind.i64.wrap (y3.1 + 1), y4.2)))) (nn) (0, y3.2)
            else
              iterO (X := Int × List (Int × Bool) × Int × Int) (fun y4 =>
                bif decide (y4.1 < nI known.length) then
                  gd (0 ≤ y4.1) <|
                  gd (y4.1 < nI known.length) <|
                  bindO (takeM y4.2.1 y4.2.2.1 y4.2.2.2 (getI known y4.1)) fun y5 =>
                  bif !y5.1 then
                    some (Sum.inr (Sum.inr (Sum.inr (([], false, ()), (), ()))))
                  else
                    some (Sum.inl (IntKind.i64.wrap (y4.1 + 1), y5.2.1, y4.2.2.1, y5.2.2))
                else
                  iterO (X := Int × List (List Int) × List (Int × Bool) × Int × Int) (fun y5 =>
                    bif decide (y5.1 < nI l.length) then
                      gd (0 ≤ y5.1) <|
                      gd (y5.1 < nI l.length) <|
                      bindO (vplook (getL l y5.1) y5.2.2.1 y5.2.2.2.1 y5.2.2.2.2) fun y6 =>
                      bif !y6.1.1 then
                        some (Sum.inr (Sum.inr (Sum.inr (Sum.inr (([], false, ()), (), ())))))
                      else
                        some (Sum.inl (IntKind.i64.wrap (y5.1 + 1), y5.2.1, y6.2.1.1.1, y6.2.1.1.2.1.1, y6.2.1.1.2.1.2))
                    else
                      none /- stuck 1 -/) (nn) (0, l, y4.2.1, y4.2.2.1, y4.2.2.2)) (nn) (0, [], y2.1, 0)) (nn) (0, 0)) (nn) (IntKind.i64.wrap (nI known.length + 1), 0)

def pUnit (l : List (List Int)) (vars : Int) (known : List Int) : Option ((List Int × Bool × Unit) × Unit × Unit) := pUnitF fuelN pRight plook l vars known

def grownCF (nn : Nat)  (l : List (List Int)) (proof : List (List Int)) : Option (Unit × ((List (List Int) × Unit) × (List (List Int) × Unit) × Unit) × Unit) :=
  gd ((0 + l.length) * 24 ≤ lim) <|
  gd (0 + l.length ≤ lim) <|
  iterO (X := Unit) (fun y0 =>
    bif decide (0 < nI proof.length) then
      gd (0 < nI proof.length) <|
      none /- stuck 1 -/
    else
      some (Sum.inr ((), ((l, ()), (proof, ()), ()), ()))) (nn) ()

def grownC (l : List (List Int)) (proof : List (List Int)) : Option (Unit × ((List (List Int) × Unit) × (List (List Int) × Unit) × Unit) × Unit) := grownCF fuelN l proof

def grown (l : List (List Int)) (proof : List (List Int)) : Option ((Unit × Unit) × Unit × (List (List Int) × Unit) × (List (List Int) × Unit) × Unit) :=
  some (((), ()), (), (l, ()), (proof, ()), ())

def refutedC (known : List Int) (l : List (List Int)) (vars : Int) : Option ((Bool × Unit) × ((List (List Int) × Unit) × (Int × Unit) × Unit) × Unit) :=
  bindO (pRight l vars) fun y0 =>
  bif !y0.1.1 then
    some ((false, ()), ((l, ()), (vars, ()), ()), ())
  else
    bindO (pRight [known] vars) fun y1 =>
    bif bif false then true else !y1.1.1 then
      some ((false, ()), ((l, ()), (vars, ()), ()), ())
    else
      bindO (pUnit l vars known) fun y2 =>
      some ((!y2.1.2.1, ()), ((l, ()), (vars, ()), ()), ())

def refuted (l : List (List Int)) (vars : Int) : Option ((Unit × Unit) × Unit × (List (List Int) × Unit) × (Int × Unit) × Unit) :=
  some (((), ()), (), (l, ()), (vars, ()), ())

end GoSx
end
section
/- Models of functions: what they compute, if all goes well: CertC. -/
namespace GoSx
open Go
def mask (w : Int) : Option ((Int × Unit) × Unit × Unit) :=
  gd (0 ≤ w) <|
  gd (inK IntKind.i64 (IntKind.i64.wrap (1 * 2 ^ min w.toNat 64) - 1)) <|
  some ((IntKind.i64.wrap (1 * 2 ^ min w.toNat 64) - 1, ()), (), ())

def great9 (nn_ : List (Int × Int × Int × Int × Int × Int × Int × Unit)) (ni : List (ByteArray × Int × Unit)) (nc : List (ByteArray × Int × Int × Int × Unit)) (np : List (Int × ByteArray × Int × Unit)) (nm : List (ByteArray × Int × Unit)) : Option ((Bool × Unit) × Unit × Unit) :=
  bif decide (nI nn_.length > 300) then
    some ((true, ()), (), ())
  else
    bif bif false then true else decide (nI ni.length > 100) then
      some ((true, ()), (), ())
    else
      bif bif false then true else decide (nI nc.length > 300) then
        some ((true, ()), (), ())
      else
        bif bif false then true else decide (nI np.length > 40) then
          some ((true, ()), (), ())
        else
          some ((bif false then true else decide (nI nm.length > 300), ()), (), ())

def wide9 (nn_ : List (Int × Int × Int × Int × Int × Int × Int × Unit)) (ni : List (ByteArray × Int × Unit)) (nc : List (ByteArray × Int × Int × Int × Unit)) (np : List (Int × ByteArray × Int × Unit)) (nm : List (ByteArray × Int × Unit)) (pos : Int) (lim_ : Int) : Option ((Int × Unit) × Unit × Unit) :=
  bif decide (pos < 0) then
    some ((0, ()), (), ())
  else
    bif bif false then true else decide (pos ≥ lim_) then
      some ((0, ()), (), ())
    else
      gd (0 ≤ pos) <|
      gd (pos < nI nn_.length) <|
      some (((get nodeT nn_ pos).2.1, ()), (), ())

def operands (op : Int) : Option ((Int × Unit) × Unit × Unit) :=
  bif op == 1 then
    some ((0, ()), (), ())
  else
    bif op == 21 then
      some ((0, ()), (), ())
    else
      bif op == 22 then
        some ((0, ()), (), ())
      else
        bif op == 3 then
          some ((1, ()), (), ())
        else
          bif op == 4 then
            some ((1, ()), (), ())
          else
            bif op == 5 then
              some ((1, ()), (), ())
            else
              bif op == 18 then
                some ((1, ()), (), ())
              else
                bif op == 6 then
                  some ((2, ()), (), ())
                else
                  bif op == 7 then
                    some ((2, ()), (), ())
                  else
                    bif op == 8 then
                      some ((2, ()), (), ())
                    else
                      bif op == 9 then
                        some ((2, ()), (), ())
                      else
                        bif op == 10 then
                          some ((2, ()), (), ())
                        else
                          bif op == 11 then
                            some ((2, ()), (), ())
                          else
                            bif op == 12 then
                              some ((2, ()), (), ())
                            else
                              bif op == 13 then
                                some ((2, ()), (), ())
                              else
                                bif op == 14 then
                                  some ((2, ()), (), ())
                                else
                                  bif op == 15 then
                                    some ((2, ()), (), ())
                                  else
                                    bif op == 17 then
                                      some ((2, ()), (), ())
                                    else
                                      bif op == 16 then
                                        some ((3, ()), (), ())
                                      else
                                        some ((-1, ()), (), ())

def fits9 (nn_ : List (Int × Int × Int × Int × Int × Int × Int × Unit)) (ni : List (ByteArray × Int × Unit)) (nc : List (ByteArray × Int × Int × Int × Unit)) (np : List (Int × ByteArray × Int × Unit)) (nm : List (ByteArray × Int × Unit)) (i : Int) : Option ((Bool × Unit) × Unit × Unit) :=
  gd (0 ≤ i) <|
  gd (i < nI nn_.length) <|
  bindO (wide9 nn_ ni nc np nm (get nodeT nn_ i).2.2.1 i) fun y0 =>
  bindO (wide9 nn_ ni nc np nm (get nodeT nn_ i).2.2.2.1 i) fun y1 =>
  bindO (wide9 nn_ ni nc np nm (get nodeT nn_ i).2.2.2.2.1 i) fun y2 =>
  bif (get nodeT nn_ i).2.2.2.2.2.1 == 0 then
    bif (get nodeT nn_ i).1 == 1 then
      bif decide ((get nodeT nn_ i).2.2.2.2.2.1 ≥ 0) then
        bindO (mask (get nodeT nn_ i).2.1) fun y3 =>
        bif bif true then decide ((get nodeT nn_ i).2.2.2.2.2.1 ≤ y3.1.1) else false then
          some ((bif true then (get nodeT nn_ i).2.2.2.2.2.2.1 == 0 else false, ()), (), ())
        else
          some ((false, ()), (), ())
      else
        some ((false, ()), (), ())
    else
      bif (get nodeT nn_ i).1 == 21 then
        some ((bif true then (get nodeT nn_ i).2.2.2.2.2.2.1 == 0 else false, ()), (), ())
      else
        bif (get nodeT nn_ i).1 == 22 then
          some ((bif true then (get nodeT nn_ i).2.2.2.2.2.2.1 == 0 else false, ()), (), ())
        else
          bif (get nodeT nn_ i).1 == 3 then
            bif bif true then (get nodeT nn_ i).2.2.2.2.2.2.1 == 0 else false then
              some ((bif true then y0.1.1 == (get nodeT nn_ i).2.1 else false, ()), (), ())
            else
              some ((false, ()), (), ())
          else
            bif (get nodeT nn_ i).1 == 4 then
              bif (get nodeT nn_ i).2.2.2.2.2.1 == 0 then
                bif bif true then (get nodeT nn_ i).2.1 == 1 else false then
                  bif bif true then y0.1.1 == (get nodeT nn_ i).2.2.2.2.2.2.1 else false then
                    some ((bif true then decide (y0.1.1 > 0) else false, ()), (), ())
                  else
                    some ((false, ()), (), ())
                else
                  some ((false, ()), (), ())
              else
                some ((false, ()), (), ())
            else
              bif (get nodeT nn_ i).1 == 5 then
                bif (get nodeT nn_ i).2.2.2.2.2.1 == 0 then
                  bif bif true then (get nodeT nn_ i).2.1 == 1 else false then
                    bif bif true then y0.1.1 == (get nodeT nn_ i).2.2.2.2.2.2.1 else false then
                      some ((bif true then decide (y0.1.1 > 0) else false, ()), (), ())
                    else
                      some ((false, ()), (), ())
                  else
                    some ((false, ()), (), ())
                else
                  some ((false, ()), (), ())
              else
                bif (get nodeT nn_ i).1 == 6 then
                  bif bif true then (get nodeT nn_ i).2.2.2.2.2.2.1 == 0 else false then
                    bif bif true then y0.1.1 == (get nodeT nn_ i).2.1 else false then
                      some ((bif true then y1.1.1 == (get nodeT nn_ i).2.1 else false, ()), (), ())
                    else
                      some ((false, ()), (), ())
                  else
                    some ((false, ()), (), ())
                else
                  bif (get nodeT nn_ i).1 == 7 then
                    bif bif true then (get nodeT nn_ i).2.2.2.2.2.2.1 == 0 else false then
                      bif bif true then y0.1.1 == (get nodeT nn_ i).2.1 else false then
                        some ((bif true then y1.1.1 == (get nodeT nn_ i).2.1 else false, ()), (), ())
                      else
                        some ((false, ()), (), ())
                    else
                      some ((false, ()), (), ())
                  else
                    bif (get nodeT nn_ i).1 == 8 then
                      bif bif true then (get nodeT nn_ i).2.2.2.2.2.2.1 == 0 else false then
                        bif bif true then y0.1.1 == (get nodeT nn_ i).2.1 else false then
                          some ((bif true then y1.1.1 == (get nodeT nn_ i).2.1 else false, ()), (), ())
                        else
                          some ((false, ()), (), ())
                      else
                        some ((false, ()), (), ())
                    else
                      bif (get nodeT nn_ i).1 == 9 then
                        bif bif true then (get nodeT nn_ i).2.2.2.2.2.2.1 == 0 else false then
                          bif bif true then y0.1.1 == (get nodeT nn_ i).2.1 else false then
                            some ((bif true then y1.1.1 == (get nodeT nn_ i).2.1 else false, ()), (), ())
                          else
                            some ((false, ()), (), ())
                        else
                          some ((false, ()), (), ())
                      else
                        bif (get nodeT nn_ i).1 == 10 then
                          bif bif true then (get nodeT nn_ i).2.2.2.2.2.2.1 == 0 else false then
                            bif bif true then y0.1.1 == (get nodeT nn_ i).2.1 else false then
                              some ((bif true then y1.1.1 == (get nodeT nn_ i).2.1 else false, ()), (), ())
                            else
                              some ((false, ()), (), ())
                          else
                            some ((false, ()), (), ())
                        else
                          bif (get nodeT nn_ i).1 == 11 then
                            bif bif true then (get nodeT nn_ i).2.2.2.2.2.2.1 == 0 else false then
                              bif bif true then y0.1.1 == (get nodeT nn_ i).2.1 else false then
                                some ((bif true then y1.1.1 == (get nodeT nn_ i).2.1 else false, ()), (), ())
                              else
                                some ((false, ()), (), ())
                            else
                              some ((false, ()), (), ())
                          else
                            bif (get nodeT nn_ i).1 == 12 then
                              bif (get nodeT nn_ i).2.2.2.2.2.1 == 0 then
                                bif bif true then (get nodeT nn_ i).2.1 == 1 else false then
                                  bif bif true then y0.1.1 == (get nodeT nn_ i).2.2.2.2.2.2.1 else false then
                                    bif bif true then y1.1.1 == (get nodeT nn_ i).2.2.2.2.2.2.1 else false then
                                      some ((bif true then decide (y0.1.1 > 0) else false, ()), (), ())
                                    else
                                      some ((false, ()), (), ())
                                  else
                                    some ((false, ()), (), ())
                                else
                                  some ((false, ()), (), ())
                              else
                                some ((false, ()), (), ())
                            else
                              bif (get nodeT nn_ i).1 == 13 then
                                bif (get nodeT nn_ i).2.2.2.2.2.1 == 0 then
                                  bif bif true then (get nodeT nn_ i).2.1 == 1 else false then
                                    bif bif true then y0.1.1 == (get nodeT nn_ i).2.2.2.2.2.2.1 else false then
                                      bif bif true then y1.1.1 == (get nodeT nn_ i).2.2.2.2.2.2.1 else false then
                                        some ((bif true then decide (y0.1.1 > 0) else false, ()), (), ())
                                      else
                                        some ((false, ()), (), ())
                                    else
                                      some ((false, ()), (), ())
                                  else
                                    some ((false, ()), (), ())
                                else
                                  some ((false, ()), (), ())
                              else
                                bif (get nodeT nn_ i).1 == 14 then
                                  bif (get nodeT nn_ i).2.2.2.2.2.1 == 0 then
                                    bif bif true then (get nodeT nn_ i).2.1 == 1 else false then
                                      bif bif true then y0.1.1 == (get nodeT nn_ i).2.2.2.2.2.2.1 else false then
                                        bif bif true then y1.1.1 == (get nodeT nn_ i).2.2.2.2.2.2.1 else false then
                                          some ((bif true then decide (y0.1.1 > 0) else false, ()), (), ())
                                        else
                                          some ((false, ()), (), ())
                                      else
                                        some ((false, ()), (), ())
                                    else
                                      some ((false, ()), (), ())
                                  else
                                    some ((false, ()), (), ())
                                else
                                  bif (get nodeT nn_ i).1 == 15 then
                                    bif (get nodeT nn_ i).2.2.2.2.2.1 == 0 then
                                      bif bif true then (get nodeT nn_ i).2.1 == 1 else false then
                                        bif bif true then y0.1.1 == (get nodeT nn_ i).2.2.2.2.2.2.1 else false then
                                          bif bif true then y1.1.1 == (get nodeT nn_ i).2.2.2.2.2.2.1 else false then
                                            some ((bif true then decide (y0.1.1 > 0) else false, ()), (), ())
                                          else
                                            some ((false, ()), (), ())
                                        else
                                          some ((false, ()), (), ())
                                      else
                                        some ((false, ()), (), ())
                                    else
                                      some ((false, ()), (), ())
                                  else
                                    bif (get nodeT nn_ i).1 == 16 then
                                      bif bif true then (get nodeT nn_ i).2.2.2.2.2.2.1 == 0 else false then
                                        bif bif true then y0.1.1 == 1 else false then
                                          bif bif true then y1.1.1 == (get nodeT nn_ i).2.1 else false then
                                            some ((bif true then y2.1.1 == (get nodeT nn_ i).2.1 else false, ()), (), ())
                                          else
                                            some ((false, ()), (), ())
                                        else
                                          some ((false, ()), (), ())
                                      else
                                        some ((false, ()), (), ())
                                    else
                                      bif (get nodeT nn_ i).1 == 17 then
                                        bif bif true then (get nodeT nn_ i).2.2.2.2.2.2.1 == 0 else false then
                                          bif bif true then decide (y0.1.1 > 0) else false then
                                            bif bif true then decide (y1.1.1 > 0) else false then
                                              gd (inK IntKind.i64 (y0.1.1 + y1.1.1)) <|
                                              some ((bif true then y0.1.1 + y1.1.1 == (get nodeT nn_ i).2.1 else false, ()), (), ())
                                            else
                                              some ((false, ()), (), ())
                                          else
                                            some ((false, ()), (), ())
                                        else
                                          some ((false, ()), (), ())
                                      else
                                        bif decide ((get nodeT nn_ i).2.2.2.2.2.2.1 ≥ 0) then
                                          bif bif true then decide ((get nodeT nn_ i).2.2.2.2.2.2.1 ≤ (get nodeT nn_ i).2.2.2.2.2.1) else false then
                                            bif bif true then decide ((get nodeT nn_ i).2.2.2.2.2.1 < y0.1.1) else false then
                                              gd (inK IntKind.i64 ((get nodeT nn_ i).2.2.2.2.2.1 - (get nodeT nn_ i).2.2.2.2.2.2.1)) <|
                                              gd (inK IntKind.i64 ((get nodeT nn_ i).2.2.2.2.2.1 - (get nodeT nn_ i).2.2.2.2.2.2.1 + 1)) <|
                                              some ((bif true then (get nodeT nn_ i).2.1 == (get nodeT nn_ i).2.2.2.2.2.1 - (get nodeT nn_ i).2.2.2.2.2.2.1 + 1 else false, ()), (), ())
                                            else
                                              some ((false, ()), (), ())
                                          else
                                            some ((false, ()), (), ())
                                        else
                                          some ((false, ()), (), ())
  else
    bif (get nodeT nn_ i).1 == 1 then
      bif decide ((get nodeT nn_ i).2.2.2.2.2.1 ≥ 0) then
        bindO (mask (get nodeT nn_ i).2.1) fun y3 =>
        bif bif true then decide ((get nodeT nn_ i).2.2.2.2.2.1 ≤ y3.1.1) else false then
          some ((bif true then (get nodeT nn_ i).2.2.2.2.2.2.1 == 0 else false, ()), (), ())
        else
          some ((false, ()), (), ())
      else
        some ((false, ()), (), ())
    else
      bif (get nodeT nn_ i).1 == 21 then
        some ((false, ()), (), ())
      else
        bif (get nodeT nn_ i).1 == 22 then
          some ((false, ()), (), ())
        else
          bif (get nodeT nn_ i).1 == 3 then
            some ((false, ()), (), ())
          else
            bif (get nodeT nn_ i).1 == 4 then
              bif (get nodeT nn_ i).2.2.2.2.2.1 == 0 then
                bif bif true then (get nodeT nn_ i).2.1 == 1 else false then
                  bif bif true then y0.1.1 == (get nodeT nn_ i).2.2.2.2.2.2.1 else false then
                    some ((bif true then decide (y0.1.1 > 0) else false, ()), (), ())
                  else
                    some ((false, ()), (), ())
                else
                  some ((false, ()), (), ())
              else
                some ((false, ()), (), ())
            else
              bif (get nodeT nn_ i).1 == 5 then
                bif (get nodeT nn_ i).2.2.2.2.2.1 == 0 then
                  bif bif true then (get nodeT nn_ i).2.1 == 1 else false then
                    bif bif true then y0.1.1 == (get nodeT nn_ i).2.2.2.2.2.2.1 else false then
                      some ((bif true then decide (y0.1.1 > 0) else false, ()), (), ())
                    else
                      some ((false, ()), (), ())
                  else
                    some ((false, ()), (), ())
                else
                  some ((false, ()), (), ())
              else
                bif (get nodeT nn_ i).1 == 6 then
                  some ((false, ()), (), ())
                else
                  bif (get nodeT nn_ i).1 == 7 then
                    some ((false, ()), (), ())
                  else
                    bif (get nodeT nn_ i).1 == 8 then
                      some ((false, ()), (), ())
                    else
                      bif (get nodeT nn_ i).1 == 9 then
                        some ((false, ()), (), ())
                      else
                        bif (get nodeT nn_ i).1 == 10 then
                          some ((false, ()), (), ())
                        else
                          bif (get nodeT nn_ i).1 == 11 then
                            some ((false, ()), (), ())
                          else
                            bif (get nodeT nn_ i).1 == 12 then
                              bif (get nodeT nn_ i).2.2.2.2.2.1 == 0 then
                                bif bif true then (get nodeT nn_ i).2.1 == 1 else false then
                                  bif bif true then y0.1.1 == (get nodeT nn_ i).2.2.2.2.2.2.1 else false then
                                    bif bif true then y1.1.1 == (get nodeT nn_ i).2.2.2.2.2.2.1 else false then
                                      some ((bif true then decide (y0.1.1 > 0) else false, ()), (), ())
                                    else
                                      some ((false, ()), (), ())
                                  else
                                    some ((false, ()), (), ())
                                else
                                  some ((false, ()), (), ())
                              else
                                some ((false, ()), (), ())
                            else
                              bif (get nodeT nn_ i).1 == 13 then
                                bif (get nodeT nn_ i).2.2.2.2.2.1 == 0 then
                                  bif bif true then (get nodeT nn_ i).2.1 == 1 else false then
                                    bif bif true then y0.1.1 == (get nodeT nn_ i).2.2.2.2.2.2.1 else false then
                                      bif bif true then y1.1.1 == (get nodeT nn_ i).2.2.2.2.2.2.1 else false then
                                        some ((bif true then decide (y0.1.1 > 0) else false, ()), (), ())
                                      else
                                        some ((false, ()), (), ())
                                    else
                                      some ((false, ()), (), ())
                                  else
                                    some ((false, ()), (), ())
                                else
                                  some ((false, ()), (), ())
                              else
                                bif (get nodeT nn_ i).1 == 14 then
                                  bif (get nodeT nn_ i).2.2.2.2.2.1 == 0 then
                                    bif bif true then (get nodeT nn_ i).2.1 == 1 else false then
                                      bif bif true then y0.1.1 == (get nodeT nn_ i).2.2.2.2.2.2.1 else false then
                                        bif bif true then y1.1.1 == (get nodeT nn_ i).2.2.2.2.2.2.1 else false then
                                          some ((bif true then decide (y0.1.1 > 0) else false, ()), (), ())
                                        else
                                          some ((false, ()), (), ())
                                      else
                                        some ((false, ()), (), ())
                                    else
                                      some ((false, ()), (), ())
                                  else
                                    some ((false, ()), (), ())
                                else
                                  bif (get nodeT nn_ i).1 == 15 then
                                    bif (get nodeT nn_ i).2.2.2.2.2.1 == 0 then
                                      bif bif true then (get nodeT nn_ i).2.1 == 1 else false then
                                        bif bif true then y0.1.1 == (get nodeT nn_ i).2.2.2.2.2.2.1 else false then
                                          bif bif true then y1.1.1 == (get nodeT nn_ i).2.2.2.2.2.2.1 else false then
                                            some ((bif true then decide (y0.1.1 > 0) else false, ()), (), ())
                                          else
                                            some ((false, ()), (), ())
                                        else
                                          some ((false, ()), (), ())
                                      else
                                        some ((false, ()), (), ())
                                    else
                                      some ((false, ()), (), ())
                                  else
                                    bif (get nodeT nn_ i).1 == 16 then
                                      some ((false, ()), (), ())
                                    else
                                      bif (get nodeT nn_ i).1 == 17 then
                                        some ((false, ()), (), ())
                                      else
                                        bif decide ((get nodeT nn_ i).2.2.2.2.2.2.1 ≥ 0) then
                                          bif bif true then decide ((get nodeT nn_ i).2.2.2.2.2.2.1 ≤ (get nodeT nn_ i).2.2.2.2.2.1) else false then
                                            bif bif true then decide ((get nodeT nn_ i).2.2.2.2.2.1 < y0.1.1) else false then
                                              gd (inK IntKind.i64 ((get nodeT nn_ i).2.2.2.2.2.1 - (get nodeT nn_ i).2.2.2.2.2.2.1)) <|
                                              gd (inK IntKind.i64 ((get nodeT nn_ i).2.2.2.2.2.1 - (get nodeT nn_ i).2.2.2.2.2.2.1 + 1)) <|
                                              some ((bif true then (get nodeT nn_ i).2.1 == (get nodeT nn_ i).2.2.2.2.2.1 - (get nodeT nn_ i).2.2.2.2.2.2.1 + 1 else false, ()), (), ())
                                            else
                                              some ((false, ()), (), ())
                                          else
                                            some ((false, ()), (), ())
                                        else
                                          some ((false, ()), (), ())

def node9 (nn_ : List (Int × Int × Int × Int × Int × Int × Int × Unit)) (ni : List (ByteArray × Int × Unit)) (nc : List (ByteArray × Int × Int × Int × Unit)) (np : List (Int × ByteArray × Int × Unit)) (nm : List (ByteArray × Int × Unit)) (i : Int) : Option ((Bool × Unit) × Unit × Unit) :=
  gd (0 ≤ i) <|
  gd (i < nI nn_.length) <|
  bindO (operands (get nodeT nn_ i).1) fun y0 =>
  bif decide ((get nodeT nn_ i).2.1 < 1) then
    some ((false, ()), (), ())
  else
    bif bif false then true else decide ((get nodeT nn_ i).2.1 > 16) then
      some ((false, ()), (), ())
    else
      bif bif false then true else decide (y0.1.1 < 0) then
        some ((false, ()), (), ())
      else
        bif decide (y0.1.1 < 1) then
          bif bif false then true else bif true then (get nodeT nn_ i).2.2.1 != 0 else false then
            some ((false, ()), (), ())
          else
            bif decide (y0.1.1 < 2) then
              bif bif false then true else bif true then (get nodeT nn_ i).2.2.2.1 != 0 else false then
                some ((false, ()), (), ())
              else
                bif decide (y0.1.1 < 3) then
                  bif bif false then true else bif true then (get nodeT nn_ i).2.2.2.2.1 != 0 else false then
                    some ((false, ()), (), ())
                  else
                    bindO (fits9 nn_ ni nc np nm i) fun y1 =>
                    some ((y1.1.1, ()), (), ())
                else
                  bindO (fits9 nn_ ni nc np nm i) fun y1 =>
                  some ((y1.1.1, ()), (), ())
            else
              bif decide (y0.1.1 < 3) then
                bif bif false then true else bif true then (get nodeT nn_ i).2.2.2.2.1 != 0 else false then
                  some ((false, ()), (), ())
                else
                  bindO (fits9 nn_ ni nc np nm i) fun y1 =>
                  some ((y1.1.1, ()), (), ())
              else
                bindO (fits9 nn_ ni nc np nm i) fun y1 =>
                some ((y1.1.1, ()), (), ())
        else
          bif decide (y0.1.1 < 2) then
            bif bif false then true else bif true then (get nodeT nn_ i).2.2.2.1 != 0 else false then
              some ((false, ()), (), ())
            else
              bif decide (y0.1.1 < 3) then
                bif bif false then true else bif true then (get nodeT nn_ i).2.2.2.2.1 != 0 else false then
                  some ((false, ()), (), ())
                else
                  bindO (fits9 nn_ ni nc np nm i) fun y1 =>
                  some ((y1.1.1, ()), (), ())
              else
                bindO (fits9 nn_ ni nc np nm i) fun y1 =>
                some ((y1.1.1, ()), (), ())
          else
            bif decide (y0.1.1 < 3) then
              bif bif false then true else bif true then (get nodeT nn_ i).2.2.2.2.1 != 0 else false then
                some ((false, ()), (), ())
              else
                bindO (fits9 nn_ ni nc np nm i) fun y1 =>
                some ((y1.1.1, ()), (), ())
            else
              bindO (fits9 nn_ ni nc np nm i) fun y1 =>
              some ((y1.1.1, ()), (), ())

def there9 (nn_ : List (Int × Int × Int × Int × Int × Int × Int × Unit)) (ni : List (ByteArray × Int × Unit)) (nc : List (ByteArray × Int × Int × Int × Unit)) (np : List (Int × ByteArray × Int × Unit)) (nm : List (ByteArray × Int × Unit)) (pos : Int) : Option ((Int × Unit) × Unit × Unit) :=
  bindO (wide9 nn_ ni nc np nm pos (nI nn_.length)) fun y0 =>
  some ((y0.1.1, ()), (), ())

def pins9F (nn : Nat)  (nn_ : List (Int × Int × Int × Int × Int × Int × Int × Unit)) (ni : List (ByteArray × Int × Unit)) (nc : List (ByteArray × Int × Int × Int × Unit)) (np : List (Int × ByteArray × Int × Unit)) (nm : List (ByteArray × Int × Unit)) : Option ((Bool × Unit) × Unit × Unit) :=
  iterO (X := Int × Int × Int) (fun y0 =>
    bif decide (y0.2.2 < nI nn_.length) then
      gd (0 ≤ y0.2.2) <|
      gd (y0.2.2 < nI nn_.length) <|
      bif (get nodeT nn_ y0.2.2).1 == 21 then
        bif decide (y0.1 ≥ nI ni.length) then
          some (Sum.inr ((false, ()), (), ()))
        else
          gd (0 ≤ y0.1) <|
          gd (y0.1 < nI ni.length) <|
          bif bif false then true else (get pinT ni y0.1).2.1 != y0.2.2 then
            some (Sum.inr ((false, ()), (), ()))
          else
            gd (inK IntKind.i64 (y0.1 + 1)) <|
            gd (0 ≤ y0.2.2) <|
            gd (y0.2.2 < nI nn_.length) <|
            bif (get nodeT nn_ y0.2.2).1 == 22 then
              bif decide (y0.2.1 ≥ nI nc.length) then
                some (Sum.inr ((false, ()), (), ()))
              else
                gd (0 ≤ y0.2.1) <|
                gd (y0.2.1 < nI nc.length) <|
                bif bif false then true else (get cellT nc y0.2.1).2.1 != y0.2.2 then
                  some (Sum.inr ((false, ()), (), ()))
                else
                  gd (inK IntKind.i64 (y0.2.1 + 1)) <|
                  gd (inK IntKind.i64 (y0.2.2 + 1)) <|
                  some (Sum.inl (y0.1 + 1, y0.2.1 + 1, y0.2.2 + 1))
            else
              gd (inK IntKind.i64 (y0.2.2 + 1)) <|
              some (Sum.inl (y0.1 + 1, y0.2.1, y0.2.2 + 1))
      else
        gd (0 ≤ y0.2.2) <|
        gd (y0.2.2 < nI nn_.length) <|
        bif (get nodeT nn_ y0.2.2).1 == 22 then
          bif decide (y0.2.1 ≥ nI nc.length) then
            some (Sum.inr ((false, ()), (), ()))
          else
            gd (0 ≤ y0.2.1) <|
            gd (y0.2.1 < nI nc.length) <|
            bif bif false then true else (get cellT nc y0.2.1).2.1 != y0.2.2 then
              some (Sum.inr ((false, ()), (), ()))
            else
              gd (inK IntKind.i64 (y0.2.1 + 1)) <|
              gd (inK IntKind.i64 (y0.2.2 + 1)) <|
              some (Sum.inl (y0.1, y0.2.1 + 1, y0.2.2 + 1))
        else
          gd (inK IntKind.i64 (y0.2.2 + 1)) <|
          some (Sum.inl (y0.1, y0.2.1, y0.2.2 + 1))
    else
      bif y0.1 == nI ni.length then
        some (Sum.inr ((bif true then y0.2.1 == nI nc.length else false, ()), (), ()))
      else
        some (Sum.inr ((false, ()), (), ()))) (nn) (0, 0, 0)

def pins9 (nn_ : List (Int × Int × Int × Int × Int × Int × Int × Unit)) (ni : List (ByteArray × Int × Unit)) (nc : List (ByteArray × Int × Int × Int × Unit)) (np : List (Int × ByteArray × Int × Unit)) (nm : List (ByteArray × Int × Unit)) : Option ((Bool × Unit) × Unit × Unit) := pins9F fuelN nn_ ni nc np nm

def right9F (nn : Nat)  (nn_ : List (Int × Int × Int × Int × Int × Int × Int × Unit)) (ni : List (ByteArray × Int × Unit)) (nc : List (ByteArray × Int × Int × Int × Unit)) (np : List (Int × ByteArray × Int × Unit)) (nm : List (ByteArray × Int × Unit)) : Option ((Bool × Unit) × Unit × Unit) :=
  bif decide (nI nn_.length > 4000) then
    some ((false, ()), (), ())
  else
    bif bif false then true else decide (nI ni.length > 64) then
      some ((false, ()), (), ())
    else
      bif bif false then true else decide (nI nc.length > 256) then
        some ((false, ()), (), ())
      else
        bif bif false then true else decide (nI np.length > 16) then
          some ((false, ()), (), ())
        else
          iterO (X := Int) (fun y0 =>
            bif decide (y0 < nI nn_.length) then
              bindO (node9 nn_ ni nc np nm y0) fun y1 =>
              bif !y1.1.1 then
                some (Sum.inr ((false, ()), (), ()))
              else
                gd (inK IntKind.i64 (y0 + 1)) <|
                some (Sum.inl (y0 + 1))
            else
              bindO (pins9 nn_ ni nc np nm) fun y1 =>
              bif !y1.1.1 then
                some (Sum.inr ((false, ()), (), ()))
              else
                iterO (X := Int × Int) (fun y2 =>
                  bif decide (y2.2 < nI nc.length) then
                    gd (0 ≤ y2.2) <|
                    gd (y2.2 < nI nc.length) <|
                    gd (0 ≤ (get cellT nc y2.2).2.1) <|
                    gd ((get cellT nc y2.2).2.1 < nI nn_.length) <|
                    gd (inK IntKind.i64 (y2.1 + (get nodeT nn_ (get cellT nc y2.2).2.1).2.1)) <|
                    bindO (there9 nn_ ni nc np nm (get cellT nc y2.2).2.2.1) fun y3 =>
                    bif y3.1.1 != (get nodeT nn_ (get cellT nc y2.2).2.1).2.1 then
                      some (Sum.inr (Sum.inr ((false, ()), (), ())))
                    else
                      bif bif false then true else decide ((get cellT nc y2.2).2.2.2.1 < 0) then
                        some (Sum.inr (Sum.inr ((false, ()), (), ())))
                      else
                        bindO (mask (get nodeT nn_ (get cellT nc y2.2).2.1).2.1) fun y4 =>
                        bif bif false then true else decide ((get cellT nc y2.2).2.2.2.1 > y4.1.1) then
                          some (Sum.inr (Sum.inr ((false, ()), (), ())))
                        else
                          gd (inK IntKind.i64 (y2.2 + 1)) <|
                          some (Sum.inl (y2.1 + (get nodeT nn_ (get cellT nc y2.2).2.1).2.1, y2.2 + 1))
                  else
                    iterO (X := Int) (fun y3 =>
                      bif decide (y3 < nI np.length) then
                        gd (0 ≤ y3) <|
                        gd (y3 < nI np.length) <|
                        bif decide ((get propT np y3).1 < 8) then
                          some (Sum.inr (Sum.inr (Sum.inr ((false, ()), (), ()))))
                        else
                          bif bif false then true else decide ((get propT np y3).1 > 10) then
                            some (Sum.inr (Sum.inr (Sum.inr ((false, ()), (), ()))))
                          else
                            bindO (there9 nn_ ni nc np nm (get propT np y3).2.2.1) fun y4 =>
                            bif bif false then true else y4.1.1 != 1 then
                              some (Sum.inr (Sum.inr (Sum.inr ((false, ()), (), ()))))
                            else
                              gd (inK IntKind.i64 (y3 + 1)) <|
                              some (Sum.inl (y3 + 1))
                      else
                        iterO (X := Int) (fun y4 =>
                          bif decide (y4 < nI nm.length) then
                            gd (0 ≤ y4) <|
                            gd (y4 < nI nm.length) <|
                            bindO (there9 nn_ ni nc np nm (get pinT nm y4).2.1) fun y5 =>
                            bif y5.1.1 == 0 then
                              some (Sum.inr (Sum.inr (Sum.inr (Sum.inr ((false, ()), (), ())))))
                            else
                              gd (inK IntKind.i64 (y4 + 1)) <|
                              some (Sum.inl (y4 + 1))
                          else
                            some (Sum.inr (Sum.inr (Sum.inr (Sum.inr ((decide (y2.1 ≤ 256), ()), (), ())))))) (nn) 0) (nn) 0) (nn) (0, 0)) (nn) 0

def right9 (nn_ : List (Int × Int × Int × Int × Int × Int × Int × Unit)) (ni : List (ByteArray × Int × Unit)) (nc : List (ByteArray × Int × Int × Int × Unit)) (np : List (Int × ByteArray × Int × Unit)) (nm : List (ByteArray × Int × Unit)) : Option ((Bool × Unit) × Unit × Unit) := right9F fuelN nn_ ni nc np nm

def weight14 (xo : Int) (xw : Int) (xa : Int) (xb : Int) (xc : Int) (xn : Int) (xl : Int) : Option ((Int × Unit) × Unit × Unit) :=
  bif xo == 1 then
    some ((0, ()), (), ())
  else
    bif xo == 21 then
      some ((0, ()), (), ())
    else
      bif xo == 22 then
        some ((0, ()), (), ())
      else
        bif xo == 11 then
          gd (inK IntKind.i64 (20 * xw)) <|
          gd (inK IntKind.i64 (20 * xw * xw)) <|
          some ((20 * xw * xw, ()), (), ())
        else
          bif xo == 4 then
            gd (inK IntKind.i64 (20 * xl)) <|
            some ((20 * xl, ()), (), ())
          else
            bif xo == 5 then
              gd (inK IntKind.i64 (20 * xl)) <|
              some ((20 * xl, ()), (), ())
            else
              bif xo == 12 then
                gd (inK IntKind.i64 (20 * xl)) <|
                some ((20 * xl, ()), (), ())
              else
                bif xo == 13 then
                  gd (inK IntKind.i64 (20 * xl)) <|
                  some ((20 * xl, ()), (), ())
                else
                  bif xo == 14 then
                    gd (inK IntKind.i64 (20 * xl)) <|
                    some ((20 * xl, ()), (), ())
                  else
                    bif xo == 15 then
                      gd (inK IntKind.i64 (20 * xl)) <|
                      some ((20 * xl, ()), (), ())
                    else
                      gd (inK IntKind.i64 (20 * xw)) <|
                      some ((20 * xw, ()), (), ())

def weight15F (nn : Nat)  (nn_ : List (Int × Int × Int × Int × Int × Int × Int × Unit)) (ni : List (ByteArray × Int × Unit)) (nc : List (ByteArray × Int × Int × Int × Unit)) (np : List (Int × ByteArray × Int × Unit)) (nm : List (ByteArray × Int × Unit)) : Option ((Int × Unit) × Unit × Unit) :=
  iterO (X := Int × Int) (fun y0 =>
    bif decide (y0.2 < nI nn_.length) then
      gd (0 ≤ y0.2) <|
      gd (y0.2 < nI nn_.length) <|
      bindO (weight14 (get nodeT nn_ y0.2).1 (get nodeT nn_ y0.2).2.1 (get nodeT nn_ y0.2).2.2.1 (get nodeT nn_ y0.2).2.2.2.1 (get nodeT nn_ y0.2).2.2.2.2.1 (get nodeT nn_ y0.2).2.2.2.2.2.1 (get nodeT nn_ y0.2).2.2.2.2.2.2.1) fun y1 =>
      gd (inK IntKind.i64 (y0.1 + y1.1.1)) <|
      gd (inK IntKind.i64 (y0.2 + 1)) <|
      some (Sum.inl (y0.1 + y1.1.1, y0.2 + 1))
    else
      some (Sum.inr ((y0.1, ()), (), ()))) (nn) (0, 0)

def weight15 (nn_ : List (Int × Int × Int × Int × Int × Int × Int × Unit)) (ni : List (ByteArray × Int × Unit)) (nc : List (ByteArray × Int × Int × Int × Unit)) (np : List (Int × ByteArray × Int × Unit)) (nm : List (ByteArray × Int × Unit)) : Option ((Int × Unit) × Unit × Unit) := weight15F fuelN nn_ ni nc np nm

def great16 (nn_ : List (Int × Int × Int × Int × Int × Int × Int × Unit)) (ni : List (ByteArray × Int × Unit)) (nc : List (ByteArray × Int × Int × Int × Unit)) (np : List (Int × ByteArray × Int × Unit)) (nm : List (ByteArray × Int × Unit)) : Option ((Bool × Unit) × Unit × Unit) :=
  bindO (great9 nn_ ni nc np nm) fun y0 =>
  bif y0.1.1 then
    some ((true, ()), (), ())
  else
    bindO (right9 nn_ ni nc np nm) fun y1 =>
    bif bif false then true else !y1.1.1 then
      some ((true, ()), (), ())
    else
      bif bif false then true else decide (nI nn_.length > 100) then
        some ((true, ()), (), ())
      else
        bif bif false then true else decide (nI nc.length > 16) then
          some ((true, ()), (), ())
        else
          bindO (weight15 nn_ ni nc np nm) fun y2 =>
          some ((bif false then true else decide (y2.1.1 > 1000), ()), (), ())

def wide15F (nn : Nat)  (nn_ : List (Int × Int × Int × Int × Int × Int × Int × Unit)) (ni : List (ByteArray × Int × Unit)) (nc : List (ByteArray × Int × Int × Int × Unit)) (np : List (Int × ByteArray × Int × Unit)) (nm : List (ByteArray × Int × Unit)) (op : Int) : Option ((Int × Unit) × Unit × Unit) :=
  iterO (X := Int × Int) (fun y0 =>
    bif decide (y0.2 < nI nn_.length) then
      gd (0 ≤ y0.2) <|
      gd (y0.2 < nI nn_.length) <|
      bif (get nodeT nn_ y0.2).1 == op then
        gd (0 ≤ y0.2) <|
        gd (y0.2 < nI nn_.length) <|
        gd (inK IntKind.i64 (y0.1 + (get nodeT nn_ y0.2).2.1)) <|
        gd (inK IntKind.i64 (y0.2 + 1)) <|
        some (Sum.inl (y0.1 + (get nodeT nn_ y0.2).2.1, y0.2 + 1))
      else
        gd (inK IntKind.i64 (y0.2 + 1)) <|
        some (Sum.inl (y0.1, y0.2 + 1))
    else
      some (Sum.inr ((y0.1, ()), (), ()))) (nn) (0, 0)

def wide15 (nn_ : List (Int × Int × Int × Int × Int × Int × Int × Unit)) (ni : List (ByteArray × Int × Unit)) (nc : List (ByteArray × Int × Int × Int × Unit)) (np : List (Int × ByteArray × Int × Unit)) (nm : List (ByteArray × Int × Unit)) (op : Int) : Option ((Int × Unit) × Unit × Unit) := wide15F fuelN nn_ ni nc np nm op

def bits15F (nn : Nat)  (first : Int) (w : Int) : Option ((List Int × Unit) × Unit × Unit) :=
  iterO (X := Int × List Int) (fun y0 =>
    bif decide (y0.1 < w) then
      gd (inK IntKind.i64 (first + y0.1)) <|
      gd (inK IntKind.i64 (2 * (first + y0.1))) <|
      gd ((y0.2.length + [2 * (first + y0.1)].length) * 8 ≤ lim) <|
      gd (y0.2.length + [2 * (first + y0.1)].length ≤ lim) <|
      gd (inK IntKind.i64 (y0.1 + 1)) <|
      some (Sum.inl (y0.1 + 1, y0.2 ++ [2 * (first + y0.1)]))
    else
      some (Sum.inr ((y0.2, ()), (), ()))) (nn) (0, [])

def bits15 (first : Int) (w : Int) : Option ((List Int × Unit) × Unit × Unit) := bits15F fuelN first w

def new13 (ins : Int) : Option (((Int × List (Int × Int × Unit) × Unit) × Unit) × Unit × Unit) :=
  some (((ins, [], ()), ()), (), ())

def find13F (nn : Nat)  (gi : Int) (ga : List (Int × Int × Unit)) (a : Int) (b : Int) (ahead : Int) : Option ((Int × Unit) × Unit × Unit) :=
  iterO (X := Int) (fun y0 =>
    bif decide (y0 < ahead) then
      gd (0 ≤ y0) <|
      gd (y0 < nI ga.length) <|
      bif (get pair2 ga y0).1 == a then
        gd (0 ≤ y0) <|
        gd (y0 < nI ga.length) <|
        bif bif true then (get pair2 ga y0).2.1 == b else false then
          some (Sum.inr ((y0, ()), (), ()))
        else
          gd (inK IntKind.i64 (y0 + 1)) <|
          some (Sum.inl (y0 + 1))
      else
        gd (inK IntKind.i64 (y0 + 1)) <|
        some (Sum.inl (y0 + 1))
    else
      some (Sum.inr ((-1, ()), (), ()))) (nn) 0

def find13 (gi : Int) (ga : List (Int × Int × Unit)) (a : Int) (b : Int) (ahead : Int) : Option ((Int × Unit) × Unit × Unit) := find13F fuelN gi ga a b ahead

def and13 (gi : Int) (ga : List (Int × Int × Unit)) (a : Int) (b : Int) : Option (((Int × List (Int × Int × Unit) × Unit) × Int × Unit) × Unit × Unit) :=
  bif decide (a > b) then
    bif b == 0 then
      some (((gi, ga, ()), 0, ()), (), ())
    else
      bif IntKind.i64.wrap (b.tdiv 2) == IntKind.i64.wrap (a.tdiv 2) then
        bif bif false then true else bif true then b != a else false then
          some (((gi, ga, ()), 0, ()), (), ())
        else
          bif b == 1 then
            some (((gi, ga, ()), a, ()), (), ())
          else
            bif bif false then true else b == a then
              some (((gi, ga, ()), a, ()), (), ())
            else
              bindO (find13 gi ga b a (nI ga.length)) fun y0 =>
              bif decide (y0.1.1 < 0) then
                gd ((0 + ga.length) * 16 ≤ lim) <|
                gd (0 + ga.length ≤ lim) <|
                gd ((([] ++ ga).length + [(b, a, ())].length) * 16 ≤ lim) <|
                gd (([] ++ ga).length + [(b, a, ())].length ≤ lim) <|
                gd (inK IntKind.i64 (gi + 1)) <|
                gd (inK IntKind.i64 (gi + 1 + nI ga.length)) <|
                gd (inK IntKind.i64 (2 * (gi + 1 + nI ga.length))) <|
                some (((gi, [] ++ ga ++ [(b, a, ())], ()), 2 * (gi + 1 + nI ga.length), ()), (), ())
              else
                gd (inK IntKind.i64 (gi + 1)) <|
                gd (inK IntKind.i64 (gi + 1 + y0.1.1)) <|
                gd (inK IntKind.i64 (2 * (gi + 1 + y0.1.1))) <|
                some (((gi, ga, ()), 2 * (gi + 1 + y0.1.1), ()), (), ())
      else
        bif b == 1 then
          some (((gi, ga, ()), a, ()), (), ())
        else
          bif bif false then true else b == a then
            some (((gi, ga, ()), a, ()), (), ())
          else
            bindO (find13 gi ga b a (nI ga.length)) fun y0 =>
            bif decide (y0.1.1 < 0) then
              gd ((0 + ga.length) * 16 ≤ lim) <|
              gd (0 + ga.length ≤ lim) <|
              gd ((([] ++ ga).length + [(b, a, ())].length) * 16 ≤ lim) <|
              gd (([] ++ ga).length + [(b, a, ())].length ≤ lim) <|
              gd (inK IntKind.i64 (gi + 1)) <|
              gd (inK IntKind.i64 (gi + 1 + nI ga.length)) <|
              gd (inK IntKind.i64 (2 * (gi + 1 + nI ga.length))) <|
              some (((gi, [] ++ ga ++ [(b, a, ())], ()), 2 * (gi + 1 + nI ga.length), ()), (), ())
            else
              gd (inK IntKind.i64 (gi + 1)) <|
              gd (inK IntKind.i64 (gi + 1 + y0.1.1)) <|
              gd (inK IntKind.i64 (2 * (gi + 1 + y0.1.1))) <|
              some (((gi, ga, ()), 2 * (gi + 1 + y0.1.1), ()), (), ())
  else
    bif a == 0 then
      some (((gi, ga, ()), 0, ()), (), ())
    else
      bif IntKind.i64.wrap (a.tdiv 2) == IntKind.i64.wrap (b.tdiv 2) then
        bif bif false then true else bif true then a != b else false then
          some (((gi, ga, ()), 0, ()), (), ())
        else
          bif a == 1 then
            some (((gi, ga, ()), b, ()), (), ())
          else
            bif bif false then true else a == b then
              some (((gi, ga, ()), b, ()), (), ())
            else
              bindO (find13 gi ga a b (nI ga.length)) fun y0 =>
              bif decide (y0.1.1 < 0) then
                gd ((0 + ga.length) * 16 ≤ lim) <|
                gd (0 + ga.length ≤ lim) <|
                gd ((([] ++ ga).length + [(a, b, ())].length) * 16 ≤ lim) <|
                gd (([] ++ ga).length + [(a, b, ())].length ≤ lim) <|
                gd (inK IntKind.i64 (gi + 1)) <|
                gd (inK IntKind.i64 (gi + 1 + nI ga.length)) <|
                gd (inK IntKind.i64 (2 * (gi + 1 + nI ga.length))) <|
                some (((gi, [] ++ ga ++ [(a, b, ())], ()), 2 * (gi + 1 + nI ga.length), ()), (), ())
              else
                gd (inK IntKind.i64 (gi + 1)) <|
                gd (inK IntKind.i64 (gi + 1 + y0.1.1)) <|
                gd (inK IntKind.i64 (2 * (gi + 1 + y0.1.1))) <|
                some (((gi, ga, ()), 2 * (gi + 1 + y0.1.1), ()), (), ())
      else
        bif a == 1 then
          some (((gi, ga, ()), b, ()), (), ())
        else
          bif bif false then true else a == b then
            some (((gi, ga, ()), b, ()), (), ())
          else
            bindO (find13 gi ga a b (nI ga.length)) fun y0 =>
            bif decide (y0.1.1 < 0) then
              gd ((0 + ga.length) * 16 ≤ lim) <|
              gd (0 + ga.length ≤ lim) <|
              gd ((([] ++ ga).length + [(a, b, ())].length) * 16 ≤ lim) <|
              gd (([] ++ ga).length + [(a, b, ())].length ≤ lim) <|
              gd (inK IntKind.i64 (gi + 1)) <|
              gd (inK IntKind.i64 (gi + 1 + nI ga.length)) <|
              gd (inK IntKind.i64 (2 * (gi + 1 + nI ga.length))) <|
              some (((gi, [] ++ ga ++ [(a, b, ())], ()), 2 * (gi + 1 + nI ga.length), ()), (), ())
            else
              gd (inK IntKind.i64 (gi + 1)) <|
              gd (inK IntKind.i64 (gi + 1 + y0.1.1)) <|
              gd (inK IntKind.i64 (2 * (gi + 1 + y0.1.1))) <|
              some (((gi, ga, ()), 2 * (gi + 1 + y0.1.1), ()), (), ())

def turn13 (a : Int) : Option ((Int × Unit) × Unit × Unit) :=
  some ((IntKind.i64.wrap (nI (BitVec.ofInt 64 a ^^^ BitVec.ofInt 64 1).toNat), ()), (), ())

def or13 (gi : Int) (ga : List (Int × Int × Unit)) (a : Int) (b : Int) : Option (((Int × List (Int × Int × Unit) × Unit) × Int × Unit) × Unit × Unit) :=
  bindO (turn13 a) fun y0 =>
  bindO (turn13 b) fun y1 =>
  bindO (and13 gi ga y0.1.1 y1.1.1) fun y2 =>
  bindO (turn13 y2.1.2.1) fun y3 =>
  some (((y2.1.1.1, y2.1.1.2.1, ()), y3.1.1, ()), (), ())

def mux13 (gi : Int) (ga : List (Int × Int × Unit)) (i : Int) (a : Int) (b : Int) : Option (((Int × List (Int × Int × Unit) × Unit) × Int × Unit) × Unit × Unit) :=
  bindO (and13 gi ga i a) fun y0 =>
  bindO (turn13 i) fun y1 =>
  bindO (and13 y0.1.1.1 y0.1.1.2.1 y1.1.1 b) fun y2 =>
  bindO (or13 y2.1.1.1 y2.1.1.2.1 y0.1.2.1 y2.1.2.1) fun y3 =>
  some (((y3.1.1.1, y3.1.1.2.1, ()), y3.1.2.1, ()), (), ())

def xor13 (gi : Int) (ga : List (Int × Int × Unit)) (a : Int) (b : Int) : Option (((Int × List (Int × Int × Unit) × Unit) × Int × Unit) × Unit × Unit) :=
  bindO (turn13 b) fun y0 =>
  bindO (mux13 gi ga a y0.1.1 b) fun y1 =>
  some (((y1.1.1.1, y1.1.1.2.1, ()), y1.1.2.1, ()), (), ())

def sum14F (nn : Nat)  (gi : Int) (ga : List (Int × Int × Unit)) (a : List Int) (b : List Int) (ci : Int) : Option (((Int × List (Int × Int × Unit) × Unit) × List Int × Unit) × Unit × Unit) :=
  iterO (X := (Int × Int) × (Int × List (Int × Int × Unit)) × List Int) (fun y0 =>
    bif decide (y0.1.2 < nI a.length) then
      gd (0 ≤ y0.1.2) <|
      gd (y0.1.2 < nI a.length) <|
      gd (0 ≤ y0.1.2) <|
      gd (y0.1.2 < nI b.length) <|
      bindO (xor13 y0.2.1.1 y0.2.1.2 (getI a y0.1.2) (getI b y0.1.2)) fun y1 =>
      bindO (xor13 y1.1.1.1 y1.1.1.2.1 y1.1.2.1 y0.1.1) fun y2 =>
      gd (0 ≤ y0.1.2) <|
      gd (y0.1.2 < nI a.length) <|
      gd (0 ≤ y0.1.2) <|
      gd (y0.1.2 < nI b.length) <|
      bindO (and13 y2.1.1.1 y2.1.1.2.1 (getI a y0.1.2) (getI b y0.1.2)) fun y3 =>
      bindO (and13 y3.1.1.1 y3.1.1.2.1 y1.1.2.1 y0.1.1) fun y4 =>
      bindO (or13 y4.1.1.1 y4.1.1.2.1 y3.1.2.1 y4.1.2.1) fun y5 =>
      gd ((y0.2.2.length + [y2.1.2.1].length) * 8 ≤ lim) <|
      gd (y0.2.2.length + [y2.1.2.1].length ≤ lim) <|
      gd (inK IntKind.i64 (y0.1.2 + 1)) <|
      some (Sum.inl ((y5.1.2.1, y0.1.2 + 1), (y5.1.1.1, y5.1.1.2.1), y0.2.2 ++ [y2.1.2.1]))
    else
      some (Sum.inr (((y0.2.1.1, y0.2.1.2, ()), y0.2.2, ()), (), ()))) (nn) ((ci, 0), (gi, ga), [])

def sum14 (gi : Int) (ga : List (Int × Int × Unit)) (a : List Int) (b : List Int) (ci : Int) : Option (((Int × List (Int × Int × Unit) × Unit) × List Int × Unit) × Unit × Unit) := sum14F fuelN gi ga a b ci

def turned14F (nn : Nat)  (a : List Int) : Option ((List Int × Unit) × Unit × Unit) :=
  iterO (X := Int × List Int) (fun y0 =>
    bif decide (y0.1 < nI a.length) then
      gd (0 ≤ y0.1) <|
      gd (y0.1 < nI a.length) <|
      gd ((y0.2.length + [IntKind.i64.wrap (nI (BitVec.ofInt 64 (getI a y0.1) ^^^ BitVec.ofInt 64 1).toNat)].length) * 8 ≤ lim) <|
      gd (y0.2.length + [IntKind.i64.wrap (nI (BitVec.ofInt 64 (getI a y0.1) ^^^ BitVec.ofInt 64 1).toNat)].length ≤ lim) <|
      gd (inK IntKind.i64 (y0.1 + 1)) <|
      some (Sum.inl (y0.1 + 1, y0.2 ++ [IntKind.i64.wrap (nI (BitVec.ofInt 64 (getI a y0.1) ^^^ BitVec.ofInt 64 1).toNat)]))
    else
      some (Sum.inr ((y0.2, ()), (), ()))) (nn) (0, [])

def turned14 (a : List Int) : Option ((List Int × Unit) × Unit × Unit) := turned14F fuelN a

def all14F (nn : Nat)  (gi : Int) (ga : List (Int × Int × Unit)) (a : List Int) : Option (((Int × List (Int × Int × Unit) × Unit) × Int × Unit) × Unit × Unit) :=
  iterO (X := (Int × Int) × Int × List (Int × Int × Unit)) (fun y0 =>
    bif decide (y0.1.2 < nI a.length) then
      gd (0 ≤ y0.1.2) <|
      gd (y0.1.2 < nI a.length) <|
      bindO (and13 y0.2.1 y0.2.2 y0.1.1 (getI a y0.1.2)) fun y1 =>
      gd (inK IntKind.i64 (y0.1.2 + 1)) <|
      some (Sum.inl ((y1.1.2.1, y0.1.2 + 1), y1.1.1.1, y1.1.1.2.1))
    else
      some (Sum.inr (((y0.2.1, y0.2.2, ()), y0.1.1, ()), (), ()))) (nn) ((1, 0), gi, ga)

def all14 (gi : Int) (ga : List (Int × Int × Unit)) (a : List Int) : Option (((Int × List (Int × Int × Unit) × Unit) × Int × Unit) × Unit × Unit) := all14F fuelN gi ga a

def less14F (nn : Nat)  (gi : Int) (ga : List (Int × Int × Unit)) (a : List Int) (b : List Int) (x : Int) : Option (((Int × List (Int × Int × Unit) × Unit) × Int × Unit) × Unit × Unit) :=
  iterO (X := (Int × Int) × Int × List (Int × Int × Unit)) (fun y0 =>
    bif decide (y0.1.2 < nI a.length) then
      gd (0 ≤ y0.1.2) <|
      gd (y0.1.2 < nI a.length) <|
      gd (0 ≤ y0.1.2) <|
      gd (y0.1.2 < nI b.length) <|
      bindO (xor13 y0.2.1 y0.2.2 (getI a y0.1.2) (getI b y0.1.2)) fun y1 =>
      gd (0 ≤ y0.1.2) <|
      gd (y0.1.2 < nI b.length) <|
      bindO (mux13 y1.1.1.1 y1.1.1.2.1 y1.1.2.1 (getI b y0.1.2) y0.1.1) fun y2 =>
      gd (inK IntKind.i64 (y0.1.2 + 1)) <|
      some (Sum.inl ((y2.1.2.1, y0.1.2 + 1), y2.1.1.1, y2.1.1.2.1))
    else
      some (Sum.inr (((y0.2.1, y0.2.2, ()), y0.1.1, ()), (), ()))) (nn) ((x, 0), gi, ga)

def less14 (gi : Int) (ga : List (Int × Int × Unit)) (a : List Int) (b : List Int) (x : Int) : Option (((Int × List (Int × Int × Unit) × Unit) × Int × Unit) × Unit × Unit) := less14F fuelN gi ga a b x

def each14F (nn : Nat)  (gi : Int) (ga : List (Int × Int × Unit)) (op : Int) (a : List Int) (b : List Int) : Option (((Int × List (Int × Int × Unit) × Unit) × List Int × Unit) × Unit × Unit) :=
  iterO (X := Int × (Int × List (Int × Int × Unit)) × List Int) (fun y0 =>
    bif decide (y0.1 < nI a.length) then
      bif op == 6 then
        gd (0 ≤ y0.1) <|
        gd (y0.1 < nI a.length) <|
        gd (0 ≤ y0.1) <|
        gd (y0.1 < nI b.length) <|
        bindO (and13 y0.2.1.1 y0.2.1.2 (getI a y0.1) (getI b y0.1)) fun y1 =>
        gd ((y0.2.2.length + [y1.1.2.1].length) * 8 ≤ lim) <|
        gd (y0.2.2.length + [y1.1.2.1].length ≤ lim) <|
        gd (inK IntKind.i64 (y0.1 + 1)) <|
        some (Sum.inl (y0.1 + 1, (y1.1.1.1, y1.1.1.2.1), y0.2.2 ++ [y1.1.2.1]))
      else
        bif op == 7 then
          gd (0 ≤ y0.1) <|
          gd (y0.1 < nI a.length) <|
          gd (0 ≤ y0.1) <|
          gd (y0.1 < nI b.length) <|
          bindO (or13 y0.2.1.1 y0.2.1.2 (getI a y0.1) (getI b y0.1)) fun y1 =>
          gd ((y0.2.2.length + [y1.1.2.1].length) * 8 ≤ lim) <|
          gd (y0.2.2.length + [y1.1.2.1].length ≤ lim) <|
          gd (inK IntKind.i64 (y0.1 + 1)) <|
          some (Sum.inl (y0.1 + 1, (y1.1.1.1, y1.1.1.2.1), y0.2.2 ++ [y1.1.2.1]))
        else
          gd (0 ≤ y0.1) <|
          gd (y0.1 < nI a.length) <|
          gd (0 ≤ y0.1) <|
          gd (y0.1 < nI b.length) <|
          bindO (xor13 y0.2.1.1 y0.2.1.2 (getI a y0.1) (getI b y0.1)) fun y1 =>
          gd ((y0.2.2.length + [y1.1.2.1].length) * 8 ≤ lim) <|
          gd (y0.2.2.length + [y1.1.2.1].length ≤ lim) <|
          gd (inK IntKind.i64 (y0.1 + 1)) <|
          some (Sum.inl (y0.1 + 1, (y1.1.1.1, y1.1.1.2.1), y0.2.2 ++ [y1.1.2.1]))
    else
      some (Sum.inr (((y0.2.1.1, y0.2.1.2, ()), y0.2.2, ()), (), ()))) (nn) (0, (gi, ga), [])

def each14 (gi : Int) (ga : List (Int × Int × Unit)) (op : Int) (a : List Int) (b : List Int) : Option (((Int × List (Int × Int × Unit) × Unit) × List Int × Unit) × Unit × Unit) := each14F fuelN gi ga op a b

def times14F (nn : Nat)  (gi : Int) (ga : List (Int × Int × Unit)) (a : List Int) (b : List Int) : Option (((Int × List (Int × Int × Unit) × Unit) × List Int × Unit) × Unit × Unit) :=
  gd (nI a.length ≤ nI a.length) <|
  gd ((nI a.length).toNat * 8 ≤ lim) <|
  gd (nI a.length ≤ nI lim) <|
  iterO (X := Int × (Int × List (Int × Int × Unit)) × List Int × List Int) (fun y0 =>
    bif decide (y0.1 < nI b.length) then
      iterO (X := Int × (Int × List (Int × Int × Unit)) × List Int) (fun y1 =>
        bif decide (y1.1 < nI a.length) then
          bif decide (y1.1 ≥ y0.1) then
            gd (inK IntKind.i64 (y1.1 - y0.1)) <|
            gd (0 ≤ y1.1 - y0.1) <|
            gd (y1.1 - y0.1 < nI a.length) <|
            gd (0 ≤ y0.1) <|
            gd (y0.1 < nI b.length) <|
            bindO (and13 y1.2.1.1 y1.2.1.2 (getI a (y1.1 - y0.1)) (getI b y0.1)) fun y2 =>
            gd ((y1.2.2.length + [y2.1.2.1].length) * 8 ≤ lim) <|
            gd (y1.2.2.length + [y2.1.2.1].length ≤ lim) <|
            gd (inK IntKind.i64 (y1.1 + 1)) <|
            some (Sum.inl (y1.1 + 1, (y2.1.1.1, y2.1.1.2.1), y1.2.2 ++ [y2.1.2.1]))
          else
            gd ((y1.2.2.length + 1) * 8 ≤ lim) <|
            gd (y1.2.2.length + 1 ≤ lim) <|
            gd (inK IntKind.i64 (y1.1 + 1)) <|
            some (Sum.inl (y1.1 + 1, (y1.2.1.1, y1.2.1.2), y1.2.2 ++ [0]))
        else
          bindO (sum14 y1.2.1.1 y1.2.1.2 y0.2.2.1 y1.2.2 0) fun y2 =>
          gd ((0 + y2.1.2.1.length) * 8 ≤ lim) <|
          gd (0 + y2.1.2.1.length ≤ lim) <|
          gd (inK IntKind.i64 (y0.1 + 1)) <|
          some (Sum.inr (Sum.inl (y0.1 + 1, (y2.1.1.1, y2.1.1.2.1), [] ++ y2.1.2.1, [] ++ y2.1.2.1)))) (nn) (0, (y0.2.1.1, y0.2.1.2), [])
    else
      some (Sum.inr (((y0.2.1.1, y0.2.1.2, ()), y0.2.2.1, ()), (), ()))) (nn) (0, (gi, ga), List.replicate (nI a.length).toNat 0, List.replicate (nI a.length).toNat 0)

def times14 (gi : Int) (ga : List (Int × Int × Unit)) (a : List Int) (b : List Int) : Option (((Int × List (Int × Int × Unit) × Unit) × List Int × Unit) × Unit × Unit) := times14F fuelN gi ga a b

def lit14F (nn : Nat)  (n : Int) (w : Int) : Option ((List Int × Unit) × Unit × Unit) :=
  iterO (X := Int × List Int) (fun y0 =>
    bif decide (y0.1 < w) then
      gd (0 ≤ y0.1) <|
      gd ((y0.2.length + [IntKind.i64.wrap (nI (BitVec.ofInt 64 (n.fdiv (2 ^ min y0.1.toNat 64)) &&& BitVec.ofInt 64 1).toNat)].length) * 8 ≤ lim) <|
      gd (y0.2.length + [IntKind.i64.wrap (nI (BitVec.ofInt 64 (n.fdiv (2 ^ min y0.1.toNat 64)) &&& BitVec.ofInt 64 1).toNat)].length ≤ lim) <|
      gd (inK IntKind.i64 (y0.1 + 1)) <|
      some (Sum.inl (y0.1 + 1, y0.2 ++ [IntKind.i64.wrap (nI (BitVec.ofInt 64 (n.fdiv (2 ^ min y0.1.toNat 64)) &&& BitVec.ofInt 64 1).toNat)]))
    else
      some (Sum.inr ((y0.2, ()), (), ()))) (nn) (0, [])

def lit14 (n : Int) (w : Int) : Option ((List Int × Unit) × Unit × Unit) := lit14F fuelN n w

def asked14 (gi : Int) (ga : List (Int × Int × Unit)) (xo : Int) (xw : Int) (xa : Int) (xb : Int) (xc : Int) (xn : Int) (xl : Int) (a : List Int) (b : List Int) : Option (((Int × List (Int × Int × Unit) × Unit) × Int × Unit) × Unit × Unit) :=
  bif xo == 5 then
    bindO (all14 gi ga a) fun y0 =>
    some (((y0.1.1.1, y0.1.1.2.1, ()), y0.1.2.1, ()), (), ())
  else
    bif xo == 4 then
      bindO (turned14 a) fun y0 =>
      bindO (all14 gi ga y0.1.1) fun y1 =>
      some (((y1.1.1.1, y1.1.1.2.1, ()), IntKind.i64.wrap (nI (BitVec.ofInt 64 y1.1.2.1 ^^^ BitVec.ofInt 64 1).toNat), ()), (), ())
    else
      bif xo == 14 then
        bindO (less14 gi ga a b 0) fun y0 =>
        some (((y0.1.1.1, y0.1.1.2.1, ()), y0.1.2.1, ()), (), ())
      else
        bif xo == 15 then
          bindO (less14 gi ga a b 1) fun y0 =>
          some (((y0.1.1.1, y0.1.1.2.1, ()), y0.1.2.1, ()), (), ())
        else
          bindO (each14 gi ga 8 a b) fun y0 =>
          bindO (turned14 y0.1.2.1) fun y1 =>
          bindO (all14 y0.1.1.1 y0.1.1.2.1 y1.1.1) fun y2 =>
          bif xo == 13 then
            some (((y2.1.1.1, y2.1.1.2.1, ()), IntKind.i64.wrap (nI (BitVec.ofInt 64 y2.1.2.1 ^^^ BitVec.ofInt 64 1).toNat), ()), (), ())
          else
            some (((y2.1.1.1, y2.1.1.2.1, ()), y2.1.2.1, ()), (), ())

def do14F (nn : Nat)  (gi : Int) (ga : List (Int × Int × Unit)) (xo : Int) (xw : Int) (xa : Int) (xb : Int) (xc : Int) (xn : Int) (xl : Int) (a : List Int) (b : List Int) (c : List Int) : Option (((Int × List (Int × Int × Unit) × Unit) × List Int × Unit) × Unit × Unit) :=
  bif xo == 1 then
    bindO (lit14 xn xw) fun y0 =>
    some (((gi, ga, ()), y0.1.1, ()), (), ())
  else
    bif xo == 3 then
      bindO (turned14 a) fun y0 =>
      some (((gi, ga, ()), y0.1.1, ()), (), ())
    else
      bif xo == 6 then
        bindO (each14 gi ga xo a b) fun y0 =>
        some (((y0.1.1.1, y0.1.1.2.1, ()), y0.1.2.1, ()), (), ())
      else
        bif xo == 7 then
          bindO (each14 gi ga xo a b) fun y0 =>
          some (((y0.1.1.1, y0.1.1.2.1, ()), y0.1.2.1, ()), (), ())
        else
          bif xo == 8 then
            bindO (each14 gi ga xo a b) fun y0 =>
            some (((y0.1.1.1, y0.1.1.2.1, ()), y0.1.2.1, ()), (), ())
          else
            bif xo == 9 then
              bindO (sum14 gi ga a b 0) fun y0 =>
              some (((y0.1.1.1, y0.1.1.2.1, ()), y0.1.2.1, ()), (), ())
            else
              bif xo == 10 then
                bindO (turned14 b) fun y0 =>
                bindO (sum14 gi ga a y0.1.1 1) fun y1 =>
                some (((y1.1.1.1, y1.1.1.2.1, ()), y1.1.2.1, ()), (), ())
              else
                bif xo == 11 then
                  bindO (times14 gi ga a b) fun y0 =>
                  some (((y0.1.1.1, y0.1.1.2.1, ()), y0.1.2.1, ()), (), ())
                else
                  bif xo == 17 then
                    gd ((0 + b.length) * 8 ≤ lim) <|
                    gd (0 + b.length ≤ lim) <|
                    gd ((([] ++ b).length + a.length) * 8 ≤ lim) <|
                    gd (([] ++ b).length + a.length ≤ lim) <|
                    some (((gi, ga, ()), [] ++ b ++ a, ()), (), ())
                  else
                    bif xo == 18 then
                      gd (inK IntKind.i64 (xn + 1)) <|
                      gd (0 ≤ xl) <|
                      gd (xl ≤ xn + 1) <|
                      gd (xn + 1 ≤ nI a.length) <|
                      gd ((0 + (List.drop xl.toNat (List.take (Int.toNat (xn + 1)) a)).length) * 8 ≤ lim) <|
                      gd (0 + (List.drop xl.toNat (List.take (Int.toNat (xn + 1)) a)).length ≤ lim) <|
                      some (((gi, ga, ()), [] ++ List.drop xl.toNat (List.take (Int.toNat (xn + 1)) a), ()), (), ())
                    else
                      bif xo == 16 then
                        iterO (X := Int × (Int × List (Int × Int × Unit)) × List Int) (fun y0 =>
                          bif decide (y0.1 < nI b.length) then
                            gd (0 < nI a.length) <|
                            gd (0 ≤ y0.1) <|
                            gd (y0.1 < nI b.length) <|
                            gd (0 ≤ y0.1) <|
                            gd (y0.1 < nI c.length) <|
                            bindO (mux13 y0.2.1.1 y0.2.1.2 (getI a 0) (getI b y0.1) (getI c y0.1)) fun y1 =>
                            gd ((y0.2.2.length + [y1.1.2.1].length) * 8 ≤ lim) <|
                            gd (y0.2.2.length + [y1.1.2.1].length ≤ lim) <|
                            gd (inK IntKind.i64 (y0.1 + 1)) <|
                            some (Sum.inl (y0.1 + 1, (y1.1.1.1, y1.1.1.2.1), y0.2.2 ++ [y1.1.2.1]))
                          else
                            some (Sum.inr (((y0.2.1.1, y0.2.1.2, ()), y0.2.2, ()), (), ()))) (nn) (0, (gi, ga), [])
                      else
                        bindO (asked14 gi ga xo xw xa xb xc xn xl a b) fun y0 =>
                        some (((y0.1.1.1, y0.1.1.2.1, ()), [y0.1.2.1], ()), (), ())

def do14 (gi : Int) (ga : List (Int × Int × Unit)) (xo : Int) (xw : Int) (xa : Int) (xb : Int) (xc : Int) (xn : Int) (xl : Int) (a : List Int) (b : List Int) (c : List Int) : Option (((Int × List (Int × Int × Unit) × Unit) × List Int × Unit) × Unit × Unit) := do14F fuelN gi ga xo xw xa xb xc xn xl a b c

end GoSx
end
section
/- Models of functions: what they compute, if all goes well: CertD. -/
namespace GoSx
open Go
def made15F (nn : Nat)  (nn_ : List (Int × Int × Int × Int × Int × Int × Int × Unit)) (ni : List (ByteArray × Int × Unit)) (nc : List (ByteArray × Int × Int × Int × Unit)) (np : List (Int × ByteArray × Int × Unit)) (nm : List (ByteArray × Int × Unit)) : Option (((Int × List (Int × Int × Unit) × Unit) × List (List Int) × Unit) × Unit × Unit) :=
  bindO (wide15 nn_ ni nc np nm 21) fun y0 =>
  bindO (wide15 nn_ ni nc np nm 22) fun y1 =>
  gd (inK IntKind.i64 (y0.1.1 + y1.1.1)) <|
  bindO (new13 (y0.1.1 + y1.1.1)) fun y2 =>
  gd (inK IntKind.i64 (1 + y0.1.1)) <|
  iterO (X := (Int × Int × Int) × (Int × List (Int × Int × Unit)) × List (List Int)) (fun y3 =>
    bif decide (y3.1.2.1 < nI nn_.length) then
      gd (0 ≤ y3.1.2.1) <|
      gd (y3.1.2.1 < nI nn_.length) <|
      bif (get nodeT nn_ y3.1.2.1).1 == 21 then
        bindO (bits15 y3.1.1 (get nodeT nn_ y3.1.2.1).2.1) fun y4 =>
        gd ((y3.2.2.length + [y4.1.1].length) * 24 ≤ lim) <|
        gd (y3.2.2.length + [y4.1.1].length ≤ lim) <|
        gd (inK IntKind.i64 (y3.1.1 + (get nodeT nn_ y3.1.2.1).2.1)) <|
        gd (inK IntKind.i64 (y3.1.2.1 + 1)) <|
        some (Sum.inl ((y3.1.1 + (get nodeT nn_ y3.1.2.1).2.1, y3.1.2.1 + 1, y3.1.2.2), (y3.2.1.1, y3.2.1.2), y3.2.2 ++ [y4.1.1]))
      else
        bif (get nodeT nn_ y3.1.2.1).1 == 22 then
          bindO (bits15 y3.1.2.2 (get nodeT nn_ y3.1.2.1).2.1) fun y4 =>
          gd ((y3.2.2.length + [y4.1.1].length) * 24 ≤ lim) <|
          gd (y3.2.2.length + [y4.1.1].length ≤ lim) <|
          gd (inK IntKind.i64 (y3.1.2.2 + (get nodeT nn_ y3.1.2.1).2.1)) <|
          gd (inK IntKind.i64 (y3.1.2.1 + 1)) <|
          some (Sum.inl ((y3.1.1, y3.1.2.1 + 1, y3.1.2.2 + (get nodeT nn_ y3.1.2.1).2.1), (y3.2.1.1, y3.2.1.2), y3.2.2 ++ [y4.1.1]))
        else
          bif (get nodeT nn_ y3.1.2.1).1 == 1 then
            bindO (do14 y3.2.1.1 y3.2.1.2 (get nodeT nn_ y3.1.2.1).1 (get nodeT nn_ y3.1.2.1).2.1 (get nodeT nn_ y3.1.2.1).2.2.1 (get nodeT nn_ y3.1.2.1).2.2.2.1 (get nodeT nn_ y3.1.2.1).2.2.2.2.1 (get nodeT nn_ y3.1.2.1).2.2.2.2.2.1 (get nodeT nn_ y3.1.2.1).2.2.2.2.2.2.1 [] [] []) fun y4 =>
            gd ((y3.2.2.length + [y4.1.2.1].length) * 24 ≤ lim) <|
            gd (y3.2.2.length + [y4.1.2.1].length ≤ lim) <|
            gd (inK IntKind.i64 (y3.1.2.1 + 1)) <|
            some (Sum.inl ((y3.1.1, y3.1.2.1 + 1, y3.1.2.2), (y4.1.1.1, y4.1.1.2.1), y3.2.2 ++ [y4.1.2.1]))
          else
            gd (0 ≤ (get nodeT nn_ y3.1.2.1).2.2.1) <|
            gd ((get nodeT nn_ y3.1.2.1).2.2.1 < nI y3.2.2.length) <|
            gd (0 ≤ (get nodeT nn_ y3.1.2.1).2.2.2.1) <|
            gd ((get nodeT nn_ y3.1.2.1).2.2.2.1 < nI y3.2.2.length) <|
            gd (0 ≤ (get nodeT nn_ y3.1.2.1).2.2.2.2.1) <|
            gd ((get nodeT nn_ y3.1.2.1).2.2.2.2.1 < nI y3.2.2.length) <|
            bindO (do14 y3.2.1.1 y3.2.1.2 (get nodeT nn_ y3.1.2.1).1 (get nodeT nn_ y3.1.2.1).2.1 (get nodeT nn_ y3.1.2.1).2.2.1 (get nodeT nn_ y3.1.2.1).2.2.2.1 (get nodeT nn_ y3.1.2.1).2.2.2.2.1 (get nodeT nn_ y3.1.2.1).2.2.2.2.2.1 (get nodeT nn_ y3.1.2.1).2.2.2.2.2.2.1 (getL y3.2.2 (get nodeT nn_ y3.1.2.1).2.2.1) (getL y3.2.2 (get nodeT nn_ y3.1.2.1).2.2.2.1) (getL y3.2.2 (get nodeT nn_ y3.1.2.1).2.2.2.2.1)) fun y4 =>
            gd ((y3.2.2.length + [y4.1.2.1].length) * 24 ≤ lim) <|
            gd (y3.2.2.length + [y4.1.2.1].length ≤ lim) <|
            gd (inK IntKind.i64 (y3.1.2.1 + 1)) <|
            some (Sum.inl ((y3.1.1, y3.1.2.1 + 1, y3.1.2.2), (y4.1.1.1, y4.1.1.2.1), y3.2.2 ++ [y4.1.2.1]))
    else
      some (Sum.inr (((y3.2.1.1, y3.2.1.2, ()), y3.2.2, ()), (), ()))) (nn) ((1, 0, 1 + y0.1.1), (y2.1.1.1, y2.1.1.2.1), [])

def made15 (nn_ : List (Int × Int × Int × Int × Int × Int × Int × Unit)) (ni : List (ByteArray × Int × Unit)) (nc : List (ByteArray × Int × Int × Int × Unit)) (np : List (Int × ByteArray × Int × Unit)) (nm : List (ByteArray × Int × Unit)) : Option (((Int × List (Int × Int × Unit) × Unit) × List (List Int) × Unit) × Unit × Unit) := made15F fuelN nn_ ni nc np nm

def compile15F (nn : Nat)  (nn_ : List (Int × Int × Int × Int × Int × Int × Int × Unit)) (ni : List (ByteArray × Int × Unit)) (nc : List (ByteArray × Int × Int × Int × Unit)) (np : List (Int × ByteArray × Int × Unit)) (nm : List (ByteArray × Int × Unit)) : Option (((Int × List (Int × Int × Unit) × List (Int × Int × Int × Unit) × List (Int × Int × Bool × Int × Int × Unit) × List (Int × Int × Int × Unit) × Unit) × Unit) × Unit × Unit) :=
  bindO (made15 nn_ ni nc np nm) fun y0 =>
  iterO (X := Int × (Int × List (Int × Int × Unit)) × List (Int × Int × Int × Unit)) (fun y1 =>
    bif decide (y1.1 < nI ni.length) then
      iterO (X := Int × (Int × List (Int × Int × Unit)) × List (Int × Int × Int × Unit)) (fun y2 =>
        gd (0 ≤ y1.1) <|
        gd (y1.1 < nI ni.length) <|
        gd (0 ≤ (get pinT ni y1.1).2.1) <|
        gd ((get pinT ni y1.1).2.1 < nI nn_.length) <|
        bif decide (y2.1 < (get nodeT nn_ (get pinT ni y1.1).2.1).2.1) then
          gd (inK IntKind.i64 (nI y2.2.2.length + 1)) <|
          gd ((y2.2.2.length + [(nI y2.2.2.length + 1, y1.1, y2.1, ())].length) * 24 ≤ lim) <|
          gd (y2.2.2.length + [(nI y2.2.2.length + 1, y1.1, y2.1, ())].length ≤ lim) <|
          gd (inK IntKind.i64 (y2.1 + 1)) <|
          some (Sum.inl (y2.1 + 1, (y2.2.1.1, y2.2.1.2), y2.2.2 ++ [(nI y2.2.2.length + 1, y1.1, y2.1, ())]))
        else
          gd (inK IntKind.i64 (y1.1 + 1)) <|
          some (Sum.inr (Sum.inl (y1.1 + 1, (y2.2.1.1, y2.2.1.2), y2.2.2)))) (nn) (0, (y1.2.1.1, y1.2.1.2), y1.2.2)
    else
      iterO (X := Int × (Int × List (Int × Int × Unit)) × List (Int × Int × Bool × Int × Int × Unit)) (fun y2 =>
        bif decide (y2.1 < nI nc.length) then
          gd (0 ≤ y2.1) <|
          gd (y2.1 < nI nc.length) <|
          iterO (X := Int × (Int × List (Int × Int × Unit)) × List (Int × Int × Bool × Int × Int × Unit)) (fun y3 =>
            gd (0 ≤ (get cellT nc y2.1).2.1) <|
            gd ((get cellT nc y2.1).2.1 < nI nn_.length) <|
            bif decide (y3.1 < (get nodeT nn_ (get cellT nc y2.1).2.1).2.1) then
              gd (inK IntKind.i64 (nI y1.2.2.length + nI y3.2.2.length)) <|
              gd (inK IntKind.i64 (nI y1.2.2.length + nI y3.2.2.length + 1)) <|
              gd (0 ≤ (get cellT nc y2.1).2.2.1) <|
              gd ((get cellT nc y2.1).2.2.1 < nI y0.1.2.1.length) <|
              gd (0 ≤ y3.1) <|
              gd (y3.1 < nI (List.length (getL y0.1.2.1 (get cellT nc y2.1).2.2.1))) <|
              gd (0 ≤ y3.1) <|
              gd ((y3.2.2.length + [(nI y1.2.2.length + nI y3.2.2.length + 1, getI (getL y0.1.2.1 (get cellT nc y2.1).2.2.1) y3.1, IntKind.i64.wrap (nI (BitVec.ofInt 64 (Int.fdiv (get cellT nc y2.1).2.2.2.1 (2 ^ min y3.1.toNat 64)) &&& BitVec.ofInt 64 1).toNat) == 1, y2.1, y3.1, ())].length) * 40 ≤ lim) <|
              gd (y3.2.2.length + [(nI y1.2.2.length + nI y3.2.2.length + 1, getI (getL y0.1.2.1 (get cellT nc y2.1).2.2.1) y3.1, IntKind.i64.wrap (nI (BitVec.ofInt 64 (Int.fdiv (get cellT nc y2.1).2.2.2.1 (2 ^ min y3.1.toNat 64)) &&& BitVec.ofInt 64 1).toNat) == 1, y2.1, y3.1, ())].length ≤ lim) <|
              gd (inK IntKind.i64 (y3.1 + 1)) <|
              some (Sum.inl (y3.1 + 1, (y3.2.1.1, y3.2.1.2), y3.2.2 ++ [(nI y1.2.2.length + nI y3.2.2.length + 1, getI (getL y0.1.2.1 (get cellT nc y2.1).2.2.1) y3.1, IntKind.i64.wrap (nI (BitVec.ofInt 64 (Int.fdiv (get cellT nc y2.1).2.2.2.1 (2 ^ min y3.1.toNat 64)) &&& BitVec.ofInt 64 1).toNat) == 1, y2.1, y3.1, ())]))
            else
              gd (inK IntKind.i64 (y2.1 + 1)) <|
              some (Sum.inr (Sum.inl (y2.1 + 1, (y3.2.1.1, y3.2.1.2), y3.2.2)))) (nn) (0, (y2.2.1.1, y2.2.1.2), y2.2.2)
        else
          iterO (X := Int × (Int × List (Int × Int × Unit)) × List (Int × Int × Int × Unit)) (fun y3 =>
            bif decide (y3.1 < nI np.length) then
              gd (0 ≤ y3.1) <|
              gd (y3.1 < nI np.length) <|
              gd (0 ≤ y3.1) <|
              gd (y3.1 < nI np.length) <|
              gd (0 ≤ (get propT np y3.1).2.2.1) <|
              gd ((get propT np y3.1).2.2.1 < nI y0.1.2.1.length) <|
              gd (0 < nI (List.length (getL y0.1.2.1 (get propT np y3.1).2.2.1))) <|
              gd ((y3.2.2.length + [((get propT np y3.1).1, getI (getL y0.1.2.1 (get propT np y3.1).2.2.1) 0, y3.1, ())].length) * 24 ≤ lim) <|
              gd (y3.2.2.length + [((get propT np y3.1).1, getI (getL y0.1.2.1 (get propT np y3.1).2.2.1) 0, y3.1, ())].length ≤ lim) <|
              gd (inK IntKind.i64 (y3.1 + 1)) <|
              some (Sum.inl (y3.1 + 1, (y3.2.1.1, y3.2.1.2), y3.2.2 ++ [((get propT np y3.1).1, getI (getL y0.1.2.1 (get propT np y3.1).2.2.1) 0, y3.1, ())]))
            else
              some (Sum.inr (Sum.inr (Sum.inr (((y3.2.1.1, y3.2.1.2, y1.2.2, y2.2.2, y3.2.2, ()), ()), (), ()))))) (nn) (0, (y2.2.1.1, y2.2.1.2), [])) (nn) (0, (y1.2.1.1, y1.2.1.2), [])) (nn) (0, (y0.1.1.1, y0.1.1.2.1), [])

def compile15 (nn_ : List (Int × Int × Int × Int × Int × Int × Int × Unit)) (ni : List (ByteArray × Int × Unit)) (nc : List (ByteArray × Int × Int × Int × Unit)) (np : List (Int × ByteArray × Int × Unit)) (nm : List (ByteArray × Int × Unit)) : Option (((Int × List (Int × Int × Unit) × List (Int × Int × Int × Unit) × List (Int × Int × Bool × Int × Int × Unit) × List (Int × Int × Int × Unit) × Unit) × Unit) × Unit × Unit) := compile15F fuelN nn_ ni nc np nm

def aLit (vals : List Bool) (l : Int) : Option ((Bool × Unit) × Unit × Unit) :=
  gd (0 ≤ l.fdiv (2 ^ 1)) <|
  gd (l.fdiv (2 ^ 1) < nI vals.length) <|
  some ((!getB vals (l.fdiv (2 ^ 1)) == (IntKind.i64.wrap (nI (BitVec.ofInt 64 l &&& BitVec.ofInt 64 1).toNat) == 1), ()), (), ())

def aEvalF (nn : Nat)  (gi : Int) (ga : List (Int × Int × Unit)) (ins : List Bool) : Option ((List Bool × Unit) × Unit × Unit) :=
  gd (inK IntKind.i64 (1 + gi)) <|
  gd (inK IntKind.i64 (1 + gi)) <|
  gd (inK IntKind.i64 (1 + gi + nI ga.length)) <|
  gd (0 ≤ 1 + gi) <|
  gd (1 + gi ≤ 1 + gi + nI ga.length) <|
  gd (Int.toNat (1 + gi + nI ga.length) * 1 ≤ lim) <|
  gd (1 + gi + nI ga.length ≤ nI lim) <|
  gd (1 ≤ nI (List.replicate (Int.toNat (1 + gi)) false).length) <|
  gd (nI (List.replicate (Int.toNat (1 + gi)) false).length ≤ nI (List.replicate (Int.toNat (1 + gi)) false).length) <|
  gd (ins.length ≤ lim) <|
  iterO (X := Int × List Bool × List Bool) (fun y0 =>
    bif decide (y0.1 < nI ga.length) then
      gd (0 ≤ y0.1) <|
      gd (y0.1 < nI ga.length) <|
      bindO (aLit y0.2.1 (get pair2 ga y0.1).1) fun y1 =>
      bif y1.1.1 then
        bindO (aLit y0.2.1 (get pair2 ga y0.1).2.1) fun y2 =>
        gd ((y0.2.1.length + [bif true then y2.1.1 else false].length) * 1 ≤ lim) <|
        gd (y0.2.1.length + [bif true then y2.1.1 else false].length ≤ lim) <|
        gd (inK IntKind.i64 (y0.1 + 1)) <|
        some (Sum.inl (y0.1 + 1, y0.2.1 ++ [bif true then y2.1.1 else false], y0.2.1 ++ [bif true then y2.1.1 else false]))
      else
        gd ((y0.2.1.length + 1) * 1 ≤ lim) <|
        gd (y0.2.1.length + 1 ≤ lim) <|
        gd (inK IntKind.i64 (y0.1 + 1)) <|
        some (Sum.inl (y0.1 + 1, y0.2.1 ++ [false], y0.2.1 ++ [false]))
    else
      some (Sum.inr ((y0.2.1, ()), (), ()))) (nn) (0, List.take 1 (List.replicate (Int.toNat (1 + gi)) false) ++ List.take (ins.length.min (((some (nI (List.replicate (Int.toNat (1 + gi)) false).length)).getD (nI (List.replicate (Int.toNat (1 + gi)) false).length)).toNat - 1)) ins ++ List.drop (1 + ins.length.min (((some (nI (List.replicate (Int.toNat (1 + gi)) false).length)).getD (nI (List.replicate (Int.toNat (1 + gi)) false).length)).toNat - 1)) (List.replicate (Int.toNat (1 + gi)) false), List.take 1 (List.replicate (Int.toNat (1 + gi)) false) ++ List.take (ins.length.min (((some (nI (List.replicate (Int.toNat (1 + gi)) false).length)).getD (nI (List.replicate (Int.toNat (1 + gi)) false).length)).toNat - 1)) ins ++ List.drop (1 + ins.length.min (((some (nI (List.replicate (Int.toNat (1 + gi)) false).length)).getD (nI (List.replicate (Int.toNat (1 + gi)) false).length)).toNat - 1)) (List.replicate (Int.toNat (1 + gi)) false))

def aEval (gi : Int) (ga : List (Int × Int × Unit)) (ins : List Bool) : Option ((List Bool × Unit) × Unit × Unit) := aEvalF fuelN gi ga ins

def circFirstF (nn : Nat)  (gi : Int) (ga : List (Int × Int × Unit)) (ci : List (Int × Int × Int × Unit)) (cl : List (Int × Int × Bool × Int × Int × Unit)) (co : List (Int × Int × Int × Unit)) : Option ((List Bool × Unit) × Unit × Unit) :=
  gd (nI cl.length ≤ nI cl.length) <|
  gd ((nI cl.length).toNat * 1 ≤ lim) <|
  gd (nI cl.length ≤ nI lim) <|
  iterO (X := Int × List Bool) (fun y0 =>
    bif decide (y0.1 < nI cl.length) then
      gd (0 ≤ y0.1) <|
      gd (y0.1 < nI cl.length) <|
      gd (0 ≤ y0.1) <|
      gd (y0.1 < nI y0.2.length) <|
      gd (inK IntKind.i64 (y0.1 + 1)) <|
      some (Sum.inl (y0.1 + 1, y0.2.set y0.1.toNat (get latchT cl y0.1).2.2.1))
    else
      some (Sum.inr ((y0.2, ()), (), ()))) (nn) (0, List.replicate (nI cl.length).toNat false)

def circFirst (gi : Int) (ga : List (Int × Int × Unit)) (ci : List (Int × Int × Int × Unit)) (cl : List (Int × Int × Bool × Int × Int × Unit)) (co : List (Int × Int × Int × Unit)) : Option ((List Bool × Unit) × Unit × Unit) := circFirstF fuelN gi ga ci cl co

def circStepF (nn : Nat)  (gi : Int) (ga : List (Int × Int × Unit)) (ci : List (Int × Int × Int × Unit)) (cl : List (Int × Int × Bool × Int × Int × Unit)) (co : List (Int × Int × Int × Unit)) (lats : List Bool) (ins : List Bool) : Option ((List Bool × List Bool × Unit) × Unit × Unit) :=
  gd (inK IntKind.i64 (nI ins.length + nI lats.length)) <|
  gd (Int.toNat (nI ins.length + nI lats.length) * 1 ≤ lim) <|
  gd (nI ins.length + nI lats.length ≤ nI lim) <|
  gd ((0 + ins.length) * 1 ≤ lim) <|
  gd (0 + ins.length ≤ lim) <|
  gd (((List.replicate 0 false ++ ins).length + lats.length) * 1 ≤ lim) <|
  gd ((List.replicate 0 false ++ ins).length + lats.length ≤ lim) <|
  bindO (aEval gi ga (List.replicate 0 false ++ ins ++ lats)) fun y0 =>
  gd (nI cl.length ≤ nI cl.length) <|
  gd ((nI cl.length).toNat * 1 ≤ lim) <|
  gd (nI cl.length ≤ nI lim) <|
  gd (nI co.length ≤ nI co.length) <|
  gd ((nI co.length).toNat * 1 ≤ lim) <|
  gd (nI co.length ≤ nI lim) <|
  iterO (X := Int × List Bool) (fun y1 =>
    bif decide (y1.1 < nI cl.length) then
      gd (0 ≤ y1.1) <|
      gd (y1.1 < nI cl.length) <|
      bindO (aLit y0.1.1 (get latchT cl y1.1).2.1) fun y2 =>
      gd (0 ≤ y1.1) <|
      gd (y1.1 < nI y1.2.length) <|
      gd (inK IntKind.i64 (y1.1 + 1)) <|
      some (Sum.inl (y1.1 + 1, y1.2.set y1.1.toNat y2.1.1))
    else
      iterO (X := Int × List Bool) (fun y2 =>
        bif decide (y2.1 < nI co.length) then
          gd (0 ≤ y2.1) <|
          gd (y2.1 < nI co.length) <|
          bindO (aLit y0.1.1 (get outT co y2.1).2.1) fun y3 =>
          gd (0 ≤ y2.1) <|
          gd (y2.1 < nI y2.2.length) <|
          gd (inK IntKind.i64 (y2.1 + 1)) <|
          some (Sum.inl (y2.1 + 1, y2.2.set y2.1.toNat y3.1.1))
        else
          some (Sum.inr (Sum.inr ((y1.2, y2.2, ()), (), ())))) (nn) (0, List.replicate (nI co.length).toNat false)) (nn) (0, List.replicate (nI cl.length).toNat false)

def circStep (gi : Int) (ga : List (Int × Int × Unit)) (ci : List (Int × Int × Int × Unit)) (cl : List (Int × Int × Bool × Int × Int × Unit)) (co : List (Int × Int × Int × Unit)) (lats : List Bool) (ins : List Bool) : Option ((List Bool × List Bool × Unit) × Unit × Unit) := circStepF fuelN gi ga ci cl co lats ins

def circInsF (nn : Nat)  (gi : Int) (ga : List (Int × Int × Unit)) (ci : List (Int × Int × Int × Unit)) (cl : List (Int × Int × Bool × Int × Int × Unit)) (co : List (Int × Int × Int × Unit)) (row : List Int) : Option ((List Bool × Unit) × Unit × Unit) :=
  gd (nI ci.length ≤ nI ci.length) <|
  gd ((nI ci.length).toNat * 1 ≤ lim) <|
  gd (nI ci.length ≤ nI lim) <|
  iterO (X := Int × List Bool) (fun y0 =>
    bif decide (y0.1 < nI ci.length) then
      gd (0 ≤ y0.1) <|
      gd (y0.1 < nI ci.length) <|
      gd (0 ≤ (get pair3 ci y0.1).2.1) <|
      gd ((get pair3 ci y0.1).2.1 < nI row.length) <|
      gd (0 ≤ (get pair3 ci y0.1).2.2.1) <|
      gd (0 ≤ y0.1) <|
      gd (y0.1 < nI y0.2.length) <|
      gd (inK IntKind.i64 (y0.1 + 1)) <|
      some (Sum.inl (y0.1 + 1, y0.2.set y0.1.toNat (IntKind.i64.wrap (nI (BitVec.ofInt 64 (Int.fdiv (getI row (get pair3 ci y0.1).2.1) (2 ^ min (Int.toNat (get pair3 ci y0.1).2.2.1) 64)) &&& BitVec.ofInt 64 1).toNat) == 1)))
    else
      some (Sum.inr ((y0.2, ()), (), ()))) (nn) (0, List.replicate (nI ci.length).toNat false)

def circIns (gi : Int) (ga : List (Int × Int × Unit)) (ci : List (Int × Int × Int × Unit)) (cl : List (Int × Int × Bool × Int × Int × Unit)) (co : List (Int × Int × Int × Unit)) (row : List Int) : Option ((List Bool × Unit) × Unit × Unit) := circInsF fuelN gi ga ci cl co row

def legal16F (nn : Nat)  (gi : Int) (ga : List (Int × Int × Unit)) (ci : List (Int × Int × Int × Unit)) (cl : List (Int × Int × Bool × Int × Int × Unit)) (co : List (Int × Int × Int × Unit)) (outs : List Bool) : Option ((Bool × Unit) × Unit × Unit) :=
  iterO (X := Int) (fun y0 =>
    bif decide (y0 < nI co.length) then
      gd (0 ≤ y0) <|
      gd (y0 < nI co.length) <|
      bif (get outT co y0).1 == 9 then
        gd (0 ≤ y0) <|
        gd (y0 < nI outs.length) <|
        bif bif true then !getB outs y0 else false then
          some (Sum.inr ((false, ()), (), ()))
        else
          gd (inK IntKind.i64 (y0 + 1)) <|
          some (Sum.inl (y0 + 1))
      else
        gd (inK IntKind.i64 (y0 + 1)) <|
        some (Sum.inl (y0 + 1))
    else
      some (Sum.inr ((true, ()), (), ()))) (nn) 0

def legal16 (gi : Int) (ga : List (Int × Int × Unit)) (ci : List (Int × Int × Int × Unit)) (cl : List (Int × Int × Bool × Int × Int × Unit)) (co : List (Int × Int × Int × Unit)) (outs : List Bool) : Option ((Bool × Unit) × Unit × Unit) := legal16F fuelN gi ga ci cl co outs

def hits16 (gi : Int) (ga : List (Int × Int × Unit)) (ci : List (Int × Int × Int × Unit)) (cl : List (Int × Int × Bool × Int × Int × Unit)) (co : List (Int × Int × Int × Unit)) (out : Int) (outs : List Bool) : Option ((Bool × Unit) × Unit × Unit) :=
  gd (0 ≤ out) <|
  gd (out < nI co.length) <|
  bindO (legal16 gi ga ci cl co outs) fun y0 =>
  bif y0.1.1 then
    bif (get outT co out).1 == 8 then
      gd (0 ≤ out) <|
      gd (out < nI outs.length) <|
      bif bif true then !getB outs out else false then
        some ((bif true then true else false, ()), (), ())
      else
        bif (get outT co out).1 == 10 then
          gd (0 ≤ out) <|
          gd (out < nI outs.length) <|
          some ((bif true then bif false then true else bif true then getB outs out else false else false, ()), (), ())
        else
          some ((bif true then bif false then true else false else false, ()), (), ())
    else
      bif (get outT co out).1 == 10 then
        gd (0 ≤ out) <|
        gd (out < nI outs.length) <|
        some ((bif true then bif false then true else bif true then getB outs out else false else false, ()), (), ())
      else
        some ((bif true then bif false then true else false else false, ()), (), ())
  else
    some ((false, ()), (), ())

def pins26F (nn : Nat)  (gi : Int) (ga : List (Int × Int × Unit)) (ci : List (Int × Int × Int × Unit)) (cl : List (Int × Int × Bool × Int × Int × Unit)) (co : List (Int × Int × Int × Unit)) : Option ((Int × Unit) × Unit × Unit) :=
  iterO (X := Int × Int) (fun y0 =>
    bif decide (y0.2 < nI ci.length) then
      gd (0 ≤ y0.2) <|
      gd (y0.2 < nI ci.length) <|
      gd (inK IntKind.i64 ((get pair3 ci y0.2).2.1 + 1)) <|
      gd (inK IntKind.i64 (y0.2 + 1)) <|
      some (Sum.inl (max2 y0.1 ((get pair3 ci y0.2).2.1 + 1), y0.2 + 1))
    else
      some (Sum.inr ((y0.1, ()), (), ()))) (nn) (0, 0)

def pins26 (gi : Int) (ga : List (Int × Int × Unit)) (ci : List (Int × Int × Int × Unit)) (cl : List (Int × Int × Bool × Int × Int × Unit)) (co : List (Int × Int × Int × Unit)) : Option ((Int × Unit) × Unit × Unit) := pins26F fuelN gi ga ci cl co

def cpins (gi : Int) (ga : List (Int × Int × Unit)) (ci : List (Int × Int × Int × Unit)) (cl : List (Int × Int × Bool × Int × Int × Unit)) (co : List (Int × Int × Int × Unit)) : Option ((Int × Unit) × Unit × Unit) :=
  bif nI ci.length == 0 then
    some ((0, ()), (), ())
  else
    gd (inK IntKind.i64 (nI ci.length - 1)) <|
    gd (0 ≤ nI ci.length - 1) <|
    gd (nI ci.length - 1 < nI ci.length) <|
    gd (inK IntKind.i64 ((get pair3 ci (nI ci.length - 1)).2.1 + 1)) <|
    some (((get pair3 ci (nI ci.length - 1)).2.1 + 1, ()), (), ())

def oddC1 (n : Int) : Option ((Bool × Unit) × Unit × Unit) :=
  bif decide (n < 0) then
    some ((true, ()), (), ())
  else
    some ((bif false then true else decide (n > 65535), ()), (), ())

def IndexFunc_oddF (nn : Nat)  (s : List Int) : Option ((Int × Unit) × Unit × Unit) :=
  iterO (X := Int) (fun y0 =>
    bif decide (y0 < nI s.length) then
      gd (0 ≤ y0) <|
      gd (y0 < nI s.length) <|
      bindO (oddC1 (getI s y0)) fun y1 =>
      bif y1.1.1 then
        some (Sum.inr ((y0, ()), (), ()))
      else
        gd (inK IntKind.i64 (y0 + 1)) <|
        some (Sum.inl (y0 + 1))
    else
      some (Sum.inr ((-1, ()), (), ()))) (nn) 0

def IndexFunc_odd (s : List Int) : Option ((Int × Unit) × Unit × Unit) := IndexFunc_oddF fuelN s

def ContainsFunc_odd (s : List Int) : Option ((Bool × Unit) × Unit × Unit) :=
  bindO (IndexFunc_odd s) fun y0 =>
  some ((decide (y0.1.1 ≥ 0), ()), (), ())

def oddC (row : List Int) (many : Int) : Option ((Bool × Unit) × ((Int × Unit) × Unit) × Unit) :=
  bif nI row.length != many then
    some ((true, ()), ((many, ()), ()), ())
  else
    bindO (ContainsFunc_odd row) fun y0 =>
    some ((bif false then true else y0.1.1, ()), ((many, ()), ()), ())

def IndexFunc_rowsF (nn : Nat)  (s : List (List Int)) (many : Int) : Option ((Int × Unit) × ((Int × Unit) × Unit) × Unit) :=
  iterO (X := Int × Int) (fun y0 =>
    bif decide (y0.1 < nI s.length) then
      gd (0 ≤ y0.1) <|
      gd (y0.1 < nI s.length) <|
      bindO (oddC (getL s y0.1) y0.2) fun y1 =>
      bif y1.1.1 then
        some (Sum.inr ((y0.1, ()), ((y1.2.1.1.1, ()), ()), ()))
      else
        gd (inK IntKind.i64 (y0.1 + 1)) <|
        some (Sum.inl (y0.1 + 1, y1.2.1.1.1))
    else
      some (Sum.inr ((-1, ()), ((y0.2, ()), ()), ()))) (nn) (0, many)

def IndexFunc_rows (s : List (List Int)) (many : Int) : Option ((Int × Unit) × ((Int × Unit) × Unit) × Unit) := IndexFunc_rowsF fuelN s many

def ContainsFunc_rows (s : List (List Int)) (many : Int) : Option ((Bool × Unit) × ((Int × Unit) × Unit) × Unit) :=
  bindO (IndexFunc_rows s many) fun y0 =>
  some ((decide (y0.1.1 ≥ 0), ()), ((y0.2.1.1.1, ()), ()), ())

def replayedF (nn : Nat)  (gi : Int) (ga : List (Int × Int × Unit)) (ci : List (Int × Int × Int × Unit)) (cl : List (Int × Int × Bool × Int × Int × Unit)) (co : List (Int × Int × Int × Unit)) (out : Int) (trace : List (List Int)) : Option ((Bool × Unit) × Unit × Unit) :=
  bindO (cpins gi ga ci cl co) fun y0 =>
  bif decide (nI trace.length < 1) then
    some ((false, ()), (), ())
  else
    bif bif false then true else decide (nI trace.length > 64) then
      some ((false, ()), (), ())
    else
      bindO (ContainsFunc_rows trace y0.1.1) fun y1 =>
      bif bif false then true else y1.1.1 then
        some ((false, ()), (), ())
      else
        bindO (circFirst gi ga ci cl co) fun y2 =>
        iterO (X := Int × List Bool) (fun y3 =>
          bif decide (y3.1 < nI trace.length) then
            gd (0 ≤ y3.1) <|
            gd (y3.1 < nI trace.length) <|
            bindO (circIns gi ga ci cl co (getL trace y3.1)) fun y4 =>
            bindO (circStep gi ga ci cl co y3.2 y4.1.1) fun y5 =>
            iterO (X := Int) (fun y6 =>
              bif decide (y6 < nI co.length) then
                gd (0 ≤ y6) <|
                gd (y6 < nI co.length) <|
                bif (get outT co y6).1 == 9 then
                  gd (0 ≤ y6) <|
                  gd (y6 < nI y5.1.2.1.length) <|
                  bif bif true then !getB y5.1.2.1 y6 else false then
                    some (Sum.inr (Sum.inr ((false, ()), (), ())))
                  else
                    gd (inK IntKind.i64 (y6 + 1)) <|
                    some (Sum.inl (y6 + 1))
                else
                  gd (inK IntKind.i64 (y6 + 1)) <|
                  some (Sum.inl (y6 + 1))
              else
                gd (0 ≤ out) <|
                gd (out < nI y5.1.2.1.length) <|
                gd (0 ≤ out) <|
                gd (out < nI co.length) <|
                gd (inK IntKind.i64 (nI trace.length - 1)) <|
                bif !(getB y5.1.2.1 out == ((get outT co out).1 == 10)) == (y3.1 == nI trace.length - 1) then
                  some (Sum.inr (Sum.inr ((false, ()), (), ())))
                else
                  gd (inK IntKind.i64 (y3.1 + 1)) <|
                  some (Sum.inr (Sum.inl (y3.1 + 1, y5.1.1)))) (nn) 0
          else
            some (Sum.inr ((true, ()), (), ()))) (nn) (0, y2.1.1)

def replayed (gi : Int) (ga : List (Int × Int × Unit)) (ci : List (Int × Int × Int × Unit)) (cl : List (Int × Int × Bool × Int × Int × Unit)) (co : List (Int × Int × Int × Unit)) (out : Int) (trace : List (List Int)) : Option ((Bool × Unit) × Unit × Unit) := replayedF fuelN gi ga ci cl co out trace

def some16 : Option (((Int × List (Int × Int × Unit) × List (Int × Int × Int × Unit) × List (Int × Int × Bool × Int × Int × Unit) × List (Int × Int × Int × Unit) × Unit) × Unit) × Unit × Unit) :=
  some (((4, [(4, 9, ()), (3, 5, ())], [(1, 0, 0, ())], [(2, 2, true, 0, 0, ()), (3, 7, false, 1, 0, ()), (4, 0, false, 2, 0, ())], [(8, 10, 0, ()), (10, 6, 1, ()), (9, 13, 2, ())], ()), ()), (), ())

def never26 : Option (((Int × List (Int × Int × Unit) × List (Int × Int × Int × Unit) × List (Int × Int × Bool × Int × Int × Unit) × List (Int × Int × Int × Unit) × Unit) × Unit) × Unit × Unit) :=
  bindO (some16) fun y0 =>
  gd ((0 + y0.1.1.2.2.2.2.1.length) * 24 ≤ lim) <|
  gd (0 + y0.1.1.2.2.2.2.1.length ≤ lim) <|
  gd ((([] ++ y0.1.1.2.2.2.2.1).length + 1) * 24 ≤ lim) <|
  gd (([] ++ y0.1.1.2.2.2.2.1).length + 1 ≤ lim) <|
  some (((y0.1.1.1, y0.1.1.2.1, y0.1.1.2.2.1, y0.1.1.2.2.2.1, [] ++ y0.1.1.2.2.2.2.1 ++ [(10, 8, 3, ())], ()), ()), (), ())

def few26 (nn_ : List (Int × Int × Int × Int × Int × Int × Int × Unit)) (ni : List (ByteArray × Int × Unit)) (nc : List (ByteArray × Int × Int × Int × Unit)) (np : List (Int × ByteArray × Int × Unit)) (nm : List (ByteArray × Int × Unit)) (p : Int) : Option (((Int × List (Int × Int × Unit) × List (Int × Int × Int × Unit) × List (Int × Int × Bool × Int × Int × Unit) × List (Int × Int × Int × Unit) × Unit) × Int × Bool × Unit) × Unit × Unit) :=
  bindO (great16 nn_ ni nc np nm) fun y0 =>
  bif y0.1.1 then
    some (((0, [], [], [], [], ()), 0, false, ()), (), ())
  else
    bindO (compile15 nn_ ni nc np nm) fun y1 =>
    bif nI y1.1.1.2.2.2.2.1.length == 0 then
      some (((y1.1.1.1, y1.1.1.2.1, y1.1.1.2.2.1, y1.1.1.2.2.2.1, y1.1.1.2.2.2.2.1, ()), 0, false, ()), (), ())
    else
      bif bif false then true else decide (nI y1.1.1.2.2.2.1.length > 7) then
        some (((y1.1.1.1, y1.1.1.2.1, y1.1.1.2.2.1, y1.1.1.2.2.2.1, y1.1.1.2.2.2.2.1, ()), 0, false, ()), (), ())
      else
        bif bif false then true else decide (nI y1.1.1.2.2.1.length > 4) then
          some (((y1.1.1.1, y1.1.1.2.1, y1.1.1.2.2.1, y1.1.1.2.2.2.1, y1.1.1.2.2.2.2.1, ()), 0, false, ()), (), ())
        else
          gd (nI y1.1.1.2.2.2.2.1.length ≠ 0) <|
          gd (0 ≤ (IntKind.i64.wrap p).tmod (nI y1.1.1.2.2.2.2.1.length)) <|
          gd ((IntKind.i64.wrap p).tmod (nI y1.1.1.2.2.2.2.1.length) < nI y1.1.1.2.2.2.2.1.length) <|
          some (((y1.1.1.1, y1.1.1.2.1, y1.1.1.2.2.1, y1.1.1.2.2.2.1, y1.1.1.2.2.2.2.1, ()), (IntKind.i64.wrap p).tmod (nI y1.1.1.2.2.2.2.1.length), (get outT y1.1.1.2.2.2.2.1 ((IntKind.i64.wrap p).tmod (nI y1.1.1.2.2.2.2.1.length))).1 != 9, ()), (), ())

def rows26F (nn : Nat)  (gi : Int) (ga : List (Int × Int × Unit)) (ci : List (Int × Int × Int × Unit)) (cl : List (Int × Int × Bool × Int × Int × Unit)) (co : List (Int × Int × Int × Unit)) (raw : List (List Int)) : Option ((List (List Int) × Unit) × Unit × Unit) :=
  iterO (X := Int × List (List Int)) (fun y0 =>
    bif decide (y0.1 < nI raw.length) then
      bif bif true then decide (y0.1 < 64) else false then
        iterO (X := Int × List Int) (fun y1 =>
          bindO (pins26 gi ga ci cl co) fun y2 =>
          bif decide (y1.1 < y2.1.1) then
            gd (0 ≤ y0.1) <|
            gd (y0.1 < nI raw.length) <|
            bif decide (y1.1 < nI (List.length (get (Ty.int IntKind.u16).sl raw y0.1))) then
              gd (0 ≤ y0.1) <|
              gd (y0.1 < nI raw.length) <|
              gd (0 ≤ y1.1) <|
              gd (y1.1 < nI (List.length (get (Ty.int IntKind.u16).sl raw y0.1))) <|
              gd ((y1.2.length + [IntKind.i64.wrap (get (Ty.int IntKind.u16) (get (Ty.int IntKind.u16).sl raw y0.1) y1.1)].length) * 8 ≤ lim) <|
              gd (y1.2.length + [IntKind.i64.wrap (get (Ty.int IntKind.u16) (get (Ty.int IntKind.u16).sl raw y0.1) y1.1)].length ≤ lim) <|
              gd (inK IntKind.i64 (y1.1 + 1)) <|
              some (Sum.inl (y1.1 + 1, y1.2 ++ [IntKind.i64.wrap (get (Ty.int IntKind.u16) (get (Ty.int IntKind.u16).sl raw y0.1) y1.1)]))
            else
              gd ((y1.2.length + 1) * 8 ≤ lim) <|
              gd (y1.2.length + 1 ≤ lim) <|
              gd (inK IntKind.i64 (y1.1 + 1)) <|
              some (Sum.inl (y1.1 + 1, y1.2 ++ [0]))
          else
            gd ((y0.2.length + [y1.2].length) * 24 ≤ lim) <|
            gd (y0.2.length + [y1.2].length ≤ lim) <|
            gd (inK IntKind.i64 (y0.1 + 1)) <|
            some (Sum.inr (Sum.inl (y0.1 + 1, y0.2 ++ [y1.2])))) (nn) (0, [])
      else
        some (Sum.inr ((y0.2, ()), (), ()))
    else
      some (Sum.inr ((y0.2, ()), (), ()))) (nn) (0, [])

def rows26 (gi : Int) (ga : List (Int × Int × Unit)) (ci : List (Int × Int × Int × Unit)) (cl : List (Int × Int × Bool × Int × Int × Unit)) (co : List (Int × Int × Int × Unit)) (raw : List (List Int)) : Option ((List (List Int) × Unit) × Unit × Unit) := rows26F fuelN gi ga ci cl co raw

end GoSx
end
section
/- Models of functions: what they compute, if all goes well: CertE. -/
namespace GoSx
open Go
def rupCheck (l : List (List Int)) (vars : Int) (proof : List (List Int)) (assume : List Int) : Option ((Bool × Unit) × Unit × Unit) :=
  bif proof.isEmpty then
    gd ((0 + l.length) * 24 ≤ lim) <|
    gd (0 + l.length ≤ lim) <|
    gd ((l.length + 0) * 24 ≤ lim) <|
    gd (l.length + 0 ≤ lim) <|
    bindO (refutedC assume (l ++ []) vars) fun y =>
    some ((y.1.1, ()), (), ())
  else none

def litOf (l : Int) (off : Int) : Option ((Int × Unit) × Unit × Unit) :=
  gd (inK IntKind.i64 (off + 1)) <|
  gd (inK IntKind.i64 (off + 1 + l.fdiv (2 ^ 1))) <|
  gd (inK IntKind.i64 (2 * IntKind.i64.wrap (nI (BitVec.ofInt 64 l &&& BitVec.ofInt 64 1).toNat))) <|
  gd (inK IntKind.i64 (1 - 2 * IntKind.i64.wrap (nI (BitVec.ofInt 64 l &&& BitVec.ofInt 64 1).toNat))) <|
  gd (inK IntKind.i64 ((off + 1 + l.fdiv (2 ^ 1)) * (1 - 2 * IntKind.i64.wrap (nI (BitVec.ofInt 64 l &&& BitVec.ofInt 64 1).toNat)))) <|
  some (((off + 1 + l.fdiv (2 ^ 1)) * (1 - 2 * IntKind.i64.wrap (nI (BitVec.ofInt 64 l &&& BitVec.ofInt 64 1).toNat)), ()), (), ())

def cnfOf (l : Int) (off : Int) : Option ((Int × Unit) × Unit × Unit) :=
  bindO (litOf l off) fun y0 =>
  some ((y0.1.1, ()), (), ())

def cnfVars (ins : Int) (ands : List (Int × Int × Unit)) : Option ((Int × Unit) × Unit × Unit) :=
  gd (inK IntKind.i64 (1 + ins)) <|
  gd (inK IntKind.i64 (1 + ins + nI ands.length)) <|
  some ((1 + ins + nI ands.length, ()), (), ())

def clausesAdd (l : List Int) (c : List (List Int)) : Option (Unit × ((List (List Int) × Unit) × Unit) × Unit) :=
  gd ((c.length + [l].length) * 24 ≤ lim) <|
  gd (c.length + [l].length ≤ lim) <|
  some ((), ((c ++ [l], ()), ()), ())

def cnfClausesF (nn : Nat)  (ins : Int) (ands : List (Int × Int × Unit)) (off : Int) : Option ((List (List Int) × Unit) × Unit × Unit) :=
  bindO (cnfOf 0 off) fun y0 =>
  gd (inK IntKind.i64 (0 - y0.1.1)) <|
  bindO (clausesAdd [0 - y0.1.1] []) fun y1 =>
  iterO (X := Int × List (List Int)) (fun y2 =>
    bif decide (y2.1 < nI ands.length) then
      gd (0 ≤ y2.1) <|
      gd (y2.1 < nI ands.length) <|
      gd (inK IntKind.i64 (1 + ins)) <|
      gd (inK IntKind.i64 (1 + ins + y2.1)) <|
      gd (inK IntKind.i64 (2 * (1 + ins + y2.1))) <|
      bindO (cnfOf (2 * (1 + ins + y2.1)) off) fun y3 =>
      bindO (cnfOf (get pair2 ands y2.1).1 off) fun y4 =>
      bindO (cnfOf (get pair2 ands y2.1).2.1 off) fun y5 =>
      gd (inK IntKind.i64 (0 - y3.1.1)) <|
      bindO (clausesAdd [0 - y3.1.1, y4.1.1] y2.2) fun y6 =>
      gd (inK IntKind.i64 (0 - y3.1.1)) <|
      bindO (clausesAdd [0 - y3.1.1, y5.1.1] y6.2.1.1.1) fun y7 =>
      gd (inK IntKind.i64 (0 - y4.1.1)) <|
      gd (inK IntKind.i64 (0 - y5.1.1)) <|
      bindO (clausesAdd [y3.1.1, 0 - y4.1.1, 0 - y5.1.1] y7.2.1.1.1) fun y8 =>
      gd (inK IntKind.i64 (y2.1 + 1)) <|
      some (Sum.inl (y2.1 + 1, y8.2.1.1.1))
    else
      some (Sum.inr ((y2.2, ()), (), ()))) (nn) (0, y1.2.1.1.1)

def cnfClauses (ins : Int) (ands : List (Int × Int × Unit)) (off : Int) : Option ((List (List Int) × Unit) × Unit × Unit) := cnfClausesF fuelN ins ands off

def unNew (gi : Int) (ga : List (Int × Int × Unit)) (ci : List (Int × Int × Int × Unit)) (cl : List (Int × Int × Bool × Int × Int × Unit)) (co : List (Int × Int × Int × Unit)) (many : Int) (first : Bool) : Option (((Int × List (Int × Int × Unit) × List (Int × Int × Int × Unit) × List (Int × Int × Bool × Int × Int × Unit) × List (Int × Int × Int × Unit) × Int × Bool × Int × Unit) × Unit) × Unit × Unit) :=
  bindO (cnfVars gi ga) fun y0 =>
  some (((gi, ga, ci, cl, co, many, first, y0.1.1, ()), ()), (), ())

def frameLit (off : Int) (x : Int) : Option ((Int × Unit) × Unit × Unit) :=
  bindO (cnfOf x off) fun y0 =>
  some ((y0.1.1, ()), (), ())

def unFrame (fg : Int) (fga : List (Int × Int × Unit)) (fi : List (Int × Int × Int × Unit)) (fl : List (Int × Int × Bool × Int × Int × Unit)) (fo : List (Int × Int × Int × Unit)) (fm : Int) (ff : Bool) (fs : Int) (pos : Int) : Option (((Int × Unit) × Unit) × Unit × Unit) :=
  gd (inK IntKind.i64 (pos * fs)) <|
  some (((pos * fs, ()), ()), (), ())

def unVars (fg : Int) (fga : List (Int × Int × Unit)) (fi : List (Int × Int × Int × Unit)) (fl : List (Int × Int × Bool × Int × Int × Unit)) (fo : List (Int × Int × Int × Unit)) (fm : Int) (ff : Bool) (fs : Int) : Option ((Int × Unit) × Unit × Unit) :=
  gd (inK IntKind.i64 (fm * fs)) <|
  some ((fm * fs, ()), (), ())

def latchC (i : Int) (fg : Int) (fga : List (Int × Int × Unit)) (fi : List (Int × Int × Int × Unit)) (fl : List (Int × Int × Bool × Int × Int × Unit)) (fo : List (Int × Int × Int × Unit)) (fm : Int) (ff : Bool) (fs : Int) : Option ((Int × Unit) × (((Int × List (Int × Int × Unit) × List (Int × Int × Int × Unit) × List (Int × Int × Bool × Int × Int × Unit) × List (Int × Int × Int × Unit) × Int × Bool × Int × Unit) × Unit) × Unit) × Unit) :=
  gd (0 ≤ i) <|
  gd (i < nI fl.length) <|
  gd (inK IntKind.i64 (2 * (get latchT fl i).1)) <|
  some ((2 * (get latchT fl i).1, ()), (((fg, fga, fi, fl, fo, fm, ff, fs, ()), ()), ()), ())

def unAtL (fg : Int) (fga : List (Int × Int × Unit)) (fi : List (Int × Int × Int × Unit)) (fl : List (Int × Int × Bool × Int × Int × Unit)) (fo : List (Int × Int × Int × Unit)) (fm : Int) (ff : Bool) (fs : Int) (pos : Int) (i : Int) (many : Int) (hg : Int) (hga : List (Int × Int × Unit)) (hi : List (Int × Int × Int × Unit)) (hl : List (Int × Int × Bool × Int × Int × Unit)) (ho : List (Int × Int × Int × Unit)) (hm : Int) (hf : Bool) (hs : Int) : Option ((Int × Unit) × (((Int × List (Int × Int × Unit) × List (Int × Int × Int × Unit) × List (Int × Int × Bool × Int × Int × Unit) × List (Int × Int × Int × Unit) × Int × Bool × Int × Unit) × Unit) × Unit) × Unit) :=
  bif decide (pos < 0) then
    some ((0, ()), (((hg, hga, hi, hl, ho, hm, hf, hs, ()), ()), ()), ())
  else
    bif bif false then true else decide (pos ≥ fm) then
      some ((0, ()), (((hg, hga, hi, hl, ho, hm, hf, hs, ()), ()), ()), ())
    else
      bif bif false then true else decide (i < 0) then
        some ((0, ()), (((hg, hga, hi, hl, ho, hm, hf, hs, ()), ()), ()), ())
      else
        bif bif false then true else decide (i ≥ many) then
          some ((0, ()), (((hg, hga, hi, hl, ho, hm, hf, hs, ()), ()), ()), ())
        else
          bindO (unFrame fg fga fi fl fo fm ff fs pos) fun y0 =>
          bindO (latchC i hg hga hi hl ho hm hf hs) fun y1 =>
          bindO (frameLit y0.1.1.1 y1.1.1) fun y2 =>
          some ((y2.1.1, ()), ((y1.2.1.1.1, ()), ()), ())

def unLatch (fg : Int) (fga : List (Int × Int × Unit)) (fi : List (Int × Int × Int × Unit)) (fl : List (Int × Int × Bool × Int × Int × Unit)) (fo : List (Int × Int × Int × Unit)) (fm : Int) (ff : Bool) (fs : Int) (pos : Int) (i : Int) : Option ((Int × Unit) × Unit × Unit) :=
  bindO (unAtL fg fga fi fl fo fm ff fs pos i (nI fl.length) fg fga fi fl fo fm ff fs) fun y0 =>
  some ((y0.1.1, ()), (), ())

def outC (i : Int) (fg : Int) (fga : List (Int × Int × Unit)) (fi : List (Int × Int × Int × Unit)) (fl : List (Int × Int × Bool × Int × Int × Unit)) (fo : List (Int × Int × Int × Unit)) (fm : Int) (ff : Bool) (fs : Int) : Option ((Int × Unit) × (((Int × List (Int × Int × Unit) × List (Int × Int × Int × Unit) × List (Int × Int × Bool × Int × Int × Unit) × List (Int × Int × Int × Unit) × Int × Bool × Int × Unit) × Unit) × Unit) × Unit) :=
  gd (0 ≤ i) <|
  gd (i < nI fo.length) <|
  some (((get outT fo i).2.1, ()), (((fg, fga, fi, fl, fo, fm, ff, fs, ()), ()), ()), ())

def unAtO (fg : Int) (fga : List (Int × Int × Unit)) (fi : List (Int × Int × Int × Unit)) (fl : List (Int × Int × Bool × Int × Int × Unit)) (fo : List (Int × Int × Int × Unit)) (fm : Int) (ff : Bool) (fs : Int) (pos : Int) (i : Int) (many : Int) (hg : Int) (hga : List (Int × Int × Unit)) (hi : List (Int × Int × Int × Unit)) (hl : List (Int × Int × Bool × Int × Int × Unit)) (ho : List (Int × Int × Int × Unit)) (hm : Int) (hf : Bool) (hs : Int) : Option ((Int × Unit) × (((Int × List (Int × Int × Unit) × List (Int × Int × Int × Unit) × List (Int × Int × Bool × Int × Int × Unit) × List (Int × Int × Int × Unit) × Int × Bool × Int × Unit) × Unit) × Unit) × Unit) :=
  bif decide (pos < 0) then
    some ((0, ()), (((hg, hga, hi, hl, ho, hm, hf, hs, ()), ()), ()), ())
  else
    bif bif false then true else decide (pos ≥ fm) then
      some ((0, ()), (((hg, hga, hi, hl, ho, hm, hf, hs, ()), ()), ()), ())
    else
      bif bif false then true else decide (i < 0) then
        some ((0, ()), (((hg, hga, hi, hl, ho, hm, hf, hs, ()), ()), ()), ())
      else
        bif bif false then true else decide (i ≥ many) then
          some ((0, ()), (((hg, hga, hi, hl, ho, hm, hf, hs, ()), ()), ()), ())
        else
          bindO (unFrame fg fga fi fl fo fm ff fs pos) fun y0 =>
          bindO (outC i hg hga hi hl ho hm hf hs) fun y1 =>
          bindO (frameLit y0.1.1.1 y1.1.1) fun y2 =>
          some ((y2.1.1, ()), ((y1.2.1.1.1, ()), ()), ())

def unOut (fg : Int) (fga : List (Int × Int × Unit)) (fi : List (Int × Int × Int × Unit)) (fl : List (Int × Int × Bool × Int × Int × Unit)) (fo : List (Int × Int × Int × Unit)) (fm : Int) (ff : Bool) (fs : Int) (pos : Int) (i : Int) : Option ((Int × Unit) × Unit × Unit) :=
  bindO (unAtO fg fga fi fl fo fm ff fs pos i (nI fo.length) fg fga fi fl fo fm ff fs) fun y0 =>
  some ((y0.1.1, ()), (), ())

def unInitsF (nn : Nat)  (fg : Int) (fga : List (Int × Int × Unit)) (fi : List (Int × Int × Int × Unit)) (fl : List (Int × Int × Bool × Int × Int × Unit)) (fo : List (Int × Int × Int × Unit)) (fm : Int) (ff : Bool) (fs : Int) : Option ((List (List Int) × Unit) × Unit × Unit) :=
  bindO (unFrame fg fga fi fl fo fm ff fs 0) fun y0 =>
  iterO (X := Int × List (List Int)) (fun y1 =>
    bif decide (y1.1 < nI fl.length) then
      gd (0 ≤ y1.1) <|
      gd (y1.1 < nI fl.length) <|
      gd (inK IntKind.i64 (2 * (get latchT fl y1.1).1)) <|
      bindO (if inK IntKind.i64 y0.1.1.1 then some () else none) fun y2 =>
      bindO (frameLit y0.1.1.1 (2 * (get latchT fl y1.1).1)) fun y3 =>
      bif !(get latchT fl y1.1).2.2.1 then
        gd (inK IntKind.i64 (0 - y3.1.1)) <|
        gd ((y1.2.length + [[0 - y3.1.1]].length) * 24 ≤ lim) <|
        gd (y1.2.length + [[0 - y3.1.1]].length ≤ lim) <|
        gd (inK IntKind.i64 (y1.1 + 1)) <|
        some (Sum.inl (y1.1 + 1, y1.2 ++ [[0 - y3.1.1]]))
      else
        gd ((y1.2.length + [[y3.1.1]].length) * 24 ≤ lim) <|
        gd (y1.2.length + [[y3.1.1]].length ≤ lim) <|
        gd (inK IntKind.i64 (y1.1 + 1)) <|
        some (Sum.inl (y1.1 + 1, y1.2 ++ [[y3.1.1]]))
    else
      some (Sum.inr ((y1.2, ()), (), ()))) (nn) (0, [])

def unInits (fg : Int) (fga : List (Int × Int × Unit)) (fi : List (Int × Int × Int × Unit)) (fl : List (Int × Int × Bool × Int × Int × Unit)) (fo : List (Int × Int × Int × Unit)) (fm : Int) (ff : Bool) (fs : Int) : Option ((List (List Int) × Unit) × Unit × Unit) := unInitsF fuelN fg fga fi fl fo fm ff fs

def unLinksF (nn : Nat)  (fg : Int) (fga : List (Int × Int × Unit)) (fi : List (Int × Int × Int × Unit)) (fl : List (Int × Int × Bool × Int × Int × Unit)) (fo : List (Int × Int × Int × Unit)) (fm : Int) (ff : Bool) (fs : Int) (pos : Int) : Option ((List (List Int) × Unit) × Unit × Unit) :=
  bindO (unFrame fg fga fi fl fo fm ff fs pos) fun y0 =>
  gd (inK IntKind.i64 (pos - 1)) <|
  bindO (unFrame fg fga fi fl fo fm ff fs (pos - 1)) fun y1 =>
  iterO (X := Int × List (List Int)) (fun y2 =>
    bif decide (y2.1 < nI fl.length) then
      gd (0 ≤ y2.1) <|
      gd (y2.1 < nI fl.length) <|
      gd (inK IntKind.i64 (2 * (get latchT fl y2.1).1)) <|
      bindO (if inK IntKind.i64 y0.1.1.1 then some () else none) fun y3 =>
      bindO (frameLit y0.1.1.1 (2 * (get latchT fl y2.1).1)) fun y4 =>
      bindO (if inK IntKind.i64 y1.1.1.1 then some () else none) fun y5 =>
      bindO (frameLit y1.1.1.1 (get latchT fl y2.1).2.1) fun y6 =>
      gd (inK IntKind.i64 (0 - y4.1.1)) <|
      gd (inK IntKind.i64 (0 - y6.1.1)) <|
      gd ((y2.2.length + [[0 - y4.1.1, y6.1.1], [y4.1.1, 0 - y6.1.1]].length) * 24 ≤ lim) <|
      gd (y2.2.length + [[0 - y4.1.1, y6.1.1], [y4.1.1, 0 - y6.1.1]].length ≤ lim) <|
      gd (inK IntKind.i64 (y2.1 + 1)) <|
      some (Sum.inl (y2.1 + 1, y2.2 ++ [[0 - y4.1.1, y6.1.1], [y4.1.1, 0 - y6.1.1]]))
    else
      some (Sum.inr ((y2.2, ()), (), ()))) (nn) (0, [])

def unLinks (fg : Int) (fga : List (Int × Int × Unit)) (fi : List (Int × Int × Int × Unit)) (fl : List (Int × Int × Bool × Int × Int × Unit)) (fo : List (Int × Int × Int × Unit)) (fm : Int) (ff : Bool) (fs : Int) (pos : Int) : Option ((List (List Int) × Unit) × Unit × Unit) := unLinksF fuelN fg fga fi fl fo fm ff fs pos

def unClausesF (nn : Nat)  (fg : Int) (fga : List (Int × Int × Unit)) (fi : List (Int × Int × Int × Unit)) (fl : List (Int × Int × Bool × Int × Int × Unit)) (fo : List (Int × Int × Int × Unit)) (fm : Int) (ff : Bool) (fs : Int) : Option ((List (List Int) × Unit) × Unit × Unit) :=
  iterO (X := Int × List (List Int)) (fun y0 =>
    bif decide (y0.1 < fm) then
      bindO (unFrame fg fga fi fl fo fm ff fs y0.1) fun y1 =>
      bindO (cnfClauses fg fga y1.1.1.1) fun y2 =>
      gd ((y0.2.length + y2.1.1.length) * 24 ≤ lim) <|
      gd (y0.2.length + y2.1.1.length ≤ lim) <|
      bif decide (y0.1 > 0) then
        bindO (unLinks fg fga fi fl fo fm ff fs y0.1) fun y3 =>
        gd (((y0.2 ++ y2.1.1).length + y3.1.1.length) * 24 ≤ lim) <|
        gd ((y0.2 ++ y2.1.1).length + y3.1.1.length ≤ lim) <|
        gd (inK IntKind.i64 (y0.1 + 1)) <|
        some (Sum.inl (y0.1 + 1, y0.2 ++ y2.1.1 ++ y3.1.1))
      else
        bif ff then
          bindO (unInits fg fga fi fl fo fm ff fs) fun y3 =>
          gd (((y0.2 ++ y2.1.1).length + y3.1.1.length) * 24 ≤ lim) <|
          gd ((y0.2 ++ y2.1.1).length + y3.1.1.length ≤ lim) <|
          gd (inK IntKind.i64 (y0.1 + 1)) <|
          some (Sum.inl (y0.1 + 1, y0.2 ++ y2.1.1 ++ y3.1.1))
        else
          gd (inK IntKind.i64 (y0.1 + 1)) <|
          some (Sum.inl (y0.1 + 1, y0.2 ++ y2.1.1))
    else
      some (Sum.inr ((y0.2, ()), (), ()))) (nn) (0, [])

def unClauses (fg : Int) (fga : List (Int × Int × Unit)) (fi : List (Int × Int × Int × Unit)) (fl : List (Int × Int × Bool × Int × Int × Unit)) (fo : List (Int × Int × Int × Unit)) (fm : Int) (ff : Bool) (fs : Int) : Option ((List (List Int) × Unit) × Unit × Unit) := unClausesF fuelN fg fga fi fl fo fm ff fs

def cTell (c : List Int) (aall : List (List Int)) (vars : Int) (all : List (List Int)) (watch : List (List Int)) (is : List Int) (depth : List Int) (why : List Int) (old : List Int) (cold : Int) (row : List Int) (begin : List Int) (done : Int) (empty : Bool) (answer : Int) (core : List Int) (model : List Bool) : Option (Unit × ((List (List Int) × Unit) × (Int × List (List Int) × List (List Int) × List Int × List Int × List Int × List Int × Int × List Int × List Int × Int × Bool × Int × List Int × List Bool × Unit) × Unit) × Unit) :=
  bindO (Add c vars all watch is depth why old cold row begin done empty answer core model) fun y0 =>
  gd ((aall.length + [c].length) * 24 ≤ lim) <|
  gd (aall.length + [c].length ≤ lim) <|
  some ((), ((aall ++ [c], ()), (y0.2.1.1.1, y0.2.1.1.2.1, y0.2.1.1.2.2.1, y0.2.1.1.2.2.2.1, y0.2.1.1.2.2.2.2.1, y0.2.1.1.2.2.2.2.2.1, y0.2.1.1.2.2.2.2.2.2.1, y0.2.1.1.2.2.2.2.2.2.2.1, y0.2.1.1.2.2.2.2.2.2.2.2.1, y0.2.1.1.2.2.2.2.2.2.2.2.2.1, y0.2.1.1.2.2.2.2.2.2.2.2.2.2.1, y0.2.1.1.2.2.2.2.2.2.2.2.2.2.2.1, y0.2.1.1.2.2.2.2.2.2.2.2.2.2.2.2.1, y0.2.1.1.2.2.2.2.2.2.2.2.2.2.2.2.2.1, y0.2.1.1.2.2.2.2.2.2.2.2.2.2.2.2.2.2.1, ()), ()), ())

def cMore (many : Int) (avars : Int) (vars : Int) (watch : List (List Int)) (is : List Int) (depth : List Int) (why : List Int) (old : List Int) (hot : List Int) (answer : Int) (core : List Int) (model : List Bool) : Option ((Int × Unit) × ((Int × Unit) × (Int × List (List Int) × List Int × List Int × List Int × List Int × List Int × Int × List Int × List Bool × Unit) × Unit) × Unit) :=
  gd (inK IntKind.i64 (avars + many)) <|
  bindO (Grow (avars + many) vars watch is depth why old hot answer core model) fun y0 =>
  some ((avars, ()), ((avars + many, ()), (y0.2.1.1.1, y0.2.1.1.2.1, y0.2.1.1.2.2.1, y0.2.1.1.2.2.2.1, y0.2.1.1.2.2.2.2.1, y0.2.1.1.2.2.2.2.2.1, y0.2.1.1.2.2.2.2.2.2.1, y0.2.1.1.2.2.2.2.2.2.2.1, y0.2.1.1.2.2.2.2.2.2.2.2.1, y0.2.1.1.2.2.2.2.2.2.2.2.2.1, ()), ()), ())

def cAskerOfF (nn : Nat)  (vars : Int) (clauses : List (List Int)) : Option (Unit × Unit × (Int × List (List Int) × Unit) × (Int × List (List Int) × List (List Int) × List Int × List Int × List Int × List Int × List Int × List Int × Int × List Int × List Int × Int × Bool × List (List Int) × Int × List Int × List Bool × Unit) × Unit) :=
  bindO (New vars) fun y0 =>
  iterO (X := Int × Int × (Int × Int × Int × Bool × Int) × List (List Int) × List (List Int) × List Int × List Int × List Int × List Int × List Int × List Int × List Int × List Bool × List (List Int)) (fun y1 =>
    bif decide (y1.1 < nI clauses.length) then
      gd (0 ≤ y1.1) <|
      gd (y1.1 < nI clauses.length) <|
      bindO (cTell (getL clauses y1.1) y1.2.2.2.2.2.2.2.2.2.2.2.2.2 y1.2.2.1.1 y1.2.2.2.1 y1.2.2.2.2.1 y1.2.2.2.2.2.1 y1.2.2.2.2.2.2.1 y1.2.2.2.2.2.2.2.1 y1.2.2.2.2.2.2.2.2.1 y1.2.2.1.2.1 y1.2.2.2.2.2.2.2.2.2.1 y1.2.2.2.2.2.2.2.2.2.2.1 y1.2.2.1.2.2.1 y1.2.2.1.2.2.2.1 y1.2.2.1.2.2.2.2 y1.2.2.2.2.2.2.2.2.2.2.2.1 y1.2.2.2.2.2.2.2.2.2.2.2.2.1) fun y2 =>
      gd (inK IntKind.i64 (y1.1 + 1)) <|
      some (Sum.inl (y1.1 + 1, y1.2.1, (y2.2.1.2.1.1, y2.2.1.2.1.2.2.2.2.2.2.2.1, y2.2.1.2.1.2.2.2.2.2.2.2.2.2.2.1, y2.2.1.2.1.2.2.2.2.2.2.2.2.2.2.2.1, y2.2.1.2.1.2.2.2.2.2.2.2.2.2.2.2.2.1), y2.2.1.2.1.2.1, y2.2.1.2.1.2.2.1, y2.2.1.2.1.2.2.2.1, y2.2.1.2.1.2.2.2.2.1, y2.2.1.2.1.2.2.2.2.2.1, y2.2.1.2.1.2.2.2.2.2.2.1, y2.2.1.2.1.2.2.2.2.2.2.2.2.1, y2.2.1.2.1.2.2.2.2.2.2.2.2.2.1, y2.2.1.2.1.2.2.2.2.2.2.2.2.2.2.2.2.2.1, y2.2.1.2.1.2.2.2.2.2.2.2.2.2.2.2.2.2.2.1, y2.2.1.1.1))
    else
      some (Sum.inr ((), (), (y1.2.1, y1.2.2.2.2.2.2.2.2.2.2.2.2.2, ()), (y1.2.2.1.1, y1.2.2.2.1, y1.2.2.2.2.1, y1.2.2.2.2.2.1, y1.2.2.2.2.2.2.1, y1.2.2.2.2.2.2.2.1, y1.2.2.2.2.2.2.2.2.1, y0.2.2.1.2.2.2.2.2.2.2.1, y0.2.2.1.2.2.2.2.2.2.2.2.1, y1.2.2.1.2.1, y1.2.2.2.2.2.2.2.2.2.1, y1.2.2.2.2.2.2.2.2.2.2.1, y1.2.2.1.2.2.1, y1.2.2.1.2.2.2.1, y0.2.2.1.2.2.2.2.2.2.2.2.2.2.2.2.2.2.1, y1.2.2.1.2.2.2.2, y1.2.2.2.2.2.2.2.2.2.2.2.1, y1.2.2.2.2.2.2.2.2.2.2.2.2.1, ()), ()))) (nn) (0, vars, (y0.2.2.1.1, y0.2.2.1.2.2.2.2.2.2.2.2.2.1, y0.2.2.1.2.2.2.2.2.2.2.2.2.2.2.2.1, y0.2.2.1.2.2.2.2.2.2.2.2.2.2.2.2.2.1, y0.2.2.1.2.2.2.2.2.2.2.2.2.2.2.2.2.2.2.1), y0.2.2.1.2.1, y0.2.2.1.2.2.1, y0.2.2.1.2.2.2.1, y0.2.2.1.2.2.2.2.1, y0.2.2.1.2.2.2.2.2.1, y0.2.2.1.2.2.2.2.2.2.1, y0.2.2.1.2.2.2.2.2.2.2.2.2.2.1, y0.2.2.1.2.2.2.2.2.2.2.2.2.2.2.1, y0.2.2.1.2.2.2.2.2.2.2.2.2.2.2.2.2.2.2.2.1, y0.2.2.1.2.2.2.2.2.2.2.2.2.2.2.2.2.2.2.2.2.1, [])

def cAskerOf (vars : Int) (clauses : List (List Int)) : Option (Unit × Unit × (Int × List (List Int) × Unit) × (Int × List (List Int) × List (List Int) × List Int × List Int × List Int × List Int × List Int × List Int × Int × List Int × List Int × Int × Bool × List (List Int) × Int × List Int × List Bool × Unit) × Unit) := cAskerOfF fuelN vars clauses

def cBarred (assume : List Int) (avars : Int) (aall : List (List Int)) (vars : Int) (all : List (List Int)) (watch : List (List Int)) (is : List Int) (depth : List Int) (why : List Int) (old : List Int) (hot : List Int) (warm : List Int) (cold : Int) (row : List Int) (begin : List Int) (done : Int) (empty : Bool) (proof : List (List Int)) (answer : Int) (core : List Int) (model : List Bool) : Option ((Bool × Unit) × ((Int × List (List Int) × Unit) × (Int × List (List Int) × List (List Int) × List Int × List Int × List Int × List Int × List Int × List Int × Int × List Int × List Int × Int × Bool × List (List Int) × Int × List Int × List Bool × Unit) × Unit) × Unit) :=
  bindO (Ask assume (-1) vars all watch is depth why old hot warm cold row begin done empty proof answer core model) fun y0 =>
  bif y0.1.1 == 2 then
    bindO (Proof y0.2.1.1.2.2.2.2.2.2.2.2.2.2.2.2.2.2.1 y0.2.1.1.2.2.2.2.2.2.2.2.2.2.2.2.2.2.2.1) fun y1 =>
    bindO (Core y0.2.1.1.2.2.2.2.2.2.2.2.2.2.2.2.2.2.2.2.1) fun y2 =>
    bindO (rupCheck aall avars y1.1.1 y2.1.1) fun y3 =>
    some ((bif true then y3.1.1 else false, ()), ((avars, aall, ()), (y0.2.1.1.1, y0.2.1.1.2.1, y0.2.1.1.2.2.1, y0.2.1.1.2.2.2.1, y0.2.1.1.2.2.2.2.1, y0.2.1.1.2.2.2.2.2.1, y0.2.1.1.2.2.2.2.2.2.1, y0.2.1.1.2.2.2.2.2.2.2.1, y0.2.1.1.2.2.2.2.2.2.2.2.1, y0.2.1.1.2.2.2.2.2.2.2.2.2.1, y0.2.1.1.2.2.2.2.2.2.2.2.2.2.1, y0.2.1.1.2.2.2.2.2.2.2.2.2.2.2.1, y0.2.1.1.2.2.2.2.2.2.2.2.2.2.2.2.1, y0.2.1.1.2.2.2.2.2.2.2.2.2.2.2.2.2.1, y1.2.1.1.1, y1.2.1.1.2.1, y0.2.1.1.2.2.2.2.2.2.2.2.2.2.2.2.2.2.2.2.1, y0.2.1.1.2.2.2.2.2.2.2.2.2.2.2.2.2.2.2.2.2.1, ()), ()), ())
  else
    some ((false, ()), ((avars, aall, ()), (y0.2.1.1.1, y0.2.1.1.2.1, y0.2.1.1.2.2.1, y0.2.1.1.2.2.2.1, y0.2.1.1.2.2.2.2.1, y0.2.1.1.2.2.2.2.2.1, y0.2.1.1.2.2.2.2.2.2.1, y0.2.1.1.2.2.2.2.2.2.2.1, y0.2.1.1.2.2.2.2.2.2.2.2.1, y0.2.1.1.2.2.2.2.2.2.2.2.2.1, y0.2.1.1.2.2.2.2.2.2.2.2.2.2.1, y0.2.1.1.2.2.2.2.2.2.2.2.2.2.2.1, y0.2.1.1.2.2.2.2.2.2.2.2.2.2.2.2.1, y0.2.1.1.2.2.2.2.2.2.2.2.2.2.2.2.2.1, y0.2.1.1.2.2.2.2.2.2.2.2.2.2.2.2.2.2.1, y0.2.1.1.2.2.2.2.2.2.2.2.2.2.2.2.2.2.2.1, y0.2.1.1.2.2.2.2.2.2.2.2.2.2.2.2.2.2.2.2.1, y0.2.1.1.2.2.2.2.2.2.2.2.2.2.2.2.2.2.2.2.2.1, ()), ()), ())

def cHit (gi : Int) (ga : List (Int × Int × Unit)) (ci : List (Int × Int × Int × Unit)) (cl : List (Int × Int × Bool × Int × Int × Unit)) (co : List (Int × Int × Int × Unit)) (out : Int) : Option ((Int × Unit) × Unit × Unit) :=
  gd (0 ≤ out) <|
  gd (out < nI co.length) <|
  gd (0 ≤ out) <|
  gd (out < nI co.length) <|
  bif (get outT co out).1 == 8 then
    some ((IntKind.i64.wrap (nI (BitVec.ofInt 64 (get outT co out).2.1 ^^^ BitVec.ofInt 64 1).toNat), ()), (), ())
  else
    some (((get outT co out).2.1, ()), (), ())

def cLegalF (nn : Nat)  (gi : Int) (ga : List (Int × Int × Unit)) (ci : List (Int × Int × Int × Unit)) (cl : List (Int × Int × Bool × Int × Int × Unit)) (co : List (Int × Int × Int × Unit)) : Option ((List Int × Unit) × Unit × Unit) :=
  iterO (X := Int × List Int) (fun y0 =>
    bif decide (y0.1 < nI co.length) then
      gd (0 ≤ y0.1) <|
      gd (y0.1 < nI co.length) <|
      bif (get outT co y0.1).1 == 9 then
        gd ((y0.2.length + [(get outT co y0.1).2.1].length) * 8 ≤ lim) <|
        gd (y0.2.length + [(get outT co y0.1).2.1].length ≤ lim) <|
        gd (inK IntKind.i64 (y0.1 + 1)) <|
        some (Sum.inl (y0.1 + 1, y0.2 ++ [(get outT co y0.1).2.1]))
      else
        gd (inK IntKind.i64 (y0.1 + 1)) <|
        some (Sum.inl (y0.1 + 1, y0.2))
    else
      some (Sum.inr ((y0.2, ()), (), ()))) (nn) (0, [])

def cLegal (gi : Int) (ga : List (Int × Int × Unit)) (ci : List (Int × Int × Int × Unit)) (cl : List (Int × Int × Bool × Int × Int × Unit)) (co : List (Int × Int × Int × Unit)) : Option ((List Int × Unit) × Unit × Unit) := cLegalF fuelN gi ga ci cl co

def meetsC (n : Int) (state : List Bool) : Option ((Bool × Unit) × ((List Bool × Unit) × Unit) × Unit) :=
  gd (inK IntKind.i64 (0 - n)) <|
  gd (inK IntKind.i64 (max2 n (0 - n) - 1)) <|
  gd (0 ≤ max2 n (0 - n) - 1) <|
  gd (max2 n (0 - n) - 1 < nI state.length) <|
  some ((getB state (max2 n (0 - n) - 1) == decide (n > 0), ()), ((state, ()), ()), ())

def IndexFunc_meetsF (nn : Nat)  (s : List Int) (state : List Bool) : Option ((Int × Unit) × ((List Bool × Unit) × Unit) × Unit) :=
  iterO (X := Int × List Bool) (fun y0 =>
    bif decide (y0.1 < nI s.length) then
      gd (0 ≤ y0.1) <|
      gd (y0.1 < nI s.length) <|
      bindO (meetsC (getI s y0.1) y0.2) fun y1 =>
      bif y1.1.1 then
        some (Sum.inr ((y0.1, ()), ((y0.2, ()), ()), ()))
      else
        gd (inK IntKind.i64 (y0.1 + 1)) <|
        some (Sum.inl (y0.1 + 1, y0.2))
    else
      some (Sum.inr ((-1, ()), ((y0.2, ()), ()), ()))) (nn) (0, state)

def IndexFunc_meets (s : List Int) (state : List Bool) : Option ((Int × Unit) × ((List Bool × Unit) × Unit) × Unit) := IndexFunc_meetsF fuelN s state

def ContainsFunc_meets (s : List Int) (state : List Bool) : Option ((Bool × Unit) × ((List Bool × Unit) × Unit) × Unit) :=
  bindO (IndexFunc_meets s state) fun y0 =>
  some ((decide (y0.1.1 ≥ 0), ()), ((state, ()), ()), ())

def meets (x : List Int) (state : List Bool) : Option ((Bool × Unit) × Unit × Unit) :=
  bindO (ContainsFunc_meets x state) fun y0 =>
  some ((y0.1.1, ()), (), ())

def lNow (lv : Int) (ln : Int) (li : Bool) (lc_ : Int) (lb_ : Int) : Option ((Int × Unit) × Unit × Unit) :=
  gd (inK IntKind.i64 (2 * lv)) <|
  some ((2 * lv, ()), (), ())

def lNext (lv : Int) (ln : Int) (li : Bool) (lc_ : Int) (lb_ : Int) : Option ((Int × Unit) × Unit × Unit) :=
  some ((ln, ()), (), ())

def litNow (gi : Int) (ga : List (Int × Int × Unit)) (ci : List (Int × Int × Int × Unit)) (cl : List (Int × Int × Bool × Int × Int × Unit)) (co : List (Int × Int × Int × Unit)) (n : Int) : Option ((Int × Unit) × Unit × Unit) :=
  gd (inK IntKind.i64 (0 - n)) <|
  gd (inK IntKind.i64 (max2 n (0 - n) - 1)) <|
  gd (0 ≤ max2 n (0 - n) - 1) <|
  gd (max2 n (0 - n) - 1 < nI cl.length) <|
  bindO (lNow (get latchT cl (max2 n (0 - n) - 1)).1 (get latchT cl (max2 n (0 - n) - 1)).2.1 (get latchT cl (max2 n (0 - n) - 1)).2.2.1 (get latchT cl (max2 n (0 - n) - 1)).2.2.2.1 (get latchT cl (max2 n (0 - n) - 1)).2.2.2.2.1) fun y0 =>
  bindO (cnfOf y0.1.1 0) fun y1 =>
  bif decide (n < 0) then
    gd (inK IntKind.i64 (0 - y1.1.1)) <|
    some ((0 - y1.1.1, ()), (), ())
  else
    some ((y1.1.1, ()), (), ())

def litNext (gi : Int) (ga : List (Int × Int × Unit)) (ci : List (Int × Int × Int × Unit)) (cl : List (Int × Int × Bool × Int × Int × Unit)) (co : List (Int × Int × Int × Unit)) (n : Int) : Option ((Int × Unit) × Unit × Unit) :=
  gd (inK IntKind.i64 (0 - n)) <|
  gd (inK IntKind.i64 (max2 n (0 - n) - 1)) <|
  gd (0 ≤ max2 n (0 - n) - 1) <|
  gd (max2 n (0 - n) - 1 < nI cl.length) <|
  bindO (lNext (get latchT cl (max2 n (0 - n) - 1)).1 (get latchT cl (max2 n (0 - n) - 1)).2.1 (get latchT cl (max2 n (0 - n) - 1)).2.2.1 (get latchT cl (max2 n (0 - n) - 1)).2.2.2.1 (get latchT cl (max2 n (0 - n) - 1)).2.2.2.2.1) fun y0 =>
  bindO (cnfOf y0.1.1 0) fun y1 =>
  bif decide (n < 0) then
    gd (inK IntKind.i64 (0 - y1.1.1)) <|
    some ((0 - y1.1.1, ()), (), ())
  else
    some ((y1.1.1, ()), (), ())

def cLitsF (nn : Nat)  (l : List Int) : Option ((List Int × Unit) × Unit × Unit) :=
  iterO (X := Int × List Int) (fun y0 =>
    bif decide (y0.1 < nI l.length) then
      gd (0 ≤ y0.1) <|
      gd (y0.1 < nI l.length) <|
      bindO (cnfOf (getI l y0.1) 0) fun y1 =>
      gd ((y0.2.length + [y1.1.1].length) * 8 ≤ lim) <|
      gd (y0.2.length + [y1.1.1].length ≤ lim) <|
      gd (inK IntKind.i64 (y0.1 + 1)) <|
      some (Sum.inl (y0.1 + 1, y0.2 ++ [y1.1.1]))
    else
      some (Sum.inr ((y0.2, ()), (), ()))) (nn) (0, [])

def cLits (l : List Int) : Option ((List Int × Unit) × Unit × Unit) := cLitsF fuelN l

def cIndF (nn : Nat)  (gi : Int) (ga : List (Int × Int × Unit)) (ci : List (Int × Int × Int × Unit)) (cl : List (Int × Int × Bool × Int × Int × Unit)) (co : List (Int × Int × Int × Unit)) (out : Int) (inv : List (List Int)) : Option ((Int × Unit) × Unit × Unit) :=
  bindO (circFirst gi ga ci cl co) fun y0 =>
  iterO (X := Int × Int) (fun y1 =>
    bif decide (y1.2 < nI inv.length) then
      gd (0 ≤ y1.2) <|
      gd (y1.2 < nI inv.length) <|
      iterO (X := Int) (fun y2 =>
        bif decide (y2 < nI (List.length (getL inv y1.2))) then
          gd (0 ≤ y2) <|
          gd (y2 < nI (List.length (getL inv y1.2))) <|
          bif getI (getL inv y1.2) y2 == 0 then
            some (Sum.inr (Sum.inr ((4, ()), (), ())))
          else
            bif bif false then true else decide (getI (getL inv y1.2) y2 > nI cl.length) then
              some (Sum.inr (Sum.inr ((4, ()), (), ())))
            else
              gd (inK IntKind.i64 (0 - nI cl.length)) <|
              bif bif false then true else decide (getI (getL inv y1.2) y2 < 0 - nI cl.length) then
                some (Sum.inr (Sum.inr ((4, ()), (), ())))
              else
                gd (inK IntKind.i64 (y2 + 1)) <|
                some (Sum.inl (y2 + 1))
        else
          bindO (meets (getL inv y1.2) y0.1.1) fun y3 =>
          bif !y3.1.1 then
            gd (inK IntKind.i64 (y1.2 + 1)) <|
            some (Sum.inr (Sum.inl (1, y1.2 + 1)))
          else
            gd (inK IntKind.i64 (y1.2 + 1)) <|
            some (Sum.inr (Sum.inl (y1.1, y1.2 + 1)))) (nn) 0
    else
      bif y1.1 != 0 then
        some (Sum.inr ((y1.1, ()), (), ()))
      else
        bindO (cnfVars gi ga) fun y2 =>
        bindO (cnfClauses gi ga 0) fun y3 =>
        bindO (cAskerOf y2.1.1 y3.1.1) fun y4 =>
        iterO (X := Int × Int × (Int × Int × Int × Bool × Int) × List (List Int) × List (List Int) × List Int × List Int × List Int × List Int × List Int × List Int × List Int × List Bool × List (List Int)) (fun y5 =>
          bif decide (y5.1 < nI inv.length) then
            gd (0 ≤ y5.1) <|
            gd (y5.1 < nI inv.length) <|
            iterO (X := Int × List Int) (fun y6 =>
              bif decide (y6.1 < nI (List.length (getL inv y5.1))) then
                gd (0 ≤ y6.1) <|
                gd (y6.1 < nI (List.length (getL inv y5.1))) <|
                bindO (litNow gi ga ci cl co (getI (getL inv y5.1) y6.1)) fun y7 =>
                gd ((y6.2.length + [y7.1.1].length) * 8 ≤ lim) <|
                gd (y6.2.length + [y7.1.1].length ≤ lim) <|
                gd (inK IntKind.i64 (y6.1 + 1)) <|
                some (Sum.inl (y6.1 + 1, y6.2 ++ [y7.1.1]))
              else
                bindO (cTell y6.2 y5.2.2.2.2.2.2.2.2.2.2.2.2.2 y5.2.2.1.1 y5.2.2.2.1 y5.2.2.2.2.1 y5.2.2.2.2.2.1 y5.2.2.2.2.2.2.1 y5.2.2.2.2.2.2.2.1 y5.2.2.2.2.2.2.2.2.1 y5.2.2.1.2.1 y5.2.2.2.2.2.2.2.2.2.1 y5.2.2.2.2.2.2.2.2.2.2.1 y5.2.2.1.2.2.1 y5.2.2.1.2.2.2.1 y5.2.2.1.2.2.2.2 y5.2.2.2.2.2.2.2.2.2.2.2.1 y5.2.2.2.2.2.2.2.2.2.2.2.2.1) fun y7 =>
                gd (inK IntKind.i64 (y5.1 + 1)) <|
                some (Sum.inr (Sum.inl (y5.1 + 1, y5.2.1, (y7.2.1.2.1.1, y7.2.1.2.1.2.2.2.2.2.2.2.1, y7.2.1.2.1.2.2.2.2.2.2.2.2.2.2.1, y7.2.1.2.1.2.2.2.2.2.2.2.2.2.2.2.1, y7.2.1.2.1.2.2.2.2.2.2.2.2.2.2.2.2.1), y7.2.1.2.1.2.1, y7.2.1.2.1.2.2.1, y7.2.1.2.1.2.2.2.1, y7.2.1.2.1.2.2.2.2.1, y7.2.1.2.1.2.2.2.2.2.1, y7.2.1.2.1.2.2.2.2.2.2.1, y7.2.1.2.1.2.2.2.2.2.2.2.2.1, y7.2.1.2.1.2.2.2.2.2.2.2.2.2.1, y7.2.1.2.1.2.2.2.2.2.2.2.2.2.2.2.2.2.1, y7.2.1.2.1.2.2.2.2.2.2.2.2.2.2.2.2.2.2.1, y7.2.1.1.1)))) (nn) (0, [])
          else
            bindO (cLegal gi ga ci cl co) fun y6 =>
            bindO (cLits y6.1.1) fun y7 =>
            iterO (X := Int × Int × (Int × Int × Int × Bool × Int) × List (List Int) × List (List Int) × List Int × List Int × List Int × List Int × List Int × List Int × List Int × List Int × List (List Int) × List Int × List Bool × List (List Int)) (fun y8 =>
              bif decide (y8.1 < nI inv.length) then
                gd (0 ≤ y8.1) <|
                gd (y8.1 < nI inv.length) <|
                bindO (Clone_ y7.1.1) fun y9 =>
                iterO (X := Int × List Int × List Int) (fun y10 =>
                  bif decide (y10.1 < nI (List.length (getL inv y8.1))) then
                    gd (0 ≤ y10.1) <|
                    gd (y10.1 < nI (List.length (getL inv y8.1))) <|
                    bindO (litNext gi ga ci cl co (getI (getL inv y8.1) y10.1)) fun y11 =>
                    gd (inK IntKind.i64 (0 - y11.1.1)) <|
                    gd ((y10.2.1.length + [0 - y11.1.1].length) * 8 ≤ lim) <|
                    gd (y10.2.1.length + [0 - y11.1.1].length ≤ lim) <|
                    gd (inK IntKind.i64 (y10.1 + 1)) <|
                    some (Sum.inl (y10.1 + 1, y10.2.1 ++ [0 - y11.1.1], y10.2.1 ++ [0 - y11.1.1]))
                  else
                    bindO (cBarred y10.2.1 y8.2.1 y8.2.2.2.2.2.2.2.2.2.2.2.2.2.2.2.2 y8.2.2.1.1 y8.2.2.2.1 y8.2.2.2.2.1 y8.2.2.2.2.2.1 y8.2.2.2.2.2.2.1 y8.2.2.2.2.2.2.2.1 y8.2.2.2.2.2.2.2.2.1 y8.2.2.2.2.2.2.2.2.2.1 y8.2.2.2.2.2.2.2.2.2.2.1 y8.2.2.1.2.1 y8.2.2.2.2.2.2.2.2.2.2.2.1 y8.2.2.2.2.2.2.2.2.2.2.2.2.1 y8.2.2.1.2.2.1 y8.2.2.1.2.2.2.1 y8.2.2.2.2.2.2.2.2.2.2.2.2.2.1 y8.2.2.1.2.2.2.2 y8.2.2.2.2.2.2.2.2.2.2.2.2.2.2.1 y8.2.2.2.2.2.2.2.2.2.2.2.2.2.2.2.1) fun y11 =>
                    bif !y11.1.1 then
                      some (Sum.inr (Sum.inr (Sum.inr (Sum.inr ((2, ()), (), ())))))
                    else
                      gd (inK IntKind.i64 (y8.1 + 1)) <|
                      some (Sum.inr (Sum.inl (y8.1 + 1, y11.2.1.1.1, (y11.2.1.2.1.1, y11.2.1.2.1.2.2.2.2.2.2.2.2.2.1, y11.2.1.2.1.2.2.2.2.2.2.2.2.2.2.2.2.1, y11.2.1.2.1.2.2.2.2.2.2.2.2.2.2.2.2.2.1, y11.2.1.2.1.2.2.2.2.2.2.2.2.2.2.2.2.2.2.2.1), y11.2.1.2.1.2.1, y11.2.1.2.1.2.2.1, y11.2.1.2.1.2.2.2.1, y11.2.1.2.1.2.2.2.2.1, y11.2.1.2.1.2.2.2.2.2.1, y11.2.1.2.1.2.2.2.2.2.2.1, y11.2.1.2.1.2.2.2.2.2.2.2.1, y11.2.1.2.1.2.2.2.2.2.2.2.2.1, y11.2.1.2.1.2.2.2.2.2.2.2.2.2.2.1, y11.2.1.2.1.2.2.2.2.2.2.2.2.2.2.2.1, y11.2.1.2.1.2.2.2.2.2.2.2.2.2.2.2.2.2.2.1, y11.2.1.2.1.2.2.2.2.2.2.2.2.2.2.2.2.2.2.2.2.1, y11.2.1.2.1.2.2.2.2.2.2.2.2.2.2.2.2.2.2.2.2.2.1, y11.2.1.1.2.1)))) (nn) (0, y9.1.1, y9.1.1)
              else
                bindO (cHit gi ga ci cl co out) fun y9 =>
                bindO (cnfOf y9.1.1 0) fun y10 =>
                gd ((y7.1.1.length + [y10.1.1].length) * 8 ≤ lim) <|
                gd (y7.1.1.length + [y10.1.1].length ≤ lim) <|
                bindO (cBarred (y7.1.1 ++ [y10.1.1]) y8.2.1 y8.2.2.2.2.2.2.2.2.2.2.2.2.2.2.2.2 y8.2.2.1.1 y8.2.2.2.1 y8.2.2.2.2.1 y8.2.2.2.2.2.1 y8.2.2.2.2.2.2.1 y8.2.2.2.2.2.2.2.1 y8.2.2.2.2.2.2.2.2.1 y8.2.2.2.2.2.2.2.2.2.1 y8.2.2.2.2.2.2.2.2.2.2.1 y8.2.2.1.2.1 y8.2.2.2.2.2.2.2.2.2.2.2.1 y8.2.2.2.2.2.2.2.2.2.2.2.2.1 y8.2.2.1.2.2.1 y8.2.2.1.2.2.2.1 y8.2.2.2.2.2.2.2.2.2.2.2.2.2.1 y8.2.2.1.2.2.2.2 y8.2.2.2.2.2.2.2.2.2.2.2.2.2.2.1 y8.2.2.2.2.2.2.2.2.2.2.2.2.2.2.2.1) fun y11 =>
                bif !y11.1.1 then
                  some (Sum.inr (Sum.inr (Sum.inr ((3, ()), (), ()))))
                else
                  some (Sum.inr (Sum.inr (Sum.inr ((0, ()), (), ()))))) (nn) (0, y5.2.1, (y5.2.2.1.1, y5.2.2.1.2.1, y5.2.2.1.2.2.1, y5.2.2.1.2.2.2.1, y5.2.2.1.2.2.2.2), y5.2.2.2.1, y5.2.2.2.2.1, y5.2.2.2.2.2.1, y5.2.2.2.2.2.2.1, y5.2.2.2.2.2.2.2.1, y5.2.2.2.2.2.2.2.2.1, y4.2.2.2.1.2.2.2.2.2.2.2.1, y4.2.2.2.1.2.2.2.2.2.2.2.2.1, y5.2.2.2.2.2.2.2.2.2.1, y5.2.2.2.2.2.2.2.2.2.2.1, y4.2.2.2.1.2.2.2.2.2.2.2.2.2.2.2.2.2.2.1, y5.2.2.2.2.2.2.2.2.2.2.2.1, y5.2.2.2.2.2.2.2.2.2.2.2.2.1, y5.2.2.2.2.2.2.2.2.2.2.2.2.2)) (nn) (0, y4.2.2.1.1, (y4.2.2.2.1.1, y4.2.2.2.1.2.2.2.2.2.2.2.2.2.1, y4.2.2.2.1.2.2.2.2.2.2.2.2.2.2.2.2.1, y4.2.2.2.1.2.2.2.2.2.2.2.2.2.2.2.2.2.1, y4.2.2.2.1.2.2.2.2.2.2.2.2.2.2.2.2.2.2.2.1), y4.2.2.2.1.2.1, y4.2.2.2.1.2.2.1, y4.2.2.2.1.2.2.2.1, y4.2.2.2.1.2.2.2.2.1, y4.2.2.2.1.2.2.2.2.2.1, y4.2.2.2.1.2.2.2.2.2.2.1, y4.2.2.2.1.2.2.2.2.2.2.2.2.2.2.1, y4.2.2.2.1.2.2.2.2.2.2.2.2.2.2.2.1, y4.2.2.2.1.2.2.2.2.2.2.2.2.2.2.2.2.2.2.2.2.1, y4.2.2.2.1.2.2.2.2.2.2.2.2.2.2.2.2.2.2.2.2.2.1, y4.2.2.1.2.1)) (nn) (0, 0)

def cInd (gi : Int) (ga : List (Int × Int × Unit)) (ci : List (Int × Int × Int × Unit)) (cl : List (Int × Int × Bool × Int × Int × Unit)) (co : List (Int × Int × Int × Unit)) (out : Int) (inv : List (List Int)) : Option ((Int × Unit) × Unit × Unit) := cIndF fuelN gi ga ci cl co out inv

def framesOfF (nn : Nat)  (gi : Int) (ga : List (Int × Int × Unit)) (ci : List (Int × Int × Int × Unit)) (cl : List (Int × Int × Bool × Int × Int × Unit)) (co : List (Int × Int × Int × Unit)) (many : Int) (first : Bool) : Option (((Int × List (Int × Int × Unit) × List (Int × Int × Int × Unit) × List (Int × Int × Bool × Int × Int × Unit) × List (Int × Int × Int × Unit) × (Int × List (Int × Int × Unit) × List (Int × Int × Int × Unit) × List (Int × Int × Bool × Int × Int × Unit) × List (Int × Int × Int × Unit) × Int × Bool × Int × Unit) × List Int × Unit) × Unit) × Unit × (Int × List (List Int) × Unit) × (Int × List (List Int) × List (List Int) × List Int × List Int × List Int × List Int × List Int × List Int × Int × List Int × List Int × Int × Bool × List (List Int) × Int × List Int × List Bool × Unit) × Unit) :=
  bindO (unNew gi ga ci cl co many first) fun y0 =>
  bindO (unVars y0.1.1.1 y0.1.1.2.1 y0.1.1.2.2.1 y0.1.1.2.2.2.1 y0.1.1.2.2.2.2.1 y0.1.1.2.2.2.2.2.1 y0.1.1.2.2.2.2.2.2.1 y0.1.1.2.2.2.2.2.2.2.1) fun y1 =>
  bindO (unClauses y0.1.1.1 y0.1.1.2.1 y0.1.1.2.2.1 y0.1.1.2.2.2.1 y0.1.1.2.2.2.2.1 y0.1.1.2.2.2.2.2.1 y0.1.1.2.2.2.2.2.2.1 y0.1.1.2.2.2.2.2.2.2.1) fun y2 =>
  bindO (cAskerOf y1.1.1 y2.1.1) fun y3 =>
  iterO (X := Int × (Int × List (Int × Int × Unit) × List (Int × Int × Int × Unit) × List (Int × Int × Bool × Int × Int × Unit) × List (Int × Int × Int × Unit) × Int × List (Int × Int × Unit) × List (Int × Int × Int × Unit) × List (Int × Int × Bool × Int × Int × Unit) × List (Int × Int × Int × Unit) × Int × Bool × Int × Unit) × List Int) (fun y4 =>
    bif decide (y4.1 < nI co.length) then
      gd (0 ≤ y4.1) <|
      gd (y4.1 < nI co.length) <|
      bif (get outT co y4.1).1 == 9 then
        gd ((y4.2.2.length + [y4.1].length) * 8 ≤ lim) <|
        gd (y4.2.2.length + [y4.1].length ≤ lim) <|
        gd (inK IntKind.i64 (y4.1 + 1)) <|
        some (Sum.inl (y4.1 + 1, (y4.2.1.1, y4.2.1.2.1, y4.2.1.2.2.1, y4.2.1.2.2.2.1, y4.2.1.2.2.2.2.1, y4.2.1.2.2.2.2.2), y4.2.2 ++ [y4.1]))
      else
        gd (inK IntKind.i64 (y4.1 + 1)) <|
        some (Sum.inl (y4.1 + 1, (y4.2.1.1, y4.2.1.2.1, y4.2.1.2.2.1, y4.2.1.2.2.2.1, y4.2.1.2.2.2.2.1, y4.2.1.2.2.2.2.2), y4.2.2))
    else
      some (Sum.inr (((y4.2.1.1, y4.2.1.2.1, y4.2.1.2.2.1, y4.2.1.2.2.2.1, y4.2.1.2.2.2.2.1, y4.2.1.2.2.2.2.2, y4.2.2, ()), ()), (), (y3.2.2.1.1, y3.2.2.1.2.1, ()), (y3.2.2.2.1.1, y3.2.2.2.1.2.1, y3.2.2.2.1.2.2.1, y3.2.2.2.1.2.2.2.1, y3.2.2.2.1.2.2.2.2.1, y3.2.2.2.1.2.2.2.2.2.1, y3.2.2.2.1.2.2.2.2.2.2.1, y3.2.2.2.1.2.2.2.2.2.2.2.1, y3.2.2.2.1.2.2.2.2.2.2.2.2.1, y3.2.2.2.1.2.2.2.2.2.2.2.2.2.1, y3.2.2.2.1.2.2.2.2.2.2.2.2.2.2.1, y3.2.2.2.1.2.2.2.2.2.2.2.2.2.2.2.1, y3.2.2.2.1.2.2.2.2.2.2.2.2.2.2.2.2.1, y3.2.2.2.1.2.2.2.2.2.2.2.2.2.2.2.2.2.1, y3.2.2.2.1.2.2.2.2.2.2.2.2.2.2.2.2.2.2.1, y3.2.2.2.1.2.2.2.2.2.2.2.2.2.2.2.2.2.2.2.1, y3.2.2.2.1.2.2.2.2.2.2.2.2.2.2.2.2.2.2.2.2.1, y3.2.2.2.1.2.2.2.2.2.2.2.2.2.2.2.2.2.2.2.2.2.1, ()), ()))) (nn) (0, (gi, ga, ci, cl, co, y0.1.1), [])

def framesOf (gi : Int) (ga : List (Int × Int × Unit)) (ci : List (Int × Int × Int × Unit)) (cl : List (Int × Int × Bool × Int × Int × Unit)) (co : List (Int × Int × Int × Unit)) (many : Int) (first : Bool) : Option (((Int × List (Int × Int × Unit) × List (Int × Int × Int × Unit) × List (Int × Int × Bool × Int × Int × Unit) × List (Int × Int × Int × Unit) × (Int × List (Int × Int × Unit) × List (Int × Int × Int × Unit) × List (Int × Int × Bool × Int × Int × Unit) × List (Int × Int × Int × Unit) × Int × Bool × Int × Unit) × List Int × Unit) × Unit) × Unit × (Int × List (List Int) × Unit) × (Int × List (List Int) × List (List Int) × List Int × List Int × List Int × List Int × List Int × List Int × Int × List Int × List Int × Int × Bool × List (List Int) × Int × List Int × List Bool × Unit) × Unit) := framesOfF fuelN gi ga ci cl co many first

def fHit (gi : Int) (ga : List (Int × Int × Unit)) (ci : List (Int × Int × Int × Unit)) (cl : List (Int × Int × Bool × Int × Int × Unit)) (co : List (Int × Int × Int × Unit)) (fg : Int) (fga : List (Int × Int × Unit)) (fi : List (Int × Int × Int × Unit)) (fl : List (Int × Int × Bool × Int × Int × Unit)) (fo : List (Int × Int × Int × Unit)) (fm : Int) (ff : Bool) (fs : Int) (pos : Int) (out : Int) : Option ((Int × Unit) × Unit × Unit) :=
  gd (0 ≤ out) <|
  gd (out < nI co.length) <|
  bif (get outT co out).1 == 8 then
    bindO (unOut fg fga fi fl fo fm ff fs pos out) fun y0 =>
    gd (inK IntKind.i64 (0 - y0.1.1)) <|
    some ((0 - y0.1.1, ()), (), ())
  else
    bindO (unOut fg fga fi fl fo fm ff fs pos out) fun y0 =>
    some ((y0.1.1, ()), (), ())

def fLegalF (nn : Nat)  (gi : Int) (ga : List (Int × Int × Unit)) (ci : List (Int × Int × Int × Unit)) (cl : List (Int × Int × Bool × Int × Int × Unit)) (co : List (Int × Int × Int × Unit)) (fg : Int) (fga : List (Int × Int × Unit)) (fi : List (Int × Int × Int × Unit)) (fl : List (Int × Int × Bool × Int × Int × Unit)) (fo : List (Int × Int × Int × Unit)) (fm : Int) (ff : Bool) (fs : Int) (fat : List Int) (pos : Int) (aall : List (List Int)) (vars : Int) (all : List (List Int)) (watch : List (List Int)) (is : List Int) (depth : List Int) (why : List Int) (old : List Int) (cold : Int) (row : List Int) (begin : List Int) (done : Int) (empty : Bool) (answer : Int) (core : List Int) (model : List Bool) : Option (Unit × ((List (List Int) × Unit) × (Int × List (List Int) × List (List Int) × List Int × List Int × List Int × List Int × Int × List Int × List Int × Int × Bool × Int × List Int × List Bool × Unit) × Unit) × Unit) :=
  iterO (X := Int × (Int × Int × Int × Bool × Int) × List (List Int) × List (List Int) × List Int × List Int × List Int × List Int × List Int × List Int × List Int × List Bool × List (List Int)) (fun y0 =>
    bif decide (y0.1 < nI fat.length) then
      gd (0 ≤ y0.1) <|
      gd (y0.1 < nI fat.length) <|
      bindO (unOut fg fga fi fl fo fm ff fs pos (getI fat y0.1)) fun y1 =>
      bindO (cTell [y1.1.1] y0.2.2.2.2.2.2.2.2.2.2.2.2 y0.2.1.1 y0.2.2.1 y0.2.2.2.1 y0.2.2.2.2.1 y0.2.2.2.2.2.1 y0.2.2.2.2.2.2.1 y0.2.2.2.2.2.2.2.1 y0.2.1.2.1 y0.2.2.2.2.2.2.2.2.1 y0.2.2.2.2.2.2.2.2.2.1 y0.2.1.2.2.1 y0.2.1.2.2.2.1 y0.2.1.2.2.2.2 y0.2.2.2.2.2.2.2.2.2.2.1 y0.2.2.2.2.2.2.2.2.2.2.2.1) fun y2 =>
      gd (inK IntKind.i64 (y0.1 + 1)) <|
      some (Sum.inl (y0.1 + 1, (y2.2.1.2.1.1, y2.2.1.2.1.2.2.2.2.2.2.2.1, y2.2.1.2.1.2.2.2.2.2.2.2.2.2.2.1, y2.2.1.2.1.2.2.2.2.2.2.2.2.2.2.2.1, y2.2.1.2.1.2.2.2.2.2.2.2.2.2.2.2.2.1), y2.2.1.2.1.2.1, y2.2.1.2.1.2.2.1, y2.2.1.2.1.2.2.2.1, y2.2.1.2.1.2.2.2.2.1, y2.2.1.2.1.2.2.2.2.2.1, y2.2.1.2.1.2.2.2.2.2.2.1, y2.2.1.2.1.2.2.2.2.2.2.2.2.1, y2.2.1.2.1.2.2.2.2.2.2.2.2.2.1, y2.2.1.2.1.2.2.2.2.2.2.2.2.2.2.2.2.2.1, y2.2.1.2.1.2.2.2.2.2.2.2.2.2.2.2.2.2.2.1, y2.2.1.1.1))
    else
      some (Sum.inr ((), ((y0.2.2.2.2.2.2.2.2.2.2.2.2, ()), (y0.2.1.1, y0.2.2.1, y0.2.2.2.1, y0.2.2.2.2.1, y0.2.2.2.2.2.1, y0.2.2.2.2.2.2.1, y0.2.2.2.2.2.2.2.1, y0.2.1.2.1, y0.2.2.2.2.2.2.2.2.1, y0.2.2.2.2.2.2.2.2.2.1, y0.2.1.2.2.1, y0.2.1.2.2.2.1, y0.2.1.2.2.2.2, y0.2.2.2.2.2.2.2.2.2.2.1, y0.2.2.2.2.2.2.2.2.2.2.2.1, ()), ()), ()))) (nn) (0, (vars, cold, done, empty, answer), all, watch, is, depth, why, old, row, begin, core, model, aall)

def fLegal (gi : Int) (ga : List (Int × Int × Unit)) (ci : List (Int × Int × Int × Unit)) (cl : List (Int × Int × Bool × Int × Int × Unit)) (co : List (Int × Int × Int × Unit)) (fg : Int) (fga : List (Int × Int × Unit)) (fi : List (Int × Int × Int × Unit)) (fl : List (Int × Int × Bool × Int × Int × Unit)) (fo : List (Int × Int × Int × Unit)) (fm : Int) (ff : Bool) (fs : Int) (fat : List Int) (pos : Int) (aall : List (List Int)) (vars : Int) (all : List (List Int)) (watch : List (List Int)) (is : List Int) (depth : List Int) (why : List Int) (old : List Int) (cold : Int) (row : List Int) (begin : List Int) (done : Int) (empty : Bool) (answer : Int) (core : List Int) (model : List Bool) : Option (Unit × ((List (List Int) × Unit) × (Int × List (List Int) × List (List Int) × List Int × List Int × List Int × List Int × Int × List Int × List Int × Int × Bool × Int × List Int × List Bool × Unit) × Unit) × Unit) := fLegalF fuelN gi ga ci cl co fg fga fi fl fo fm ff fs fat pos aall vars all watch is depth why old cold row begin done empty answer core model

def fUnlikeF (nn : Nat)  (gi : Int) (ga : List (Int × Int × Unit)) (ci : List (Int × Int × Int × Unit)) (cl : List (Int × Int × Bool × Int × Int × Unit)) (co : List (Int × Int × Int × Unit)) (fg : Int) (fga : List (Int × Int × Unit)) (fi : List (Int × Int × Int × Unit)) (fl : List (Int × Int × Bool × Int × Int × Unit)) (fo : List (Int × Int × Int × Unit)) (fm : Int) (ff : Bool) (fs : Int) (a : Int) (b : Int) (avars : Int) (aall : List (List Int)) (vars : Int) (all : List (List Int)) (watch : List (List Int)) (is : List Int) (depth : List Int) (why : List Int) (old : List Int) (hot : List Int) (warm : List Int) (cold : Int) (row : List Int) (begin : List Int) (done : Int) (empty : Bool) (proof : List (List Int)) (answer : Int) (core : List Int) (model : List Bool) : Option (Unit × ((Int × List (List Int) × Unit) × (Int × List (List Int) × List (List Int) × List Int × List Int × List Int × List Int × List Int × List Int × Int × List Int × List Int × Int × Bool × List (List Int) × Int × List Int × List Bool × Unit) × Unit) × Unit) :=
  bindO (cMore (nI cl.length) avars vars watch is depth why old hot answer core model) fun y0 =>
  iterO (X := Int × Int × (Int × Int × Int × Bool × Int) × List (List Int) × List (List Int) × List Int × List Int × List Int × List Int × List Int × List Int × List Int × List Bool × List (List Int) × List Int) (fun y1 =>
    bif decide (y1.1 < nI cl.length) then
      gd (inK IntKind.i64 (y0.1.1 + y1.1)) <|
      gd (inK IntKind.i64 (y0.1.1 + y1.1 + 1)) <|
      bindO (unLatch fg fga fi fl fo fm ff fs a y1.1) fun y2 =>
      bindO (unLatch fg fga fi fl fo fm ff fs b y1.1) fun y3 =>
      gd ((y1.2.2.2.2.2.2.2.2.2.2.2.2.2.2.length + [y0.1.1 + y1.1 + 1].length) * 8 ≤ lim) <|
      gd (y1.2.2.2.2.2.2.2.2.2.2.2.2.2.2.length + [y0.1.1 + y1.1 + 1].length ≤ lim) <|
      gd (inK IntKind.i64 (0 - (y0.1.1 + y1.1 + 1))) <|
      bindO (cTell [0 - (y0.1.1 + y1.1 + 1), y2.1.1, y3.1.1] y1.2.2.2.2.2.2.2.2.2.2.2.2.2.1 y1.2.2.1.1 y1.2.2.2.1 y1.2.2.2.2.1 y1.2.2.2.2.2.1 y1.2.2.2.2.2.2.1 y1.2.2.2.2.2.2.2.1 y1.2.2.2.2.2.2.2.2.1 y1.2.2.1.2.1 y1.2.2.2.2.2.2.2.2.2.1 y1.2.2.2.2.2.2.2.2.2.2.1 y1.2.2.1.2.2.1 y1.2.2.1.2.2.2.1 y1.2.2.1.2.2.2.2 y1.2.2.2.2.2.2.2.2.2.2.2.1 y1.2.2.2.2.2.2.2.2.2.2.2.2.1) fun y4 =>
      gd (inK IntKind.i64 (0 - (y0.1.1 + y1.1 + 1))) <|
      gd (inK IntKind.i64 (0 - y2.1.1)) <|
      gd (inK IntKind.i64 (0 - y3.1.1)) <|
      bindO (cTell [0 - (y0.1.1 + y1.1 + 1), 0 - y2.1.1, 0 - y3.1.1] y4.2.1.1.1 y4.2.1.2.1.1 y4.2.1.2.1.2.1 y4.2.1.2.1.2.2.1 y4.2.1.2.1.2.2.2.1 y4.2.1.2.1.2.2.2.2.1 y4.2.1.2.1.2.2.2.2.2.1 y4.2.1.2.1.2.2.2.2.2.2.1 y4.2.1.2.1.2.2.2.2.2.2.2.1 y4.2.1.2.1.2.2.2.2.2.2.2.2.1 y4.2.1.2.1.2.2.2.2.2.2.2.2.2.1 y4.2.1.2.1.2.2.2.2.2.2.2.2.2.2.1 y4.2.1.2.1.2.2.2.2.2.2.2.2.2.2.2.1 y4.2.1.2.1.2.2.2.2.2.2.2.2.2.2.2.2.1 y4.2.1.2.1.2.2.2.2.2.2.2.2.2.2.2.2.2.1 y4.2.1.2.1.2.2.2.2.2.2.2.2.2.2.2.2.2.2.1) fun y5 =>
      gd (inK IntKind.i64 (y1.1 + 1)) <|
      some (Sum.inl (y1.1 + 1, y1.2.1, (y5.2.1.2.1.1, y5.2.1.2.1.2.2.2.2.2.2.2.1, y5.2.1.2.1.2.2.2.2.2.2.2.2.2.2.1, y5.2.1.2.1.2.2.2.2.2.2.2.2.2.2.2.1, y5.2.1.2.1.2.2.2.2.2.2.2.2.2.2.2.2.1), y5.2.1.2.1.2.1, y5.2.1.2.1.2.2.1, y5.2.1.2.1.2.2.2.1, y5.2.1.2.1.2.2.2.2.1, y5.2.1.2.1.2.2.2.2.2.1, y5.2.1.2.1.2.2.2.2.2.2.1, y5.2.1.2.1.2.2.2.2.2.2.2.2.1, y5.2.1.2.1.2.2.2.2.2.2.2.2.2.1, y5.2.1.2.1.2.2.2.2.2.2.2.2.2.2.2.2.2.1, y5.2.1.2.1.2.2.2.2.2.2.2.2.2.2.2.2.2.2.1, y5.2.1.1.1, y1.2.2.2.2.2.2.2.2.2.2.2.2.2.2 ++ [y0.1.1 + y1.1 + 1]))
    else
      bindO (cTell y1.2.2.2.2.2.2.2.2.2.2.2.2.2.2 y1.2.2.2.2.2.2.2.2.2.2.2.2.2.1 y1.2.2.1.1 y1.2.2.2.1 y1.2.2.2.2.1 y1.2.2.2.2.2.1 y1.2.2.2.2.2.2.1 y1.2.2.2.2.2.2.2.1 y1.2.2.2.2.2.2.2.2.1 y1.2.2.1.2.1 y1.2.2.2.2.2.2.2.2.2.1 y1.2.2.2.2.2.2.2.2.2.2.1 y1.2.2.1.2.2.1 y1.2.2.1.2.2.2.1 y1.2.2.1.2.2.2.2 y1.2.2.2.2.2.2.2.2.2.2.2.1 y1.2.2.2.2.2.2.2.2.2.2.2.2.1) fun y2 =>
      some (Sum.inr ((), ((y1.2.1, y2.2.1.1.1, ()), (y2.2.1.2.1.1, y2.2.1.2.1.2.1, y2.2.1.2.1.2.2.1, y2.2.1.2.1.2.2.2.1, y2.2.1.2.1.2.2.2.2.1, y2.2.1.2.1.2.2.2.2.2.1, y2.2.1.2.1.2.2.2.2.2.2.1, y0.2.1.2.1.2.2.2.2.2.2.1, warm, y2.2.1.2.1.2.2.2.2.2.2.2.1, y2.2.1.2.1.2.2.2.2.2.2.2.2.1, y2.2.1.2.1.2.2.2.2.2.2.2.2.2.1, y2.2.1.2.1.2.2.2.2.2.2.2.2.2.2.1, y2.2.1.2.1.2.2.2.2.2.2.2.2.2.2.2.1, proof, y2.2.1.2.1.2.2.2.2.2.2.2.2.2.2.2.2.1, y2.2.1.2.1.2.2.2.2.2.2.2.2.2.2.2.2.2.1, y2.2.1.2.1.2.2.2.2.2.2.2.2.2.2.2.2.2.2.1, ()), ()), ()))) (nn) (0, y0.2.1.1.1, (y0.2.1.2.1.1, cold, done, empty, y0.2.1.2.1.2.2.2.2.2.2.2.1), all, y0.2.1.2.1.2.1, y0.2.1.2.1.2.2.1, y0.2.1.2.1.2.2.2.1, y0.2.1.2.1.2.2.2.2.1, y0.2.1.2.1.2.2.2.2.2.1, row, begin, y0.2.1.2.1.2.2.2.2.2.2.2.2.1, y0.2.1.2.1.2.2.2.2.2.2.2.2.2.1, aall, [])

def fUnlike (gi : Int) (ga : List (Int × Int × Unit)) (ci : List (Int × Int × Int × Unit)) (cl : List (Int × Int × Bool × Int × Int × Unit)) (co : List (Int × Int × Int × Unit)) (fg : Int) (fga : List (Int × Int × Unit)) (fi : List (Int × Int × Int × Unit)) (fl : List (Int × Int × Bool × Int × Int × Unit)) (fo : List (Int × Int × Int × Unit)) (fm : Int) (ff : Bool) (fs : Int) (a : Int) (b : Int) (avars : Int) (aall : List (List Int)) (vars : Int) (all : List (List Int)) (watch : List (List Int)) (is : List Int) (depth : List Int) (why : List Int) (old : List Int) (hot : List Int) (warm : List Int) (cold : Int) (row : List Int) (begin : List Int) (done : Int) (empty : Bool) (proof : List (List Int)) (answer : Int) (core : List Int) (model : List Bool) : Option (Unit × ((Int × List (List Int) × Unit) × (Int × List (List Int) × List (List Int) × List Int × List Int × List Int × List Int × List Int × List Int × Int × List Int × List Int × Int × Bool × List (List Int) × Int × List Int × List Bool × Unit) × Unit) × Unit) := fUnlikeF fuelN gi ga ci cl co fg fga fi fl fo fm ff fs a b avars aall vars all watch is depth why old hot warm cold row begin done empty proof answer core model

def deepF (nn : Nat)  (gi : Int) (ga : List (Int × Int × Unit)) (ci : List (Int × Int × Int × Unit)) (cl : List (Int × Int × Bool × Int × Int × Unit)) (co : List (Int × Int × Int × Unit)) (out : Int) (k : Int) : Option ((Bool × Unit) × Unit × Unit) :=
  bindO (framesOf gi ga ci cl co k true) fun y0 =>
  iterO (X := Int × Int × (Int × Int × Int × Bool × Int) × List (List Int) × List (List Int) × List Int × List Int × List Int × List Int × List Int × List Int × List Int × List Int × List (List Int) × List Int × List Bool × List (List Int) × List Int) (fun y1 =>
    bif decide (y1.1 < k) then
      bindO (fLegal y0.1.1.1 y0.1.1.2.1 y0.1.1.2.2.1 y0.1.1.2.2.2.1 y0.1.1.2.2.2.2.1 y0.1.1.2.2.2.2.2.1.1 y0.1.1.2.2.2.2.2.1.2.1 y0.1.1.2.2.2.2.2.1.2.2.1 y0.1.1.2.2.2.2.2.1.2.2.2.1 y0.1.1.2.2.2.2.2.1.2.2.2.2.1 y0.1.1.2.2.2.2.2.1.2.2.2.2.2.1 y0.1.1.2.2.2.2.2.1.2.2.2.2.2.2.1 y0.1.1.2.2.2.2.2.1.2.2.2.2.2.2.2.1 y1.2.2.2.2.2.2.2.2.2.2.2.2.2.2.2.2.2 y1.1 y1.2.2.2.2.2.2.2.2.2.2.2.2.2.2.2.2.1 y1.2.2.1.1 y1.2.2.2.1 y1.2.2.2.2.1 y1.2.2.2.2.2.1 y1.2.2.2.2.2.2.1 y1.2.2.2.2.2.2.2.1 y1.2.2.2.2.2.2.2.2.1 y1.2.2.1.2.1 y1.2.2.2.2.2.2.2.2.2.2.2.1 y1.2.2.2.2.2.2.2.2.2.2.2.2.1 y1.2.2.1.2.2.1 y1.2.2.1.2.2.2.1 y1.2.2.1.2.2.2.2 y1.2.2.2.2.2.2.2.2.2.2.2.2.2.2.1 y1.2.2.2.2.2.2.2.2.2.2.2.2.2.2.2.1) fun y2 =>
      bindO (fHit y0.1.1.1 y0.1.1.2.1 y0.1.1.2.2.1 y0.1.1.2.2.2.1 y0.1.1.2.2.2.2.1 y0.1.1.2.2.2.2.2.1.1 y0.1.1.2.2.2.2.2.1.2.1 y0.1.1.2.2.2.2.2.1.2.2.1 y0.1.1.2.2.2.2.2.1.2.2.2.1 y0.1.1.2.2.2.2.2.1.2.2.2.2.1 y0.1.1.2.2.2.2.2.1.2.2.2.2.2.1 y0.1.1.2.2.2.2.2.1.2.2.2.2.2.2.1 y0.1.1.2.2.2.2.2.1.2.2.2.2.2.2.2.1 y1.1 out) fun y3 =>
      bindO (cBarred [y3.1.1] y1.2.1 y2.2.1.1.1 y2.2.1.2.1.1 y2.2.1.2.1.2.1 y2.2.1.2.1.2.2.1 y2.2.1.2.1.2.2.2.1 y2.2.1.2.1.2.2.2.2.1 y2.2.1.2.1.2.2.2.2.2.1 y2.2.1.2.1.2.2.2.2.2.2.1 y1.2.2.2.2.2.2.2.2.2.1 y1.2.2.2.2.2.2.2.2.2.2.1 y2.2.1.2.1.2.2.2.2.2.2.2.1 y2.2.1.2.1.2.2.2.2.2.2.2.2.1 y2.2.1.2.1.2.2.2.2.2.2.2.2.2.1 y2.2.1.2.1.2.2.2.2.2.2.2.2.2.2.1 y2.2.1.2.1.2.2.2.2.2.2.2.2.2.2.2.1 y1.2.2.2.2.2.2.2.2.2.2.2.2.2.1 y2.2.1.2.1.2.2.2.2.2.2.2.2.2.2.2.2.1 y2.2.1.2.1.2.2.2.2.2.2.2.2.2.2.2.2.2.1 y2.2.1.2.1.2.2.2.2.2.2.2.2.2.2.2.2.2.2.1) fun y4 =>
      bif !y4.1.1 then
        some (Sum.inr ((false, ()), (), ()))
      else
        gd (inK IntKind.i64 (y1.1 + 1)) <|
        some (Sum.inl (y1.1 + 1, y4.2.1.1.1, (y4.2.1.2.1.1, y4.2.1.2.1.2.2.2.2.2.2.2.2.2.1, y4.2.1.2.1.2.2.2.2.2.2.2.2.2.2.2.2.1, y4.2.1.2.1.2.2.2.2.2.2.2.2.2.2.2.2.2.1, y4.2.1.2.1.2.2.2.2.2.2.2.2.2.2.2.2.2.2.2.1), y4.2.1.2.1.2.1, y4.2.1.2.1.2.2.1, y4.2.1.2.1.2.2.2.1, y4.2.1.2.1.2.2.2.2.1, y4.2.1.2.1.2.2.2.2.2.1, y4.2.1.2.1.2.2.2.2.2.2.1, y4.2.1.2.1.2.2.2.2.2.2.2.1, y4.2.1.2.1.2.2.2.2.2.2.2.2.1, y4.2.1.2.1.2.2.2.2.2.2.2.2.2.2.1, y4.2.1.2.1.2.2.2.2.2.2.2.2.2.2.2.1, y4.2.1.2.1.2.2.2.2.2.2.2.2.2.2.2.2.2.2.1, y4.2.1.2.1.2.2.2.2.2.2.2.2.2.2.2.2.2.2.2.2.1, y4.2.1.2.1.2.2.2.2.2.2.2.2.2.2.2.2.2.2.2.2.2.1, y4.2.1.1.2.1, y1.2.2.2.2.2.2.2.2.2.2.2.2.2.2.2.2.2))
    else
      gd (inK IntKind.i64 (k + 1)) <|
      bindO (framesOf gi ga ci cl co (k + 1) false) fun y2 =>
      gd (inK IntKind.i64 (k + 1)) <|
      iterO (X := Int × Int × (Int × Int × Int × Bool × Int) × List (List Int) × List (List Int) × List Int × List Int × List Int × List Int × List Int × List Int × List Int × List Int × List (List Int) × List Int × List Bool × List (List Int) × List Int) (fun y3 =>
        bif decide (y3.1 < k + 1) then
          bindO (fLegal y2.1.1.1 y2.1.1.2.1 y2.1.1.2.2.1 y2.1.1.2.2.2.1 y2.1.1.2.2.2.2.1 y2.1.1.2.2.2.2.2.1.1 y2.1.1.2.2.2.2.2.1.2.1 y2.1.1.2.2.2.2.2.1.2.2.1 y2.1.1.2.2.2.2.2.1.2.2.2.1 y2.1.1.2.2.2.2.2.1.2.2.2.2.1 y2.1.1.2.2.2.2.2.1.2.2.2.2.2.1 y2.1.1.2.2.2.2.2.1.2.2.2.2.2.2.1 y2.1.1.2.2.2.2.2.1.2.2.2.2.2.2.2.1 y3.2.2.2.2.2.2.2.2.2.2.2.2.2.2.2.2.2 y3.1 y3.2.2.2.2.2.2.2.2.2.2.2.2.2.2.2.2.1 y3.2.2.1.1 y3.2.2.2.1 y3.2.2.2.2.1 y3.2.2.2.2.2.1 y3.2.2.2.2.2.2.1 y3.2.2.2.2.2.2.2.1 y3.2.2.2.2.2.2.2.2.1 y3.2.2.1.2.1 y3.2.2.2.2.2.2.2.2.2.2.2.1 y3.2.2.2.2.2.2.2.2.2.2.2.2.1 y3.2.2.1.2.2.1 y3.2.2.1.2.2.2.1 y3.2.2.1.2.2.2.2 y3.2.2.2.2.2.2.2.2.2.2.2.2.2.2.1 y3.2.2.2.2.2.2.2.2.2.2.2.2.2.2.2.1) fun y4 =>
          iterO (X := Int × Int × (Int × Int × Int × Bool × Int) × List (List Int) × List (List Int) × List Int × List Int × List Int × List Int × List Int × List Int × List Int × List Int × List (List Int) × List Int × List Bool × List (List Int)) (fun y5 =>
            bif decide (y5.1 < y3.1) then
              bindO (fUnlike y2.1.1.1 y2.1.1.2.1 y2.1.1.2.2.1 y2.1.1.2.2.2.1 y2.1.1.2.2.2.2.1 y2.1.1.2.2.2.2.2.1.1 y2.1.1.2.2.2.2.2.1.2.1 y2.1.1.2.2.2.2.2.1.2.2.1 y2.1.1.2.2.2.2.2.1.2.2.2.1 y2.1.1.2.2.2.2.2.1.2.2.2.2.1 y2.1.1.2.2.2.2.2.1.2.2.2.2.2.1 y2.1.1.2.2.2.2.2.1.2.2.2.2.2.2.1 y2.1.1.2.2.2.2.2.1.2.2.2.2.2.2.2.1 y5.1 y3.1 y5.2.1 y5.2.2.2.2.2.2.2.2.2.2.2.2.2.2.2.2 y5.2.2.1.1 y5.2.2.2.1 y5.2.2.2.2.1 y5.2.2.2.2.2.1 y5.2.2.2.2.2.2.1 y5.2.2.2.2.2.2.2.1 y5.2.2.2.2.2.2.2.2.1 y5.2.2.2.2.2.2.2.2.2.1 y5.2.2.2.2.2.2.2.2.2.2.1 y5.2.2.1.2.1 y5.2.2.2.2.2.2.2.2.2.2.2.1 y5.2.2.2.2.2.2.2.2.2.2.2.2.1 y5.2.2.1.2.2.1 y5.2.2.1.2.2.2.1 y5.2.2.2.2.2.2.2.2.2.2.2.2.2.1 y5.2.2.1.2.2.2.2 y5.2.2.2.2.2.2.2.2.2.2.2.2.2.2.1 y5.2.2.2.2.2.2.2.2.2.2.2.2.2.2.2.1) fun y6 =>
              gd (inK IntKind.i64 (y5.1 + 1)) <|
              some (Sum.inl (y5.1 + 1, y6.2.1.1.1, (y6.2.1.2.1.1, y6.2.1.2.1.2.2.2.2.2.2.2.2.2.1, y6.2.1.2.1.2.2.2.2.2.2.2.2.2.2.2.2.1, y6.2.1.2.1.2.2.2.2.2.2.2.2.2.2.2.2.2.1, y6.2.1.2.1.2.2.2.2.2.2.2.2.2.2.2.2.2.2.2.1), y6.2.1.2.1.2.1, y6.2.1.2.1.2.2.1, y6.2.1.2.1.2.2.2.1, y6.2.1.2.1.2.2.2.2.1, y6.2.1.2.1.2.2.2.2.2.1, y6.2.1.2.1.2.2.2.2.2.2.1, y6.2.1.2.1.2.2.2.2.2.2.2.1, y6.2.1.2.1.2.2.2.2.2.2.2.2.1, y6.2.1.2.1.2.2.2.2.2.2.2.2.2.2.1, y6.2.1.2.1.2.2.2.2.2.2.2.2.2.2.2.1, y6.2.1.2.1.2.2.2.2.2.2.2.2.2.2.2.2.2.2.1, y6.2.1.2.1.2.2.2.2.2.2.2.2.2.2.2.2.2.2.2.2.1, y6.2.1.2.1.2.2.2.2.2.2.2.2.2.2.2.2.2.2.2.2.2.1, y6.2.1.1.2.1))
            else
              bif decide (y3.1 < k) then
                bindO (fHit y2.1.1.1 y2.1.1.2.1 y2.1.1.2.2.1 y2.1.1.2.2.2.1 y2.1.1.2.2.2.2.1 y2.1.1.2.2.2.2.2.1.1 y2.1.1.2.2.2.2.2.1.2.1 y2.1.1.2.2.2.2.2.1.2.2.1 y2.1.1.2.2.2.2.2.1.2.2.2.1 y2.1.1.2.2.2.2.2.1.2.2.2.2.1 y2.1.1.2.2.2.2.2.1.2.2.2.2.2.1 y2.1.1.2.2.2.2.2.1.2.2.2.2.2.2.1 y2.1.1.2.2.2.2.2.1.2.2.2.2.2.2.2.1 y3.1 out) fun y6 =>
                gd (inK IntKind.i64 (0 - y6.1.1)) <|
                bindO (cTell [0 - y6.1.1] y5.2.2.2.2.2.2.2.2.2.2.2.2.2.2.2.2 y5.2.2.1.1 y5.2.2.2.1 y5.2.2.2.2.1 y5.2.2.2.2.2.1 y5.2.2.2.2.2.2.1 y5.2.2.2.2.2.2.2.1 y5.2.2.2.2.2.2.2.2.1 y5.2.2.1.2.1 y5.2.2.2.2.2.2.2.2.2.2.2.1 y5.2.2.2.2.2.2.2.2.2.2.2.2.1 y5.2.2.1.2.2.1 y5.2.2.1.2.2.2.1 y5.2.2.1.2.2.2.2 y5.2.2.2.2.2.2.2.2.2.2.2.2.2.2.1 y5.2.2.2.2.2.2.2.2.2.2.2.2.2.2.2.1) fun y7 =>
                gd (inK IntKind.i64 (y3.1 + 1)) <|
                some (Sum.inr (Sum.inl (y3.1 + 1, y5.2.1, (y7.2.1.2.1.1, y7.2.1.2.1.2.2.2.2.2.2.2.1, y7.2.1.2.1.2.2.2.2.2.2.2.2.2.2.1, y7.2.1.2.1.2.2.2.2.2.2.2.2.2.2.2.1, y7.2.1.2.1.2.2.2.2.2.2.2.2.2.2.2.2.1), y7.2.1.2.1.2.1, y7.2.1.2.1.2.2.1, y7.2.1.2.1.2.2.2.1, y7.2.1.2.1.2.2.2.2.1, y7.2.1.2.1.2.2.2.2.2.1, y7.2.1.2.1.2.2.2.2.2.2.1, y5.2.2.2.2.2.2.2.2.2.1, y5.2.2.2.2.2.2.2.2.2.2.1, y7.2.1.2.1.2.2.2.2.2.2.2.2.1, y7.2.1.2.1.2.2.2.2.2.2.2.2.2.1, y5.2.2.2.2.2.2.2.2.2.2.2.2.2.1, y7.2.1.2.1.2.2.2.2.2.2.2.2.2.2.2.2.2.1, y7.2.1.2.1.2.2.2.2.2.2.2.2.2.2.2.2.2.2.1, y7.2.1.1.1, y3.2.2.2.2.2.2.2.2.2.2.2.2.2.2.2.2.2)))
              else
                gd (inK IntKind.i64 (y3.1 + 1)) <|
                some (Sum.inr (Sum.inl (y3.1 + 1, y5.2.1, (y5.2.2.1.1, y5.2.2.1.2.1, y5.2.2.1.2.2.1, y5.2.2.1.2.2.2.1, y5.2.2.1.2.2.2.2), y5.2.2.2.1, y5.2.2.2.2.1, y5.2.2.2.2.2.1, y5.2.2.2.2.2.2.1, y5.2.2.2.2.2.2.2.1, y5.2.2.2.2.2.2.2.2.1, y5.2.2.2.2.2.2.2.2.2.1, y5.2.2.2.2.2.2.2.2.2.2.1, y5.2.2.2.2.2.2.2.2.2.2.2.1, y5.2.2.2.2.2.2.2.2.2.2.2.2.1, y5.2.2.2.2.2.2.2.2.2.2.2.2.2.1, y5.2.2.2.2.2.2.2.2.2.2.2.2.2.2.1, y5.2.2.2.2.2.2.2.2.2.2.2.2.2.2.2.1, y5.2.2.2.2.2.2.2.2.2.2.2.2.2.2.2.2, y3.2.2.2.2.2.2.2.2.2.2.2.2.2.2.2.2.2)))) (nn) (0, y3.2.1, (y4.2.1.2.1.1, y4.2.1.2.1.2.2.2.2.2.2.2.1, y4.2.1.2.1.2.2.2.2.2.2.2.2.2.2.1, y4.2.1.2.1.2.2.2.2.2.2.2.2.2.2.2.1, y4.2.1.2.1.2.2.2.2.2.2.2.2.2.2.2.2.1), y4.2.1.2.1.2.1, y4.2.1.2.1.2.2.1, y4.2.1.2.1.2.2.2.1, y4.2.1.2.1.2.2.2.2.1, y4.2.1.2.1.2.2.2.2.2.1, y4.2.1.2.1.2.2.2.2.2.2.1, y3.2.2.2.2.2.2.2.2.2.1, y3.2.2.2.2.2.2.2.2.2.2.1, y4.2.1.2.1.2.2.2.2.2.2.2.2.1, y4.2.1.2.1.2.2.2.2.2.2.2.2.2.1, y3.2.2.2.2.2.2.2.2.2.2.2.2.2.1, y4.2.1.2.1.2.2.2.2.2.2.2.2.2.2.2.2.2.1, y4.2.1.2.1.2.2.2.2.2.2.2.2.2.2.2.2.2.2.1, y4.2.1.1.1)
        else
          bindO (fHit y2.1.1.1 y2.1.1.2.1 y2.1.1.2.2.1 y2.1.1.2.2.2.1 y2.1.1.2.2.2.2.1 y2.1.1.2.2.2.2.2.1.1 y2.1.1.2.2.2.2.2.1.2.1 y2.1.1.2.2.2.2.2.1.2.2.1 y2.1.1.2.2.2.2.2.1.2.2.2.1 y2.1.1.2.2.2.2.2.1.2.2.2.2.1 y2.1.1.2.2.2.2.2.1.2.2.2.2.2.1 y2.1.1.2.2.2.2.2.1.2.2.2.2.2.2.1 y2.1.1.2.2.2.2.2.1.2.2.2.2.2.2.2.1 k out) fun y4 =>
          bindO (cBarred [y4.1.1] y3.2.1 y3.2.2.2.2.2.2.2.2.2.2.2.2.2.2.2.2.1 y3.2.2.1.1 y3.2.2.2.1 y3.2.2.2.2.1 y3.2.2.2.2.2.1 y3.2.2.2.2.2.2.1 y3.2.2.2.2.2.2.2.1 y3.2.2.2.2.2.2.2.2.1 y3.2.2.2.2.2.2.2.2.2.1 y3.2.2.2.2.2.2.2.2.2.2.1 y3.2.2.1.2.1 y3.2.2.2.2.2.2.2.2.2.2.2.1 y3.2.2.2.2.2.2.2.2.2.2.2.2.1 y3.2.2.1.2.2.1 y3.2.2.1.2.2.2.1 y3.2.2.2.2.2.2.2.2.2.2.2.2.2.1 y3.2.2.1.2.2.2.2 y3.2.2.2.2.2.2.2.2.2.2.2.2.2.2.1 y3.2.2.2.2.2.2.2.2.2.2.2.2.2.2.2.1) fun y5 =>
          some (Sum.inr (Sum.inr ((y5.1.1, ()), (), ())))) (nn) (0, y2.2.2.1.1, (y2.2.2.2.1.1, y2.2.2.2.1.2.2.2.2.2.2.2.2.2.1, y2.2.2.2.1.2.2.2.2.2.2.2.2.2.2.2.2.1, y2.2.2.2.1.2.2.2.2.2.2.2.2.2.2.2.2.2.1, y2.2.2.2.1.2.2.2.2.2.2.2.2.2.2.2.2.2.2.2.1), y2.2.2.2.1.2.1, y2.2.2.2.1.2.2.1, y2.2.2.2.1.2.2.2.1, y2.2.2.2.1.2.2.2.2.1, y2.2.2.2.1.2.2.2.2.2.1, y2.2.2.2.1.2.2.2.2.2.2.1, y2.2.2.2.1.2.2.2.2.2.2.2.1, y2.2.2.2.1.2.2.2.2.2.2.2.2.1, y2.2.2.2.1.2.2.2.2.2.2.2.2.2.2.1, y2.2.2.2.1.2.2.2.2.2.2.2.2.2.2.2.1, y2.2.2.2.1.2.2.2.2.2.2.2.2.2.2.2.2.2.2.1, y2.2.2.2.1.2.2.2.2.2.2.2.2.2.2.2.2.2.2.2.2.1, y2.2.2.2.1.2.2.2.2.2.2.2.2.2.2.2.2.2.2.2.2.2.1, y2.2.2.1.2.1, y2.1.1.2.2.2.2.2.2.1)) (nn) (0, y0.2.2.1.1, (y0.2.2.2.1.1, y0.2.2.2.1.2.2.2.2.2.2.2.2.2.1, y0.2.2.2.1.2.2.2.2.2.2.2.2.2.2.2.2.1, y0.2.2.2.1.2.2.2.2.2.2.2.2.2.2.2.2.2.1, y0.2.2.2.1.2.2.2.2.2.2.2.2.2.2.2.2.2.2.2.1), y0.2.2.2.1.2.1, y0.2.2.2.1.2.2.1, y0.2.2.2.1.2.2.2.1, y0.2.2.2.1.2.2.2.2.1, y0.2.2.2.1.2.2.2.2.2.1, y0.2.2.2.1.2.2.2.2.2.2.1, y0.2.2.2.1.2.2.2.2.2.2.2.1, y0.2.2.2.1.2.2.2.2.2.2.2.2.1, y0.2.2.2.1.2.2.2.2.2.2.2.2.2.2.1, y0.2.2.2.1.2.2.2.2.2.2.2.2.2.2.2.1, y0.2.2.2.1.2.2.2.2.2.2.2.2.2.2.2.2.2.2.1, y0.2.2.2.1.2.2.2.2.2.2.2.2.2.2.2.2.2.2.2.2.1, y0.2.2.2.1.2.2.2.2.2.2.2.2.2.2.2.2.2.2.2.2.2.1, y0.2.2.1.2.1, y0.1.1.2.2.2.2.2.2.1)

def deep (gi : Int) (ga : List (Int × Int × Unit)) (ci : List (Int × Int × Int × Unit)) (cl : List (Int × Int × Bool × Int × Int × Unit)) (co : List (Int × Int × Int × Unit)) (out : Int) (k : Int) : Option ((Bool × Unit) × Unit × Unit) := deepF fuelN gi ga ci cl co out k

def cCheck (gi : Int) (ga : List (Int × Int × Unit)) (ci : List (Int × Int × Int × Unit)) (cl : List (Int × Int × Bool × Int × Int × Unit)) (co : List (Int × Int × Int × Unit)) (out : Int) (vk : Int) (vK : Int) (vt : List (List Int)) (vi : List (List Int)) : Option ((Int × Unit) × Unit × Unit) :=
  bif vk == 1 then
    bif nI vi.length == 0 then
      bif bif true then nI vt.length == vK else false then
        bindO (replayed gi ga ci cl co out vt) fun y0 =>
        bif !bif true then y0.1.1 else false then
          some ((260, ()), (), ())
        else
          some ((0, ()), (), ())
      else
        some ((260, ()), (), ())
    else
      some ((260, ()), (), ())
  else
    bif vk != 2 then
      some ((260, ()), (), ())
    else
      bif bif false then true else decide (nI vt.length > 0) then
        some ((260, ()), (), ())
      else
        bif vK == 0 then
          bindO (cInd gi ga ci cl co out vi) fun y0 =>
          bif !y0.1.1 == 0 then
            some ((260, ()), (), ())
          else
            some ((0, ()), (), ())
        else
          bif decide (vK ≥ 1) then
            bif bif true then decide (vK ≤ 64) else false then
              bif bif true then nI vi.length == 0 else false then
                bindO (deep gi ga ci cl co out vK) fun y0 =>
                bif !y0.1.1 then
                  some ((260, ()), (), ())
                else
                  some ((0, ()), (), ())
              else
                some ((260, ()), (), ())
            else
              some ((260, ()), (), ())
          else
            some ((260, ()), (), ())

end GoSx
end
section
/- Models of functions: what they compute, if all goes well: CertF. -/
namespace GoSx
open Go
def head26F (vnever26 : Option (((Int × List (Int × Int × Unit) × List (Int × Int × Int × Unit) × List (Int × Int × Bool × Int × Int × Unit) × List (Int × Int × Int × Unit) × Unit) × Unit) × Unit × Unit)) (vcCheck : Int → List (Int × Int × Unit) → List (Int × Int × Int × Unit) → List (Int × Int × Bool × Int × Int × Unit) → List (Int × Int × Int × Unit) → Int → Int → Int → List (List Int) → List (List Int) → Option ((Int × Unit) × Unit × Unit)) (vcInd : Int → List (Int × Int × Unit) → List (Int × Int × Int × Unit) → List (Int × Int × Bool × Int × Int × Unit) → List (Int × Int × Int × Unit) → Int → List (List Int) → Option ((Int × Unit) × Unit × Unit)) : Option ((Bool × Unit) × Unit × Unit) :=
  bindO (vnever26) fun y0 =>
  bindO (vcCheck y0.1.1.1 y0.1.1.2.1 y0.1.1.2.2.1 y0.1.1.2.2.2.1 y0.1.1.2.2.2.2.1 1 1 2 [[1], [0]] []) fun y1 =>
  bif y1.1.1 == 0 then
    bindO (vcCheck y0.1.1.1 y0.1.1.2.1 y0.1.1.2.2.1 y0.1.1.2.2.2.1 y0.1.1.2.2.2.2.1 1 1 2 [[0], [0]] []) fun y2 =>
    bif bif true then y2.1.1 == 260 else false then
      bindO (vcCheck y0.1.1.1 y0.1.1.2.1 y0.1.1.2.2.1 y0.1.1.2.2.2.1 y0.1.1.2.2.2.2.1 3 2 0 [] [[-3]]) fun y3 =>
      bif bif true then y3.1.1 == 0 else false then
        bindO (vcCheck y0.1.1.1 y0.1.1.2.1 y0.1.1.2.2.1 y0.1.1.2.2.2.1 y0.1.1.2.2.2.2.1 3 2 1 [] []) fun y4 =>
        bif bif true then y4.1.1 == 0 else false then
          bindO (vcCheck y0.1.1.1 y0.1.1.2.1 y0.1.1.2.2.1 y0.1.1.2.2.2.1 y0.1.1.2.2.2.2.1 1 2 1 [] []) fun y5 =>
          bif bif true then y5.1.1 == 260 else false then
            bindO (vcCheck y0.1.1.1 y0.1.1.2.1 y0.1.1.2.2.1 y0.1.1.2.2.2.1 y0.1.1.2.2.2.2.1 3 3 0 [] []) fun y6 =>
            bif bif true then y6.1.1 == 260 else false then
              bindO (vcInd y0.1.1.1 y0.1.1.2.1 y0.1.1.2.2.1 y0.1.1.2.2.2.1 y0.1.1.2.2.2.2.1 3 [[-3]]) fun y7 =>
              bif bif true then y7.1.1 == 0 else false then
                bindO (vcInd y0.1.1.1 y0.1.1.2.1 y0.1.1.2.2.1 y0.1.1.2.2.2.1 y0.1.1.2.2.2.2.1 3 [[3]]) fun y8 =>
                bif bif true then y8.1.1 == 1 else false then
                  bindO (vcInd y0.1.1.1 y0.1.1.2.1 y0.1.1.2.2.1 y0.1.1.2.2.2.1 y0.1.1.2.2.2.2.1 3 [[-2]]) fun y9 =>
                  bif bif true then y9.1.1 == 2 else false then
                    bindO (vcInd y0.1.1.1 y0.1.1.2.1 y0.1.1.2.2.1 y0.1.1.2.2.2.1 y0.1.1.2.2.2.2.1 3 []) fun y10 =>
                    bif bif true then y10.1.1 == 3 else false then
                      bindO (vcInd y0.1.1.1 y0.1.1.2.1 y0.1.1.2.2.1 y0.1.1.2.2.2.1 y0.1.1.2.2.2.2.1 3 [[4]]) fun y11 =>
                      some ((bif true then y11.1.1 == 4 else false, ()), (), ())
                    else
                      some ((false, ()), (), ())
                  else
                    some ((false, ()), (), ())
                else
                  some ((false, ()), (), ())
              else
                some ((false, ()), (), ())
            else
              some ((false, ()), (), ())
          else
            some ((false, ()), (), ())
        else
          some ((false, ()), (), ())
      else
        some ((false, ()), (), ())
    else
      some ((false, ()), (), ())
  else
    some ((false, ()), (), ())

def head26 : Option ((Bool × Unit) × Unit × Unit) := head26F never26 cCheck cInd

def CertTraceF (nn : Nat) (vhead26 : Option ((Bool × Unit) × Unit × Unit)) (vfew26 : List (Int × Int × Int × Int × Int × Int × Int × Unit) → List (ByteArray × Int × Unit) → List (ByteArray × Int × Int × Int × Unit) → List (Int × ByteArray × Int × Unit) → List (ByteArray × Int × Unit) → Int → Option (((Int × List (Int × Int × Unit) × List (Int × Int × Int × Unit) × List (Int × Int × Bool × Int × Int × Unit) × List (Int × Int × Int × Unit) × Unit) × Int × Bool × Unit) × Unit × Unit)) (vrows26 : Int → List (Int × Int × Unit) → List (Int × Int × Int × Unit) → List (Int × Int × Bool × Int × Int × Unit) → List (Int × Int × Int × Unit) → List (List Int) → Option ((List (List Int) × Unit) × Unit × Unit)) (vcircFirst : Int → List (Int × Int × Unit) → List (Int × Int × Int × Unit) → List (Int × Int × Bool × Int × Int × Unit) → List (Int × Int × Int × Unit) → Option ((List Bool × Unit) × Unit × Unit)) (vcircIns : Int → List (Int × Int × Unit) → List (Int × Int × Int × Unit) → List (Int × Int × Bool × Int × Int × Unit) → List (Int × Int × Int × Unit) → List Int → Option ((List Bool × Unit) × Unit × Unit)) (vcircStep : Int → List (Int × Int × Unit) → List (Int × Int × Int × Unit) → List (Int × Int × Bool × Int × Int × Unit) → List (Int × Int × Int × Unit) → List Bool → List Bool → Option ((List Bool × List Bool × Unit) × Unit × Unit)) (vlegal16 : Int → List (Int × Int × Unit) → List (Int × Int × Int × Unit) → List (Int × Int × Bool × Int × Int × Unit) → List (Int × Int × Int × Unit) → List Bool → Option ((Bool × Unit) × Unit × Unit)) (vhits16 : Int → List (Int × Int × Unit) → List (Int × Int × Int × Unit) → List (Int × Int × Bool × Int × Int × Unit) → List (Int × Int × Int × Unit) → Int → List Bool → Option ((Bool × Unit) × Unit × Unit)) (vcCheck : Int → List (Int × Int × Unit) → List (Int × Int × Int × Unit) → List (Int × Int × Bool × Int × Int × Unit) → List (Int × Int × Int × Unit) → Int → Int → Int → List (List Int) → List (List Int) → Option ((Int × Unit) × Unit × Unit)) (nn_ : List (Int × Int × Int × Int × Int × Int × Int × Unit)) (ni : List (ByteArray × Int × Unit)) (nc : List (ByteArray × Int × Int × Int × Unit)) (np : List (Int × ByteArray × Int × Unit)) (nm : List (ByteArray × Int × Unit)) (p : Int) (raw : List (List Int)) (more : Int) : Option ((Bool × Unit) × Unit × Unit) :=
  bindO (vhead26) fun y0 =>
  bindO (vfew26 nn_ ni nc np nm p) fun y1 =>
  bif !y1.1.2.2.1 then
    some ((y0.1.1, ()), (), ())
  else
    bindO (vrows26 y1.1.1.1 y1.1.1.2.1 y1.1.1.2.2.1 y1.1.1.2.2.2.1 y1.1.1.2.2.2.2.1 raw) fun y2 =>
    bindO (vcircFirst y1.1.1.1 y1.1.1.2.1 y1.1.1.2.2.1 y1.1.1.2.2.2.1 y1.1.1.2.2.2.2.1) fun y3 =>
    joinO (X := (Int × Int) × List Bool) (
      iterO (X := (Int × Int) × List Bool) (fun y4 =>
        bif decide (y4.1.2 < nI y2.1.1.length) then
          bif bif true then decide (y4.1.1 < 0) else false then
            bif nI y4.2.length != nI y1.1.1.2.2.2.1.length then
              some (Sum.inr (Sum.inr ((false, ()), (), ())))
            else
              gd (0 ≤ y4.1.2) <|
              gd (y4.1.2 < nI y2.1.1.length) <|
              bindO (vcircIns y1.1.1.1 y1.1.1.2.1 y1.1.1.2.2.1 y1.1.1.2.2.2.1 y1.1.1.2.2.2.2.1 (getL y2.1.1 y4.1.2)) fun y5 =>
              bindO (vcircStep y1.1.1.1 y1.1.1.2.1 y1.1.1.2.2.1 y1.1.1.2.2.2.1 y1.1.1.2.2.2.2.1 y4.2 y5.1.1) fun y6 =>
              bif nI y6.1.2.1.length != nI y1.1.1.2.2.2.2.1.length then
                some (Sum.inr (Sum.inr ((false, ()), (), ())))
              else
                bindO (vlegal16 y1.1.1.1 y1.1.1.2.1 y1.1.1.2.2.1 y1.1.1.2.2.2.1 y1.1.1.2.2.2.2.1 y6.1.2.1) fun y7 =>
                bif !y7.1.1 then
                  some (Sum.inr (Sum.inl ((y4.1.1, y4.1.2), y4.2)))
                else
                  joinO (X := Int) (
                    bindO (vhits16 y1.1.1.1 y1.1.1.2.1 y1.1.1.2.2.1 y1.1.1.2.2.2.1 y1.1.1.2.2.2.2.1 y1.1.2.1 y6.1.2.1) fun y8 =>
                    bif y8.1.1 then
                      some (Sum.inl y4.1.2)
                    else
                      some (Sum.inl y4.1.1)) fun y8 =>
                  gd (inK IntKind.i64 (y4.1.2 + 1)) <|
                  some (Sum.inl ((y8, y4.1.2 + 1), y6.1.1))
          else
            some (Sum.inr (Sum.inl ((y4.1.1, y4.1.2), y4.2)))
        else
          some (Sum.inr (Sum.inl ((y4.1.1, y4.1.2), y4.2)))) (nn) ((-1, 0), y3.1.1)) fun y4 =>
    joinO (X := List (List Int)) (
      bif decide (y4.1.1 < 0) then
        bindO (vcCheck y1.1.1.1 y1.1.1.2.1 y1.1.1.2.2.1 y1.1.1.2.2.2.1 y1.1.1.2.2.2.2.1 y1.1.2.1 1 (nI y2.1.1.length) y2.1.1 []) fun y5 =>
        bif y5.1.1 != 260 then
          some (Sum.inr ((false, ()), (), ()))
        else
          some (Sum.inl y2.1.1)
      else
        gd (inK IntKind.i64 (nI y2.1.1.length - 1)) <|
        bif bif false then true else y4.1.1 != nI y2.1.1.length - 1 then
          bindO (vcCheck y1.1.1.1 y1.1.1.2.1 y1.1.1.2.2.1 y1.1.1.2.2.2.1 y1.1.1.2.2.2.2.1 y1.1.2.1 1 (nI y2.1.1.length) y2.1.1 []) fun y5 =>
          bif y5.1.1 != 260 then
            some (Sum.inr ((false, ()), (), ()))
          else
            some (Sum.inl y2.1.1)
        else
          some (Sum.inl y2.1.1)) fun y5 =>
    bif decide (y4.1.1 < 0) then
      some ((y0.1.1, ()), (), ())
    else
      gd (inK IntKind.i64 (y4.1.1 + 1)) <|
      gd (inK IntKind.i64 (y4.1.1 + 1)) <|
      gd (0 ≤ y4.1.1 + 1) <|
      gd (y4.1.1 + 1 ≤ nI y5.length) <|
      gd (0 ≤ y4.1.1) <|
      gd (y4.1.1 ≤ nI y5.length) <|
      gd (0 ≤ y4.1.1) <|
      gd (y4.1.1 < nI y5.length) <|
      gd ((0 + List.length (getL y5 y4.1.1)) * 8 ≤ lim) <|
      gd (0 + List.length (getL y5 y4.1.1) ≤ lim) <|
      joinO (X := List Int) (
        bif decide (nI ([] ++ getL y5 y4.1.1).length > 0) then
          gd (0 < nI ([] ++ getL y5 y4.1.1).length) <|
          some (Sum.inl (([] ++ getL y5 y4.1.1).set 0 (IntKind.i64.wrap more)))
        else
          some (Sum.inl ([] ++ getL y5 y4.1.1))) fun y6 =>
      gd (inK IntKind.i64 (y4.1.1 + 2)) <|
      gd (inK IntKind.i64 (y4.1.1 + 1)) <|
      gd (0 ≤ y4.1.1 + 1) <|
      gd (y4.1.1 + 1 ≤ nI y5.length) <|
      gd ((0 + (List.drop 0 (List.take (Int.toNat (y4.1.1 + 1)) y5)).length) * 24 ≤ lim) <|
      gd (0 + (List.drop 0 (List.take (Int.toNat (y4.1.1 + 1)) y5)).length ≤ lim) <|
      gd ((([] ++ List.drop 0 (List.take (Int.toNat (y4.1.1 + 1)) y5)).length + [y6].length) * 24 ≤ lim) <|
      gd (([] ++ List.drop 0 (List.take (Int.toNat (y4.1.1 + 1)) y5)).length + [y6].length ≤ lim) <|
      gd (inK IntKind.i64 (y4.1.1 + 2)) <|
      bif y0.1.1 then
        bindO (vcCheck y1.1.1.1 y1.1.1.2.1 y1.1.1.2.2.1 y1.1.1.2.2.2.1 y1.1.1.2.2.2.2.1 y1.1.2.1 1 (y4.1.1 + 1) (List.drop 0 (List.take (Int.toNat (y4.1.1 + 1)) y5)) []) fun y7 =>
        bif bif true then y7.1.1 == 0 else false then
          bindO (vcCheck y1.1.1.1 y1.1.1.2.1 y1.1.1.2.2.1 y1.1.1.2.2.2.1 y1.1.1.2.2.2.2.1 y1.1.2.1 1 y4.1.1 (List.drop 0 (List.take y4.1.1.toNat y5)) []) fun y8 =>
          bif bif true then y8.1.1 == 260 else false then
            bindO (vcCheck y1.1.1.1 y1.1.1.2.1 y1.1.1.2.2.1 y1.1.1.2.2.2.1 y1.1.1.2.2.2.2.1 y1.1.2.1 1 (y4.1.1 + 2) ([] ++ List.drop 0 (List.take (Int.toNat (y4.1.1 + 1)) y5) ++ [y6]) []) fun y9 =>
            bif bif true then y9.1.1 == 260 else false then
              bindO (vcCheck y1.1.1.1 y1.1.1.2.1 y1.1.1.2.2.1 y1.1.1.2.2.2.1 y1.1.1.2.2.2.2.1 y1.1.2.1 1 (y4.1.1 + 2) (List.drop 0 (List.take (Int.toNat (y4.1.1 + 1)) y5)) []) fun y10 =>
              some ((bif true then y10.1.1 == 260 else false, ()), (), ())
            else
              some ((false, ()), (), ())
          else
            some ((false, ()), (), ())
        else
          some ((false, ()), (), ())
      else
        some ((false, ()), (), ())

def CertTrace (nn_ : List (Int × Int × Int × Int × Int × Int × Int × Unit)) (ni : List (ByteArray × Int × Unit)) (nc : List (ByteArray × Int × Int × Int × Unit)) (np : List (Int × ByteArray × Int × Unit)) (nm : List (ByteArray × Int × Unit)) (p : Int) (raw : List (List Int)) (more : Int) : Option ((Bool × Unit) × Unit × Unit) := CertTraceF fuelN head26 few26 rows26 circFirst circIns circStep legal16 hits16 cCheck nn_ ni nc np nm p raw more

end GoSx
end
section
/- Walks: the functions compute what their models say: SatA. -/
set_option linter.unusedVariables false
set_option maxHeartbeats 0
set_option maxRecDepth 100000
namespace GoSx
open Go Go.Proofs
theorem fol : Tryz.prog.follows .mixedOrders = true := by kernel_rfl
def size_s : FSig := ⟨.val int <| .nil, [], .val int <| .nil, []⟩
def size_L : Nat → Option LoopS := fun n =>
  none
def size_J : Nat → Option Shape := fun n =>
  none
set_option maxRecDepth 100000 in
theorem size_eq : ∀  xa xo, (size_s.prog (mkC Tryz.prog noS ⟨false, false⟩ size_L size_J) Tryz.f107 xa xo).run = size  xa.1 := by intros; kernel_rfl
noncomputable def T_size : FuncId → Summ := addS noS 107 (size_s.summ (fun xa xo => size xa.1))
theorem T_size_ok : ∀ g, SummOK Tryz.prog g (T_size g) := fn_ok noS_ok fol Tryz.func107 (by kernel_rfl) (by kernel_rfl) (by kernel_rfl) size_eq

def at__s : FSig := ⟨.val int <| .nil, [], .val int <| .nil, []⟩
def at__L : Nat → Option LoopS := fun n =>
  none
def at__J : Nat → Option Shape := fun n =>
  none
set_option maxRecDepth 100000 in
theorem at__eq : ∀  xa xo, (at__s.prog (mkC Tryz.prog T_size ⟨false, false⟩ at__L at__J) Tryz.f109 xa xo).run = at_  xa.1 := by intros; kernel_rfl
noncomputable def T_at_ : FuncId → Summ := addS T_size 109 (at__s.summ (fun xa xo => at_ xa.1))
theorem T_at__ok : ∀ g, SummOK Tryz.prog g (T_at_ g) := fn_ok T_size_ok fol Tryz.func109 (by kernel_rfl) (by kernel_rfl) (by kernel_rfl) at__eq

def value_s : FSig := ⟨.obj 0 <| .val int <| .nil, [(130, .skip <| .skip <| .skip <| .lend (.sl int) <| .skip <| .skip <| .skip <| .skip <| .skip <| .skip <| .skip <| .skip <| .skip <| .skip <| .skip <| .skip <| .skip <| .skip <| .nil)], .val int <| .nil, []⟩
def value_L : Nat → Option LoopS := fun n =>
  none
def value_J : Nat → Option Shape := fun n =>
  none
set_option maxRecDepth 100000 in
theorem value_eq : ∀  xa xo, (value_s.prog (mkC Tryz.prog T_at_ ⟨false, false⟩ value_L value_J) Tryz.f80 xa xo).run = value  xa.1 xo.1.1 := by intros; kernel_rfl
noncomputable def T_value : FuncId → Summ := addS T_at_ 80 (value_s.summ (fun xa xo => value xa.1 xo.1.1))
theorem T_value_ok : ∀ g, SummOK Tryz.prog g (T_value g) := fn_ok T_at__ok fol Tryz.func80 (by kernel_rfl) (by kernel_rfl) (by kernel_rfl) value_eq

def set__s : FSig := ⟨.obj 0 <| .val int <| .val int <| .nil, [(130, .skip <| .skip <| .skip <| .own 3 int <| .own 3 int <| .own 3 int <| .skip <| .skip <| .skip <| .skip <| .own 3 int <| .lend (.sl int) <| .skip <| .skip <| .skip <| .skip <| .skip <| .skip <| .nil)], .nil, []⟩
def set__L : Nat → Option LoopS := fun n =>
  none
def set__J : Nat → Option Shape := fun n =>
  none
set_option maxRecDepth 100000 in
theorem set__eq : ∀  xa xo, (set__s.prog (mkC Tryz.prog T_value ⟨false, false⟩ set__L set__J) Tryz.f82 xa xo).run = set_  xa.1 xa.2.1 xo.1.1 xo.1.2.1 xo.1.2.2.1 xo.1.2.2.2.1 xo.1.2.2.2.2.1 := by intros; kernel_rfl
noncomputable def T_set_ : FuncId → Summ := addS T_value 82 (set__s.summ (fun xa xo => set_ xa.1 xa.2.1 xo.1.1 xo.1.2.1 xo.1.2.2.1 xo.1.2.2.2.1 xo.1.2.2.2.2.1))
theorem T_set__ok : ∀ g, SummOK Tryz.prog g (T_set_ g) := fn_ok T_value_ok fol Tryz.func82 (by kernel_rfl) (by kernel_rfl) (by kernel_rfl) set__eq

def back_s : FSig := ⟨.obj 0 <| .val int <| .nil, [(130, .skip <| .skip <| .skip <| .own 3 int <| .skip <| .skip <| .own 3 int <| .skip <| .skip <| .val int <| .own 3 int <| .own 3 int <| .val int <| .skip <| .skip <| .skip <| .skip <| .skip <| .nil)], .nil, []⟩
def back_L (nn : Nat) : Nat → Option LoopS := fun n =>
  bif Nat.beq n 3 then some ⟨{ env := [(29, ASh.dat (Ty.int IntKind.i64))], heap := [(1, CSh.box 130 ((ASh.opq 18).cons ((ASh.opq 19).cons ((ASh.opq 20).cons ((ASh.arr 21).cons ((ASh.opq 22).cons ((ASh.opq 23).cons ((ASh.arr 24).cons ((ASh.opq 25).cons ((ASh.opq 26).cons ((ASh.dat (Ty.int IntKind.i64)).cons ((ASh.arr 28).cons ((ASh.arr 29).cons ((ASh.dat (Ty.int IntKind.i64)).cons ((ASh.opq 31).cons ((ASh.opq 32).cons ((ASh.opq 33).cons ((ASh.opq 34).cons ((ASh.opq 35).cons ASh.nil))))))))))))))))))), (21, CSh.arr 3 (Ty.int IntKind.i64)), (24, CSh.arr 3 (Ty.int IntKind.i64))], keep := [0, 1, 4, 27, 28], keepH := [28, 29] }, fun _ => nn⟩ else
  none
def back_J : Nat → Option Shape := fun n =>
  none
set_option maxRecDepth 100000 in
theorem back_eq : ∀ (nn : Nat)  xa xo, (back_s.prog (mkC Tryz.prog T_set_ ⟨false, false⟩ (back_L nn) back_J) Tryz.f79 xa xo).run = backF nn xa.1 xo.1.1 xo.1.2.1 xo.1.2.2.1 xo.1.2.2.2.1 xo.1.2.2.2.2.1 xo.1.2.2.2.2.2.1 := by intros; kernel_rfl
noncomputable def T_back : FuncId → Summ := addS T_set_ 79 (back_s.summ (fun xa xo => back xa.1 xo.1.1 xo.1.2.1 xo.1.2.2.1 xo.1.2.2.2.1 xo.1.2.2.2.2.1 xo.1.2.2.2.2.2.1))
theorem T_back_ok : ∀ g, SummOK Tryz.prog g (T_back g) := fn_ok T_set__ok fol Tryz.func79 (by kernel_rfl) (by kernel_rfl) (by kernel_rfl) (back_eq fuelN)

def keep_s : FSig := ⟨.obj 0 <| .lendh int <| .nil, [(130, .skip <| .own2h 48 3 int 17 <| .own2 48 3 int <| .skip <| .skip <| .skip <| .skip <| .skip <| .skip <| .skip <| .skip <| .skip <| .skip <| .skip <| .skip <| .skip <| .skip <| .skip <| .nil)], .val int <| .nil, []⟩
def keep_L : Nat → Option LoopS := fun n =>
  none
def keep_J : Nat → Option Shape := fun n =>
  none
set_option maxRecDepth 100000 in
theorem keep_eq : ∀  xa xo, (keep_s.prog (mkC Tryz.prog T_back ⟨false, false⟩ keep_L keep_J) Tryz.f83 xa xo).run = keep  xa.1 xo.1.1 xo.1.2.1 xo.1.2.2.1 := by intros; kernel_rfl
noncomputable def T_keep : FuncId → Summ := addS T_back 83 (keep_s.summ (fun xa xo => keep xa.1 xo.1.1 xo.1.2.1 xo.1.2.2.1))
theorem T_keep_ok : ∀ g, SummOK Tryz.prog g (T_keep g) := fn_ok T_back_ok fol Tryz.func83 (by kernel_rfl) (by kernel_rfl) (by kernel_rfl) keep_eq

end GoSx
end
section
/- Walks: the functions compute what their models say: SatB. -/
set_option linter.unusedVariables false
set_option maxHeartbeats 0
set_option maxRecDepth 100000
namespace GoSx
open Go Go.Proofs
def forget_s : FSig := ⟨.obj 0 <| .nil, [(130, .skip <| .skip <| .skip <| .skip <| .skip <| .skip <| .skip <| .skip <| .skip <| .skip <| .skip <| .skip <| .skip <| .skip <| .skip <| .val int <| .own 3 int <| .own 4 .bool <| .nil)], .nil, []⟩
def forget_L : Nat → Option LoopS := fun n =>
  none
def forget_J : Nat → Option Shape := fun n =>
  none
set_option maxRecDepth 100000 in
theorem forget_eq : ∀  xa xo, (forget_s.prog (mkC Tryz.prog T_keep ⟨false, false⟩ forget_L forget_J) Tryz.f77 xa xo).run = forget  xo.1.1 xo.1.2.1 xo.1.2.2.1 := by intros; kernel_rfl
noncomputable def T_forget : FuncId → Summ := addS T_keep 77 (forget_s.summ (fun xa xo => forget xo.1.1 xo.1.2.1 xo.1.2.2.1))
theorem T_forget_ok : ∀ g, SummOK Tryz.prog g (T_forget g) := fn_ok T_keep_ok fol Tryz.func77 (by kernel_rfl) (by kernel_rfl) (by kernel_rfl) forget_eq

def ownC_s : FSig := ⟨.val int <| .obj 0 <| .nil, [(106, .obj 1 <| .nil), (130, .val int <| .skip <| .skip <| .skip <| .skip <| .skip <| .skip <| .skip <| .skip <| .skip <| .skip <| .skip <| .skip <| .skip <| .skip <| .skip <| .skip <| .skip <| .nil)], .val .bool <| .nil, []⟩
def ownC_L : Nat → Option LoopS := fun n =>
  none
def ownC_J : Nat → Option Shape := fun n =>
  none
set_option maxRecDepth 100000 in
theorem ownC_eq : ∀  xa xo, (ownC_s.prog (mkC Tryz.prog T_forget ⟨false, false⟩ ownC_L ownC_J) Tryz.f106 xa xo).run = ownC  xa.1 xo.2.1.1 := by intros; kernel_rfl
noncomputable def T_ownC : FuncId → Summ := addS T_forget 106 (ownC_s.summ (fun xa xo => ownC xa.1 xo.2.1.1))
theorem T_ownC_ok : ∀ g, SummOK Tryz.prog g (T_ownC g) := fn_ok T_forget_ok fol Tryz.func106 (by kernel_rfl) (by kernel_rfl) (by kernel_rfl) ownC_eq

def IndexFunc_own_s : FSig := ⟨.val (.sl int) <| .clo 106 (.obj 0 <| .nil) <| .nil, [(106, .obj 1 <| .nil), (130, .val int <| .skip <| .skip <| .skip <| .skip <| .skip <| .skip <| .skip <| .skip <| .skip <| .skip <| .skip <| .skip <| .skip <| .skip <| .skip <| .skip <| .skip <| .nil)], .val int <| .nil, []⟩
def IndexFunc_own_L (nn : Nat) : Nat → Option LoopS := fun n =>
  bif Nat.beq n 2 then some ⟨{ env := [(8, ASh.dat (Ty.int IntKind.i64))], heap := [(1, CSh.box 106 ((ASh.ref 2 0).cons ASh.nil)), (2, CSh.box 130 ((ASh.dat (Ty.int IntKind.i64)).cons ((ASh.opq 20).cons ((ASh.opq 21).cons ((ASh.opq 22).cons ((ASh.opq 23).cons ((ASh.opq 24).cons ((ASh.opq 25).cons ((ASh.opq 26).cons ((ASh.opq 27).cons ((ASh.opq 28).cons ((ASh.opq 29).cons ((ASh.opq 30).cons ((ASh.opq 31).cons ((ASh.opq 32).cons ((ASh.opq 33).cons ((ASh.opq 34).cons ((ASh.opq 35).cons ((ASh.opq 36).cons ASh.nil)))))))))))))))))))], keep := [0, 1, 4, 7], keepH := [] }, fun _ => nn⟩ else
  none
def IndexFunc_own_J : Nat → Option Shape := fun n =>
  none
set_option maxRecDepth 100000 in
theorem IndexFunc_own_eq : ∀ (nn : Nat)  xa xo, (IndexFunc_own_s.prog (mkC Tryz.prog T_ownC ⟨false, false⟩ (IndexFunc_own_L nn) IndexFunc_own_J) Tryz.f68 xa xo).run = IndexFunc_ownF nn xa.1 xo.2.1.1 := by intros; kernel_rfl
noncomputable def T_IndexFunc_own : FuncId → Summ := addS T_ownC 68 (IndexFunc_own_s.summ (fun xa xo => IndexFunc_own xa.1 xo.2.1.1))
theorem T_IndexFunc_own_ok : ∀ g, SummOK Tryz.prog g (T_IndexFunc_own g) := fn_ok T_ownC_ok fol Tryz.func68 (by kernel_rfl) (by kernel_rfl) (by kernel_rfl) (IndexFunc_own_eq fuelN)

def ContainsFunc_own_s : FSig := ⟨.val (.sl int) <| .clo 106 (.obj 0 <| .nil) <| .nil, [(106, .obj 1 <| .nil), (130, .val int <| .skip <| .skip <| .skip <| .skip <| .skip <| .skip <| .skip <| .skip <| .skip <| .skip <| .skip <| .skip <| .skip <| .skip <| .skip <| .skip <| .skip <| .nil)], .val .bool <| .nil, []⟩
def ContainsFunc_own_L : Nat → Option LoopS := fun n =>
  none
def ContainsFunc_own_J : Nat → Option Shape := fun n =>
  none
set_option maxRecDepth 100000 in
theorem ContainsFunc_own_eq : ∀  xa xo, (ContainsFunc_own_s.prog (mkC Tryz.prog T_IndexFunc_own ⟨false, false⟩ ContainsFunc_own_L ContainsFunc_own_J) Tryz.f43 xa xo).run = ContainsFunc_own  xa.1 xo.2.1.1 := by intros; kernel_rfl
noncomputable def T_ContainsFunc_own : FuncId → Summ := addS T_IndexFunc_own 43 (ContainsFunc_own_s.summ (fun xa xo => ContainsFunc_own xa.1 xo.2.1.1))
theorem T_ContainsFunc_own_ok : ∀ g, SummOK Tryz.prog g (T_ContainsFunc_own g) := fn_ok T_IndexFunc_own_ok fol Tryz.func43 (by kernel_rfl) (by kernel_rfl) (by kernel_rfl) ContainsFunc_own_eq

def own_s : FSig := ⟨.obj 0 <| .val (.sl int) <| .nil, [(130, .val int <| .skip <| .skip <| .skip <| .skip <| .skip <| .skip <| .skip <| .skip <| .skip <| .skip <| .skip <| .skip <| .skip <| .skip <| .skip <| .skip <| .skip <| .nil)], .val .bool <| .nil, []⟩
def own_L : Nat → Option LoopS := fun n =>
  none
def own_J : Nat → Option Shape := fun n =>
  none
set_option maxRecDepth 100000 in
theorem own_eq : ∀  xa xo, (own_s.prog (mkC Tryz.prog T_ContainsFunc_own ⟨false, false⟩ own_L own_J) Tryz.f78 xa xo).run = own  xa.1 xo.1.1 := by intros; kernel_rfl
noncomputable def T_own : FuncId → Summ := addS T_ContainsFunc_own 78 (own_s.summ (fun xa xo => own xa.1 xo.1.1))
theorem T_own_ok : ∀ g, SummOK Tryz.prog g (T_own g) := fn_ok T_ContainsFunc_own_ok fol Tryz.func78 (by kernel_rfl) (by kernel_rfl) (by kernel_rfl) own_eq

def Index__s : FSig := ⟨.lend (.sl int) <| .val int <| .nil, [], .val int <| .nil, []⟩
def Index__L (nn : Nat) : Nat → Option LoopS := fun n =>
  bif Nat.beq n 2 then some ⟨{ env := [(8, ASh.dat (Ty.int IntKind.i64))], heap := [], keep := [0, 1, 4, 7], keepH := [] }, fun _ => nn⟩ else
  none
def Index__J : Nat → Option Shape := fun n =>
  none
set_option maxRecDepth 100000 in
theorem Index__eq : ∀ (nn : Nat)  xa xo, (Index__s.prog (mkC Tryz.prog T_own ⟨false, false⟩ (Index__L nn) Index__J) Tryz.f108 xa xo).run = Index_F nn xa.1 xa.2.1 := by intros; kernel_rfl
noncomputable def T_Index_ : FuncId → Summ := addS T_own 108 (Index__s.summ (fun xa xo => Index_ xa.1 xa.2.1))
theorem T_Index__ok : ∀ g, SummOK Tryz.prog g (T_Index_ g) := fn_ok T_own_ok fol Tryz.func108 (by kernel_rfl) (by kernel_rfl) (by kernel_rfl) (Index__eq fuelN)

def Contains__s : FSig := ⟨.lend (.sl int) <| .val int <| .nil, [], .val .bool <| .nil, []⟩
def Contains__L : Nat → Option LoopS := fun n =>
  none
def Contains__J : Nat → Option Shape := fun n =>
  none
set_option maxRecDepth 100000 in
theorem Contains__eq : ∀  xa xo, (Contains__s.prog (mkC Tryz.prog T_Index_ ⟨false, false⟩ Contains__L Contains__J) Tryz.f81 xa xo).run = Contains_  xa.1 xa.2.1 := by intros; kernel_rfl
noncomputable def T_Contains_ : FuncId → Summ := addS T_Index_ 81 (Contains__s.summ (fun xa xo => Contains_ xa.1 xa.2.1))
theorem T_Contains__ok : ∀ g, SummOK Tryz.prog g (T_Contains_ g) := fn_ok T_Index__ok fol Tryz.func81 (by kernel_rfl) (by kernel_rfl) (by kernel_rfl) Contains__eq

def pick_s : FSig := ⟨.obj 0 <| .nil, [(130, .val int <| .skip <| .skip <| .lend (.sl int) <| .skip <| .skip <| .lend (.sl int) <| .lend (.sl int) <| .lend (.sl int) <| .val int <| .skip <| .skip <| .skip <| .skip <| .skip <| .skip <| .skip <| .skip <| .nil)], .val int <| .nil, []⟩
def pick_L (nn : Nat) : Nat → Option LoopS := fun n =>
  bif Nat.beq n 3 then some ⟨{ env := [(3, ASh.dat (Ty.int IntKind.i64)), (11, ASh.dat (Ty.int IntKind.i64))], heap := [], keep := [0, 2, 9, 10], keepH := [1] }, fun _ => nn⟩ else
  bif Nat.beq n 8 then some ⟨{ env := [(3, ASh.dat (Ty.int IntKind.i64))], heap := [(1, CSh.box 130 ((ASh.dat (Ty.int IntKind.i64)).cons ((ASh.opq 18).cons ((ASh.opq 19).cons ((ASh.idn 20 (Ty.int IntKind.i64).sl).cons ((ASh.opq 21).cons ((ASh.opq 22).cons ((ASh.idn 23 (Ty.int IntKind.i64).sl).cons ((ASh.idn 24 (Ty.int IntKind.i64).sl).cons ((ASh.idn 25 (Ty.int IntKind.i64).sl).cons ((ASh.dat (Ty.int IntKind.i64)).cons ((ASh.opq 27).cons ((ASh.opq 28).cons ((ASh.opq 29).cons ((ASh.opq 30).cons ((ASh.opq 31).cons ((ASh.opq 32).cons ((ASh.opq 33).cons ((ASh.opq 34).cons ASh.nil)))))))))))))))))))], keep := [0, 2, 9, 10, 11], keepH := [] }, fun _ => nn⟩ else
  none
def pick_J : Nat → Option Shape := fun n =>
  none
set_option maxRecDepth 100000 in
theorem pick_eq : ∀ (nn : Nat)  xa xo, (pick_s.prog (mkC Tryz.prog T_Contains_ ⟨false, false⟩ (pick_L nn) pick_J) Tryz.f113 xa xo).run = pickF nn xo.1.1 xo.1.2.1 xo.1.2.2.1 xo.1.2.2.2.1 xo.1.2.2.2.2.1 xo.1.2.2.2.2.2.1 := by intros; kernel_rfl
noncomputable def T_pick : FuncId → Summ := addS T_Contains_ 113 (pick_s.summ (fun xa xo => pick xo.1.1 xo.1.2.1 xo.1.2.2.1 xo.1.2.2.2.1 xo.1.2.2.2.2.1 xo.1.2.2.2.2.2.1))
theorem T_pick_ok : ∀ g, SummOK Tryz.prog g (T_pick g) := fn_ok T_Contains__ok fol Tryz.func113 (by kernel_rfl) (by kernel_rfl) (by kernel_rfl) (pick_eq fuelN)

def Clone__s : FSig := ⟨.lend (.sl int) <| .nil, [], .own 3 int <| .nil, []⟩
theorem Clone__nf (s : List Int) (y : Clone__s.oty.den) : Clone__s.vcond (mkC Tryz.prog T_pick ⟨false, false⟩ (fun _ => none) (fun _ => none)) Tryz.f32 (s, ()) () y =
  ((s = [] → some (([], ()), (), ()) = some y) ∧ (([] : List Int).length + s.length) * 8 ≤ lim ∧ ([] : List Int).length + s.length ≤ lim ∧ some (([] ++ s, ()), (), ()) = some y) := by kernel_rfl
theorem Clone__vc (xa : Clone__s.args.ty.den) (xo : (objsTy Clone__s.objs).den) (y : Clone__s.oty.den) (h : Clone_ xa.1 = some y) : Clone__s.vcond (mkC Tryz.prog T_pick ⟨false, false⟩ (fun _ => none) (fun _ => none)) Tryz.f32 xa xo y := by
  have e := Clone__nf xa.1 y
  refine e.mpr ?_
  unfold Clone_ at h
  obtain ⟨h1, h⟩ := gd_some.1 h
  obtain ⟨h2, h⟩ := gd_some.1 h
  refine ⟨fun hs => ?_, h1, h2, ?_⟩
  · rw [hs] at h; exact h
  · exact h
noncomputable def T_Clone_ : FuncId → Summ := addS T_pick 32 (Clone__s.summ (fun xa xo => Clone_ xa.1))
theorem T_Clone__ok : ∀ g, SummOK Tryz.prog g (T_Clone_ g) := fn_ok_vc T_pick_ok fol Tryz.func32 (by kernel_rfl) (by kernel_rfl) (by kernel_rfl) Clone__vc

end GoSx
end
