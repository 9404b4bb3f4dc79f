/- The texts MSatA, MSatB, MSatC, MSatD, MSatE, MSatF, MSatG, WSatA, WSatB, WSatC, WSatD, WSatE, one behind the other. -/
import Derived.Test.YtkbcakjppajopaaGA3
import Derived.Test.YtkbcakjppajopaaProg
set_option linter.unusedVariables false
set_option linter.unusedSimpArgs false
section
/- Models of functions: what they compute, if all goes well: SatA. -/
namespace GoSx
open Go
def size (x : Int) : Option ((Int × Unit) × Unit × Unit) :=
  gd (inK IntKind.i64 (0 - x)) <|
  some ((max2 x (0 - x), ()), (), ())

def at_ (x : Int) : Option ((Int × Unit) × Unit × Unit) :=
  bif decide (x < 0) then
    gd (inK IntKind.i64 (-2 * x)) <|
    gd (inK IntKind.i64 (-2 * x + 1)) <|
    some ((-2 * x + 1, ()), (), ())
  else
    gd (inK IntKind.i64 (2 * x)) <|
    some ((2 * x, ()), (), ())

def value (x : Int) (is : List Int) : Option ((Int × Unit) × ((List Int × Unit) × Unit) × Unit) :=
  bif decide (x < 0) then
    gd (inK IntKind.i64 (0 - x)) <|
    gd (0 ≤ 0 - x) <|
    gd (0 - x < nI is.length) <|
    gd (inK IntKind.i64 (0 - getI is (0 - x))) <|
    some ((0 - getI is (0 - x), ()), ((is, ()), ()), ())
  else
    gd (0 ≤ x) <|
    gd (x < nI is.length) <|
    some ((getI is x, ()), ((is, ()), ()), ())

def set_ (x : Int) (y : Int) (is : List Int) (depth : List Int) (why : List Int) (row : List Int) (begin : List Int) : Option (Unit × ((List Int × List Int × List Int × List Int × List Int × Unit) × Unit) × Unit) :=
  bindO (size x) fun y0 =>
  gd (0 ≤ y0.1.1) <|
  gd (y0.1.1 < nI is.length) <|
  bif decide (x < 0) then
    gd (0 ≤ y0.1.1) <|
    gd (y0.1.1 < nI (is.set y0.1.1.toNat 1).length) <|
    gd (0 ≤ y0.1.1) <|
    gd (y0.1.1 < nI depth.length) <|
    gd (0 ≤ y0.1.1) <|
    gd (y0.1.1 < nI why.length) <|
    gd ((row.length + [x].length) * 8 ≤ lim) <|
    gd (row.length + [x].length ≤ lim) <|
    some ((), (((is.set y0.1.1.toNat 1).set y0.1.1.toNat (-1), depth.set y0.1.1.toNat (nI begin.length), why.set y0.1.1.toNat y, row ++ [x], begin, ()), ()), ())
  else
    gd (0 ≤ y0.1.1) <|
    gd (y0.1.1 < nI depth.length) <|
    gd (0 ≤ y0.1.1) <|
    gd (y0.1.1 < nI why.length) <|
    gd ((row.length + [x].length) * 8 ≤ lim) <|
    gd (row.length + [x].length ≤ lim) <|
    some ((), ((is.set y0.1.1.toNat 1, depth.set y0.1.1.toNat (nI begin.length), why.set y0.1.1.toNat y, row ++ [x], begin, ()), ()), ())

def backF (nn : Nat)  (level : Int) (is : List Int) (old : List Int) (cold : Int) (row : List Int) (begin : List Int) (done : Int) : Option (Unit × ((List Int × List Int × Int × List Int × List Int × Int × Unit) × Unit) × Unit) :=
  bif decide (level ≥ nI begin.length) then
    some ((), ((is, old, cold, row, begin, done, ()), ()), ())
  else
    gd (0 ≤ level) <|
    gd (level < nI begin.length) <|
    gd (0 ≤ getI begin level) <|
    gd (getI begin level ≤ nI row.length) <|
    gd (nI row.length ≤ nI row.length) <|
    gd (nI row.length - getI begin level ≤ nI lim) <|
    iterO (X := Int × (Int × Int) × List Int × List Int) (fun y0 =>
      bif decide (y0.1 < nI row.length - getI begin level) then
        gd (0 ≤ y0.1) <|
        gd (y0.1 < nI row.length - getI begin level) <|
        bindO (size (getI row (getI begin level + y0.1))) fun y1 =>
        gd (0 ≤ y1.1.1) <|
        gd (y1.1.1 < nI y0.2.2.1.length) <|
        gd (0 ≤ y1.1.1) <|
        gd (y1.1.1 < nI y0.2.2.2.length) <|
        gd (0 ≤ y1.1.1) <|
        gd (y1.1.1 < nI y0.2.2.1.length) <|
        gd (inK IntKind.i64 (y0.1 + 1)) <|
        some (Sum.inl (y0.1 + 1, (min2 y0.2.1.1 y1.1.1, y0.2.1.2), y0.2.2.1.set y1.1.1.toNat 0, y0.2.2.2.set y1.1.1.toNat (getI y0.2.2.1 y1.1.1)))
      else
        gd (0 ≤ getI begin level) <|
        gd (getI begin level ≤ nI row.length) <|
        gd (0 ≤ level) <|
        gd (level ≤ nI begin.length) <|
        some (Sum.inr ((), ((y0.2.2.1, y0.2.2.2, y0.2.1.1, List.take (Int.toNat (getI begin level)) row, List.take level.toNat begin, getI begin level, ()), ()), ()))) (nn) (0, (cold, done), is, old)

def back (level : Int) (is : List Int) (old : List Int) (cold : Int) (row : List Int) (begin : List Int) (done : Int) : Option (Unit × ((List Int × List Int × Int × List Int × List Int × Int × Unit) × Unit) × Unit) := backF fuelN level is old cold row begin done

def keep (c : List Int) (all : List (List Int)) (ix : Int) (watch : List (List Int)) : Option ((Int × Unit) × ((List (List Int) × Int × List (List Int) × Unit) × Unit) × Unit) :=
  gd ((all.length + 1) * 24 ≤ lim) <|
  gd (all.length + 1 ≤ lim) <|
  gd (inK IntKind.i64 (nI (all ++ [c]).length - 1)) <|
  gd (0 < nI c.length) <|
  bindO (at_ (getI c 0)) fun y0 =>
  gd (0 < nI c.length) <|
  bindO (at_ (getI c 0)) fun y1 =>
  gd (0 ≤ y1.1.1) <|
  gd (y1.1.1 < nI watch.length) <|
  gd ((List.length (getL watch y1.1.1) + [nI (all ++ [c]).length - 1].length) * 8 ≤ lim) <|
  gd (List.length (getL watch y1.1.1) + [nI (all ++ [c]).length - 1].length ≤ lim) <|
  gd (0 ≤ y0.1.1) <|
  gd (y0.1.1 < nI watch.length) <|
  gd (y1.1.1 = y0.1.1) <|
  gd (1 < nI c.length) <|
  bindO (at_ (getI c 1)) fun y2 =>
  gd (1 < nI c.length) <|
  bindO (at_ (getI c 1)) fun y3 =>
  gd (0 ≤ y3.1.1) <|
  gd (y3.1.1 < nI (watch.set y0.1.1.toNat (getL watch y1.1.1 ++ [nI (all ++ [c]).length - 1])).length) <|
  gd ((List.length (getL (watch.set y0.1.1.toNat (getL watch y1.1.1 ++ [nI (all ++ [c]).length - 1])) y3.1.1) + [nI (all ++ [c]).length - 1].length) * 8 ≤ lim) <|
  gd (List.length (getL (watch.set y0.1.1.toNat (getL watch y1.1.1 ++ [nI (all ++ [c]).length - 1])) y3.1.1) + [nI (all ++ [c]).length - 1].length ≤ lim) <|
  gd (0 ≤ y2.1.1) <|
  gd (y2.1.1 < nI (watch.set y0.1.1.toNat (getL watch y1.1.1 ++ [nI (all ++ [c]).length - 1])).length) <|
  gd (y3.1.1 = y2.1.1) <|
  some ((nI (all ++ [c]).length - 1, ()), ((all ++ [c], nI all.length, (watch.set y0.1.1.toNat (getL watch y1.1.1 ++ [nI (all ++ [c]).length - 1])).set y2.1.1.toNat (getL (watch.set y0.1.1.toNat (getL watch y1.1.1 ++ [nI (all ++ [c]).length - 1])) y3.1.1 ++ [nI (all ++ [c]).length - 1]), ()), ()), ())

end GoSx
end
section
/- Models of functions: what they compute, if all goes well: SatB. -/
namespace GoSx
open Go
def forget (answer : Int) (core : List Int) (model : List Bool) : Option (Unit × ((Int × List Int × List Bool × Unit) × Unit) × Unit) :=
  some ((), ((0, [], [], ()), ()), ())

def ownC (x : Int) (vars : Int) : Option ((Bool × Unit) × (Unit × (Int × Unit) × Unit) × Unit) :=
  bif x == 0 then
    some ((true, ()), ((), (vars, ()), ()), ())
  else
    gd (inK IntKind.i64 (0 - vars)) <|
    bif bif false then true else decide (x < 0 - vars) then
      some ((true, ()), ((), (vars, ()), ()), ())
    else
      some ((bif false then true else decide (x > vars), ()), ((), (vars, ()), ()), ())

def IndexFunc_ownF (nn : Nat)  (s : List Int) (vars : Int) : Option ((Int × Unit) × (Unit × (Int × Unit) × Unit) × Unit) :=
  iterO (X := Int × Int) (fun y0 =>
    bif decide (y0.1 < nI s.length) then
      gd (0 ≤ y0.1) <|
      gd (y0.1 < nI s.length) <|
      bindO (ownC (getI s y0.1) y0.2) fun y1 =>
      bif y1.1.1 then
        some (Sum.inr ((y0.1, ()), ((), (y1.2.1.2.1.1, ()), ()), ()))
      else
        gd (inK IntKind.i64 (y0.1 + 1)) <|
        some (Sum.inl (y0.1 + 1, y1.2.1.2.1.1))
    else
      some (Sum.inr ((-1, ()), ((), (y0.2, ()), ()), ()))) (nn) (0, vars)

def IndexFunc_own (s : List Int) (vars : Int) : Option ((Int × Unit) × (Unit × (Int × Unit) × Unit) × Unit) := IndexFunc_ownF fuelN s vars

def ContainsFunc_own (s : List Int) (vars : Int) : Option ((Bool × Unit) × (Unit × (Int × Unit) × Unit) × Unit) :=
  bindO (IndexFunc_own s vars) fun y0 =>
  some ((decide (y0.1.1 ≥ 0), ()), ((), (y0.2.1.2.1.1, ()), ()), ())

def own (l : List Int) (vars : Int) : Option ((Bool × Unit) × ((Int × Unit) × Unit) × Unit) :=
  bindO (ContainsFunc_own l vars) fun y0 =>
  some ((!y0.1.1, ()), ((y0.2.1.2.1.1, ()), ()), ())

def Index_F (nn : Nat)  (s : List Int) (v : Int) : Option ((Int × Unit) × Unit × Unit) :=
  iterO (X := Int) (fun y0 =>
    bif decide (y0 < nI s.length) then
      gd (0 ≤ y0) <|
      gd (y0 < nI s.length) <|
      bif v == getI s y0 then
        some (Sum.inr ((y0, ()), (), ()))
      else
        gd (inK IntKind.i64 (y0 + 1)) <|
        some (Sum.inl (y0 + 1))
    else
      some (Sum.inr ((-1, ()), (), ()))) (nn) 0

def Index_ (s : List Int) (v : Int) : Option ((Int × Unit) × Unit × Unit) := Index_F fuelN s v

def Contains_ (s : List Int) (v : Int) : Option ((Bool × Unit) × Unit × Unit) :=
  bindO (Index_ s v) fun y0 =>
  some ((decide (y0.1.1 ≥ 0), ()), (), ())

def pickF (nn : Nat)  (vars : Int) (is : List Int) (old : List Int) (hot : List Int) (warm : List Int) (cold : Int) : Option ((Int × Unit) × ((Int × List Int × List Int × List Int × List Int × Int × Unit) × Unit) × Unit) :=
  iterO (X := Int × Int) (fun y0 =>
    bif decide (y0.2 < nI warm.length) then
      gd (0 ≤ y0.2) <|
      gd (y0.2 < nI warm.length) <|
      gd (0 ≤ getI warm y0.2) <|
      gd (getI warm y0.2 < nI is.length) <|
      bif getI is (getI warm y0.2) == 0 then
        bif y0.1 == 0 then
          gd (inK IntKind.i64 (y0.2 + 1)) <|
          some (Sum.inl (getI warm y0.2, y0.2 + 1))
        else
          gd (0 ≤ getI warm y0.2) <|
          gd (getI warm y0.2 < nI hot.length) <|
          gd (0 ≤ y0.1) <|
          gd (y0.1 < nI hot.length) <|
          bif bif false then true else decide (getI hot (getI warm y0.2) > getI hot y0.1) then
            gd (inK IntKind.i64 (y0.2 + 1)) <|
            some (Sum.inl (getI warm y0.2, y0.2 + 1))
          else
            gd (0 ≤ getI warm y0.2) <|
            gd (getI warm y0.2 < nI hot.length) <|
            gd (0 ≤ y0.1) <|
            gd (y0.1 < nI hot.length) <|
            bif getI hot (getI warm y0.2) == getI hot y0.1 then
              bif bif true then bif false then true else bif true then decide (getI warm y0.2 < y0.1) else false else false then
                gd (inK IntKind.i64 (y0.2 + 1)) <|
                some (Sum.inl (getI warm y0.2, y0.2 + 1))
              else
                gd (inK IntKind.i64 (y0.2 + 1)) <|
                some (Sum.inl (y0.1, y0.2 + 1))
            else
              gd (inK IntKind.i64 (y0.2 + 1)) <|
              some (Sum.inl (y0.1, y0.2 + 1))
      else
        gd (inK IntKind.i64 (y0.2 + 1)) <|
        some (Sum.inl (y0.1, y0.2 + 1))
    else
      iterO (X := Int × Int × List Int × List Int × List Int × List Int × Int) (fun y1 =>
        bif y1.1 == 0 then
          bif bif true then decide (y1.2.2.2.2.2.2 ≤ y1.2.1) else false then
            gd (0 ≤ y1.2.2.2.2.2.2) <|
            gd (y1.2.2.2.2.2.2 < nI y1.2.2.1.length) <|
            bif getI y1.2.2.1 y1.2.2.2.2.2.2 == 0 then
              gd (0 ≤ y1.2.2.2.2.2.2) <|
              gd (y1.2.2.2.2.2.2 < nI y1.2.2.2.2.1.length) <|
              bif bif true then getI y1.2.2.2.2.1 y1.2.2.2.2.2.2 == 0 else false then
                gd (inK IntKind.i64 (y1.2.2.2.2.2.2 + 1)) <|
                some (Sum.inl (y1.2.2.2.2.2.2, y1.2.1, y1.2.2.1, y1.2.2.2.1, y1.2.2.2.2.1, y1.2.2.2.2.2.1, y1.2.2.2.2.2.2 + 1))
              else
                gd (inK IntKind.i64 (y1.2.2.2.2.2.2 + 1)) <|
                some (Sum.inl (y1.1, y1.2.1, y1.2.2.1, y1.2.2.2.1, y1.2.2.2.2.1, y1.2.2.2.2.2.1, y1.2.2.2.2.2.2 + 1))
            else
              gd (inK IntKind.i64 (y1.2.2.2.2.2.2 + 1)) <|
              some (Sum.inl (y1.1, y1.2.1, y1.2.2.1, y1.2.2.2.1, y1.2.2.2.2.1, y1.2.2.2.2.2.1, y1.2.2.2.2.2.2 + 1))
          else
            bif decide (y1.1 > 0) then
              gd (0 ≤ y1.1) <|
              gd (y1.1 < nI y1.2.2.2.1.length) <|
              bif bif true then getI y1.2.2.2.1 y1.1 == 1 else false then
                some (Sum.inr (Sum.inr ((y1.1, ()), ((y1.2.1, y1.2.2.1, y1.2.2.2.1, y1.2.2.2.2.1, y1.2.2.2.2.2.1, y1.2.2.2.2.2.2, ()), ()), ())))
              else
                gd (inK IntKind.i64 (0 - y1.1)) <|
                some (Sum.inr (Sum.inr ((0 - y1.1, ()), ((y1.2.1, y1.2.2.1, y1.2.2.2.1, y1.2.2.2.2.1, y1.2.2.2.2.2.1, y1.2.2.2.2.2.2, ()), ()), ())))
            else
              gd (inK IntKind.i64 (0 - y1.1)) <|
              some (Sum.inr (Sum.inr ((0 - y1.1, ()), ((y1.2.1, y1.2.2.1, y1.2.2.2.1, y1.2.2.2.2.1, y1.2.2.2.2.2.1, y1.2.2.2.2.2.2, ()), ()), ())))
        else
          bif decide (y1.1 > 0) then
            gd (0 ≤ y1.1) <|
            gd (y1.1 < nI y1.2.2.2.1.length) <|
            bif bif true then getI y1.2.2.2.1 y1.1 == 1 else false then
              some (Sum.inr (Sum.inr ((y1.1, ()), ((y1.2.1, y1.2.2.1, y1.2.2.2.1, y1.2.2.2.2.1, y1.2.2.2.2.2.1, y1.2.2.2.2.2.2, ()), ()), ())))
            else
              gd (inK IntKind.i64 (0 - y1.1)) <|
              some (Sum.inr (Sum.inr ((0 - y1.1, ()), ((y1.2.1, y1.2.2.1, y1.2.2.2.1, y1.2.2.2.2.1, y1.2.2.2.2.2.1, y1.2.2.2.2.2.2, ()), ()), ())))
          else
            gd (inK IntKind.i64 (0 - y1.1)) <|
            some (Sum.inr (Sum.inr ((0 - y1.1, ()), ((y1.2.1, y1.2.2.1, y1.2.2.2.1, y1.2.2.2.2.1, y1.2.2.2.2.2.1, y1.2.2.2.2.2.2, ()), ()), ())))) (nn) (y0.1, vars, is, old, hot, warm, cold)) (nn) (0, 0)

def pick (vars : Int) (is : List Int) (old : List Int) (hot : List Int) (warm : List Int) (cold : Int) : Option ((Int × Unit) × ((Int × List Int × List Int × List Int × List Int × Int × Unit) × Unit) × Unit) := pickF fuelN vars is old hot warm cold

def Clone_ (s : List Int) : Option ((List Int × Unit) × Unit × Unit) :=
  gd ((([] : List Int).length + s.length) * 8 ≤ lim) <|
  gd (([] : List Int).length + s.length ≤ lim) <|
  some ((s, ()), (), ())

def CloneB (s : List Bool) : Option ((List Bool × Unit) × Unit × Unit) :=
  gd ((([] : List Bool).length + s.length) * 1 ≤ lim) <|
  gd (([] : List Bool).length + s.length ≤ lim) <|
  some ((s, ()), (), ())

end GoSx
end
section
/- Models of functions: what they compute, if all goes well: SatC. -/
namespace GoSx
open Go
def more (l : List Int) (n : Int) : Option ((List Int × Unit) × Unit × Unit) :=
  gd (inK IntKind.i64 (n - nI l.length)) <|
  gd (0 ≤ n - nI l.length) <|
  gd ((l.length + Int.toNat (n - nI l.length)) * 8 ≤ lim) <|
  gd (l.length + Int.toNat (n - nI l.length) ≤ lim) <|
  some ((l ++ List.replicate (Int.toNat (n - nI l.length)) 0, ()), (), ())

def grow (n : Int) (vars : Int) (watch : List (List Int)) (is : List Int) (depth : List Int) (why : List Int) (old : List Int) (hot : List Int) : Option (Unit × ((Int × List (List Int) × List Int × List Int × List Int × List Int × List Int × Unit) × Unit) × Unit) :=
  gd (inK IntKind.i64 (n + 1)) <|
  bindO (more is (n + 1)) fun y0 =>
  gd (inK IntKind.i64 (n + 1)) <|
  bindO (more depth (n + 1)) fun y1 =>
  gd (inK IntKind.i64 (n + 1)) <|
  bindO (more why (n + 1)) fun y2 =>
  gd (inK IntKind.i64 (n + 1)) <|
  bindO (more old (n + 1)) fun y3 =>
  gd (inK IntKind.i64 (n + 1)) <|
  bindO (more hot (n + 1)) fun y4 =>
  gd (inK IntKind.i64 (2 * n)) <|
  gd (inK IntKind.i64 (2 * n + 2)) <|
  gd (inK IntKind.i64 (2 * n + 2 - nI watch.length)) <|
  gd (0 ≤ 2 * n + 2 - nI watch.length) <|
  gd ((watch.length + Int.toNat (2 * n + 2 - nI watch.length)) * 24 ≤ lim) <|
  gd (watch.length + Int.toNat (2 * n + 2 - nI watch.length) ≤ lim) <|
  some ((), ((n, watch ++ List.replicate (Int.toNat (2 * n + 2 - nI watch.length)) [], y0.1.1, y1.1.1, y2.1.1, y3.1.1, y4.1.1, ()), ()), ())

def New (n : Int) : Option (Unit × Unit × (Int × List (List Int) × List (List Int) × List Int × List Int × List Int × List Int × List Int × List Int × Int × List Int × List Int × Int × Bool × List (List Int) × Int × List Int × List Bool × Unit) × Unit) :=
  bindO (grow (min2 (max2 n 0) 1048576) 0 [] [] [] [] [] []) fun y0 =>
  some ((), (), (y0.2.1.1.1, [], y0.2.1.1.2.1, y0.2.1.1.2.2.1, y0.2.1.1.2.2.2.1, y0.2.1.1.2.2.2.2.1, y0.2.1.1.2.2.2.2.2.1, y0.2.1.1.2.2.2.2.2.2.1, [], 1, [], [], 0, false, [], 0, [], [], ()), ())

def Grow (n : Int) (vars : Int) (watch : List (List Int)) (is : List Int) (depth : List Int) (why : List Int) (old : List Int) (hot : List Int) (answer : Int) (core : List Int) (model : List Bool) : Option (Unit × ((Int × List (List Int) × List Int × List Int × List Int × List Int × List Int × Int × List Int × List Bool × Unit) × Unit) × Unit) :=
  bindO (forget answer core model) fun y0 =>
  bif decide (n > vars) then
    bif bif true then decide (n ≤ 1048576) else false then
      bindO (grow n vars watch is depth why old hot) fun y1 =>
      some ((), ((y1.2.1.1.1, y1.2.1.1.2.1, y1.2.1.1.2.2.1, y1.2.1.1.2.2.2.1, y1.2.1.1.2.2.2.2.1, y1.2.1.1.2.2.2.2.2.1, y1.2.1.1.2.2.2.2.2.2.1, y0.2.1.1.1, y0.2.1.1.2.1, y0.2.1.1.2.2.1, ()), ()), ())
    else
      some ((), ((vars, watch, is, depth, why, old, hot, y0.2.1.1.1, y0.2.1.1.2.1, y0.2.1.1.2.2.1, ()), ()), ())
  else
    some ((), ((vars, watch, is, depth, why, old, hot, y0.2.1.1.1, y0.2.1.1.2.1, y0.2.1.1.2.2.1, ()), ()), ())

def AddF (nn : Nat)  (c : List Int) (vars : Int) (all : List (List Int)) (watch : List (List Int)) (is : List Int) (depth : List Int) (why : List Int) (old : List Int) (cold : Int) (row : List Int) (begin : List Int) (done : Int) (empty : Bool) (answer : Int) (core : List Int) (model : List Bool) : Option (Unit × ((Int × List (List Int) × List (List Int) × List Int × List Int × List Int × List Int × Int × List Int × List Int × Int × Bool × Int × List Int × List Bool × Unit) × Unit) × Unit) :=
  bindO (forget answer core model) fun y0 =>
  bindO (own c vars) fun y1 =>
  bif !y1.1.1 then
    some ((), ((y1.2.1.1.1, all, watch, is, depth, why, old, cold, row, begin, done, empty, y0.2.1.1.1, y0.2.1.1.2.1, y0.2.1.1.2.2.1, ()), ()), ())
  else
    bindO (back 0 is old cold row begin done) fun y2 =>
    iterO (X := Int × (Int × Int × Int × Bool × Int) × List Int) (fun y3 =>
      bif decide (y3.1 < nI c.length) then
        gd (0 ≤ y3.1) <|
        gd (y3.1 < nI c.length) <|
        bindO (value (getI c y3.1) y2.2.1.1.1) fun y4 =>
        bif y4.1.1 == 1 then
          some (Sum.inr ((), ((y3.2.1.1, all, watch, y2.2.1.1.1, depth, why, y2.2.1.1.2.1, y3.2.1.2.1, y2.2.1.1.2.2.2.1, y2.2.1.1.2.2.2.2.1, y3.2.1.2.2.1, y3.2.1.2.2.2.1, y3.2.1.2.2.2.2, y0.2.1.1.2.1, y0.2.1.1.2.2.1, ()), ()), ()))
        else
          gd (inK IntKind.i64 (0 - getI c y3.1)) <|
          bindO (Contains_ c (0 - getI c y3.1)) fun y5 =>
          bif bif false then true else y5.1.1 then
            some (Sum.inr ((), ((y3.2.1.1, all, watch, y2.2.1.1.1, depth, why, y2.2.1.1.2.1, y3.2.1.2.1, y2.2.1.1.2.2.2.1, y2.2.1.1.2.2.2.2.1, y3.2.1.2.2.1, y3.2.1.2.2.2.1, y3.2.1.2.2.2.2, y0.2.1.1.2.1, y0.2.1.1.2.2.1, ()), ()), ()))
          else
            bindO (value (getI c y3.1) y2.2.1.1.1) fun y6 =>
            bif y6.1.1 == 0 then
              bindO (Contains_ y3.2.2 (getI c y3.1)) fun y7 =>
              bif bif true then !y7.1.1 else false then
                gd ((y3.2.2.length + [getI c y3.1].length) * 8 ≤ lim) <|
                gd (y3.2.2.length + [getI c y3.1].length ≤ lim) <|
                gd (inK IntKind.i64 (y3.1 + 1)) <|
                some (Sum.inl (y3.1 + 1, (y3.2.1.1, y3.2.1.2.1, y3.2.1.2.2.1, y3.2.1.2.2.2.1, y3.2.1.2.2.2.2), y3.2.2 ++ [getI c y3.1]))
              else
                gd (inK IntKind.i64 (y3.1 + 1)) <|
                some (Sum.inl (y3.1 + 1, (y3.2.1.1, y3.2.1.2.1, y3.2.1.2.2.1, y3.2.1.2.2.2.1, y3.2.1.2.2.2.2), y3.2.2))
            else
              gd (inK IntKind.i64 (y3.1 + 1)) <|
              some (Sum.inl (y3.1 + 1, (y3.2.1.1, y3.2.1.2.1, y3.2.1.2.2.1, y3.2.1.2.2.2.1, y3.2.1.2.2.2.2), y3.2.2))
      else
        bif nI y3.2.2.length == 0 then
          some (Sum.inr ((), ((y3.2.1.1, all, watch, y2.2.1.1.1, depth, why, y2.2.1.1.2.1, y3.2.1.2.1, y2.2.1.1.2.2.2.1, y2.2.1.1.2.2.2.2.1, y3.2.1.2.2.1, true, y3.2.1.2.2.2.2, y0.2.1.1.2.1, y0.2.1.1.2.2.1, ()), ()), ()))
        else
          bif nI y3.2.2.length == 1 then
            gd (0 < nI y3.2.2.length) <|
            bindO (set_ (getI y3.2.2 0) (-1) y2.2.1.1.1 depth why y2.2.1.1.2.2.2.1 y2.2.1.1.2.2.2.2.1) fun y4 =>
            some (Sum.inr ((), ((y3.2.1.1, all, watch, y4.2.1.1.1, y4.2.1.1.2.1, y4.2.1.1.2.2.1, y2.2.1.1.2.1, y3.2.1.2.1, y4.2.1.1.2.2.2.1, y2.2.1.1.2.2.2.2.1, y3.2.1.2.2.1, y3.2.1.2.2.2.1, y3.2.1.2.2.2.2, y0.2.1.1.2.1, y0.2.1.1.2.2.1, ()), ()), ()))
          else
            bindO (keep y3.2.2 all 0 watch) fun y4 =>
            some (Sum.inr ((), ((y3.2.1.1, y4.2.1.1.1.set y4.2.1.1.2.1.toNat y3.2.2, y4.2.1.1.2.2.1, y2.2.1.1.1, depth, why, y2.2.1.1.2.1, y3.2.1.2.1, y2.2.1.1.2.2.2.1, y2.2.1.1.2.2.2.2.1, y3.2.1.2.2.1, y3.2.1.2.2.2.1, y3.2.1.2.2.2.2, y0.2.1.1.2.1, y0.2.1.1.2.2.1, ()), ()), ()))) (nn) (0, (y1.2.1.1.1, y2.2.1.1.2.2.1, y2.2.1.1.2.2.2.2.2.1, empty, y0.2.1.1.1), [])

def Add (c : List Int) (vars : Int) (all : List (List Int)) (watch : List (List Int)) (is : List Int) (depth : List Int) (why : List Int) (old : List Int) (cold : Int) (row : List Int) (begin : List Int) (done : Int) (empty : Bool) (answer : Int) (core : List Int) (model : List Bool) : Option (Unit × ((Int × List (List Int) × List (List Int) × List Int × List Int × List Int × List Int × Int × List Int × List Int × Int × Bool × Int × List Int × List Bool × Unit) × Unit) × Unit) := AddF fuelN c vars all watch is depth why old cold row begin done empty answer core model

def Model (model : List Bool) : Option ((List Bool × Unit) × ((List Bool × Unit) × Unit) × Unit) :=
  bindO (CloneB model) fun y0 =>
  some ((y0.1.1, ()), ((model, ()), ()), ())

def Core (core : List Int) : Option ((List Int × Unit) × ((List Int × Unit) × Unit) × Unit) :=
  bindO (Clone_ core) fun y0 =>
  some ((y0.1.1, ()), ((core, ()), ()), ())

def ProofF (nn : Nat)  (proof : List (List Int)) (answer : Int) : Option ((List (List Int) × Unit) × ((List (List Int) × Int × Unit) × Unit) × Unit) :=
  bif answer != 2 then
    some (([], ()), ((proof, answer, ()), ()), ())
  else
    iterO (X := Int × List (List Int)) (fun y0 =>
      bif decide (y0.1 < nI proof.length) then
        gd (0 ≤ y0.1) <|
        gd (y0.1 < nI proof.length) <|
        bindO (Clone_ (getL proof y0.1)) fun y1 =>
        gd ((y0.2.length + [y1.1.1].length) * 24 ≤ lim) <|
        gd (y0.2.length + [y1.1.1].length ≤ lim) <|
        gd (inK IntKind.i64 (y0.1 + 1)) <|
        some (Sum.inl (y0.1 + 1, y0.2 ++ [y1.1.1]))
      else
        some (Sum.inr ((y0.2, ()), ((proof, answer, ()), ()), ()))) (nn) (0, [])

def Proof (proof : List (List Int)) (answer : Int) : Option ((List (List Int) × Unit) × ((List (List Int) × Int × Unit) × Unit) × Unit) := ProofF fuelN proof answer

def blameF (nn : Nat)  (x : Int) (all : List (List Int)) (why : List Int) (row : List Int) (begin : List Int) : Option ((List Int × Unit) × ((List (List Int) × List Int × List Int × List Int × Unit) × Unit) × Unit) :=
  bindO (size x) fun y0 =>
  gd (inK IntKind.i64 (nI row.length - 1)) <|
  iterO (X := Int × List (List Int) × List Int × List Int × List (Int × Bool)) (fun y1 =>
    bif decide (y1.1 ≥ 0) then
      bif bif true then decide (nI begin.length > 0) else false then
        gd (0 < nI begin.length) <|
        bif bif true then decide (y1.1 ≥ getI begin 0) else false then
          gd (0 ≤ y1.1) <|
          gd (y1.1 < nI row.length) <|
          bindO (size (getI row y1.1)) fun y2 =>
          bif !mapGet Ty.bool.dflt y1.2.2.2.2 y2.1.1 then
            gd (inK IntKind.i64 (y1.1 - 1)) <|
            some (Sum.inl (y1.1 - 1, y1.2.1, y1.2.2.1, y1.2.2.1, y1.2.2.2.2))
          else
            bindO (size (getI row y1.1)) fun y3 =>
            gd (0 ≤ y3.1.1) <|
            gd (y3.1.1 < nI why.length) <|
            bif getI why y3.1.1 == -1 then
              gd ((y1.2.2.1.length + [getI row y1.1].length) * 8 ≤ lim) <|
              gd (y1.2.2.1.length + [getI row y1.1].length ≤ lim) <|
              gd (inK IntKind.i64 (y1.1 - 1)) <|
              some (Sum.inl (y1.1 - 1, y1.2.1, y1.2.2.1 ++ [getI row y1.1], y1.2.2.1 ++ [getI row y1.1], y1.2.2.2.2))
            else
              bindO (size (getI row y1.1)) fun y4 =>
              gd (0 ≤ y4.1.1) <|
              gd (y4.1.1 < nI why.length) <|
              gd (0 ≤ getI why y4.1.1) <|
              gd (getI why y4.1.1 < nI y1.2.1.length) <|
              iterO (X := Int × List (Int × Bool)) (fun y5 =>
                bif decide (y5.1 < nI (List.length (getL y1.2.1 (getI why y4.1.1)))) then
                  gd (0 ≤ y5.1) <|
                  gd (y5.1 < nI (List.length (getL y1.2.1 (getI why y4.1.1)))) <|
                  bindO (size (getI (getL y1.2.1 (getI why y4.1.1)) y5.1)) fun y6 =>
                  gd (y5.2.length < lim) <|
                  gd (inK IntKind.i64 (y5.1 + 1)) <|
                  some (Sum.inl (y5.1 + 1, mapSet true y5.2 y6.1.1))
                else
                  gd (inK IntKind.i64 (y1.1 - 1)) <|
                  some (Sum.inr (Sum.inl (y1.1 - 1, y1.2.1.set (Int.toNat (getI why y4.1.1)) (getL y1.2.1 (getI why y4.1.1)), y1.2.2.1, y1.2.2.1, y5.2)))) (nn) (0, y1.2.2.2.2)
        else
          some (Sum.inr ((y1.2.2.1, ()), ((y1.2.1, why, row, begin, ()), ()), ()))
      else
        some (Sum.inr ((y1.2.2.1, ()), ((y1.2.1, why, row, begin, ()), ()), ()))
    else
      some (Sum.inr ((y1.2.2.1, ()), ((y1.2.1, why, row, begin, ()), ()), ()))) (nn) (nI row.length - 1, all, [x], [x], mapSet true [] y0.1.1)

def blame (x : Int) (all : List (List Int)) (why : List Int) (row : List Int) (begin : List Int) : Option ((List Int × Unit) × ((List (List Int) × List Int × List Int × List Int × Unit) × Unit) × Unit) := blameF fuelN x all why row begin

def learnF (nn : Nat)  (n : Int) (all : List (List Int)) (is : List Int) (depth : List Int) (why : List Int) (hot : List Int) (warm : List Int) (row : List Int) (begin : List Int) : Option ((List Int × Int × Unit) × ((List (List Int) × List Int × List Int × List Int × List Int × List Int × List Int × List Int × Unit) × Unit) × Unit) :=
  gd (0 ≤ n) <|
  gd (n < nI all.length) <|
  iterO (X := (Int × Int) × (List Int × List Int × List Int × List Int × List Int) × (List (List Int) × Int) × List Int × List Int × List Int × List Int × List (Int × Bool) × List Int) (fun y0 =>
    iterO (X := (Int × Int) × (List Int × List Int × List Int × List Int × List Int) × List Int × List Int × List (Int × Bool) × List Int × List Int) (fun y1 =>
      bif decide (y1.1.1 < nI y0.2.2.2.1.length) then
        gd (0 ≤ y1.1.1) <|
        gd (y1.1.1 < nI y0.2.2.2.1.length) <|
        bindO (size (getI y0.2.2.2.1 y1.1.1)) fun y2 =>
        bif mapGet Ty.bool.dflt y1.2.2.2.2.1 y2.1.1 then
          gd (inK IntKind.i64 (y1.1.1 + 1)) <|
          some (Sum.inl ((y1.1.1 + 1, y1.1.2), (y1.2.1.1, y1.2.1.2.1, y1.2.1.2.2.1, y1.2.1.2.2.2.1, y1.2.1.2.2.2.2), y1.2.2.1, y1.2.2.2.1, y1.2.2.2.2.1, y1.2.2.2.2.2.1, y1.2.2.2.2.2.1))
        else
          bindO (value (getI y0.2.2.2.1 y1.1.1) y1.2.1.1) fun y3 =>
          bif bif false then true else y3.1.1 != -1 then
            gd (inK IntKind.i64 (y1.1.1 + 1)) <|
            some (Sum.inl ((y1.1.1 + 1, y1.1.2), (y1.2.1.1, y1.2.1.2.1, y1.2.1.2.2.1, y1.2.1.2.2.2.1, y1.2.1.2.2.2.2), y1.2.2.1, y1.2.2.2.1, y1.2.2.2.2.1, y1.2.2.2.2.2.1, y1.2.2.2.2.2.1))
          else
            gd (0 ≤ y2.1.1) <|
            gd (y2.1.1 < nI y1.2.1.2.1.length) <|
            bif bif false then true else getI y1.2.1.2.1 y2.1.1 == 0 then
              gd (inK IntKind.i64 (y1.1.1 + 1)) <|
              some (Sum.inl ((y1.1.1 + 1, y1.1.2), (y1.2.1.1, y1.2.1.2.1, y1.2.1.2.2.1, y1.2.1.2.2.2.1, y1.2.1.2.2.2.2), y1.2.2.1, y1.2.2.2.1, y1.2.2.2.2.1, y1.2.2.2.2.2.1, y1.2.2.2.2.2.1))
            else
              gd (y1.2.2.2.2.1.length < lim) <|
              gd (0 ≤ y2.1.1) <|
              gd (y2.1.1 < nI y1.2.2.1.length) <|
              bif getI y1.2.2.1 y2.1.1 == 0 then
                gd ((y1.2.2.2.1.length + [y2.1.1].length) * 8 ≤ lim) <|
                gd (y1.2.2.2.1.length + [y2.1.1].length ≤ lim) <|
                gd (0 ≤ y2.1.1) <|
                gd (y2.1.1 < nI y1.2.2.1.length) <|
                gd (inK IntKind.i64 (getI y1.2.2.1 y2.1.1 + 1)) <|
                gd (0 ≤ y2.1.1) <|
                gd (y2.1.1 < nI y1.2.2.1.length) <|
                gd (0 ≤ y2.1.1) <|
                gd (y2.1.1 < nI y1.2.1.2.1.length) <|
                bif getI y1.2.1.2.1 y2.1.1 == nI y1.2.1.2.2.2.2.length then
                  gd (inK IntKind.i64 (y1.1.2 + 1)) <|
                  gd (inK IntKind.i64 (y1.1.1 + 1)) <|
                  some (Sum.inl ((y1.1.1 + 1, y1.1.2 + 1), (y1.2.1.1, y1.2.1.2.1, y1.2.1.2.2.1, y1.2.1.2.2.2.1, y1.2.1.2.2.2.2), y1.2.2.1.set y2.1.1.toNat (getI y1.2.2.1 y2.1.1 + 1), y1.2.2.2.1 ++ [y2.1.1], mapSet true y1.2.2.2.2.1 y2.1.1, y1.2.2.2.2.2.1, y1.2.2.2.2.2.1))
                else
                  gd ((y1.2.2.2.2.2.1.length + [getI y0.2.2.2.1 y1.1.1].length) * 8 ≤ lim) <|
                  gd (y1.2.2.2.2.2.1.length + [getI y0.2.2.2.1 y1.1.1].length ≤ lim) <|
                  gd (inK IntKind.i64 (y1.1.1 + 1)) <|
                  some (Sum.inl ((y1.1.1 + 1, y1.1.2), (y1.2.1.1, y1.2.1.2.1, y1.2.1.2.2.1, y1.2.1.2.2.2.1, y1.2.1.2.2.2.2), y1.2.2.1.set y2.1.1.toNat (getI y1.2.2.1 y2.1.1 + 1), y1.2.2.2.1 ++ [y2.1.1], mapSet true y1.2.2.2.2.1 y2.1.1, y1.2.2.2.2.2.1 ++ [getI y0.2.2.2.1 y1.1.1], y1.2.2.2.2.2.1 ++ [getI y0.2.2.2.1 y1.1.1]))
              else
                gd (0 ≤ y2.1.1) <|
                gd (y2.1.1 < nI y1.2.2.1.length) <|
                gd (inK IntKind.i64 (getI y1.2.2.1 y2.1.1 + 1)) <|
                gd (0 ≤ y2.1.1) <|
                gd (y2.1.1 < nI y1.2.2.1.length) <|
                gd (0 ≤ y2.1.1) <|
                gd (y2.1.1 < nI y1.2.1.2.1.length) <|
                bif getI y1.2.1.2.1 y2.1.1 == nI y1.2.1.2.2.2.2.length then
                  gd (inK IntKind.i64 (y1.1.2 + 1)) <|
                  gd (inK IntKind.i64 (y1.1.1 + 1)) <|
                  some (Sum.inl ((y1.1.1 + 1, y1.1.2 + 1), (y1.2.1.1, y1.2.1.2.1, y1.2.1.2.2.1, y1.2.1.2.2.2.1, y1.2.1.2.2.2.2), y1.2.2.1.set y2.1.1.toNat (getI y1.2.2.1 y2.1.1 + 1), y1.2.2.2.1, mapSet true y1.2.2.2.2.1 y2.1.1, y1.2.2.2.2.2.1, y1.2.2.2.2.2.1))
                else
                  gd ((y1.2.2.2.2.2.1.length + [getI y0.2.2.2.1 y1.1.1].length) * 8 ≤ lim) <|
                  gd (y1.2.2.2.2.2.1.length + [getI y0.2.2.2.1 y1.1.1].length ≤ lim) <|
                  gd (inK IntKind.i64 (y1.1.1 + 1)) <|
                  some (Sum.inl ((y1.1.1 + 1, y1.1.2), (y1.2.1.1, y1.2.1.2.1, y1.2.1.2.2.1, y1.2.1.2.2.2.1, y1.2.1.2.2.2.2), y1.2.2.1.set y2.1.1.toNat (getI y1.2.2.1 y2.1.1 + 1), y1.2.2.2.1, mapSet true y1.2.2.2.2.1 y2.1.1, y1.2.2.2.2.2.1 ++ [getI y0.2.2.2.1 y1.1.1], y1.2.2.2.2.2.1 ++ [getI y0.2.2.2.1 y1.1.1]))
      else
        gd (inK IntKind.i64 (y0.1.2 - 1)) <|
        iterO (X := Int) (fun y2 =>
          gd (0 ≤ y2) <|
          gd (y2 < nI y1.2.1.2.2.2.1.length) <|
          bindO (size (getI y1.2.1.2.2.2.1 y2)) fun y3 =>
          bif !mapGet Ty.bool.dflt y1.2.2.2.2.1 y3.1.1 then
            gd (inK IntKind.i64 (y2 - 1)) <|
            some (Sum.inl (y2 - 1))
          else
            gd (0 ≤ y2) <|
            gd (y2 < nI y1.2.1.2.2.2.1.length) <|
            gd (inK IntKind.i64 (y1.1.2 - 1)) <|
            bif y1.1.2 - 1 == 0 then
              gd (inK IntKind.i64 (0 - getI y1.2.1.2.2.2.1 y2)) <|
              gd (0 < nI y1.2.2.2.2.2.1.length) <|
              iterO (X := (Int × Int) × List Int) (fun y4 =>
                bif decide (y4.1.2 < nI y4.2.length) then
                  gd (0 ≤ y4.1.2) <|
                  gd (y4.1.2 < nI y4.2.length) <|
                  bindO (size (getI y4.2 y4.1.2)) fun y5 =>
                  gd (0 ≤ y5.1.1) <|
                  gd (y5.1.1 < nI y1.2.1.2.1.length) <|
                  bif decide (getI y1.2.1.2.1 y5.1.1 > y4.1.1) then
                    gd (0 ≤ y4.1.2) <|
                    gd (y4.1.2 < nI y4.2.length) <|
                    gd (1 < nI y4.2.length) <|
                    gd (1 < nI y4.2.length) <|
                    gd (0 ≤ y4.1.2) <|
                    gd (y4.1.2 < nI (y4.2.set 1 (getI y4.2 y4.1.2)).length) <|
                    gd (inK IntKind.i64 (y4.1.2 + 1)) <|
                    some (Sum.inl ((getI y1.2.1.2.1 y5.1.1, y4.1.2 + 1), (y4.2.set 1 (getI y4.2 y4.1.2)).set y4.1.2.toNat (getI y4.2 1)))
                  else
                    gd (inK IntKind.i64 (y4.1.2 + 1)) <|
                    some (Sum.inl ((y4.1.1, y4.1.2 + 1), y4.2))
                else
                  some (Sum.inr (Sum.inr (Sum.inr (Sum.inr ((y4.2, y4.1.1, ()), ((y0.2.2.1.1.set y0.2.2.1.2.toNat y0.2.2.2.1, y1.2.1.1, y1.2.1.2.1, y1.2.1.2.2.1, y1.2.2.1, y1.2.2.2.1, y1.2.1.2.2.2.1, y1.2.1.2.2.2.2, ()), ()), ())))))) (nn) ((0, 1), y1.2.2.2.2.2.1.set 0 (0 - getI y1.2.1.2.2.2.1 y2))
            else
              bindO (size (getI y1.2.1.2.2.2.1 y2)) fun y4 =>
              gd (0 ≤ y4.1.1) <|
              gd (y4.1.1 < nI y1.2.1.2.2.1.length) <|
              gd (0 ≤ getI y1.2.1.2.2.1 y4.1.1) <|
              gd (getI y1.2.1.2.2.1 y4.1.1 < nI y0.2.2.1.1.length) <|
              some (Sum.inr (Sum.inr (Sum.inl ((y1.1.2 - 1, y2), (y1.2.1.1, y1.2.1.2.1, y1.2.1.2.2.1, y1.2.1.2.2.2.1, y1.2.1.2.2.2.2), (y0.2.2.1.1.set y0.2.2.1.2.toNat y0.2.2.2.1, getI y1.2.1.2.2.1 y4.1.1), getL (y0.2.2.1.1.set y0.2.2.1.2.toNat y0.2.2.2.1) (getI y1.2.1.2.2.1 y4.1.1), getL (y0.2.2.1.1.set y0.2.2.1.2.toNat y0.2.2.2.1) (getI y1.2.1.2.2.1 y4.1.1), y1.2.2.1, y1.2.2.2.1, y1.2.2.2.2.1, y1.2.2.2.2.2.1))))) (nn) (y0.1.2 - 1)) (nn) ((0, y0.1.1), (y0.2.1.1, y0.2.1.2.1, y0.2.1.2.2.1, y0.2.1.2.2.2.1, y0.2.1.2.2.2.2), y0.2.2.2.2.2.1, y0.2.2.2.2.2.2.1, y0.2.2.2.2.2.2.2.1, y0.2.2.2.2.2.2.2.2, y0.2.2.2.2.2.2.2.2)) (nn) ((0, nI row.length), (is, depth, why, row, begin), (all, n), getL all n, getL all n, hot, warm, [], [0])

def learn (n : Int) (all : List (List Int)) (is : List Int) (depth : List Int) (why : List Int) (hot : List Int) (warm : List Int) (row : List Int) (begin : List Int) : Option ((List Int × Int × Unit) × ((List (List Int) × List Int × List Int × List Int × List Int × List Int × List Int × List Int × Unit) × Unit) × Unit) := learnF fuelN n all is depth why hot warm row begin

def unitF (nn : Nat)  (all : List (List Int)) (watch : List (List Int)) (is : List Int) (depth : List Int) (why : List Int) (row : List Int) (begin : List Int) (done : Int) : Option ((Int × Unit) × ((List (List Int) × List (List Int) × List Int × List Int × List Int × List Int × List Int × Int × Unit) × Unit) × Unit) :=
  iterO (X := (List Int × Int) × List (List Int) × List (List Int) × List Int × List Int × List Int × List Int) (fun y0 =>
    bif decide (y0.1.2 < nI y0.2.2.2.2.2.2.length) then
      gd (0 ≤ y0.1.2) <|
      gd (y0.1.2 < nI y0.2.2.2.2.2.2.length) <|
      gd (inK IntKind.i64 (0 - getI y0.2.2.2.2.2.2 y0.1.2)) <|
      gd (inK IntKind.i64 (y0.1.2 + 1)) <|
      bindO (at_ (0 - getI y0.2.2.2.2.2.2 y0.1.2)) fun y1 =>
      gd (0 ≤ y1.1.1) <|
      gd (y1.1.1 < nI y0.2.2.1.length) <|
      joinO (X := (Int × Int × Int) × (List Int × Int) × List (List Int) × (List (List Int) × Int) × List Int × List Int × List Int × List Int × List Int) (
        iterO (X := (Int × Int) × (List Int × Int) × List (List Int) × (List (List Int) × Int) × List Int × List Int × List Int × List Int × List Int) (fun y2 =>
          bif decide (y2.1.2 < nI (List.length (getL y0.2.2.1 y1.1.1))) then
            gd (0 ≤ y2.1.2) <|
            gd (y2.1.2 < nI y2.2.2.2.2.1.length) <|
            gd (0 ≤ getI y2.2.2.2.2.1 y2.1.2) <|
            gd (getI y2.2.2.2.2.1 y2.1.2 < nI y2.2.2.1.length) <|
            joinO (X := List Int) (
              gd (0 < nI (List.length (getL y2.2.2.1 (getI y2.2.2.2.2.1 y2.1.2)))) <|
              bif getI (getL y2.2.2.1 (getI y2.2.2.2.2.1 y2.1.2)) 0 == 0 - getI y0.2.2.2.2.2.2 y0.1.2 then
                gd (1 < nI (List.length (getL y2.2.2.1 (getI y2.2.2.2.2.1 y2.1.2)))) <|
                gd (0 < nI (List.length (getL y2.2.2.1 (getI y2.2.2.2.2.1 y2.1.2)))) <|
                gd (0 < nI (List.length (getL y2.2.2.1 (getI y2.2.2.2.2.1 y2.1.2)))) <|
                gd (1 < nI (List.set (getL y2.2.2.1 (getI y2.2.2.2.2.1 y2.1.2)) 0 (getI (getL y2.2.2.1 (getI y2.2.2.2.2.1 y2.1.2)) 1)).length) <|
                some (Sum.inl ((List.set (getL y2.2.2.1 (getI y2.2.2.2.2.1 y2.1.2)) 0 (getI (getL y2.2.2.1 (getI y2.2.2.2.2.1 y2.1.2)) 1)).set 1 (getI (getL y2.2.2.1 (getI y2.2.2.2.2.1 y2.1.2)) 0)))
              else
                some (Sum.inl (getL y2.2.2.1 (getI y2.2.2.2.2.1 y2.1.2)))) fun y3 =>
            gd (0 < nI y3.length) <|
            bindO (value (getI y3 0) y2.2.2.2.2.2.1) fun y4 =>
            bif y4.1.1 == 1 then
              gd (0 ≤ y2.1.1) <|
              gd (y2.1.1 < nI y2.2.2.2.2.1.length) <|
              gd (inK IntKind.i64 (y2.1.1 + 1)) <|
              gd (inK IntKind.i64 (y2.1.2 + 1)) <|
              some (Sum.inl ((y2.1.1 + 1, y2.1.2 + 1), (y2.2.1.1, y2.2.1.2), y2.2.2.1.set (Int.toNat (getI y2.2.2.2.2.1 y2.1.2)) y3, (y2.2.2.2.1.1, y2.2.2.2.1.2), y2.2.2.2.2.1.set y2.1.1.toNat (getI y2.2.2.2.2.1 y2.1.2), y2.2.2.2.2.2.1, y2.2.2.2.2.2.2.1, y2.2.2.2.2.2.2.2.1, y2.2.2.2.2.2.2.2.2))
            else
              joinO (X := Int × List Int × Int) (
                iterO (X := Int × List Int × Int) (fun y5 =>
                  bif decide (y5.1 < nI y3.length) then
                    gd (0 ≤ y5.1) <|
                    gd (y5.1 < nI y3.length) <|
                    bindO (value (getI y3 y5.1) y2.2.2.2.2.2.1) fun y6 =>
                    bif y6.1.1 != -1 then
                      gd (0 ≤ y5.1) <|
                      gd (y5.1 < nI y3.length) <|
                      gd (1 < nI y3.length) <|
                      gd (1 < nI y3.length) <|
                      gd (0 ≤ y5.1) <|
                      gd (y5.1 < nI (y3.set 1 (getI y3 y5.1)).length) <|
                      gd (1 < nI ((y3.set 1 (getI y3 y5.1)).set y5.1.toNat (getI y3 1)).length) <|
                      bindO (at_ (getI ((y3.set 1 (getI y3 y5.1)).set y5.1.toNat (getI y3 1)) 1)) fun y7 =>
                      gd (1 < nI ((y3.set 1 (getI y3 y5.1)).set y5.1.toNat (getI y3 1)).length) <|
                      bindO (at_ (getI ((y3.set 1 (getI y3 y5.1)).set y5.1.toNat (getI y3 1)) 1)) fun y8 =>
                      gd (0 ≤ y8.1.1) <|
                      gd (y8.1.1 < nI y2.2.2.2.1.1.length) <|
                      gd (y2.2.2.2.1.2 ≠ y8.1.1) <|
                      gd ((List.length (getL y2.2.2.2.1.1 y8.1.1) + [getI y2.2.2.2.2.1 y2.1.2].length) * 8 ≤ lim) <|
                      gd (List.length (getL y2.2.2.2.1.1 y8.1.1) + [getI y2.2.2.2.2.1 y2.1.2].length ≤ lim) <|
                      gd (0 ≤ y7.1.1) <|
                      gd (y7.1.1 < nI y2.2.2.2.1.1.length) <|
                      gd (y8.1.1 = y7.1.1) <|
                      gd (y2.2.2.2.1.2 ≠ y7.1.1) <|
                      gd (inK IntKind.i64 (y2.1.2 + 1)) <|
                      some (Sum.inr (Sum.inr (Sum.inl ((y2.1.1, y2.1.2 + 1), (y5.2.1, y5.2.2), y2.2.2.1.set (Int.toNat (getI y2.2.2.2.2.1 y2.1.2)) ((y3.set 1 (getI y3 y5.1)).set y5.1.toNat (getI y3 1)), (y2.2.2.2.1.1.set y7.1.1.toNat (getL y2.2.2.2.1.1 y8.1.1 ++ [getI y2.2.2.2.2.1 y2.1.2]), y2.2.2.2.1.2), y2.2.2.2.2.1, y2.2.2.2.2.2.1, y2.2.2.2.2.2.2.1, y2.2.2.2.2.2.2.2.1, y2.2.2.2.2.2.2.2.2))))
                    else
                      gd (inK IntKind.i64 (y5.1 + 1)) <|
                      some (Sum.inl (y5.1 + 1, y5.2.1, y5.2.2))
                  else
                    some (Sum.inr (Sum.inl (y5.1, y5.2.1, y5.2.2)))) (nn) (2, y2.2.1.1, y2.2.1.2)) fun y5 =>
              gd (0 ≤ y2.1.1) <|
              gd (y2.1.1 < nI y2.2.2.2.2.1.length) <|
              gd (inK IntKind.i64 (y2.1.1 + 1)) <|
              gd (0 < nI y3.length) <|
              bindO (value (getI y3 0) y2.2.2.2.2.2.1) fun y6 =>
              bif y6.1.1 == -1 then
                gd (0 ≤ y2.1.1 + 1) <|
                gd (y2.1.1 + 1 ≤ nI (y2.2.2.2.2.1.set y2.1.1.toNat (getI y2.2.2.2.2.1 y2.1.2)).length) <|
                gd (nI (y2.2.2.2.2.1.set y2.1.1.toNat (getI y2.2.2.2.2.1 y2.1.2)).length ≤ nI (y2.2.2.2.2.1.set y2.1.1.toNat (getI y2.2.2.2.2.1 y2.1.2)).length) <|
                gd (inK IntKind.i64 (y2.1.2 + 1)) <|
                gd (0 ≤ y2.1.2 + 1) <|
                gd (y2.1.2 + 1 ≤ nI (y2.2.2.2.2.1.set y2.1.1.toNat (getI y2.2.2.2.2.1 y2.1.2)).length) <|
                gd (nI (y2.2.2.2.2.1.set y2.1.1.toNat (getI y2.2.2.2.2.1 y2.1.2)).length ≤ nI (y2.2.2.2.2.1.set y2.1.1.toNat (getI y2.2.2.2.2.1 y2.1.2)).length) <|
                gd ((List.drop (Int.toNat (y2.1.2 + 1)) (List.take (nI (y2.2.2.2.2.1.set y2.1.1.toNat (getI y2.2.2.2.2.1 y2.1.2)).length).toNat (y2.2.2.2.2.1.set y2.1.1.toNat (getI y2.2.2.2.2.1 y2.1.2)))).length ≤ lim) <|
                gd (inK IntKind.i64 (y2.1.1 + 1 + nI ((List.drop (Int.toNat (y2.1.2 + 1)) (List.take (nI (y2.2.2.2.2.1.set y2.1.1.toNat (getI y2.2.2.2.2.1 y2.1.2)).length).toNat (y2.2.2.2.2.1.set y2.1.1.toNat (getI y2.2.2.2.2.1 y2.1.2)))).length.min (((some (nI (y2.2.2.2.2.1.set y2.1.1.toNat (getI y2.2.2.2.2.1 y2.1.2)).length)).getD (nI (y2.2.2.2.2.1.set y2.1.1.toNat (getI y2.2.2.2.2.1 y2.1.2)).length)).toNat - Int.toNat (y2.1.1 + 1))))) <|
                bindO (at_ (0 - getI y0.2.2.2.2.2.2 y0.1.2)) fun y7 =>
                gd (0 ≤ y2.1.1 + 1 + nI ((List.drop (Int.toNat (y2.1.2 + 1)) (List.take (nI (y2.2.2.2.2.1.set y2.1.1.toNat (getI y2.2.2.2.2.1 y2.1.2)).length).toNat (y2.2.2.2.2.1.set y2.1.1.toNat (getI y2.2.2.2.2.1 y2.1.2)))).length.min (((some (nI (y2.2.2.2.2.1.set y2.1.1.toNat (getI y2.2.2.2.2.1 y2.1.2)).length)).getD (nI (y2.2.2.2.2.1.set y2.1.1.toNat (getI y2.2.2.2.2.1 y2.1.2)).length)).toNat - Int.toNat (y2.1.1 + 1)))) <|
                gd (y2.1.1 + 1 + nI ((List.drop (Int.toNat (y2.1.2 + 1)) (List.take (nI (y2.2.2.2.2.1.set y2.1.1.toNat (getI y2.2.2.2.2.1 y2.1.2)).length).toNat (y2.2.2.2.2.1.set y2.1.1.toNat (getI y2.2.2.2.2.1 y2.1.2)))).length.min (((some (nI (y2.2.2.2.2.1.set y2.1.1.toNat (getI y2.2.2.2.2.1 y2.1.2)).length)).getD (nI (y2.2.2.2.2.1.set y2.1.1.toNat (getI y2.2.2.2.2.1 y2.1.2)).length)).toNat - Int.toNat (y2.1.1 + 1))) ≤ nI (List.take (Int.toNat (y2.1.1 + 1)) (y2.2.2.2.2.1.set y2.1.1.toNat (getI y2.2.2.2.2.1 y2.1.2)) ++ List.take ((List.drop (Int.toNat (y2.1.2 + 1)) (List.take (nI (y2.2.2.2.2.1.set y2.1.1.toNat (getI y2.2.2.2.2.1 y2.1.2)).length).toNat (y2.2.2.2.2.1.set y2.1.1.toNat (getI y2.2.2.2.2.1 y2.1.2)))).length.min (((some (nI (y2.2.2.2.2.1.set y2.1.1.toNat (getI y2.2.2.2.2.1 y2.1.2)).length)).getD (nI (y2.2.2.2.2.1.set y2.1.1.toNat (getI y2.2.2.2.2.1 y2.1.2)).length)).toNat - Int.toNat (y2.1.1 + 1))) (List.drop (Int.toNat (y2.1.2 + 1)) (List.take (nI (y2.2.2.2.2.1.set y2.1.1.toNat (getI y2.2.2.2.2.1 y2.1.2)).length).toNat (y2.2.2.2.2.1.set y2.1.1.toNat (getI y2.2.2.2.2.1 y2.1.2)))) ++ List.drop (Int.toNat (y2.1.1 + 1) + (List.drop (Int.toNat (y2.1.2 + 1)) (List.take (nI (y2.2.2.2.2.1.set y2.1.1.toNat (getI y2.2.2.2.2.1 y2.1.2)).length).toNat (y2.2.2.2.2.1.set y2.1.1.toNat (getI y2.2.2.2.2.1 y2.1.2)))).length.min (((some (nI (y2.2.2.2.2.1.set y2.1.1.toNat (getI y2.2.2.2.2.1 y2.1.2)).length)).getD (nI (y2.2.2.2.2.1.set y2.1.1.toNat (getI y2.2.2.2.2.1 y2.1.2)).length)).toNat - Int.toNat (y2.1.1 + 1))) (y2.2.2.2.2.1.set y2.1.1.toNat (getI y2.2.2.2.2.1 y2.1.2))).length) <|
                gd (0 ≤ y7.1.1) <|
                gd (y7.1.1 < nI y2.2.2.2.1.1.length) <|
                gd (y2.2.2.2.1.2 = y7.1.1) <|
                some (Sum.inr (Sum.inr (Sum.inr ((getI y2.2.2.2.2.1 y2.1.2, ()), ((y2.2.2.1.set (Int.toNat (getI y2.2.2.2.2.1 y2.1.2)) y3, y2.2.2.2.1.1.set y7.1.1.toNat (List.take (Int.toNat (y2.1.1 + 1 + nI ((List.drop (Int.toNat (y2.1.2 + 1)) (List.take (nI (y2.2.2.2.2.1.set y2.1.1.toNat (getI y2.2.2.2.2.1 y2.1.2)).length).toNat (y2.2.2.2.2.1.set y2.1.1.toNat (getI y2.2.2.2.2.1 y2.1.2)))).length.min (((some (nI (y2.2.2.2.2.1.set y2.1.1.toNat (getI y2.2.2.2.2.1 y2.1.2)).length)).getD (nI (y2.2.2.2.2.1.set y2.1.1.toNat (getI y2.2.2.2.2.1 y2.1.2)).length)).toNat - Int.toNat (y2.1.1 + 1))))) (List.take (Int.toNat (y2.1.1 + 1)) (y2.2.2.2.2.1.set y2.1.1.toNat (getI y2.2.2.2.2.1 y2.1.2)) ++ List.take ((List.drop (Int.toNat (y2.1.2 + 1)) (List.take (nI (y2.2.2.2.2.1.set y2.1.1.toNat (getI y2.2.2.2.2.1 y2.1.2)).length).toNat (y2.2.2.2.2.1.set y2.1.1.toNat (getI y2.2.2.2.2.1 y2.1.2)))).length.min (((some (nI (y2.2.2.2.2.1.set y2.1.1.toNat (getI y2.2.2.2.2.1 y2.1.2)).length)).getD (nI (y2.2.2.2.2.1.set y2.1.1.toNat (getI y2.2.2.2.2.1 y2.1.2)).length)).toNat - Int.toNat (y2.1.1 + 1))) (List.drop (Int.toNat (y2.1.2 + 1)) (List.take (nI (y2.2.2.2.2.1.set y2.1.1.toNat (getI y2.2.2.2.2.1 y2.1.2)).length).toNat (y2.2.2.2.2.1.set y2.1.1.toNat (getI y2.2.2.2.2.1 y2.1.2)))) ++ List.drop (Int.toNat (y2.1.1 + 1) + (List.drop (Int.toNat (y2.1.2 + 1)) (List.take (nI (y2.2.2.2.2.1.set y2.1.1.toNat (getI y2.2.2.2.2.1 y2.1.2)).length).toNat (y2.2.2.2.2.1.set y2.1.1.toNat (getI y2.2.2.2.2.1 y2.1.2)))).length.min (((some (nI (y2.2.2.2.2.1.set y2.1.1.toNat (getI y2.2.2.2.2.1 y2.1.2)).length)).getD (nI (y2.2.2.2.2.1.set y2.1.1.toNat (getI y2.2.2.2.2.1 y2.1.2)).length)).toNat - Int.toNat (y2.1.1 + 1))) (y2.2.2.2.2.1.set y2.1.1.toNat (getI y2.2.2.2.2.1 y2.1.2)))), y2.2.2.2.2.2.1, y2.2.2.2.2.2.2.1, y2.2.2.2.2.2.2.2.1, y2.2.2.2.2.2.2.2.2, y5.2.1, y5.2.2, ()), ()), ()))))
              else
                gd (0 < nI y3.length) <|
                bindO (set_ (getI y3 0) (getI y2.2.2.2.2.1 y2.1.2) y2.2.2.2.2.2.1 y2.2.2.2.2.2.2.1 y2.2.2.2.2.2.2.2.1 y2.2.2.2.2.2.2.2.2 y5.2.1) fun y7 =>
                gd (inK IntKind.i64 (y2.1.2 + 1)) <|
                some (Sum.inl ((y2.1.1 + 1, y2.1.2 + 1), (y5.2.1, y5.2.2), y2.2.2.1.set (Int.toNat (getI y2.2.2.2.2.1 y2.1.2)) y3, (y2.2.2.2.1.1, y2.2.2.2.1.2), y2.2.2.2.2.1.set y2.1.1.toNat (getI y2.2.2.2.2.1 y2.1.2), y7.2.1.1.1, y7.2.1.1.2.1, y7.2.1.1.2.2.1, y7.2.1.1.2.2.2.1))
          else
            some (Sum.inr (Sum.inl ((y2.1.1, nI (List.length (getL y0.2.2.1 y1.1.1)), y2.1.2), (y2.2.1.1, y2.2.1.2), y2.2.2.1, (y2.2.2.2.1.1, y2.2.2.2.1.2), y2.2.2.2.2.1, y2.2.2.2.2.2.1, y2.2.2.2.2.2.2.1, y2.2.2.2.2.2.2.2.1, y2.2.2.2.2.2.2.2.2)))) (nn) ((0, 0), (y0.1.1, y0.1.2 + 1), y0.2.1, (y0.2.2.1, y1.1.1), getL y0.2.2.1 y1.1.1, y0.2.2.2.1, y0.2.2.2.2.1, y0.2.2.2.2.2.1, y0.2.2.2.2.2.2)) fun y2 =>
      bindO (at_ (0 - getI y0.2.2.2.2.2.2 y0.1.2)) fun y3 =>
      gd (0 ≤ y2.1.1) <|
      gd (y2.1.1 ≤ nI y2.2.2.2.2.1.length) <|
      gd (0 ≤ y3.1.1) <|
      gd (y3.1.1 < nI y2.2.2.2.1.1.length) <|
      gd (y2.2.2.2.1.2 = y3.1.1) <|
      some (Sum.inl ((y2.2.1.1, y2.2.1.2), y2.2.2.1, y2.2.2.2.1.1.set y3.1.1.toNat (List.take y2.1.1.toNat y2.2.2.2.2.1), y2.2.2.2.2.2.1, y2.2.2.2.2.2.2.1, y2.2.2.2.2.2.2.2.1, y2.2.2.2.2.2.2.2.2))
    else
      some (Sum.inr ((-1, ()), ((y0.2.1, y0.2.2.1, y0.2.2.2.1, y0.2.2.2.2.1, y0.2.2.2.2.2.1, y0.2.2.2.2.2.2, y0.1.1, y0.1.2, ()), ()), ()))) (nn) ((begin, done), all, watch, is, depth, why, row)

def unit (all : List (List Int)) (watch : List (List Int)) (is : List Int) (depth : List Int) (why : List Int) (row : List Int) (begin : List Int) (done : Int) : Option ((Int × Unit) × ((List (List Int) × List (List Int) × List Int × List Int × List Int × List Int × List Int × Int × Unit) × Unit) × Unit) := unitF fuelN all watch is depth why row begin done

end GoSx
end
section
/- Models of functions: what they compute, if all goes well: SatD. -/
namespace GoSx
open Go
def take (n : Int) (all : List (List Int)) (watch : List (List Int)) (is : List Int) (depth : List Int) (why : List Int) (old : List Int) (hot : List Int) (warm : List Int) (cold : Int) (row : List Int) (begin : List Int) (done : Int) (proof : List (List Int)) : Option (Unit × ((List (List Int) × List (List Int) × List Int × List Int × List Int × List Int × List Int × List Int × Int × List Int × List Int × Int × List (List Int) × Unit) × Unit) × Unit) :=
  bindO (learn n all is depth why hot warm row begin) fun y0 =>
  bindO (Clone_ y0.1.1) fun y1 =>
  gd ((proof.length + [y1.1.1].length) * 24 ≤ lim) <|
  gd (proof.length + [y1.1.1].length ≤ lim) <|
  bindO (back y0.1.2.1 is old cold row begin done) fun y2 =>
  bif nI y0.1.1.length == 1 then
    gd (0 < nI y0.1.1.length) <|
    bindO (set_ (getI y0.1.1 0) (-1) y2.2.1.1.1 depth why y2.2.1.1.2.2.2.1 y2.2.1.1.2.2.2.2.1) fun y3 =>
    some ((), ((y0.2.1.1.1, watch, y3.2.1.1.1, y3.2.1.1.2.1, y3.2.1.1.2.2.1, y2.2.1.1.2.1, y0.2.1.1.2.2.2.2.1, y0.2.1.1.2.2.2.2.2.1, y2.2.1.1.2.2.1, y3.2.1.1.2.2.2.1, y2.2.1.1.2.2.2.2.1, y2.2.1.1.2.2.2.2.2.1, proof ++ [y1.1.1], ()), ()), ())
  else
    gd (0 < nI y0.1.1.length) <|
    bindO (keep y0.1.1 y0.2.1.1.1 0 watch) fun y3 =>
    bindO (set_ (getI y0.1.1 0) y3.1.1 y2.2.1.1.1 depth why y2.2.1.1.2.2.2.1 y2.2.1.1.2.2.2.2.1) fun y4 =>
    some ((), ((y3.2.1.1.1.set y3.2.1.1.2.1.toNat y0.1.1, y3.2.1.1.2.2.1, y4.2.1.1.1, y4.2.1.1.2.1, y4.2.1.1.2.2.1, y2.2.1.1.2.1, y0.2.1.1.2.2.2.2.1, y0.2.1.1.2.2.2.2.2.1, y2.2.1.1.2.2.1, y4.2.1.1.2.2.2.1, y2.2.1.1.2.2.2.2.1, y2.2.1.1.2.2.2.2.2.1, proof ++ [y1.1.1], ()), ()), ())

def searchF (nn : Nat)  (assume : List Int) (fuel : Int) (vars : Int) (all : List (List Int)) (watch : List (List Int)) (is : List Int) (depth : List Int) (why : List Int) (old : List Int) (hot : List Int) (warm : List Int) (cold : Int) (row : List Int) (begin : List Int) (done : Int) (empty : Bool) (proof : List (List Int)) (core : List Int) : Option ((Int × Unit) × ((Int × List (List Int) × List (List Int) × List Int × List Int × List Int × List Int × List Int × List Int × Int × List Int × List Int × Int × Bool × List (List Int) × List Int × Unit) × Unit) × Unit) :=
  iterO (X := Int × (Int × Int × Int × Bool) × List (List Int) × List (List Int) × List Int × List Int × List Int × List Int × List Int × List Int × List Int × List Int × List (List Int)) (fun y0 =>
    bindO (unit y0.2.2.1 y0.2.2.2.1 y0.2.2.2.2.1 y0.2.2.2.2.2.1 y0.2.2.2.2.2.2.1 y0.2.2.2.2.2.2.2.2.2.2.1 y0.2.2.2.2.2.2.2.2.2.2.2.1 y0.2.1.2.2.1) fun y1 =>
    bif y1.1.1 != -1 then
      bif nI y0.2.2.2.2.2.2.2.2.2.2.2.1.length == 0 then
        some (Sum.inr ((2, ()), ((y0.2.1.1, y1.2.1.1.1, y1.2.1.1.2.1, y1.2.1.1.2.2.1, y1.2.1.1.2.2.2.1, y1.2.1.1.2.2.2.2.1, y0.2.2.2.2.2.2.2.1, y0.2.2.2.2.2.2.2.2.1, y0.2.2.2.2.2.2.2.2.2.1, y0.2.1.2.1, y1.2.1.1.2.2.2.2.2.1, y0.2.2.2.2.2.2.2.2.2.2.2.1, y1.2.1.1.2.2.2.2.2.2.2.1, true, y0.2.2.2.2.2.2.2.2.2.2.2.2, core, ()), ()), ()))
      else
        bif decide (fuel ≥ 0) then
          bif bif true then decide (y0.1 ≥ fuel) else false then
            some (Sum.inr ((3, ()), ((y0.2.1.1, y1.2.1.1.1, y1.2.1.1.2.1, y1.2.1.1.2.2.1, y1.2.1.1.2.2.2.1, y1.2.1.1.2.2.2.2.1, y0.2.2.2.2.2.2.2.1, y0.2.2.2.2.2.2.2.2.1, y0.2.2.2.2.2.2.2.2.2.1, y0.2.1.2.1, y1.2.1.1.2.2.2.2.2.1, y0.2.2.2.2.2.2.2.2.2.2.2.1, y1.2.1.1.2.2.2.2.2.2.2.1, y0.2.1.2.2.2, y0.2.2.2.2.2.2.2.2.2.2.2.2, core, ()), ()), ()))
          else
            bindO (take y1.1.1 y1.2.1.1.1 y1.2.1.1.2.1 y1.2.1.1.2.2.1 y1.2.1.1.2.2.2.1 y1.2.1.1.2.2.2.2.1 y0.2.2.2.2.2.2.2.1 y0.2.2.2.2.2.2.2.2.1 y0.2.2.2.2.2.2.2.2.2.1 y0.2.1.2.1 y1.2.1.1.2.2.2.2.2.1 y0.2.2.2.2.2.2.2.2.2.2.2.1 y1.2.1.1.2.2.2.2.2.2.2.1 y0.2.2.2.2.2.2.2.2.2.2.2.2) fun y2 =>
            gd (inK IntKind.i64 (y0.1 + 1)) <|
            some (Sum.inl (y0.1 + 1, (y0.2.1.1, y2.2.1.1.2.2.2.2.2.2.2.2.1, y2.2.1.1.2.2.2.2.2.2.2.2.2.2.2.1, y0.2.1.2.2.2), y2.2.1.1.1, y2.2.1.1.2.1, y2.2.1.1.2.2.1, y2.2.1.1.2.2.2.1, y2.2.1.1.2.2.2.2.1, y2.2.1.1.2.2.2.2.2.1, y2.2.1.1.2.2.2.2.2.2.1, y2.2.1.1.2.2.2.2.2.2.2.1, y2.2.1.1.2.2.2.2.2.2.2.2.2.1, y2.2.1.1.2.2.2.2.2.2.2.2.2.2.1, y2.2.1.1.2.2.2.2.2.2.2.2.2.2.2.2.1))
        else
          bindO (take y1.1.1 y1.2.1.1.1 y1.2.1.1.2.1 y1.2.1.1.2.2.1 y1.2.1.1.2.2.2.1 y1.2.1.1.2.2.2.2.1 y0.2.2.2.2.2.2.2.1 y0.2.2.2.2.2.2.2.2.1 y0.2.2.2.2.2.2.2.2.2.1 y0.2.1.2.1 y1.2.1.1.2.2.2.2.2.1 y0.2.2.2.2.2.2.2.2.2.2.2.1 y1.2.1.1.2.2.2.2.2.2.2.1 y0.2.2.2.2.2.2.2.2.2.2.2.2) fun y2 =>
          gd (inK IntKind.i64 (y0.1 + 1)) <|
          some (Sum.inl (y0.1 + 1, (y0.2.1.1, y2.2.1.1.2.2.2.2.2.2.2.2.1, y2.2.1.1.2.2.2.2.2.2.2.2.2.2.2.1, y0.2.1.2.2.2), y2.2.1.1.1, y2.2.1.1.2.1, y2.2.1.1.2.2.1, y2.2.1.1.2.2.2.1, y2.2.1.1.2.2.2.2.1, y2.2.1.1.2.2.2.2.2.1, y2.2.1.1.2.2.2.2.2.2.1, y2.2.1.1.2.2.2.2.2.2.2.1, y2.2.1.1.2.2.2.2.2.2.2.2.2.1, y2.2.1.1.2.2.2.2.2.2.2.2.2.2.1, y2.2.1.1.2.2.2.2.2.2.2.2.2.2.2.2.1))
    else
      iterO (X := (Int × Int × Int × Bool) × List Int) (fun y2 =>
        bif decide (nI y2.2.length < nI assume.length) then
          gd (nI y2.2.length < nI assume.length) <|
          bindO (value (getI assume (nI y2.2.length)) y1.2.1.1.2.2.1) fun y3 =>
          bif y3.1.1 == -1 then
            bindO (blame (getI assume (nI y2.2.length)) y1.2.1.1.1 y1.2.1.1.2.2.2.2.1 y1.2.1.1.2.2.2.2.2.1 y2.2) fun y4 =>
            some (Sum.inr (Sum.inr ((2, ()), ((y2.1.1, y4.2.1.1.1, y1.2.1.1.2.1, y1.2.1.1.2.2.1, y1.2.1.1.2.2.2.1, y1.2.1.1.2.2.2.2.1, y0.2.2.2.2.2.2.2.1, y0.2.2.2.2.2.2.2.2.1, y0.2.2.2.2.2.2.2.2.2.1, y2.1.2.1, y1.2.1.1.2.2.2.2.2.1, y2.2, y2.1.2.2.1, y2.1.2.2.2, y0.2.2.2.2.2.2.2.2.2.2.2.2, y4.1.1, ()), ()), ())))
          else
            bif y3.1.1 == 0 then
              bif getI assume (nI y2.2.length) == 0 then
                bindO (pick y2.1.1 y1.2.1.1.2.2.1 y0.2.2.2.2.2.2.2.1 y0.2.2.2.2.2.2.2.2.1 y0.2.2.2.2.2.2.2.2.2.1 y2.1.2.1) fun y4 =>
                bif y4.1.1 == 0 then
                  some (Sum.inr (Sum.inr ((1, ()), ((y4.2.1.1.1, y1.2.1.1.1, y1.2.1.1.2.1, y1.2.1.1.2.2.1, y1.2.1.1.2.2.2.1, y1.2.1.1.2.2.2.2.1, y0.2.2.2.2.2.2.2.1, y0.2.2.2.2.2.2.2.2.1, y0.2.2.2.2.2.2.2.2.2.1, y4.2.1.1.2.2.2.2.2.1, y1.2.1.1.2.2.2.2.2.1, y2.2, y2.1.2.2.1, y2.1.2.2.2, y0.2.2.2.2.2.2.2.2.2.2.2.2, core, ()), ()), ())))
                else
                  gd ((y2.2.length + [nI y1.2.1.1.2.2.2.2.2.1.length].length) * 8 ≤ lim) <|
                  gd (y2.2.length + [nI y1.2.1.1.2.2.2.2.2.1.length].length ≤ lim) <|
                  bindO (set_ y4.1.1 (-1) y1.2.1.1.2.2.1 y1.2.1.1.2.2.2.1 y1.2.1.1.2.2.2.2.1 y1.2.1.1.2.2.2.2.2.1 (y2.2 ++ [nI y1.2.1.1.2.2.2.2.2.1.length])) fun y5 =>
                  some (Sum.inr (Sum.inl (y0.1, (y4.2.1.1.1, y4.2.1.1.2.2.2.2.2.1, y2.1.2.2.1, y2.1.2.2.2), y1.2.1.1.1, y1.2.1.1.2.1, y5.2.1.1.1, y5.2.1.1.2.1, y5.2.1.1.2.2.1, y0.2.2.2.2.2.2.2.1, y0.2.2.2.2.2.2.2.2.1, y0.2.2.2.2.2.2.2.2.2.1, y5.2.1.1.2.2.2.1, y2.2 ++ [nI y1.2.1.1.2.2.2.2.2.1.length], y0.2.2.2.2.2.2.2.2.2.2.2.2)))
              else
                bif getI assume (nI y2.2.length) == 0 then
                  some (Sum.inr (Sum.inr ((1, ()), ((y2.1.1, y1.2.1.1.1, y1.2.1.1.2.1, y1.2.1.1.2.2.1, y1.2.1.1.2.2.2.1, y1.2.1.1.2.2.2.2.1, y0.2.2.2.2.2.2.2.1, y0.2.2.2.2.2.2.2.2.1, y0.2.2.2.2.2.2.2.2.2.1, y2.1.2.1, y1.2.1.1.2.2.2.2.2.1, y2.2, y2.1.2.2.1, y2.1.2.2.2, y0.2.2.2.2.2.2.2.2.2.2.2.2, core, ()), ()), ())))
                else
                  gd ((y2.2.length + [nI y1.2.1.1.2.2.2.2.2.1.length].length) * 8 ≤ lim) <|
                  gd (y2.2.length + [nI y1.2.1.1.2.2.2.2.2.1.length].length ≤ lim) <|
                  bindO (set_ (getI assume (nI y2.2.length)) (-1) y1.2.1.1.2.2.1 y1.2.1.1.2.2.2.1 y1.2.1.1.2.2.2.2.1 y1.2.1.1.2.2.2.2.2.1 (y2.2 ++ [nI y1.2.1.1.2.2.2.2.2.1.length])) fun y4 =>
                  some (Sum.inr (Sum.inl (y0.1, (y2.1.1, y2.1.2.1, y2.1.2.2.1, y2.1.2.2.2), y1.2.1.1.1, y1.2.1.1.2.1, y4.2.1.1.1, y4.2.1.1.2.1, y4.2.1.1.2.2.1, y0.2.2.2.2.2.2.2.1, y0.2.2.2.2.2.2.2.2.1, y0.2.2.2.2.2.2.2.2.2.1, y4.2.1.1.2.2.2.1, y2.2 ++ [nI y1.2.1.1.2.2.2.2.2.1.length], y0.2.2.2.2.2.2.2.2.2.2.2.2)))
            else
              gd ((y2.2.length + [nI y1.2.1.1.2.2.2.2.2.1.length].length) * 8 ≤ lim) <|
              gd (y2.2.length + [nI y1.2.1.1.2.2.2.2.2.1.length].length ≤ lim) <|
              some (Sum.inl ((y2.1.1, y2.1.2.1, y2.1.2.2.1, y2.1.2.2.2), y2.2 ++ [nI y1.2.1.1.2.2.2.2.2.1.length]))
        else
          bindO (pick y2.1.1 y1.2.1.1.2.2.1 y0.2.2.2.2.2.2.2.1 y0.2.2.2.2.2.2.2.2.1 y0.2.2.2.2.2.2.2.2.2.1 y2.1.2.1) fun y3 =>
          bif y3.1.1 == 0 then
            some (Sum.inr (Sum.inr ((1, ()), ((y3.2.1.1.1, y1.2.1.1.1, y1.2.1.1.2.1, y1.2.1.1.2.2.1, y1.2.1.1.2.2.2.1, y1.2.1.1.2.2.2.2.1, y0.2.2.2.2.2.2.2.1, y0.2.2.2.2.2.2.2.2.1, y0.2.2.2.2.2.2.2.2.2.1, y3.2.1.1.2.2.2.2.2.1, y1.2.1.1.2.2.2.2.2.1, y2.2, y2.1.2.2.1, y2.1.2.2.2, y0.2.2.2.2.2.2.2.2.2.2.2.2, core, ()), ()), ())))
          else
            gd ((y2.2.length + [nI y1.2.1.1.2.2.2.2.2.1.length].length) * 8 ≤ lim) <|
            gd (y2.2.length + [nI y1.2.1.1.2.2.2.2.2.1.length].length ≤ lim) <|
            bindO (set_ y3.1.1 (-1) y1.2.1.1.2.2.1 y1.2.1.1.2.2.2.1 y1.2.1.1.2.2.2.2.1 y1.2.1.1.2.2.2.2.2.1 (y2.2 ++ [nI y1.2.1.1.2.2.2.2.2.1.length])) fun y4 =>
            some (Sum.inr (Sum.inl (y0.1, (y3.2.1.1.1, y3.2.1.1.2.2.2.2.2.1, y2.1.2.2.1, y2.1.2.2.2), y1.2.1.1.1, y1.2.1.1.2.1, y4.2.1.1.1, y4.2.1.1.2.1, y4.2.1.1.2.2.1, y0.2.2.2.2.2.2.2.1, y0.2.2.2.2.2.2.2.2.1, y0.2.2.2.2.2.2.2.2.2.1, y4.2.1.1.2.2.2.1, y2.2 ++ [nI y1.2.1.1.2.2.2.2.2.1.length], y0.2.2.2.2.2.2.2.2.2.2.2.2)))) (nn) ((y0.2.1.1, y0.2.1.2.1, y1.2.1.1.2.2.2.2.2.2.2.1, y0.2.1.2.2.2), y0.2.2.2.2.2.2.2.2.2.2.2.1)) (nn) (0, (vars, cold, done, empty), all, watch, is, depth, why, old, hot, warm, row, begin, proof)

def search (assume : List Int) (fuel : Int) (vars : Int) (all : List (List Int)) (watch : List (List Int)) (is : List Int) (depth : List Int) (why : List Int) (old : List Int) (hot : List Int) (warm : List Int) (cold : Int) (row : List Int) (begin : List Int) (done : Int) (empty : Bool) (proof : List (List Int)) (core : List Int) : Option ((Int × Unit) × ((Int × List (List Int) × List (List Int) × List Int × List Int × List Int × List Int × List Int × List Int × Int × List Int × List Int × Int × Bool × List (List Int) × List Int × Unit) × Unit) × Unit) := searchF fuelN assume fuel vars all watch is depth why old hot warm cold row begin done empty proof core

def AskF (nn : Nat)  (assume : List Int) (fuel : Int) (vars : Int) (all : List (List Int)) (watch : List (List Int)) (is : List Int) (depth : List Int) (why : List Int) (old : List Int) (hot : List Int) (warm : List Int) (cold : Int) (row : List Int) (begin : List Int) (done : Int) (empty : Bool) (proof : List (List Int)) (answer : Int) (core : List Int) (model : List Bool) : Option ((Int × Unit) × ((Int × List (List Int) × List (List Int) × List Int × List Int × List Int × List Int × List Int × List Int × Int × List Int × List Int × Int × Bool × List (List Int) × Int × List Int × List Bool × Unit) × Unit) × Unit) :=
  bindO (forget answer core model) fun y0 =>
  bindO (own assume vars) fun y1 =>
  bif !y1.1.1 then
    some ((0, ()), ((y1.2.1.1.1, all, watch, is, depth, why, old, hot, warm, cold, row, begin, done, empty, proof, y0.2.1.1.1, y0.2.1.1.2.1, y0.2.1.1.2.2.1, ()), ()), ())
  else
    bindO (back 0 is old cold row begin done) fun y2 =>
    joinO (X := (Int × Int × Int × Bool × Int) × List (List Int) × List (List Int) × List Int × List Int × List Int × List Int × List Int × List Int × List Int × List Int × List (List Int) × List Int) (
      bif !empty then
        bindO (search assume fuel y1.2.1.1.1 all watch y2.2.1.1.1 depth why y2.2.1.1.2.1 hot warm y2.2.1.1.2.2.1 y2.2.1.1.2.2.2.1 y2.2.1.1.2.2.2.2.1 y2.2.1.1.2.2.2.2.2.1 empty proof y0.2.1.1.2.1) fun y3 =>
        some (Sum.inl ((y3.2.1.1.1, y3.2.1.1.2.2.2.2.2.2.2.2.2.1, y3.2.1.1.2.2.2.2.2.2.2.2.2.2.2.2.1, y3.2.1.1.2.2.2.2.2.2.2.2.2.2.2.2.2.1, y3.1.1), y3.2.1.1.2.1, y3.2.1.1.2.2.1, y3.2.1.1.2.2.2.1, y3.2.1.1.2.2.2.2.1, y3.2.1.1.2.2.2.2.2.1, y3.2.1.1.2.2.2.2.2.2.1, y3.2.1.1.2.2.2.2.2.2.2.1, y3.2.1.1.2.2.2.2.2.2.2.2.1, y3.2.1.1.2.2.2.2.2.2.2.2.2.2.1, y3.2.1.1.2.2.2.2.2.2.2.2.2.2.2.1, y3.2.1.1.2.2.2.2.2.2.2.2.2.2.2.2.2.2.1, y3.2.1.1.2.2.2.2.2.2.2.2.2.2.2.2.2.2.2.1))
      else
        some (Sum.inl ((y1.2.1.1.1, y2.2.1.1.2.2.1, y2.2.1.1.2.2.2.2.2.1, empty, 2), all, watch, y2.2.1.1.1, depth, why, y2.2.1.1.2.1, hot, warm, y2.2.1.1.2.2.2.1, y2.2.1.1.2.2.2.2.1, proof, y0.2.1.1.2.1))) fun y3 =>
    bif y3.1.2.2.2.2 == 1 then
      iterO (X := Int × (Int × Int × Int × Bool × Int) × List Bool) (fun y4 =>
        bif decide (y4.1 ≤ y4.2.1.1) then
          gd (0 ≤ y4.1) <|
          gd (y4.1 < nI y3.2.2.2.1.length) <|
          gd ((y4.2.2.length + [getI y3.2.2.2.1 y4.1 == 1].length) * 1 ≤ lim) <|
          gd (y4.2.2.length + [getI y3.2.2.2.1 y4.1 == 1].length ≤ lim) <|
          gd (inK IntKind.i64 (y4.1 + 1)) <|
          some (Sum.inl (y4.1 + 1, (y4.2.1.1, y4.2.1.2.1, y4.2.1.2.2.1, y4.2.1.2.2.2.1, y4.2.1.2.2.2.2), y4.2.2 ++ [getI y3.2.2.2.1 y4.1 == 1]))
        else
          bindO (back 0 y3.2.2.2.1 y3.2.2.2.2.2.2.1 y4.2.1.2.1 y3.2.2.2.2.2.2.2.2.2.1 y3.2.2.2.2.2.2.2.2.2.2.1 y4.2.1.2.2.1) fun y5 =>
          some (Sum.inr ((y4.2.1.2.2.2.2, ()), ((y4.2.1.1, y3.2.1, y3.2.2.1, y5.2.1.1.1, y3.2.2.2.2.1, y3.2.2.2.2.2.1, y5.2.1.1.2.1, y3.2.2.2.2.2.2.2.1, y3.2.2.2.2.2.2.2.2.1, y5.2.1.1.2.2.1, y5.2.1.1.2.2.2.1, y5.2.1.1.2.2.2.2.1, y5.2.1.1.2.2.2.2.2.1, y4.2.1.2.2.2.1, y3.2.2.2.2.2.2.2.2.2.2.2.1, y4.2.1.2.2.2.2, y3.2.2.2.2.2.2.2.2.2.2.2.2, y4.2.2, ()), ()), ()))) (nn) (1, (y3.1.1, y3.1.2.1, y3.1.2.2.1, y3.1.2.2.2.1, y3.1.2.2.2.2), y0.2.1.1.2.2.1)
    else
      bif y3.1.2.2.2.2 == 2 then
        iterO (X := Int × List Int) (fun y4 =>
          bif decide (y4.1 < nI assume.length) then
            gd (0 ≤ y4.1) <|
            gd (y4.1 < nI assume.length) <|
            bindO (Contains_ y3.2.2.2.2.2.2.2.2.2.2.2.2 (getI assume y4.1)) fun y5 =>
            bif y5.1.1 then
              bindO (Contains_ y4.2 (getI assume y4.1)) fun y6 =>
              bif bif true then !y6.1.1 else false then
                gd ((y4.2.length + [getI assume y4.1].length) * 8 ≤ lim) <|
                gd (y4.2.length + [getI assume y4.1].length ≤ lim) <|
                gd (inK IntKind.i64 (y4.1 + 1)) <|
                some (Sum.inl (y4.1 + 1, y4.2 ++ [getI assume y4.1]))
              else
                gd (inK IntKind.i64 (y4.1 + 1)) <|
                some (Sum.inl (y4.1 + 1, y4.2))
            else
              gd (inK IntKind.i64 (y4.1 + 1)) <|
              some (Sum.inl (y4.1 + 1, y4.2))
          else
            bindO (back 0 y3.2.2.2.1 y3.2.2.2.2.2.2.1 y3.1.2.1 y3.2.2.2.2.2.2.2.2.2.1 y3.2.2.2.2.2.2.2.2.2.2.1 y3.1.2.2.1) fun y5 =>
            some (Sum.inr ((y3.1.2.2.2.2, ()), ((y3.1.1, y3.2.1, y3.2.2.1, y5.2.1.1.1, y3.2.2.2.2.1, y3.2.2.2.2.2.1, y5.2.1.1.2.1, y3.2.2.2.2.2.2.2.1, y3.2.2.2.2.2.2.2.2.1, y5.2.1.1.2.2.1, y5.2.1.1.2.2.2.1, y5.2.1.1.2.2.2.2.1, y5.2.1.1.2.2.2.2.2.1, y3.1.2.2.2.1, y3.2.2.2.2.2.2.2.2.2.2.2.1, y3.1.2.2.2.2, y4.2, y0.2.1.1.2.2.1, ()), ()), ()))) (nn) (0, [])
      else
        bindO (back 0 y3.2.2.2.1 y3.2.2.2.2.2.2.1 y3.1.2.1 y3.2.2.2.2.2.2.2.2.2.1 y3.2.2.2.2.2.2.2.2.2.2.1 y3.1.2.2.1) fun y4 =>
        some ((y3.1.2.2.2.2, ()), ((y3.1.1, y3.2.1, y3.2.2.1, y4.2.1.1.1, y3.2.2.2.2.1, y3.2.2.2.2.2.1, y4.2.1.1.2.1, y3.2.2.2.2.2.2.2.1, y3.2.2.2.2.2.2.2.2.1, y4.2.1.1.2.2.1, y4.2.1.1.2.2.2.1, y4.2.1.1.2.2.2.2.1, y4.2.1.1.2.2.2.2.2.1, y3.1.2.2.2.1, y3.2.2.2.2.2.2.2.2.2.2.2.1, y3.1.2.2.2.2, y3.2.2.2.2.2.2.2.2.2.2.2.2, y0.2.1.1.2.2.1, ()), ()), ())

def Ask (assume : List Int) (fuel : Int) (vars : Int) (all : List (List Int)) (watch : List (List Int)) (is : List Int) (depth : List Int) (why : List Int) (old : List Int) (hot : List Int) (warm : List Int) (cold : Int) (row : List Int) (begin : List Int) (done : Int) (empty : Bool) (proof : List (List Int)) (answer : Int) (core : List Int) (model : List Bool) : Option ((Int × Unit) × ((Int × List (List Int) × List (List Int) × List Int × List Int × List Int × List Int × List Int × List Int × Int × List Int × List Int × Int × Bool × List (List Int) × Int × List Int × List Bool × Unit) × Unit) × Unit) := AskF fuelN assume fuel vars all watch is depth why old hot warm cold row begin done empty proof answer core model

end GoSx
end
section
/- Models of functions: what they compute, if all goes well: SatE. -/
namespace GoSx
open Go
def rOf (x : Int) : Option ((Int × Unit) × Unit × Unit) :=
  bif decide (x < 0) then
    bif decide (IntKind.i64.wrap (0 - x) < 0) then
      some ((0, ()), (), ())
    else
      some ((IntKind.i64.wrap (0 - x), ()), (), ())
  else
    bif decide (x < 0) then
      some ((0, ()), (), ())
    else
      some ((x, ()), (), ())

def rHasF (nn : Nat)  (l : List Int) (x : Int) : Option ((Bool × Unit) × Unit × Unit) :=
  iterO (X := Int) (fun y0 =>
    bif decide (y0 < nI l.length) then
      gd (0 ≤ y0) <|
      gd (y0 < nI l.length) <|
      bif getI l y0 == x then
        some (Sum.inr ((true, ()), (), ()))
      else
        gd (inK IntKind.i64 (y0 + 1)) <|
        some (Sum.inl (y0 + 1))
    else
      some (Sum.inr ((false, ()), (), ()))) (nn) 0

def rHas (l : List Int) (x : Int) : Option ((Bool × Unit) × Unit × Unit) := rHasF fuelN l x

def rRightF (nn : Nat)  (l : List (List Int)) (vars : Int) : Option ((Bool × Unit) × Unit × Unit) :=
  bif decide (vars < 0) then
    some ((false, ()), (), ())
  else
    bif bif false then true else decide (vars > 1048576) then
      some ((false, ()), (), ())
    else
      iterO (X := Int) (fun y0 =>
        bif decide (y0 < nI l.length) then
          iterO (X := Int) (fun y1 =>
            gd (0 ≤ y0) <|
            gd (y0 < nI l.length) <|
            bif decide (y1 < nI (List.length (getL l y0))) then
              gd (0 ≤ y0) <|
              gd (y0 < nI l.length) <|
              gd (0 ≤ y1) <|
              gd (y1 < nI (List.length (getL l y0))) <|
              bindO (rOf (getI (getL l y0) y1)) fun y2 =>
              bif decide (y2.1.1 < 1) then
                some (Sum.inr (Sum.inr ((false, ()), (), ())))
              else
                bif bif false then true else decide (y2.1.1 > vars) then
                  some (Sum.inr (Sum.inr ((false, ()), (), ())))
                else
                  gd (inK IntKind.i64 (y1 + 1)) <|
                  some (Sum.inl (y1 + 1))
            else
              gd (inK IntKind.i64 (y0 + 1)) <|
              some (Sum.inr (Sum.inl (y0 + 1)))) (nn) 0
        else
          some (Sum.inr ((true, ()), (), ()))) (nn) 0

def rRight (l : List (List Int)) (vars : Int) : Option ((Bool × Unit) × Unit × Unit) := rRightF fuelN l vars

def rTrue (model : List Bool) (x : Int) : Option ((Bool × Unit) × Unit × Unit) :=
  bindO (rOf x) fun y0 =>
  bif decide (y0.1.1 ≥ 1) then
    bif bif true then decide (y0.1.1 ≤ nI model.length) else false then
      gd (inK IntKind.i64 (y0.1.1 - 1)) <|
      gd (0 ≤ y0.1.1 - 1) <|
      gd (y0.1.1 - 1 < nI model.length) <|
      some ((bif true then getB model (y0.1.1 - 1) == decide (x > 0) else false, ()), (), ())
    else
      some ((false, ()), (), ())
  else
    some ((false, ()), (), ())

def rMetF (nn : Nat)  (l : List (List Int)) (model : List Bool) : Option ((Bool × Unit) × Unit × Unit) :=
  iterO (X := Int) (fun y0 =>
    bif decide (y0 < nI l.length) then
      iterO (X := Bool × Int) (fun y1 =>
        gd (0 ≤ y0) <|
        gd (y0 < nI l.length) <|
        bif decide (y1.2 < nI (List.length (getL l y0))) then
          bif y1.1 then
            gd (inK IntKind.i64 (y1.2 + 1)) <|
            some (Sum.inl (true, y1.2 + 1))
          else
            gd (0 ≤ y0) <|
            gd (y0 < nI l.length) <|
            gd (0 ≤ y1.2) <|
            gd (y1.2 < nI (List.length (getL l y0))) <|
            bindO (rTrue model (getI (getL l y0) y1.2)) fun y2 =>
            gd (inK IntKind.i64 (y1.2 + 1)) <|
            some (Sum.inl (bif false then true else y2.1.1, y1.2 + 1))
        else
          bif !y1.1 then
            some (Sum.inr (Sum.inr ((false, ()), (), ())))
          else
            gd (inK IntKind.i64 (y0 + 1)) <|
            some (Sum.inr (Sum.inl (y0 + 1)))) (nn) (false, 0)
    else
      some (Sum.inr ((true, ()), (), ()))) (nn) 0

def rMet (l : List (List Int)) (model : List Bool) : Option ((Bool × Unit) × Unit × Unit) := rMetF fuelN l model

def rnextF (nn : Nat)  (c : List Int) (taken : List Int) : Option ((Int × Bool × Unit) × Unit × Unit) :=
  iterO (X := Int × Int) (fun y0 =>
    bif decide (y0.1 < nI c.length) then
      gd (0 ≤ y0.1) <|
      gd (y0.1 < nI c.length) <|
      bindO (rHas taken (getI c y0.1)) fun y1 =>
      bif y1.1.1 then
        some (Sum.inr ((0, true, ()), (), ()))
      else
        gd (0 ≤ y0.1) <|
        gd (y0.1 < nI c.length) <|
        gd (inK IntKind.i64 (0 - getI c y0.1)) <|
        bindO (rHas taken (0 - getI c y0.1)) fun y2 =>
        bif y2.1.1 then
          gd (inK IntKind.i64 (y0.1 + 1)) <|
          some (Sum.inl (y0.1 + 1, y0.2))
        else
          gd (0 ≤ y0.1) <|
          gd (y0.1 < nI c.length) <|
          bif bif false then true else getI c y0.1 == y0.2 then
            gd (inK IntKind.i64 (y0.1 + 1)) <|
            some (Sum.inl (y0.1 + 1, y0.2))
          else
            bif y0.2 != 0 then
              some (Sum.inr ((0, true, ()), (), ()))
            else
              gd (0 ≤ y0.1) <|
              gd (y0.1 < nI c.length) <|
              gd (inK IntKind.i64 (y0.1 + 1)) <|
              some (Sum.inl (y0.1 + 1, getI c y0.1))
    else
      some (Sum.inr ((y0.2, y0.2 != 0, ()), (), ()))) (nn) (0, 0)

def rnext (c : List Int) (taken : List Int) : Option ((Int × Bool × Unit) × Unit × Unit) := rnextF fuelN c taken

def rNormF (nn : Nat)  (c : List Int) : Option ((List Int × Bool × Unit) × Unit × Unit) :=
  iterO (X := Int × List Int) (fun y0 =>
    bif decide (y0.1 < nI c.length) then
      gd (0 ≤ y0.1) <|
      gd (y0.1 < nI c.length) <|
      bindO (rOf (getI c y0.1)) fun y1 =>
      bif y1.1.1 == 0 then
        some (Sum.inr (([], false, ()), (), ()))
      else
        gd (0 ≤ y0.1) <|
        gd (y0.1 < nI c.length) <|
        gd (inK IntKind.i64 (0 - getI c y0.1)) <|
        bindO (rHas c (0 - getI c y0.1)) fun y2 =>
        bif bif false then true else y2.1.1 then
          some (Sum.inr (([], false, ()), (), ()))
        else
          gd (0 ≤ y0.1) <|
          gd (y0.1 < nI c.length) <|
          bindO (rHas y0.2 (getI c y0.1)) fun y3 =>
          bif y3.1.1 then
            gd (inK IntKind.i64 (y0.1 + 1)) <|
            some (Sum.inl (y0.1 + 1, y0.2))
          else
            iterO (X := Int) (fun y4 =>
              bif decide (y4 < nI y0.2.length) then
                gd (0 ≤ y4) <|
                gd (y4 < nI y0.2.length) <|
                bindO (rOf (getI y0.2 y4)) fun y5 =>
                gd (0 ≤ y0.1) <|
                gd (y0.1 < nI c.length) <|
                bindO (rOf (getI c y0.1)) fun y6 =>
                bif bif true then decide (y5.1.1 < y6.1.1) else false then
                  gd (inK IntKind.i64 (y4 + 1)) <|
                  some (Sum.inl (y4 + 1))
                else
                  gd (0 ≤ y4) <|
                  gd (y4 ≤ nI y0.2.length) <|
                  gd ((0 + (List.drop 0 (List.take y4.toNat y0.2)).length) * 8 ≤ lim) <|
                  gd (0 + (List.drop 0 (List.take y4.toNat y0.2)).length ≤ lim) <|
                  gd (0 ≤ y0.1) <|
                  gd (y0.1 < nI c.length) <|
                  gd ((([] ++ List.drop 0 (List.take y4.toNat y0.2)).length + [getI c y0.1].length) * 8 ≤ lim) <|
                  gd (([] ++ List.drop 0 (List.take y4.toNat y0.2)).length + [getI c y0.1].length ≤ lim) <|
                  gd (0 ≤ y4) <|
                  gd (y4 ≤ nI y0.2.length) <|
                  gd (nI y0.2.length ≤ nI y0.2.length) <|
                  gd ((([] ++ List.drop 0 (List.take y4.toNat y0.2) ++ [getI c y0.1]).length + (List.drop y4.toNat (List.take (nI y0.2.length).toNat y0.2)).length) * 8 ≤ lim) <|
                  gd (([] ++ List.drop 0 (List.take y4.toNat y0.2) ++ [getI c y0.1]).length + (List.drop y4.toNat (List.take (nI y0.2.length).toNat y0.2)).length ≤ lim) <|
                  gd (inK IntKind.i64 (y0.1 + 1)) <|
                  some (Sum.inr (Sum.inl (y0.1 + 1, [] ++ List.drop 0 (List.take y4.toNat y0.2) ++ [getI c y0.1] ++ List.drop y4.toNat (List.take (nI y0.2.length).toNat y0.2))))
              else
                gd (0 ≤ y4) <|
                gd (y4 ≤ nI y0.2.length) <|
                gd ((0 + (List.drop 0 (List.take y4.toNat y0.2)).length) * 8 ≤ lim) <|
                gd (0 + (List.drop 0 (List.take y4.toNat y0.2)).length ≤ lim) <|
                gd (0 ≤ y0.1) <|
                gd (y0.1 < nI c.length) <|
                gd ((([] ++ List.drop 0 (List.take y4.toNat y0.2)).length + [getI c y0.1].length) * 8 ≤ lim) <|
                gd (([] ++ List.drop 0 (List.take y4.toNat y0.2)).length + [getI c y0.1].length ≤ lim) <|
                gd (0 ≤ y4) <|
                gd (y4 ≤ nI y0.2.length) <|
                gd (nI y0.2.length ≤ nI y0.2.length) <|
                gd ((([] ++ List.drop 0 (List.take y4.toNat y0.2) ++ [getI c y0.1]).length + (List.drop y4.toNat (List.take (nI y0.2.length).toNat y0.2)).length) * 8 ≤ lim) <|
                gd (([] ++ List.drop 0 (List.take y4.toNat y0.2) ++ [getI c y0.1]).length + (List.drop y4.toNat (List.take (nI y0.2.length).toNat y0.2)).length ≤ lim) <|
                gd (inK IntKind.i64 (y0.1 + 1)) <|
                some (Sum.inr (Sum.inl (y0.1 + 1, [] ++ List.drop 0 (List.take y4.toNat y0.2) ++ [getI c y0.1] ++ List.drop y4.toNat (List.take (nI y0.2.length).toNat y0.2))))) (nn) 0
    else
      some (Sum.inr ((y0.2, true, ()), (), ()))) (nn) (0, [])

def rNorm (c : List Int) : Option ((List Int × Bool × Unit) × Unit × Unit) := rNormF fuelN c

def rUnitF (nn : Nat)  (l : List (List Int)) (vars : Int) (known : List Int) : Option ((List Int × Bool × Unit) × Unit × Unit) :=
  bindO (rNorm known) fun y0 =>
  bif !y0.1.2.1 then
    some (([], false, ()), (), ())
  else
    bindO (rRight l vars) fun y1 =>
    bif bif false then true else !y1.1.1 then
      some (([], false, ()), (), ())
    else
      bindO (rRight [known] vars) fun y2 =>
      bif bif false then true else !y2.1.1 then
        some (([], false, ()), (), ())
      else
        iterO (X := Int × List Int × List Int) (fun y3 =>
          bif decide (y3.1 < nI l.length) then
            gd (0 ≤ y3.1) <|
            gd (y3.1 < nI l.length) <|
            bindO (rnext (getL l y3.1) y3.2.1) fun y4 =>
            bif !y4.1.2.1 then
              some (Sum.inr (([], false, ()), (), ()))
            else
              bif y4.1.1 != 0 then
                gd ((y3.2.1.length + [y4.1.1].length) * 8 ≤ lim) <|
                gd (y3.2.1.length + [y4.1.1].length ≤ lim) <|
                some (Sum.inl (-1 + 1, y3.2.1 ++ [y4.1.1], y3.2.1 ++ [y4.1.1]))
              else
                gd (inK IntKind.i64 (y3.1 + 1)) <|
                some (Sum.inl (y3.1 + 1, y3.2.1, y3.2.1))
          else
            bindO (rNorm y3.2.1) fun y4 =>
            some (Sum.inr ((y4.1.1, true, ()), (), ()))) (nn) (0, y0.1.1, y0.1.1)

def rUnit (l : List (List Int)) (vars : Int) (known : List Int) : Option ((List Int × Bool × Unit) × Unit × Unit) := rUnitF fuelN l vars known

def rSameF (nn : Nat)  (a : List Int) (b : List Int) : Option ((Bool × Unit) × Unit × Unit) :=
  bif nI a.length != nI b.length then
    some ((false, ()), (), ())
  else
    iterO (X := Int) (fun y0 =>
      bif decide (y0 < nI a.length) then
        gd (0 ≤ y0) <|
        gd (y0 < nI a.length) <|
        gd (0 ≤ y0) <|
        gd (y0 < nI b.length) <|
        bif getI a y0 != getI b y0 then
          some (Sum.inr ((false, ()), (), ()))
        else
          gd (inK IntKind.i64 (y0 + 1)) <|
          some (Sum.inl (y0 + 1))
      else
        some (Sum.inr ((true, ()), (), ()))) (nn) 0

def rSame (a : List Int) (b : List Int) : Option ((Bool × Unit) × Unit × Unit) := rSameF fuelN a b

def rCut (l : List Int) (most : Int) : Option ((List Int × Unit) × Unit × Unit) :=
  gd (0 ≤ min2 (nI l.length) most) <|
  gd (min2 (nI l.length) most ≤ nI l.length) <|
  gd ((0 + (List.drop 0 (List.take (min2 (nI l.length) most).toNat l)).length) * 8 ≤ lim) <|
  gd (0 + (List.drop 0 (List.take (min2 (nI l.length) most).toNat l)).length ≤ lim) <|
  some (([] ++ List.drop 0 (List.take (min2 (nI l.length) most).toNat l), ()), (), ())

def rFewF (nn : Nat)  (l : List (List Int)) : Option ((List (List Int) × Unit) × Unit × Unit) :=
  iterO (X := Int × List (List Int) × List (List Int)) (fun y0 =>
    bif decide (y0.1 < nI l.length) then
      bif bif true then decide (y0.1 < 40) else false then
        gd (0 ≤ y0.1) <|
        gd (y0.1 < nI l.length) <|
        bindO (rCut (getL l y0.1) 8) fun y1 =>
        gd ((y0.2.1.length + [y1.1.1].length) * 24 ≤ lim) <|
        gd (y0.2.1.length + [y1.1.1].length ≤ lim) <|
        gd (inK IntKind.i64 (y0.1 + 1)) <|
        some (Sum.inl (y0.1 + 1, y0.2.1 ++ [y1.1.1], y0.2.1 ++ [y1.1.1]))
      else
        some (Sum.inr ((y0.2.1, ()), (), ()))
    else
      some (Sum.inr ((y0.2.1, ()), (), ()))) (nn) (0, [], [])

def rFew (l : List (List Int)) : Option ((List (List Int) × Unit) × Unit × Unit) := rFewF fuelN l

def rModelF (nn : Nat)  (n : Int) (vars : Int) : Option ((List Bool × Unit) × Unit × Unit) :=
  iterO (X := (Int × Int) × List Bool × List Bool) (fun y0 =>
    bif decide (y0.1.2 < vars) then
      gd ((y0.2.1.length + [y0.1.1.tmod 2 == 1].length) * 1 ≤ lim) <|
      gd (y0.2.1.length + [y0.1.1.tmod 2 == 1].length ≤ lim) <|
      gd (inK IntKind.i64 (y0.1.2 + 1)) <|
      some (Sum.inl ((IntKind.i64.wrap (y0.1.1.tdiv 2), y0.1.2 + 1), y0.2.1 ++ [y0.1.1.tmod 2 == 1], y0.2.1 ++ [y0.1.1.tmod 2 == 1]))
    else
      some (Sum.inr ((y0.2.1, ()), (), ()))) (nn) ((n, 0), [], [])

def rModel (n : Int) (vars : Int) : Option ((List Bool × Unit) × Unit × Unit) := rModelF fuelN n vars

def rSmallF (nn : Nat)  (c : List Int) : Option ((List Int × Unit) × Unit × Unit) :=
  iterO (X := Int × List Int × List Int) (fun y0 =>
    bif decide (y0.1 < nI c.length) then
      gd (0 ≤ y0.1) <|
      gd (y0.1 < nI c.length) <|
      bindO (rOf (getI c y0.1)) fun y1 =>
      gd (inK IntKind.i64 (1 + y1.1.1.tmod 8)) <|
      gd (0 ≤ y0.1) <|
      gd (y0.1 < nI c.length) <|
      bif decide (getI c y0.1 < 0) then
        gd (inK IntKind.i64 (0 - (1 + y1.1.1.tmod 8))) <|
        bif y1.1.1 != 0 then
          gd ((y0.2.1.length + [0 - (1 + y1.1.1.tmod 8)].length) * 8 ≤ lim) <|
          gd (y0.2.1.length + [0 - (1 + y1.1.1.tmod 8)].length ≤ lim) <|
          gd (inK IntKind.i64 (y0.1 + 1)) <|
          some (Sum.inl (y0.1 + 1, y0.2.1 ++ [0 - (1 + y1.1.1.tmod 8)], y0.2.1 ++ [0 - (1 + y1.1.1.tmod 8)]))
        else
          gd (inK IntKind.i64 (y0.1 + 1)) <|
          some (Sum.inl (y0.1 + 1, y0.2.1, y0.2.1))
      else
        bif y1.1.1 != 0 then
          gd ((y0.2.1.length + [1 + y1.1.1.tmod 8].length) * 8 ≤ lim) <|
          gd (y0.2.1.length + [1 + y1.1.1.tmod 8].length ≤ lim) <|
          gd (inK IntKind.i64 (y0.1 + 1)) <|
          some (Sum.inl (y0.1 + 1, y0.2.1 ++ [1 + y1.1.1.tmod 8], y0.2.1 ++ [1 + y1.1.1.tmod 8]))
        else
          gd (inK IntKind.i64 (y0.1 + 1)) <|
          some (Sum.inl (y0.1 + 1, y0.2.1, y0.2.1))
    else
      some (Sum.inr ((y0.2.1, ()), (), ()))) (nn) (0, [], [])

def rSmall (c : List Int) : Option ((List Int × Unit) × Unit × Unit) := rSmallF fuelN c

def rSmallsF (nn : Nat)  (l : List (List Int)) : Option ((List (List Int) × Unit) × Unit × Unit) :=
  bindO (rFew l) fun y0 =>
  iterO (X := Int × List (List Int) × List (List Int)) (fun y1 =>
    bif decide (y1.1 < nI y0.1.1.length) then
      gd (0 ≤ y1.1) <|
      gd (y1.1 < nI y0.1.1.length) <|
      bindO (rSmall (getL y0.1.1 y1.1)) fun y2 =>
      gd ((y1.2.1.length + [y2.1.1].length) * 24 ≤ lim) <|
      gd (y1.2.1.length + [y2.1.1].length ≤ lim) <|
      gd (inK IntKind.i64 (y1.1 + 1)) <|
      some (Sum.inl (y1.1 + 1, y1.2.1 ++ [y2.1.1], y1.2.1 ++ [y2.1.1]))
    else
      some (Sum.inr ((y1.2.1, ()), (), ()))) (nn) (0, [], [])

def rSmalls (l : List (List Int)) : Option ((List (List Int) × Unit) × Unit × Unit) := rSmallsF fuelN l

def rNew (n : Int) : Option (Unit × Unit × (Int × List (List Int) × Unit) × Unit) :=
  bif decide (n < 0) then
    some ((), (), (0, [], ()), ())
  else
    bif decide (n > 1048576) then
      some ((), (), (1048576, [], ()), ())
    else
      some ((), (), (n, [], ()), ())

def rGrow (n : Int) (vars : Int) : Option (Unit × ((Int × Unit) × Unit) × Unit) :=
  bif decide (n > vars) then
    bif bif true then decide (n ≤ 1048576) else false then
      some ((), ((n, ()), ()), ())
    else
      some ((), ((vars, ()), ()), ())
  else
    some ((), ((vars, ()), ()), ())

def rOwn (c : List Int) (vars : Int) : Option ((Bool × Unit) × ((Int × Unit) × Unit) × Unit) :=
  bindO (rRight [c] vars) fun y0 =>
  some ((y0.1.1, ()), ((vars, ()), ()), ())

def rAdd (c : List Int) (vars : Int) (L : List (List Int)) : Option (Unit × ((Int × List (List Int) × Unit) × Unit) × Unit) :=
  bindO (rOwn c vars) fun y0 =>
  bif y0.1.1 then
    gd ((0 + L.length) * 24 ≤ lim) <|
    gd (0 + L.length ≤ lim) <|
    gd ((([] ++ L).length + [c].length) * 24 ≤ lim) <|
    gd (([] ++ L).length + [c].length ≤ lim) <|
    some ((), ((y0.2.1.1.1, [] ++ L ++ [c], ()), ()), ())
  else
    some ((), ((y0.2.1.1.1, L, ()), ()), ())

def runitsF (nn : Nat)  (l : List Int) : Option ((List (List Int) × Unit) × Unit × Unit) :=
  iterO (X := Int × List (List Int) × List (List Int)) (fun y0 =>
    bif decide (y0.1 < nI l.length) then
      gd (0 ≤ y0.1) <|
      gd (y0.1 < nI l.length) <|
      gd ((y0.2.1.length + [[getI l y0.1]].length) * 24 ≤ lim) <|
      gd (y0.2.1.length + [[getI l y0.1]].length ≤ lim) <|
      gd (inK IntKind.i64 (y0.1 + 1)) <|
      some (Sum.inl (y0.1 + 1, y0.2.1 ++ [[getI l y0.1]], y0.2.1 ++ [[getI l y0.1]]))
    else
      some (Sum.inr ((y0.2.1, ()), (), ()))) (nn) (0, [], [])

def runits (l : List Int) : Option ((List (List Int) × Unit) × Unit × Unit) := runitsF fuelN l

def rCanF (nn : Nat)  (l : List (List Int)) (vars : Int) (assume : List Int) : Option ((Bool × Unit) × Unit × Unit) :=
  gd ((0 + l.length) * 24 ≤ lim) <|
  gd (0 + l.length ≤ lim) <|
  bindO (runits assume) fun y0 =>
  gd ((([] ++ l).length + y0.1.1.length) * 24 ≤ lim) <|
  gd (([] ++ l).length + y0.1.1.length ≤ lim) <|
  iterO (X := Int × Int) (fun y1 =>
    bif decide (y1.2 < vars) then
      gd (inK IntKind.i64 (y1.1 * 2)) <|
      gd (inK IntKind.i64 (y1.2 + 1)) <|
      some (Sum.inl (y1.1 * 2, y1.2 + 1))
    else
      iterO (X := Int) (fun y2 =>
        bif decide (y2 < y1.1) then
          bindO (rModel y2 vars) fun y3 =>
          bindO (rMet ([] ++ l ++ y0.1.1) y3.1.1) fun y4 =>
          bif y4.1.1 then
            some (Sum.inr (Sum.inr ((true, ()), (), ())))
          else
            gd (inK IntKind.i64 (y2 + 1)) <|
            some (Sum.inl (y2 + 1))
        else
          some (Sum.inr (Sum.inr ((false, ()), (), ())))) (nn) 0) (nn) (1, 0)

def rCan (l : List (List Int)) (vars : Int) (assume : List Int) : Option ((Bool × Unit) × Unit × Unit) := rCanF fuelN l vars assume

def rAsk (assume : List Int) (vars : Int) (L : List (List Int)) : Option ((Int × Unit) × ((Int × List (List Int) × Unit) × Unit) × Unit) :=
  bindO (rOwn assume vars) fun y0 =>
  bif !y0.1.1 then
    some ((0, ()), ((y0.2.1.1.1, L, ()), ()), ())
  else
    bindO (rCan L y0.2.1.1.1 assume) fun y1 =>
    bif y1.1.1 then
      some ((1, ()), ((y0.2.1.1.1, L, ()), ()), ())
    else
      some ((2, ()), ((y0.2.1.1.1, L, ()), ()), ())

def rFollowsF (nn : Nat)  (l : List (List Int)) (vars : Int) (c : List Int) : Option ((Bool × Unit) × Unit × Unit) :=
  iterO (X := Int × List Int × List Int) (fun y0 =>
    bif decide (y0.1 < nI c.length) then
      gd (0 ≤ y0.1) <|
      gd (y0.1 < nI c.length) <|
      gd (inK IntKind.i64 (0 - getI c y0.1)) <|
      gd ((y0.2.1.length + [0 - getI c y0.1].length) * 8 ≤ lim) <|
      gd (y0.2.1.length + [0 - getI c y0.1].length ≤ lim) <|
      gd (inK IntKind.i64 (y0.1 + 1)) <|
      some (Sum.inl (y0.1 + 1, y0.2.1 ++ [0 - getI c y0.1], y0.2.1 ++ [0 - getI c y0.1]))
    else
      bindO (rUnit l vars y0.2.1) fun y1 =>
      bindO (rRight l vars) fun y2 =>
      bif y2.1.1 then
        bindO (rRight [c] vars) fun y3 =>
        bif bif true then y3.1.1 else false then
          some (Sum.inr ((bif true then !y1.1.2.1 else false, ()), (), ()))
        else
          some (Sum.inr ((false, ()), (), ()))
      else
        some (Sum.inr ((false, ()), (), ()))) (nn) (0, [], [])

def rFollows (l : List (List Int)) (vars : Int) (c : List Int) : Option ((Bool × Unit) × Unit × Unit) := rFollowsF fuelN l vars c

def rRefutesF (nn : Nat)  (l : List (List Int)) (vars : Int) (proof : List (List Int)) (assume : List Int) : Option ((Bool × Unit) × Unit × Unit) :=
  gd ((0 + l.length) * 24 ≤ lim) <|
  gd (0 + l.length ≤ lim) <|
  iterO (X := Int × List (List Int) × List (List Int)) (fun y0 =>
    bif decide (y0.1 < nI proof.length) then
      gd (0 ≤ y0.1) <|
      gd (y0.1 < nI proof.length) <|
      bindO (rFollows y0.2.1 vars (getL proof y0.1)) fun y1 =>
      bif !y1.1.1 then
        some (Sum.inr ((false, ()), (), ()))
      else
        gd (0 ≤ y0.1) <|
        gd (y0.1 < nI proof.length) <|
        gd ((y0.2.1.length + [getL proof y0.1].length) * 24 ≤ lim) <|
        gd (y0.2.1.length + [getL proof y0.1].length ≤ lim) <|
        gd (inK IntKind.i64 (y0.1 + 1)) <|
        some (Sum.inl (y0.1 + 1, y0.2.1 ++ [getL proof y0.1], y0.2.1 ++ [getL proof y0.1]))
    else
      bindO (rUnit y0.2.1 vars assume) fun y1 =>
      bindO (rRight y0.2.1 vars) fun y2 =>
      bif y2.1.1 then
        bindO (rRight [assume] vars) fun y3 =>
        bif bif true then y3.1.1 else false then
          some (Sum.inr ((bif true then !y1.1.2.1 else false, ()), (), ()))
        else
          some (Sum.inr ((false, ()), (), ()))
      else
        some (Sum.inr ((false, ()), (), ()))) (nn) (0, [] ++ l, [] ++ l)

def rRefutes (l : List (List Int)) (vars : Int) (proof : List (List Int)) (assume : List Int) : Option ((Bool × Unit) × Unit × Unit) := rRefutesF fuelN l vars proof assume

def rFuelF (nn : Nat)  (vars : Int) : Option ((Int × Unit) × Unit × Unit) :=
  iterO (X := Int × Int) (fun y0 =>
    bif decide (y0.2 < vars) then
      gd (inK IntKind.i64 (y0.1 * 3)) <|
      gd (inK IntKind.i64 (y0.2 + 1)) <|
      some (Sum.inl (y0.1 * 3, y0.2 + 1))
    else
      some (Sum.inr ((y0.1, ()), (), ()))) (nn) (1, 0)

def rFuel (vars : Int) : Option ((Int × Unit) × Unit × Unit) := rFuelF fuelN vars

def rSameRF (nn : Nat)  (a : List (List Int)) (b : List (List Int)) : Option ((Bool × Unit) × Unit × Unit) :=
  bif nI a.length != nI b.length then
    some ((false, ()), (), ())
  else
    iterO (X := Int) (fun y0 =>
      bif decide (y0 < nI a.length) then
        gd (0 ≤ y0) <|
        gd (y0 < nI a.length) <|
        gd (0 ≤ y0) <|
        gd (y0 < nI b.length) <|
        bindO (rSame (getL a y0) (getL b y0)) fun y1 =>
        bif !y1.1.1 then
          some (Sum.inr ((false, ()), (), ()))
        else
          gd (inK IntKind.i64 (y0 + 1)) <|
          some (Sum.inl (y0 + 1))
      else
        some (Sum.inr ((true, ()), (), ()))) (nn) 0

def rSameR (a : List (List Int)) (b : List (List Int)) : Option ((Bool × Unit) × Unit × Unit) := rSameRF fuelN a b

def rSameBitsF (nn : Nat)  (a : List Bool) (b : List Bool) : Option ((Bool × Unit) × Unit × Unit) :=
  bif nI a.length != nI b.length then
    some ((false, ()), (), ())
  else
    iterO (X := Int) (fun y0 =>
      bif decide (y0 < nI a.length) then
        gd (0 ≤ y0) <|
        gd (y0 < nI a.length) <|
        gd (0 ≤ y0) <|
        gd (y0 < nI b.length) <|
        bif !getB a y0 == getB b y0 then
          some (Sum.inr ((false, ()), (), ()))
        else
          gd (inK IntKind.i64 (y0 + 1)) <|
          some (Sum.inl (y0 + 1))
      else
        some (Sum.inr ((true, ()), (), ()))) (nn) 0

def rSameBits (a : List Bool) (b : List Bool) : Option ((Bool × Unit) × Unit × Unit) := rSameBitsF fuelN a b

end GoSx
end
section
/- Models of functions: what they compute, if all goes well: SatF. -/
namespace GoSx
open Go
def unitsF (nn : Nat)  (l : List Int) : Option ((List (List Int) × Unit) × Unit × Unit) :=
  iterO (X := Int × List (List Int) × List (List Int)) (fun y0 =>
    bif decide (y0.1 < nI l.length) then
      gd (0 ≤ y0.1) <|
      gd (y0.1 < nI l.length) <|
      gd ((y0.2.1.length + [[getI l y0.1]].length) * 24 ≤ lim) <|
      gd (y0.2.1.length + [[getI l y0.1]].length ≤ lim) <|
      gd (inK IntKind.i64 (y0.1 + 1)) <|
      some (Sum.inl (y0.1 + 1, y0.2.1 ++ [[getI l y0.1]], y0.2.1 ++ [[getI l y0.1]]))
    else
      some (Sum.inr ((y0.2.1, ()), (), ()))) (nn) (0, [], [])

def units (l : List Int) : Option ((List (List Int) × Unit) × Unit × Unit) := unitsF fuelN l

def greatF (nn : Nat)  (l : List (Int × Int × List Int × Unit)) : Option ((Bool × Unit) × Unit × Unit) :=
  bif decide (nI l.length > 24) then
    some ((true, ()), (), ())
  else
    iterO (X := Int) (fun y0 =>
      bif decide (y0 < nI l.length) then
        gd (0 ≤ y0) <|
        gd (y0 < nI l.length) <|
        bif decide (nI (List.length (get actT l y0).2.2.1) > 12) then
          some (Sum.inr ((true, ()), (), ()))
        else
          gd (inK IntKind.i64 (y0 + 1)) <|
          some (Sum.inl (y0 + 1))
      else
        some (Sum.inr ((false, ()), (), ()))) (nn) 0

def great (l : List (Int × Int × List Int × Unit)) : Option ((Bool × Unit) × Unit × Unit) := greatF fuelN l

def headF (vNew : Int → Option (Unit × Unit × (Int × List (List Int) × List (List Int) × List Int × List Int × List Int × List Int × List Int × List Int × Int × List Int × List Int × Int × Bool × List (List Int) × Int × List Int × List Bool × Unit) × Unit)) (vAdd : List Int → Int → List (List Int) → List (List Int) → List Int → List Int → List Int → List Int → Int → List Int → List Int → Int → Bool → Int → List Int → List Bool → Option (Unit × ((Int × List (List Int) × List (List Int) × List Int × List Int × List Int × List Int × Int × List Int × List Int × Int × Bool × Int × List Int × List Bool × Unit) × Unit) × Unit)) (vAsk : List Int → Int → Int → List (List Int) → List (List Int) → List Int → List Int → List Int → List Int → List Int → List Int → Int → List Int → List Int → Int → Bool → List (List Int) → Int → List Int → List Bool → Option ((Int × Unit) × ((Int × List (List Int) × List (List Int) × List Int × List Int × List Int × List Int × List Int × List Int × Int × List Int × List Int × Int × Bool × List (List Int) × Int × List Int × List Bool × Unit) × Unit) × Unit)) (vCore : List Int → Option ((List Int × Unit) × ((List Int × Unit) × Unit) × Unit)) (vModel : List Bool → Option ((List Bool × Unit) × ((List Bool × Unit) × Unit) × Unit)) (vProof : List (List Int) → Int → Option ((List (List Int) × Unit) × ((List (List Int) × Int × Unit) × Unit) × Unit)) (vGrow : Int → Int → List (List Int) → List Int → List Int → List Int → List Int → List Int → Int → List Int → List Bool → Option (Unit × ((Int × List (List Int) × List Int × List Int × List Int × List Int × List Int × Int × List Int × List Bool × Unit) × Unit) × Unit)) (vrSame : List Int → List Int → Option ((Bool × Unit) × Unit × Unit)) : Option ((Bool × Unit) × Unit × Unit) :=
  bindO (vNew 2) fun y0 =>
  bindO (vAdd [1, 2] y0.2.2.1.1 y0.2.2.1.2.1 y0.2.2.1.2.2.1 y0.2.2.1.2.2.2.1 y0.2.2.1.2.2.2.2.1 y0.2.2.1.2.2.2.2.2.1 y0.2.2.1.2.2.2.2.2.2.1 y0.2.2.1.2.2.2.2.2.2.2.2.2.1 y0.2.2.1.2.2.2.2.2.2.2.2.2.2.1 y0.2.2.1.2.2.2.2.2.2.2.2.2.2.2.1 y0.2.2.1.2.2.2.2.2.2.2.2.2.2.2.2.1 y0.2.2.1.2.2.2.2.2.2.2.2.2.2.2.2.2.1 y0.2.2.1.2.2.2.2.2.2.2.2.2.2.2.2.2.2.2.1 y0.2.2.1.2.2.2.2.2.2.2.2.2.2.2.2.2.2.2.2.1 y0.2.2.1.2.2.2.2.2.2.2.2.2.2.2.2.2.2.2.2.2.1) fun y1 =>
  joinO (X := (Int × Int × Int × Bool × Int) × List (List Int) × List (List Int) × List Int × List Int × List Int × List Int × List Int × List Int × List Int × List Bool) (
    bindO (vAdd [-1, 2] y1.2.1.1.1 y1.2.1.1.2.1 y1.2.1.1.2.2.1 y1.2.1.1.2.2.2.1 y1.2.1.1.2.2.2.2.1 y1.2.1.1.2.2.2.2.2.1 y1.2.1.1.2.2.2.2.2.2.1 y1.2.1.1.2.2.2.2.2.2.2.1 y1.2.1.1.2.2.2.2.2.2.2.2.1 y1.2.1.1.2.2.2.2.2.2.2.2.2.1 y1.2.1.1.2.2.2.2.2.2.2.2.2.2.1 y1.2.1.1.2.2.2.2.2.2.2.2.2.2.2.1 y1.2.1.1.2.2.2.2.2.2.2.2.2.2.2.2.1 y1.2.1.1.2.2.2.2.2.2.2.2.2.2.2.2.2.1 y1.2.1.1.2.2.2.2.2.2.2.2.2.2.2.2.2.2.1) fun y2 =>
    some (Sum.inl ((y2.2.1.1.1, y2.2.1.1.2.2.2.2.2.2.2.1, y2.2.1.1.2.2.2.2.2.2.2.2.2.2.1, y2.2.1.1.2.2.2.2.2.2.2.2.2.2.2.1, y2.2.1.1.2.2.2.2.2.2.2.2.2.2.2.2.1), y2.2.1.1.2.1, y2.2.1.1.2.2.1, y2.2.1.1.2.2.2.1, y2.2.1.1.2.2.2.2.1, y2.2.1.1.2.2.2.2.2.1, y2.2.1.1.2.2.2.2.2.2.1, y2.2.1.1.2.2.2.2.2.2.2.2.1, y2.2.1.1.2.2.2.2.2.2.2.2.2.1, y2.2.1.1.2.2.2.2.2.2.2.2.2.2.2.2.2.1, y2.2.1.1.2.2.2.2.2.2.2.2.2.2.2.2.2.2.1))) fun y2 =>
  bindO (vAdd [3] y2.1.1 y2.2.1 y2.2.2.1 y2.2.2.2.1 y2.2.2.2.2.1 y2.2.2.2.2.2.1 y2.2.2.2.2.2.2.1 y2.1.2.1 y2.2.2.2.2.2.2.2.1 y2.2.2.2.2.2.2.2.2.1 y2.1.2.2.1 y2.1.2.2.2.1 y2.1.2.2.2.2 y2.2.2.2.2.2.2.2.2.2.1 y2.2.2.2.2.2.2.2.2.2.2) fun y3 =>
  bindO (vAsk [-2] 99 y3.2.1.1.1 y3.2.1.1.2.1 y3.2.1.1.2.2.1 y3.2.1.1.2.2.2.1 y3.2.1.1.2.2.2.2.1 y3.2.1.1.2.2.2.2.2.1 y3.2.1.1.2.2.2.2.2.2.1 y0.2.2.1.2.2.2.2.2.2.2.1 y0.2.2.1.2.2.2.2.2.2.2.2.1 y3.2.1.1.2.2.2.2.2.2.2.1 y3.2.1.1.2.2.2.2.2.2.2.2.1 y3.2.1.1.2.2.2.2.2.2.2.2.2.1 y3.2.1.1.2.2.2.2.2.2.2.2.2.2.1 y3.2.1.1.2.2.2.2.2.2.2.2.2.2.2.1 y0.2.2.1.2.2.2.2.2.2.2.2.2.2.2.2.2.2.1 y3.2.1.1.2.2.2.2.2.2.2.2.2.2.2.2.1 y3.2.1.1.2.2.2.2.2.2.2.2.2.2.2.2.2.1 y3.2.1.1.2.2.2.2.2.2.2.2.2.2.2.2.2.2.1) fun y4 =>
  joinO (X := Int × (Int × Int × Int × Bool × Int) × List Int) (
    bindO (vCore y4.2.1.1.2.2.2.2.2.2.2.2.2.2.2.2.2.2.2.2.1) fun y5 =>
    bindO (vModel y4.2.1.1.2.2.2.2.2.2.2.2.2.2.2.2.2.2.2.2.2.1) fun y6 =>
    some (Sum.inl (nI y6.1.1.length, (y4.2.1.1.1, y4.2.1.1.2.2.2.2.2.2.2.2.2.1, y4.2.1.1.2.2.2.2.2.2.2.2.2.2.2.2.1, y4.2.1.1.2.2.2.2.2.2.2.2.2.2.2.2.2.1, y4.2.1.1.2.2.2.2.2.2.2.2.2.2.2.2.2.2.2.1), y5.1.1))) fun y5 =>
  bindO (vAsk [] 99 y5.2.1.1 y4.2.1.1.2.1 y4.2.1.1.2.2.1 y4.2.1.1.2.2.2.1 y4.2.1.1.2.2.2.2.1 y4.2.1.1.2.2.2.2.2.1 y4.2.1.1.2.2.2.2.2.2.1 y4.2.1.1.2.2.2.2.2.2.2.1 y4.2.1.1.2.2.2.2.2.2.2.2.1 y5.2.1.2.1 y4.2.1.1.2.2.2.2.2.2.2.2.2.2.1 y4.2.1.1.2.2.2.2.2.2.2.2.2.2.2.1 y5.2.1.2.2.1 y5.2.1.2.2.2.1 y4.2.1.1.2.2.2.2.2.2.2.2.2.2.2.2.2.2.1 y5.2.1.2.2.2.2 y4.2.1.1.2.2.2.2.2.2.2.2.2.2.2.2.2.2.2.2.1 y4.2.1.1.2.2.2.2.2.2.2.2.2.2.2.2.2.2.2.2.2.1) fun y6 =>
  bindO (vModel y6.2.1.1.2.2.2.2.2.2.2.2.2.2.2.2.2.2.2.2.2.1) fun y7 =>
  joinO (X := Int × (Int × Int × Int × Bool × Int) × List (List Int)) (
    bindO (vCore y6.2.1.1.2.2.2.2.2.2.2.2.2.2.2.2.2.2.2.2.1) fun y8 =>
    bindO (vProof y6.2.1.1.2.2.2.2.2.2.2.2.2.2.2.2.2.2.1 y6.2.1.1.2.2.2.2.2.2.2.2.2.2.2.2.2.2.2.1) fun y9 =>
    gd (inK IntKind.i64 (nI y8.1.1.length + nI y9.1.1.length)) <|
    some (Sum.inl (nI y8.1.1.length + nI y9.1.1.length, (y6.2.1.1.1, y6.2.1.1.2.2.2.2.2.2.2.2.2.1, y6.2.1.1.2.2.2.2.2.2.2.2.2.2.2.2.1, y6.2.1.1.2.2.2.2.2.2.2.2.2.2.2.2.2.1, y9.2.1.1.2.1), y9.2.1.1.1))) fun y8 =>
  bindO (vAsk [0] 99 y8.2.1.1 y6.2.1.1.2.1 y6.2.1.1.2.2.1 y6.2.1.1.2.2.2.1 y6.2.1.1.2.2.2.2.1 y6.2.1.1.2.2.2.2.2.1 y6.2.1.1.2.2.2.2.2.2.1 y6.2.1.1.2.2.2.2.2.2.2.1 y6.2.1.1.2.2.2.2.2.2.2.2.1 y8.2.1.2.1 y6.2.1.1.2.2.2.2.2.2.2.2.2.2.1 y6.2.1.1.2.2.2.2.2.2.2.2.2.2.2.1 y8.2.1.2.2.1 y8.2.1.2.2.2.1 y8.2.2 y8.2.1.2.2.2.2 y6.2.1.1.2.2.2.2.2.2.2.2.2.2.2.2.2.2.2.2.1 y6.2.1.1.2.2.2.2.2.2.2.2.2.2.2.2.2.2.2.2.2.1) fun y9 =>
  bindO (vGrow 3 y9.2.1.1.1 y9.2.1.1.2.2.1 y9.2.1.1.2.2.2.1 y9.2.1.1.2.2.2.2.1 y9.2.1.1.2.2.2.2.2.1 y9.2.1.1.2.2.2.2.2.2.1 y9.2.1.1.2.2.2.2.2.2.2.1 y9.2.1.1.2.2.2.2.2.2.2.2.2.2.2.2.2.2.2.1 y9.2.1.1.2.2.2.2.2.2.2.2.2.2.2.2.2.2.2.2.1 y9.2.1.1.2.2.2.2.2.2.2.2.2.2.2.2.2.2.2.2.2.1) fun y10 =>
  joinO (X := (Int × Int × Int × Bool × Int) × List (List Int) × List (List Int) × List Int × List Int × List Int × List Int × List Int × List Int × List Int × List Bool) (
    bindO (vAdd [-3] y10.2.1.1.1 y9.2.1.1.2.1 y10.2.1.1.2.1 y10.2.1.1.2.2.1 y10.2.1.1.2.2.2.1 y10.2.1.1.2.2.2.2.1 y10.2.1.1.2.2.2.2.2.1 y9.2.1.1.2.2.2.2.2.2.2.2.2.1 y9.2.1.1.2.2.2.2.2.2.2.2.2.2.1 y9.2.1.1.2.2.2.2.2.2.2.2.2.2.2.1 y9.2.1.1.2.2.2.2.2.2.2.2.2.2.2.2.1 y9.2.1.1.2.2.2.2.2.2.2.2.2.2.2.2.2.1 y10.2.1.1.2.2.2.2.2.2.2.1 y10.2.1.1.2.2.2.2.2.2.2.2.1 y10.2.1.1.2.2.2.2.2.2.2.2.2.1) fun y11 =>
    some (Sum.inl ((y11.2.1.1.1, y11.2.1.1.2.2.2.2.2.2.2.1, y11.2.1.1.2.2.2.2.2.2.2.2.2.2.1, y11.2.1.1.2.2.2.2.2.2.2.2.2.2.2.1, y11.2.1.1.2.2.2.2.2.2.2.2.2.2.2.2.1), y11.2.1.1.2.1, y11.2.1.1.2.2.1, y11.2.1.1.2.2.2.1, y11.2.1.1.2.2.2.2.1, y11.2.1.1.2.2.2.2.2.1, y11.2.1.1.2.2.2.2.2.2.1, y11.2.1.1.2.2.2.2.2.2.2.2.1, y11.2.1.1.2.2.2.2.2.2.2.2.2.1, y11.2.1.1.2.2.2.2.2.2.2.2.2.2.2.2.2.1, y11.2.1.1.2.2.2.2.2.2.2.2.2.2.2.2.2.2.1))) fun y11 =>
  bindO (vAsk [3] 99 y11.1.1 y11.2.1 y11.2.2.1 y11.2.2.2.1 y11.2.2.2.2.1 y11.2.2.2.2.2.1 y11.2.2.2.2.2.2.1 y10.2.1.1.2.2.2.2.2.2.1 y9.2.1.1.2.2.2.2.2.2.2.2.1 y11.1.2.1 y11.2.2.2.2.2.2.2.1 y11.2.2.2.2.2.2.2.2.1 y11.1.2.2.1 y11.1.2.2.2.1 y9.2.1.1.2.2.2.2.2.2.2.2.2.2.2.2.2.2.1 y11.1.2.2.2.2 y11.2.2.2.2.2.2.2.2.2.1 y11.2.2.2.2.2.2.2.2.2.2) fun y12 =>
  bindO (vAsk [-3, 2] 99 y12.2.1.1.1 y12.2.1.1.2.1 y12.2.1.1.2.2.1 y12.2.1.1.2.2.2.1 y12.2.1.1.2.2.2.2.1 y12.2.1.1.2.2.2.2.2.1 y12.2.1.1.2.2.2.2.2.2.1 y12.2.1.1.2.2.2.2.2.2.2.1 y12.2.1.1.2.2.2.2.2.2.2.2.1 y12.2.1.1.2.2.2.2.2.2.2.2.2.1 y12.2.1.1.2.2.2.2.2.2.2.2.2.2.1 y12.2.1.1.2.2.2.2.2.2.2.2.2.2.2.1 y12.2.1.1.2.2.2.2.2.2.2.2.2.2.2.2.1 y12.2.1.1.2.2.2.2.2.2.2.2.2.2.2.2.2.1 y12.2.1.1.2.2.2.2.2.2.2.2.2.2.2.2.2.2.1 y12.2.1.1.2.2.2.2.2.2.2.2.2.2.2.2.2.2.2.1 y12.2.1.1.2.2.2.2.2.2.2.2.2.2.2.2.2.2.2.2.1 y12.2.1.1.2.2.2.2.2.2.2.2.2.2.2.2.2.2.2.2.2.1) fun y13 =>
  bindO (vAdd [] y13.2.1.1.1 y13.2.1.1.2.1 y13.2.1.1.2.2.1 y13.2.1.1.2.2.2.1 y13.2.1.1.2.2.2.2.1 y13.2.1.1.2.2.2.2.2.1 y13.2.1.1.2.2.2.2.2.2.1 y13.2.1.1.2.2.2.2.2.2.2.2.2.1 y13.2.1.1.2.2.2.2.2.2.2.2.2.2.1 y13.2.1.1.2.2.2.2.2.2.2.2.2.2.2.1 y13.2.1.1.2.2.2.2.2.2.2.2.2.2.2.2.1 y13.2.1.1.2.2.2.2.2.2.2.2.2.2.2.2.2.1 y13.2.1.1.2.2.2.2.2.2.2.2.2.2.2.2.2.2.2.1 y13.2.1.1.2.2.2.2.2.2.2.2.2.2.2.2.2.2.2.2.1 y13.2.1.1.2.2.2.2.2.2.2.2.2.2.2.2.2.2.2.2.2.1) fun y14 =>
  joinO (X := Int × (Int × Int × Int × Bool × Int) × List (List Int) × List (List Int) × List Int × List Int × List Int × List Int × List Int × List Int × List Int × List Int × List (List Int) × List Int × List Bool) (
    bindO (vAsk [] (-1) y14.2.1.1.1 y14.2.1.1.2.1 y14.2.1.1.2.2.1 y14.2.1.1.2.2.2.1 y14.2.1.1.2.2.2.2.1 y14.2.1.1.2.2.2.2.2.1 y14.2.1.1.2.2.2.2.2.2.1 y13.2.1.1.2.2.2.2.2.2.2.1 y13.2.1.1.2.2.2.2.2.2.2.2.1 y14.2.1.1.2.2.2.2.2.2.2.1 y14.2.1.1.2.2.2.2.2.2.2.2.1 y14.2.1.1.2.2.2.2.2.2.2.2.2.1 y14.2.1.1.2.2.2.2.2.2.2.2.2.2.1 y14.2.1.1.2.2.2.2.2.2.2.2.2.2.2.1 y13.2.1.1.2.2.2.2.2.2.2.2.2.2.2.2.2.2.1 y14.2.1.1.2.2.2.2.2.2.2.2.2.2.2.2.1 y14.2.1.1.2.2.2.2.2.2.2.2.2.2.2.2.2.1 y14.2.1.1.2.2.2.2.2.2.2.2.2.2.2.2.2.2.1) fun y15 =>
    some (Sum.inl (y15.1.1, (y15.2.1.1.1, y15.2.1.1.2.2.2.2.2.2.2.2.2.1, y15.2.1.1.2.2.2.2.2.2.2.2.2.2.2.2.1, y15.2.1.1.2.2.2.2.2.2.2.2.2.2.2.2.2.1, y15.2.1.1.2.2.2.2.2.2.2.2.2.2.2.2.2.2.2.1), y15.2.1.1.2.1, y15.2.1.1.2.2.1, y15.2.1.1.2.2.2.1, y15.2.1.1.2.2.2.2.1, y15.2.1.1.2.2.2.2.2.1, y15.2.1.1.2.2.2.2.2.2.1, y15.2.1.1.2.2.2.2.2.2.2.1, y15.2.1.1.2.2.2.2.2.2.2.2.1, y15.2.1.1.2.2.2.2.2.2.2.2.2.2.1, y15.2.1.1.2.2.2.2.2.2.2.2.2.2.2.1, y15.2.1.1.2.2.2.2.2.2.2.2.2.2.2.2.2.2.1, y15.2.1.1.2.2.2.2.2.2.2.2.2.2.2.2.2.2.2.2.1, y15.2.1.1.2.2.2.2.2.2.2.2.2.2.2.2.2.2.2.2.2.1))) fun y15 =>
  bif y4.1.1 == 2 then
    bindO (vrSame y5.2.2 [-2]) fun y16 =>
    bif bif true then y16.1.1 else false then
      bif bif true then y5.1 == 0 else false then
        bif bif true then y6.1.1 == 1 else false then
          bif bif true then nI y7.1.1.length == 2 else false then
            gd (1 < nI y7.1.1.length) <|
            bif bif true then getB y7.1.1 1 else false then
              bif bif true then y8.1 == 0 else false then
                bif bif true then y9.1.1 == 0 else false then
                  bif bif true then y12.1.1 == 2 else false then
                    bif bif true then y13.1.1 == 1 else false then
                      bif bif true then y15.1 == 2 else false then
                        bindO (vCore y15.2.2.2.2.2.2.2.2.2.2.2.2.2.1) fun y17 =>
                        some ((bif true then nI y17.1.1.length == 0 else false, ()), (), ())
                      else
                        some ((false, ()), (), ())
                    else
                      some ((false, ()), (), ())
                  else
                    some ((false, ()), (), ())
                else
                  some ((false, ()), (), ())
              else
                some ((false, ()), (), ())
            else
              some ((false, ()), (), ())
          else
            some ((false, ()), (), ())
        else
          some ((false, ()), (), ())
      else
        some ((false, ()), (), ())
    else
      some ((false, ()), (), ())
  else
    some ((false, ()), (), ())

def head : Option ((Bool × Unit) × Unit × Unit) := headF New Add Ask Core Model Proof Grow rSame

def madeF (nn : Nat) (vNew : Int → Option (Unit × Unit × (Int × List (List Int) × List (List Int) × List Int × List Int × List Int × List Int × List Int × List Int × Int × List Int × List Int × Int × Bool × List (List Int) × Int × List Int × List Bool × Unit) × Unit)) (vAdd : List Int → Int → List (List Int) → List (List Int) → List Int → List Int → List Int → List Int → Int → List Int → List Int → Int → Bool → Int → List Int → List Bool → Option (Unit × ((Int × List (List Int) × List (List Int) × List Int × List Int × List Int × List Int × Int × List Int × List Int × Int × Bool × Int × List Int × List Bool × Unit) × Unit) × Unit)) (l : List (List Int)) : Option (Unit × Unit × (Int × List (List Int) × List (List Int) × List Int × List Int × List Int × List Int × List Int × List Int × Int × List Int × List Int × Int × Bool × List (List Int) × Int × List Int × List Bool × Unit) × Unit) :=
  bindO (vNew 8) fun y0 =>
  iterO (X := Int × (Int × Int × Int × Bool × Int) × List (List Int) × List (List Int) × List Int × List Int × List Int × List Int × List Int × List Int × List Int × List Bool) (fun y1 =>
    bif decide (y1.1 < nI l.length) then
      gd (0 ≤ y1.1) <|
      gd (y1.1 < nI l.length) <|
      bindO (vAdd (getL l y1.1) y1.2.1.1 y1.2.2.1 y1.2.2.2.1 y1.2.2.2.2.1 y1.2.2.2.2.2.1 y1.2.2.2.2.2.2.1 y1.2.2.2.2.2.2.2.1 y1.2.1.2.1 y1.2.2.2.2.2.2.2.2.1 y1.2.2.2.2.2.2.2.2.2.1 y1.2.1.2.2.1 y1.2.1.2.2.2.1 y1.2.1.2.2.2.2 y1.2.2.2.2.2.2.2.2.2.2.1 y1.2.2.2.2.2.2.2.2.2.2.2) fun y2 =>
      gd (inK IntKind.i64 (y1.1 + 1)) <|
      some (Sum.inl (y1.1 + 1, (y2.2.1.1.1, y2.2.1.1.2.2.2.2.2.2.2.1, y2.2.1.1.2.2.2.2.2.2.2.2.2.2.1, y2.2.1.1.2.2.2.2.2.2.2.2.2.2.2.1, y2.2.1.1.2.2.2.2.2.2.2.2.2.2.2.2.1), y2.2.1.1.2.1, y2.2.1.1.2.2.1, y2.2.1.1.2.2.2.1, y2.2.1.1.2.2.2.2.1, y2.2.1.1.2.2.2.2.2.1, y2.2.1.1.2.2.2.2.2.2.1, y2.2.1.1.2.2.2.2.2.2.2.2.1, y2.2.1.1.2.2.2.2.2.2.2.2.2.1, y2.2.1.1.2.2.2.2.2.2.2.2.2.2.2.2.2.1, y2.2.1.1.2.2.2.2.2.2.2.2.2.2.2.2.2.2.1))
    else
      some (Sum.inr ((), (), (y1.2.1.1, y1.2.2.1, y1.2.2.2.1, y1.2.2.2.2.1, y1.2.2.2.2.2.1, y1.2.2.2.2.2.2.1, y1.2.2.2.2.2.2.2.1, y0.2.2.1.2.2.2.2.2.2.2.1, y0.2.2.1.2.2.2.2.2.2.2.2.1, y1.2.1.2.1, y1.2.2.2.2.2.2.2.2.1, y1.2.2.2.2.2.2.2.2.2.1, y1.2.1.2.2.1, y1.2.1.2.2.2.1, y0.2.2.1.2.2.2.2.2.2.2.2.2.2.2.2.2.2.1, y1.2.1.2.2.2.2, y1.2.2.2.2.2.2.2.2.2.2.1, y1.2.2.2.2.2.2.2.2.2.2.2, ()), ()))) (nn) (0, (y0.2.2.1.1, y0.2.2.1.2.2.2.2.2.2.2.2.2.1, y0.2.2.1.2.2.2.2.2.2.2.2.2.2.2.2.1, y0.2.2.1.2.2.2.2.2.2.2.2.2.2.2.2.2.1, y0.2.2.1.2.2.2.2.2.2.2.2.2.2.2.2.2.2.2.1), y0.2.2.1.2.1, y0.2.2.1.2.2.1, y0.2.2.1.2.2.2.1, y0.2.2.1.2.2.2.2.1, y0.2.2.1.2.2.2.2.2.1, y0.2.2.1.2.2.2.2.2.2.1, y0.2.2.1.2.2.2.2.2.2.2.2.2.2.1, y0.2.2.1.2.2.2.2.2.2.2.2.2.2.2.1, y0.2.2.1.2.2.2.2.2.2.2.2.2.2.2.2.2.2.2.2.1, y0.2.2.1.2.2.2.2.2.2.2.2.2.2.2.2.2.2.2.2.2.1)

def made (l : List (List Int)) : Option (Unit × Unit × (Int × List (List Int) × List (List Int) × List Int × List Int × List Int × List Int × List Int × List Int × Int × List Int × List Int × Int × Bool × List (List Int) × Int × List Int × List Bool × Unit) × Unit) := madeF fuelN New Add l

end GoSx
end
section
/- Models of functions: what they compute, if all goes well: SatG. -/
namespace GoSx
open Go
def SatMeetsF (vhead : Option ((Bool × Unit) × Unit × Unit)) (vrSmalls : List (List Int) → Option ((List (List Int) × Unit) × Unit × Unit)) (vrCut : List Int → Int → Option ((List Int × Unit) × Unit × Unit)) (vrSmall : List Int → Option ((List Int × Unit) × Unit × Unit)) (vmade : List (List Int) → Option (Unit × Unit × (Int × List (List Int) × List (List Int) × List Int × List Int × List Int × List Int × List Int × List Int × Int × List Int × List Int × Int × Bool × List (List Int) × Int × List Int × List Bool × Unit) × Unit)) (vrFuel : Int → Option ((Int × Unit) × Unit × Unit)) (vAsk : List Int → Int → Int → List (List Int) → List (List Int) → List Int → List Int → List Int → List Int → List Int → List Int → Int → List Int → List Int → Int → Bool → List (List Int) → Int → List Int → List Bool → Option ((Int × Unit) × ((Int × List (List Int) × List (List Int) × List Int × List Int × List Int × List Int × List Int × List Int × Int × List Int × List Int × Int × Bool × List (List Int) × Int × List Int × List Bool × Unit) × Unit) × Unit)) (vModel : List Bool → Option ((List Bool × Unit) × ((List Bool × Unit) × Unit) × Unit)) (vrMet : List (List Int) → List Bool → Option ((Bool × Unit) × Unit × Unit)) (vunits : List Int → Option ((List (List Int) × Unit) × Unit × Unit)) (l : List (List Int)) (assume : List Int) : Option ((Bool × Unit) × Unit × Unit) :=
  bindO (vhead) fun y0 =>
  bindO (vrSmalls l) fun y1 =>
  bindO (vrCut assume 12) fun y2 =>
  bindO (vrSmall y2.1.1) fun y3 =>
  bindO (vmade y1.1.1) fun y4 =>
  bindO (vrFuel 8) fun y5 =>
  bindO (vAsk y3.1.1 y5.1.1 y4.2.2.1.1 y4.2.2.1.2.1 y4.2.2.1.2.2.1 y4.2.2.1.2.2.2.1 y4.2.2.1.2.2.2.2.1 y4.2.2.1.2.2.2.2.2.1 y4.2.2.1.2.2.2.2.2.2.1 y4.2.2.1.2.2.2.2.2.2.2.1 y4.2.2.1.2.2.2.2.2.2.2.2.1 y4.2.2.1.2.2.2.2.2.2.2.2.2.1 y4.2.2.1.2.2.2.2.2.2.2.2.2.2.1 y4.2.2.1.2.2.2.2.2.2.2.2.2.2.2.1 y4.2.2.1.2.2.2.2.2.2.2.2.2.2.2.2.1 y4.2.2.1.2.2.2.2.2.2.2.2.2.2.2.2.2.1 y4.2.2.1.2.2.2.2.2.2.2.2.2.2.2.2.2.2.1 y4.2.2.1.2.2.2.2.2.2.2.2.2.2.2.2.2.2.2.1 y4.2.2.1.2.2.2.2.2.2.2.2.2.2.2.2.2.2.2.2.1 y4.2.2.1.2.2.2.2.2.2.2.2.2.2.2.2.2.2.2.2.2.1) fun y6 =>
  bif y6.1.1 != 1 then
    bif y0.1.1 then
      some ((bif true then y6.1.1 == 2 else false, ()), (), ())
    else
      some ((false, ()), (), ())
  else
    bindO (vModel y6.2.1.1.2.2.2.2.2.2.2.2.2.2.2.2.2.2.2.2.2.1) fun y7 =>
    bif y0.1.1 then
      bif bif true then nI y7.1.1.length == 8 else false then
        bindO (vrMet y1.1.1 y7.1.1) fun y8 =>
        bif bif true then y8.1.1 else false then
          bindO (vunits y3.1.1) fun y9 =>
          bindO (vrMet y9.1.1 y7.1.1) fun y10 =>
          some ((bif true then y10.1.1 else false, ()), (), ())
        else
          some ((false, ()), (), ())
      else
        some ((false, ()), (), ())
    else
      some ((false, ()), (), ())

def SatMeets (l : List (List Int)) (assume : List Int) : Option ((Bool × Unit) × Unit × Unit) := SatMeetsF head rSmalls rCut rSmall made rFuel Ask Model rMet units l assume

def SatCoreF (nn : Nat) (vhead : Option ((Bool × Unit) × Unit × Unit)) (vrSmalls : List (List Int) → Option ((List (List Int) × Unit) × Unit × Unit)) (vrCut : List Int → Int → Option ((List Int × Unit) × Unit × Unit)) (vrSmall : List Int → Option ((List Int × Unit) × Unit × Unit)) (vmade : List (List Int) → Option (Unit × Unit × (Int × List (List Int) × List (List Int) × List Int × List Int × List Int × List Int × List Int × List Int × Int × List Int × List Int × Int × Bool × List (List Int) × Int × List Int × List Bool × Unit) × Unit)) (vrFuel : Int → Option ((Int × Unit) × Unit × Unit)) (vAsk : List Int → Int → Int → List (List Int) → List (List Int) → List Int → List Int → List Int → List Int → List Int → List Int → Int → List Int → List Int → Int → Bool → List (List Int) → Int → List Int → List Bool → Option ((Int × Unit) × ((Int × List (List Int) × List (List Int) × List Int × List Int × List Int × List Int × List Int × List Int × Int × List Int × List Int × Int × Bool × List (List Int) × Int × List Int × List Bool × Unit) × Unit) × Unit)) (vCore : List Int → Option ((List Int × Unit) × ((List Int × Unit) × Unit) × Unit)) (vrHas : List Int → Int → Option ((Bool × Unit) × Unit × Unit)) (vrCan : List (List Int) → Int → List Int → Option ((Bool × Unit) × Unit × Unit)) (l : List (List Int)) (assume : List Int) : Option ((Bool × Unit) × Unit × Unit) :=
  bindO (vhead) fun y0 =>
  bindO (vrSmalls l) fun y1 =>
  bindO (vrCut assume 12) fun y2 =>
  bindO (vrSmall y2.1.1) fun y3 =>
  bindO (vmade y1.1.1) fun y4 =>
  bindO (vrFuel 8) fun y5 =>
  bindO (vAsk y3.1.1 y5.1.1 y4.2.2.1.1 y4.2.2.1.2.1 y4.2.2.1.2.2.1 y4.2.2.1.2.2.2.1 y4.2.2.1.2.2.2.2.1 y4.2.2.1.2.2.2.2.2.1 y4.2.2.1.2.2.2.2.2.2.1 y4.2.2.1.2.2.2.2.2.2.2.1 y4.2.2.1.2.2.2.2.2.2.2.2.1 y4.2.2.1.2.2.2.2.2.2.2.2.2.1 y4.2.2.1.2.2.2.2.2.2.2.2.2.2.1 y4.2.2.1.2.2.2.2.2.2.2.2.2.2.2.1 y4.2.2.1.2.2.2.2.2.2.2.2.2.2.2.2.1 y4.2.2.1.2.2.2.2.2.2.2.2.2.2.2.2.2.1 y4.2.2.1.2.2.2.2.2.2.2.2.2.2.2.2.2.2.1 y4.2.2.1.2.2.2.2.2.2.2.2.2.2.2.2.2.2.2.1 y4.2.2.1.2.2.2.2.2.2.2.2.2.2.2.2.2.2.2.2.1 y4.2.2.1.2.2.2.2.2.2.2.2.2.2.2.2.2.2.2.2.2.1) fun y6 =>
  bif y6.1.1 != 2 then
    bif y0.1.1 then
      some ((bif true then y6.1.1 == 1 else false, ()), (), ())
    else
      some ((false, ()), (), ())
  else
    bindO (vCore y6.2.1.1.2.2.2.2.2.2.2.2.2.2.2.2.2.2.2.2.1) fun y7 =>
    iterO (X := Int × Int) (fun y8 =>
      bif decide (y8.2 < nI y7.1.1.length) then
        iterO (X := Int) (fun y9 =>
          bif decide (y9 < nI y3.1.1.length) then
            gd (0 ≤ y9) <|
            gd (y9 < nI y3.1.1.length) <|
            gd (0 ≤ y8.2) <|
            gd (y8.2 < nI y7.1.1.length) <|
            bif bif true then getI y3.1.1 y9 != getI y7.1.1 y8.2 else false then
              gd (inK IntKind.i64 (y9 + 1)) <|
              some (Sum.inl (y9 + 1))
            else
              bif y9 == nI y3.1.1.length then
                some (Sum.inr (Sum.inr ((false, ()), (), ())))
              else
                gd (0 ≤ y8.2) <|
                gd (y8.2 ≤ nI y7.1.1.length) <|
                gd (0 ≤ y8.2) <|
                gd (y8.2 < nI y7.1.1.length) <|
                bindO (vrHas (List.drop 0 (List.take y8.2.toNat y7.1.1)) (getI y7.1.1 y8.2)) fun y10 =>
                bif bif false then true else y10.1.1 then
                  some (Sum.inr (Sum.inr ((false, ()), (), ())))
                else
                  gd (0 ≤ y9) <|
                  gd (y9 ≤ nI y3.1.1.length) <|
                  gd (0 ≤ y8.2) <|
                  gd (y8.2 < nI y7.1.1.length) <|
                  bindO (vrHas (List.drop 0 (List.take y9.toNat y3.1.1)) (getI y7.1.1 y8.2)) fun y11 =>
                  bif bif false then true else y11.1.1 then
                    some (Sum.inr (Sum.inr ((false, ()), (), ())))
                  else
                    gd (inK IntKind.i64 (y8.2 + 1)) <|
                    some (Sum.inr (Sum.inl (y9, y8.2 + 1)))
          else
            bif y9 == nI y3.1.1.length then
              some (Sum.inr (Sum.inr ((false, ()), (), ())))
            else
              gd (0 ≤ y8.2) <|
              gd (y8.2 ≤ nI y7.1.1.length) <|
              gd (0 ≤ y8.2) <|
              gd (y8.2 < nI y7.1.1.length) <|
              bindO (vrHas (List.drop 0 (List.take y8.2.toNat y7.1.1)) (getI y7.1.1 y8.2)) fun y10 =>
              bif bif false then true else y10.1.1 then
                some (Sum.inr (Sum.inr ((false, ()), (), ())))
              else
                gd (0 ≤ y9) <|
                gd (y9 ≤ nI y3.1.1.length) <|
                gd (0 ≤ y8.2) <|
                gd (y8.2 < nI y7.1.1.length) <|
                bindO (vrHas (List.drop 0 (List.take y9.toNat y3.1.1)) (getI y7.1.1 y8.2)) fun y11 =>
                bif bif false then true else y11.1.1 then
                  some (Sum.inr (Sum.inr ((false, ()), (), ())))
                else
                  gd (inK IntKind.i64 (y8.2 + 1)) <|
                  some (Sum.inr (Sum.inl (y9, y8.2 + 1)))) (nn) y8.1
      else
        bif y0.1.1 then
          bindO (vrCan y1.1.1 8 y7.1.1) fun y9 =>
          some (Sum.inr ((bif true then !y9.1.1 else false, ()), (), ()))
        else
          some (Sum.inr ((false, ()), (), ()))) (nn) (0, 0)

def SatCore (l : List (List Int)) (assume : List Int) : Option ((Bool × Unit) × Unit × Unit) := SatCoreF fuelN head rSmalls rCut rSmall made rFuel Ask Core rHas rCan l assume

def SatFuelF (nn : Nat) (vhead : Option ((Bool × Unit) × Unit × Unit)) (vrSmalls : List (List Int) → Option ((List (List Int) × Unit) × Unit × Unit)) (vrCut : List Int → Int → Option ((List Int × Unit) × Unit × Unit)) (vrSmall : List Int → Option ((List Int × Unit) × Unit × Unit)) (vmade : List (List Int) → Option (Unit × Unit × (Int × List (List Int) × List (List Int) × List Int × List Int × List Int × List Int × List Int × List Int × Int × List Int × List Int × Int × Bool × List (List Int) × Int × List Int × List Bool × Unit) × Unit)) (vrFuel : Int → Option ((Int × Unit) × Unit × Unit)) (vAsk : List Int → Int → Int → List (List Int) → List (List Int) → List Int → List Int → List Int → List Int → List Int → List Int → Int → List Int → List Int → Int → Bool → List (List Int) → Int → List Int → List Bool → Option ((Int × Unit) × ((Int × List (List Int) × List (List Int) × List Int × List Int × List Int × List Int × List Int × List Int × Int × List Int × List Int × Int × Bool × List (List Int) × Int × List Int × List Bool × Unit) × Unit) × Unit)) (l : List (List Int)) (assume : List Int) : Option ((Bool × Unit) × Unit × Unit) :=
  bindO (vhead) fun y0 =>
  bindO (vrSmalls l) fun y1 =>
  bindO (vrCut assume 12) fun y2 =>
  bindO (vrSmall y2.1.1) fun y3 =>
  bindO (vmade y1.1.1) fun y4 =>
  bindO (vmade y1.1.1) fun y5 =>
  bindO (vrFuel 8) fun y6 =>
  bindO (vAsk y3.1.1 y6.1.1 y5.2.2.1.1 y5.2.2.1.2.1 y5.2.2.1.2.2.1 y5.2.2.1.2.2.2.1 y5.2.2.1.2.2.2.2.1 y5.2.2.1.2.2.2.2.2.1 y5.2.2.1.2.2.2.2.2.2.1 y5.2.2.1.2.2.2.2.2.2.2.1 y5.2.2.1.2.2.2.2.2.2.2.2.1 y5.2.2.1.2.2.2.2.2.2.2.2.2.1 y5.2.2.1.2.2.2.2.2.2.2.2.2.2.1 y5.2.2.1.2.2.2.2.2.2.2.2.2.2.2.1 y5.2.2.1.2.2.2.2.2.2.2.2.2.2.2.2.1 y5.2.2.1.2.2.2.2.2.2.2.2.2.2.2.2.2.1 y5.2.2.1.2.2.2.2.2.2.2.2.2.2.2.2.2.2.1 y5.2.2.1.2.2.2.2.2.2.2.2.2.2.2.2.2.2.2.1 y5.2.2.1.2.2.2.2.2.2.2.2.2.2.2.2.2.2.2.2.1 y5.2.2.1.2.2.2.2.2.2.2.2.2.2.2.2.2.2.2.2.2.1) fun y7 =>
  bindO (vAsk y3.1.1 1 y4.2.2.1.1 y4.2.2.1.2.1 y4.2.2.1.2.2.1 y4.2.2.1.2.2.2.1 y4.2.2.1.2.2.2.2.1 y4.2.2.1.2.2.2.2.2.1 y4.2.2.1.2.2.2.2.2.2.1 y4.2.2.1.2.2.2.2.2.2.2.1 y4.2.2.1.2.2.2.2.2.2.2.2.1 y4.2.2.1.2.2.2.2.2.2.2.2.2.1 y4.2.2.1.2.2.2.2.2.2.2.2.2.2.1 y4.2.2.1.2.2.2.2.2.2.2.2.2.2.2.1 y4.2.2.1.2.2.2.2.2.2.2.2.2.2.2.2.1 y4.2.2.1.2.2.2.2.2.2.2.2.2.2.2.2.2.1 y4.2.2.1.2.2.2.2.2.2.2.2.2.2.2.2.2.2.1 y4.2.2.1.2.2.2.2.2.2.2.2.2.2.2.2.2.2.2.1 y4.2.2.1.2.2.2.2.2.2.2.2.2.2.2.2.2.2.2.2.1 y4.2.2.1.2.2.2.2.2.2.2.2.2.2.2.2.2.2.2.2.2.1) fun y8 =>
  iterO (X := (Int × Int) × (Int × Int × Int × Bool × Int) × List (List Int) × List (List Int) × List Int × List Int × List Int × List Int × List Int × List Int × List Int × List Int × List (List Int) × List Int × List Bool) (fun y9 =>
    bindO (vrFuel 8) fun y10 =>
    bif decide (y9.1.2 < y10.1.1) then
      bif bif true then y9.1.1 == 3 else false then
        bindO (vAsk y3.1.1 1 y9.2.1.1 y9.2.2.1 y9.2.2.2.1 y9.2.2.2.2.1 y9.2.2.2.2.2.1 y9.2.2.2.2.2.2.1 y9.2.2.2.2.2.2.2.1 y9.2.2.2.2.2.2.2.2.1 y9.2.2.2.2.2.2.2.2.2.1 y9.2.1.2.1 y9.2.2.2.2.2.2.2.2.2.2.1 y9.2.2.2.2.2.2.2.2.2.2.2.1 y9.2.1.2.2.1 y9.2.1.2.2.2.1 y9.2.2.2.2.2.2.2.2.2.2.2.2.1 y9.2.1.2.2.2.2 y9.2.2.2.2.2.2.2.2.2.2.2.2.2.1 y9.2.2.2.2.2.2.2.2.2.2.2.2.2.2) fun y11 =>
        gd (inK IntKind.i64 (y9.1.2 + 1)) <|
        some (Sum.inl ((y11.1.1, y9.1.2 + 1), (y11.2.1.1.1, y11.2.1.1.2.2.2.2.2.2.2.2.2.1, y11.2.1.1.2.2.2.2.2.2.2.2.2.2.2.2.1, y11.2.1.1.2.2.2.2.2.2.2.2.2.2.2.2.2.1, y11.2.1.1.2.2.2.2.2.2.2.2.2.2.2.2.2.2.2.1), y11.2.1.1.2.1, y11.2.1.1.2.2.1, y11.2.1.1.2.2.2.1, y11.2.1.1.2.2.2.2.1, y11.2.1.1.2.2.2.2.2.1, y11.2.1.1.2.2.2.2.2.2.1, y11.2.1.1.2.2.2.2.2.2.2.1, y11.2.1.1.2.2.2.2.2.2.2.2.1, y11.2.1.1.2.2.2.2.2.2.2.2.2.2.1, y11.2.1.1.2.2.2.2.2.2.2.2.2.2.2.1, y11.2.1.1.2.2.2.2.2.2.2.2.2.2.2.2.2.2.1, y11.2.1.1.2.2.2.2.2.2.2.2.2.2.2.2.2.2.2.2.1, y11.2.1.1.2.2.2.2.2.2.2.2.2.2.2.2.2.2.2.2.2.1))
      else
        bif y0.1.1 then
          bif bif true then y9.1.1 == y7.1.1 else false then
            bif y9.1.1 == 1 then
              some (Sum.inr ((bif true then true else false, ()), (), ()))
            else
              some (Sum.inr ((bif true then bif false then true else y9.1.1 == 2 else false, ()), (), ()))
          else
            some (Sum.inr ((false, ()), (), ()))
        else
          some (Sum.inr ((false, ()), (), ()))
    else
      bif y0.1.1 then
        bif bif true then y9.1.1 == y7.1.1 else false then
          bif y9.1.1 == 1 then
            some (Sum.inr ((bif true then true else false, ()), (), ()))
          else
            some (Sum.inr ((bif true then bif false then true else y9.1.1 == 2 else false, ()), (), ()))
        else
          some (Sum.inr ((false, ()), (), ()))
      else
        some (Sum.inr ((false, ()), (), ()))) (nn) ((y8.1.1, 0), (y8.2.1.1.1, y8.2.1.1.2.2.2.2.2.2.2.2.2.1, y8.2.1.1.2.2.2.2.2.2.2.2.2.2.2.2.1, y8.2.1.1.2.2.2.2.2.2.2.2.2.2.2.2.2.1, y8.2.1.1.2.2.2.2.2.2.2.2.2.2.2.2.2.2.2.1), y8.2.1.1.2.1, y8.2.1.1.2.2.1, y8.2.1.1.2.2.2.1, y8.2.1.1.2.2.2.2.1, y8.2.1.1.2.2.2.2.2.1, y8.2.1.1.2.2.2.2.2.2.1, y8.2.1.1.2.2.2.2.2.2.2.1, y8.2.1.1.2.2.2.2.2.2.2.2.1, y8.2.1.1.2.2.2.2.2.2.2.2.2.2.1, y8.2.1.1.2.2.2.2.2.2.2.2.2.2.2.1, y8.2.1.1.2.2.2.2.2.2.2.2.2.2.2.2.2.2.1, y8.2.1.1.2.2.2.2.2.2.2.2.2.2.2.2.2.2.2.2.1, y8.2.1.1.2.2.2.2.2.2.2.2.2.2.2.2.2.2.2.2.2.1)

def SatFuel (l : List (List Int)) (assume : List Int) : Option ((Bool × Unit) × Unit × Unit) := SatFuelF fuelN head rSmalls rCut rSmall made rFuel Ask l assume

def SatMoreF (vhead : Option ((Bool × Unit) × Unit × Unit)) (vrSmalls : List (List Int) → Option ((List (List Int) × Unit) × Unit × Unit)) (vrCut : List Int → Int → Option ((List Int × Unit) × Unit × Unit)) (vrSmall : List Int → Option ((List Int × Unit) × Unit × Unit)) (vmade : List (List Int) → Option (Unit × Unit × (Int × List (List Int) × List (List Int) × List Int × List Int × List Int × List Int × List Int × List Int × Int × List Int × List Int × Int × Bool × List (List Int) × Int × List Int × List Bool × Unit) × Unit)) (vrFuel : Int → Option ((Int × Unit) × Unit × Unit)) (vAsk : List Int → Int → Int → List (List Int) → List (List Int) → List Int → List Int → List Int → List Int → List Int → List Int → Int → List Int → List Int → Int → Bool → List (List Int) → Int → List Int → List Bool → Option ((Int × Unit) × ((Int × List (List Int) × List (List Int) × List Int × List Int × List Int × List Int × List Int × List Int × Int × List Int × List Int × Int × Bool × List (List Int) × Int × List Int × List Bool × Unit) × Unit) × Unit)) (l : List (List Int)) (assume : List Int) (few : Int) (more : Int) : Option ((Bool × Unit) × Unit × Unit) :=
  bindO (vhead) fun y0 =>
  bindO (vrSmalls l) fun y1 =>
  bindO (vrCut assume 12) fun y2 =>
  bindO (vrSmall y2.1.1) fun y3 =>
  bindO (vmade y1.1.1) fun y4 =>
  bindO (vmade y1.1.1) fun y5 =>
  bindO (vmade y1.1.1) fun y6 =>
  bindO (vmade y1.1.1) fun y7 =>
  bindO (vAsk y3.1.1 (IntKind.i64.wrap few) y4.2.2.1.1 y4.2.2.1.2.1 y4.2.2.1.2.2.1 y4.2.2.1.2.2.2.1 y4.2.2.1.2.2.2.2.1 y4.2.2.1.2.2.2.2.2.1 y4.2.2.1.2.2.2.2.2.2.1 y4.2.2.1.2.2.2.2.2.2.2.1 y4.2.2.1.2.2.2.2.2.2.2.2.1 y4.2.2.1.2.2.2.2.2.2.2.2.2.1 y4.2.2.1.2.2.2.2.2.2.2.2.2.2.1 y4.2.2.1.2.2.2.2.2.2.2.2.2.2.2.1 y4.2.2.1.2.2.2.2.2.2.2.2.2.2.2.2.1 y4.2.2.1.2.2.2.2.2.2.2.2.2.2.2.2.2.1 y4.2.2.1.2.2.2.2.2.2.2.2.2.2.2.2.2.2.1 y4.2.2.1.2.2.2.2.2.2.2.2.2.2.2.2.2.2.2.1 y4.2.2.1.2.2.2.2.2.2.2.2.2.2.2.2.2.2.2.2.1 y4.2.2.1.2.2.2.2.2.2.2.2.2.2.2.2.2.2.2.2.2.1) fun y8 =>
  gd (inK IntKind.i64 (IntKind.i64.wrap few + IntKind.i64.wrap more)) <|
  bindO (vAsk y3.1.1 (IntKind.i64.wrap few + IntKind.i64.wrap more) y5.2.2.1.1 y5.2.2.1.2.1 y5.2.2.1.2.2.1 y5.2.2.1.2.2.2.1 y5.2.2.1.2.2.2.2.1 y5.2.2.1.2.2.2.2.2.1 y5.2.2.1.2.2.2.2.2.2.1 y5.2.2.1.2.2.2.2.2.2.2.1 y5.2.2.1.2.2.2.2.2.2.2.2.1 y5.2.2.1.2.2.2.2.2.2.2.2.2.1 y5.2.2.1.2.2.2.2.2.2.2.2.2.2.1 y5.2.2.1.2.2.2.2.2.2.2.2.2.2.2.1 y5.2.2.1.2.2.2.2.2.2.2.2.2.2.2.2.1 y5.2.2.1.2.2.2.2.2.2.2.2.2.2.2.2.2.1 y5.2.2.1.2.2.2.2.2.2.2.2.2.2.2.2.2.2.1 y5.2.2.1.2.2.2.2.2.2.2.2.2.2.2.2.2.2.2.1 y5.2.2.1.2.2.2.2.2.2.2.2.2.2.2.2.2.2.2.2.1 y5.2.2.1.2.2.2.2.2.2.2.2.2.2.2.2.2.2.2.2.2.1) fun y9 =>
  bindO (vrFuel 8) fun y10 =>
  bindO (vAsk y3.1.1 y10.1.1 y6.2.2.1.1 y6.2.2.1.2.1 y6.2.2.1.2.2.1 y6.2.2.1.2.2.2.1 y6.2.2.1.2.2.2.2.1 y6.2.2.1.2.2.2.2.2.1 y6.2.2.1.2.2.2.2.2.2.1 y6.2.2.1.2.2.2.2.2.2.2.1 y6.2.2.1.2.2.2.2.2.2.2.2.1 y6.2.2.1.2.2.2.2.2.2.2.2.2.1 y6.2.2.1.2.2.2.2.2.2.2.2.2.2.1 y6.2.2.1.2.2.2.2.2.2.2.2.2.2.2.1 y6.2.2.1.2.2.2.2.2.2.2.2.2.2.2.2.1 y6.2.2.1.2.2.2.2.2.2.2.2.2.2.2.2.2.1 y6.2.2.1.2.2.2.2.2.2.2.2.2.2.2.2.2.2.1 y6.2.2.1.2.2.2.2.2.2.2.2.2.2.2.2.2.2.2.1 y6.2.2.1.2.2.2.2.2.2.2.2.2.2.2.2.2.2.2.2.1 y6.2.2.1.2.2.2.2.2.2.2.2.2.2.2.2.2.2.2.2.2.1) fun y11 =>
  bif y0.1.1 then
    bif y8.1.1 == 3 then
      bif y9.1.1 == 3 then
        bif y8.1.1 == 3 then
          bif bif true then y11.1.1 != 3 else false then
            gd (inK IntKind.i64 (0 - IntKind.i64.wrap more)) <|
            gd (inK IntKind.i64 (0 - IntKind.i64.wrap more - 1)) <|
            bindO (vAsk y3.1.1 (0 - IntKind.i64.wrap more - 1) y7.2.2.1.1 y7.2.2.1.2.1 y7.2.2.1.2.2.1 y7.2.2.1.2.2.2.1 y7.2.2.1.2.2.2.2.1 y7.2.2.1.2.2.2.2.2.1 y7.2.2.1.2.2.2.2.2.2.1 y7.2.2.1.2.2.2.2.2.2.2.1 y7.2.2.1.2.2.2.2.2.2.2.2.1 y7.2.2.1.2.2.2.2.2.2.2.2.2.1 y7.2.2.1.2.2.2.2.2.2.2.2.2.2.1 y7.2.2.1.2.2.2.2.2.2.2.2.2.2.2.1 y7.2.2.1.2.2.2.2.2.2.2.2.2.2.2.2.1 y7.2.2.1.2.2.2.2.2.2.2.2.2.2.2.2.2.1 y7.2.2.1.2.2.2.2.2.2.2.2.2.2.2.2.2.2.1 y7.2.2.1.2.2.2.2.2.2.2.2.2.2.2.2.2.2.2.1 y7.2.2.1.2.2.2.2.2.2.2.2.2.2.2.2.2.2.2.2.1 y7.2.2.1.2.2.2.2.2.2.2.2.2.2.2.2.2.2.2.2.2.1) fun y12 =>
            some ((bif true then y12.1.1 == y11.1.1 else false, ()), (), ())
          else
            some ((false, ()), (), ())
        else
          bif bif true then bif false then true else y9.1.1 == y8.1.1 else false then
            bif bif true then y11.1.1 != 3 else false then
              gd (inK IntKind.i64 (0 - IntKind.i64.wrap more)) <|
              gd (inK IntKind.i64 (0 - IntKind.i64.wrap more - 1)) <|
              bindO (vAsk y3.1.1 (0 - IntKind.i64.wrap more - 1) y7.2.2.1.1 y7.2.2.1.2.1 y7.2.2.1.2.2.1 y7.2.2.1.2.2.2.1 y7.2.2.1.2.2.2.2.1 y7.2.2.1.2.2.2.2.2.1 y7.2.2.1.2.2.2.2.2.2.1 y7.2.2.1.2.2.2.2.2.2.2.1 y7.2.2.1.2.2.2.2.2.2.2.2.1 y7.2.2.1.2.2.2.2.2.2.2.2.2.1 y7.2.2.1.2.2.2.2.2.2.2.2.2.2.1 y7.2.2.1.2.2.2.2.2.2.2.2.2.2.2.1 y7.2.2.1.2.2.2.2.2.2.2.2.2.2.2.2.1 y7.2.2.1.2.2.2.2.2.2.2.2.2.2.2.2.2.1 y7.2.2.1.2.2.2.2.2.2.2.2.2.2.2.2.2.2.1 y7.2.2.1.2.2.2.2.2.2.2.2.2.2.2.2.2.2.2.1 y7.2.2.1.2.2.2.2.2.2.2.2.2.2.2.2.2.2.2.2.1 y7.2.2.1.2.2.2.2.2.2.2.2.2.2.2.2.2.2.2.2.2.1) fun y12 =>
              some ((bif true then y12.1.1 == y11.1.1 else false, ()), (), ())
            else
              some ((false, ()), (), ())
          else
            some ((false, ()), (), ())
      else
        bif bif true then bif false then true else y9.1.1 == y11.1.1 else false then
          bif y8.1.1 == 3 then
            bif bif true then y11.1.1 != 3 else false then
              gd (inK IntKind.i64 (0 - IntKind.i64.wrap more)) <|
              gd (inK IntKind.i64 (0 - IntKind.i64.wrap more - 1)) <|
              bindO (vAsk y3.1.1 (0 - IntKind.i64.wrap more - 1) y7.2.2.1.1 y7.2.2.1.2.1 y7.2.2.1.2.2.1 y7.2.2.1.2.2.2.1 y7.2.2.1.2.2.2.2.1 y7.2.2.1.2.2.2.2.2.1 y7.2.2.1.2.2.2.2.2.2.1 y7.2.2.1.2.2.2.2.2.2.2.1 y7.2.2.1.2.2.2.2.2.2.2.2.1 y7.2.2.1.2.2.2.2.2.2.2.2.2.1 y7.2.2.1.2.2.2.2.2.2.2.2.2.2.1 y7.2.2.1.2.2.2.2.2.2.2.2.2.2.2.1 y7.2.2.1.2.2.2.2.2.2.2.2.2.2.2.2.1 y7.2.2.1.2.2.2.2.2.2.2.2.2.2.2.2.2.1 y7.2.2.1.2.2.2.2.2.2.2.2.2.2.2.2.2.2.1 y7.2.2.1.2.2.2.2.2.2.2.2.2.2.2.2.2.2.2.1 y7.2.2.1.2.2.2.2.2.2.2.2.2.2.2.2.2.2.2.2.1 y7.2.2.1.2.2.2.2.2.2.2.2.2.2.2.2.2.2.2.2.2.1) fun y12 =>
              some ((bif true then y12.1.1 == y11.1.1 else false, ()), (), ())
            else
              some ((false, ()), (), ())
          else
            bif bif true then bif false then true else y9.1.1 == y8.1.1 else false then
              bif bif true then y11.1.1 != 3 else false then
                gd (inK IntKind.i64 (0 - IntKind.i64.wrap more)) <|
                gd (inK IntKind.i64 (0 - IntKind.i64.wrap more - 1)) <|
                bindO (vAsk y3.1.1 (0 - IntKind.i64.wrap more - 1) y7.2.2.1.1 y7.2.2.1.2.1 y7.2.2.1.2.2.1 y7.2.2.1.2.2.2.1 y7.2.2.1.2.2.2.2.1 y7.2.2.1.2.2.2.2.2.1 y7.2.2.1.2.2.2.2.2.2.1 y7.2.2.1.2.2.2.2.2.2.2.1 y7.2.2.1.2.2.2.2.2.2.2.2.1 y7.2.2.1.2.2.2.2.2.2.2.2.2.1 y7.2.2.1.2.2.2.2.2.2.2.2.2.2.1 y7.2.2.1.2.2.2.2.2.2.2.2.2.2.2.1 y7.2.2.1.2.2.2.2.2.2.2.2.2.2.2.2.1 y7.2.2.1.2.2.2.2.2.2.2.2.2.2.2.2.2.1 y7.2.2.1.2.2.2.2.2.2.2.2.2.2.2.2.2.2.1 y7.2.2.1.2.2.2.2.2.2.2.2.2.2.2.2.2.2.2.1 y7.2.2.1.2.2.2.2.2.2.2.2.2.2.2.2.2.2.2.2.1 y7.2.2.1.2.2.2.2.2.2.2.2.2.2.2.2.2.2.2.2.2.1) fun y12 =>
                some ((bif true then y12.1.1 == y11.1.1 else false, ()), (), ())
              else
                some ((false, ()), (), ())
            else
              some ((false, ()), (), ())
        else
          some ((false, ()), (), ())
    else
      bif bif true then bif false then true else y8.1.1 == y11.1.1 else false then
        bif y9.1.1 == 3 then
          bif y8.1.1 == 3 then
            bif bif true then y11.1.1 != 3 else false then
              gd (inK IntKind.i64 (0 - IntKind.i64.wrap more)) <|
              gd (inK IntKind.i64 (0 - IntKind.i64.wrap more - 1)) <|
              bindO (vAsk y3.1.1 (0 - IntKind.i64.wrap more - 1) y7.2.2.1.1 y7.2.2.1.2.1 y7.2.2.1.2.2.1 y7.2.2.1.2.2.2.1 y7.2.2.1.2.2.2.2.1 y7.2.2.1.2.2.2.2.2.1 y7.2.2.1.2.2.2.2.2.2.1 y7.2.2.1.2.2.2.2.2.2.2.1 y7.2.2.1.2.2.2.2.2.2.2.2.1 y7.2.2.1.2.2.2.2.2.2.2.2.2.1 y7.2.2.1.2.2.2.2.2.2.2.2.2.2.1 y7.2.2.1.2.2.2.2.2.2.2.2.2.2.2.1 y7.2.2.1.2.2.2.2.2.2.2.2.2.2.2.2.1 y7.2.2.1.2.2.2.2.2.2.2.2.2.2.2.2.2.1 y7.2.2.1.2.2.2.2.2.2.2.2.2.2.2.2.2.2.1 y7.2.2.1.2.2.2.2.2.2.2.2.2.2.2.2.2.2.2.1 y7.2.2.1.2.2.2.2.2.2.2.2.2.2.2.2.2.2.2.2.1 y7.2.2.1.2.2.2.2.2.2.2.2.2.2.2.2.2.2.2.2.2.1) fun y12 =>
              some ((bif true then y12.1.1 == y11.1.1 else false, ()), (), ())
            else
              some ((false, ()), (), ())
          else
            bif bif true then bif false then true else y9.1.1 == y8.1.1 else false then
              bif bif true then y11.1.1 != 3 else false then
                gd (inK IntKind.i64 (0 - IntKind.i64.wrap more)) <|
                gd (inK IntKind.i64 (0 - IntKind.i64.wrap more - 1)) <|
                bindO (vAsk y3.1.1 (0 - IntKind.i64.wrap more - 1) y7.2.2.1.1 y7.2.2.1.2.1 y7.2.2.1.2.2.1 y7.2.2.1.2.2.2.1 y7.2.2.1.2.2.2.2.1 y7.2.2.1.2.2.2.2.2.1 y7.2.2.1.2.2.2.2.2.2.1 y7.2.2.1.2.2.2.2.2.2.2.1 y7.2.2.1.2.2.2.2.2.2.2.2.1 y7.2.2.1.2.2.2.2.2.2.2.2.2.1 y7.2.2.1.2.2.2.2.2.2.2.2.2.2.1 y7.2.2.1.2.2.2.2.2.2.2.2.2.2.2.1 y7.2.2.1.2.2.2.2.2.2.2.2.2.2.2.2.1 y7.2.2.1.2.2.2.2.2.2.2.2.2.2.2.2.2.1 y7.2.2.1.2.2.2.2.2.2.2.2.2.2.2.2.2.2.1 y7.2.2.1.2.2.2.2.2.2.2.2.2.2.2.2.2.2.2.1 y7.2.2.1.2.2.2.2.2.2.2.2.2.2.2.2.2.2.2.2.1 y7.2.2.1.2.2.2.2.2.2.2.2.2.2.2.2.2.2.2.2.2.1) fun y12 =>
                some ((bif true then y12.1.1 == y11.1.1 else false, ()), (), ())
              else
                some ((false, ()), (), ())
            else
              some ((false, ()), (), ())
        else
          bif bif true then bif false then true else y9.1.1 == y11.1.1 else false then
            bif y8.1.1 == 3 then
              bif bif true then y11.1.1 != 3 else false then
                gd (inK IntKind.i64 (0 - IntKind.i64.wrap more)) <|
                gd (inK IntKind.i64 (0 - IntKind.i64.wrap more - 1)) <|
                bindO (vAsk y3.1.1 (0 - IntKind.i64.wrap more - 1) y7.2.2.1.1 y7.2.2.1.2.1 y7.2.2.1.2.2.1 y7.2.2.1.2.2.2.1 y7.2.2.1.2.2.2.2.1 y7.2.2.1.2.2.2.2.2.1 y7.2.2.1.2.2.2.2.2.2.1 y7.2.2.1.2.2.2.2.2.2.2.1 y7.2.2.1.2.2.2.2.2.2.2.2.1 y7.2.2.1.2.2.2.2.2.2.2.2.2.1 y7.2.2.1.2.2.2.2.2.2.2.2.2.2.1 y7.2.2.1.2.2.2.2.2.2.2.2.2.2.2.1 y7.2.2.1.2.2.2.2.2.2.2.2.2.2.2.2.1 y7.2.2.1.2.2.2.2.2.2.2.2.2.2.2.2.2.1 y7.2.2.1.2.2.2.2.2.2.2.2.2.2.2.2.2.2.1 y7.2.2.1.2.2.2.2.2.2.2.2.2.2.2.2.2.2.2.1 y7.2.2.1.2.2.2.2.2.2.2.2.2.2.2.2.2.2.2.2.1 y7.2.2.1.2.2.2.2.2.2.2.2.2.2.2.2.2.2.2.2.2.1) fun y12 =>
                some ((bif true then y12.1.1 == y11.1.1 else false, ()), (), ())
              else
                some ((false, ()), (), ())
            else
              bif bif true then bif false then true else y9.1.1 == y8.1.1 else false then
                bif bif true then y11.1.1 != 3 else false then
                  gd (inK IntKind.i64 (0 - IntKind.i64.wrap more)) <|
                  gd (inK IntKind.i64 (0 - IntKind.i64.wrap more - 1)) <|
                  bindO (vAsk y3.1.1 (0 - IntKind.i64.wrap more - 1) y7.2.2.1.1 y7.2.2.1.2.1 y7.2.2.1.2.2.1 y7.2.2.1.2.2.2.1 y7.2.2.1.2.2.2.2.1 y7.2.2.1.2.2.2.2.2.1 y7.2.2.1.2.2.2.2.2.2.1 y7.2.2.1.2.2.2.2.2.2.2.1 y7.2.2.1.2.2.2.2.2.2.2.2.1 y7.2.2.1.2.2.2.2.2.2.2.2.2.1 y7.2.2.1.2.2.2.2.2.2.2.2.2.2.1 y7.2.2.1.2.2.2.2.2.2.2.2.2.2.2.1 y7.2.2.1.2.2.2.2.2.2.2.2.2.2.2.2.1 y7.2.2.1.2.2.2.2.2.2.2.2.2.2.2.2.2.1 y7.2.2.1.2.2.2.2.2.2.2.2.2.2.2.2.2.2.1 y7.2.2.1.2.2.2.2.2.2.2.2.2.2.2.2.2.2.2.1 y7.2.2.1.2.2.2.2.2.2.2.2.2.2.2.2.2.2.2.2.1 y7.2.2.1.2.2.2.2.2.2.2.2.2.2.2.2.2.2.2.2.2.1) fun y12 =>
                  some ((bif true then y12.1.1 == y11.1.1 else false, ()), (), ())
                else
                  some ((false, ()), (), ())
              else
                some ((false, ()), (), ())
          else
            some ((false, ()), (), ())
      else
        some ((false, ()), (), ())
  else
    some ((false, ()), (), ())

def SatMore (l : List (List Int)) (assume : List Int) (few : Int) (more : Int) : Option ((Bool × Unit) × Unit × Unit) := SatMoreF head rSmalls rCut rSmall made rFuel Ask l assume few more

def SatStaysF (nn : Nat) (vhead : Option ((Bool × Unit) × Unit × Unit)) (vrSmalls : List (List Int) → Option ((List (List Int) × Unit) × Unit × Unit)) (vrCut : List Int → Int → Option ((List Int × Unit) × Unit × Unit)) (vrSmall : List Int → Option ((List Int × Unit) × Unit × Unit)) (vmade : List (List Int) → Option (Unit × Unit × (Int × List (List Int) × List (List Int) × List Int × List Int × List Int × List Int × List Int × List Int × Int × List Int × List Int × Int × Bool × List (List Int) × Int × List Int × List Bool × Unit) × Unit)) (vNew : Int → Option (Unit × Unit × (Int × List (List Int) × List (List Int) × List Int × List Int × List Int × List Int × List Int × List Int × Int × List Int × List Int × Int × Bool × List (List Int) × Int × List Int × List Bool × Unit) × Unit)) (vAdd : List Int → Int → List (List Int) → List (List Int) → List Int → List Int → List Int → List Int → Int → List Int → List Int → Int → Bool → Int → List Int → List Bool → Option (Unit × ((Int × List (List Int) × List (List Int) × List Int × List Int × List Int × List Int × Int × List Int × List Int × Int × Bool × Int × List Int × List Bool × Unit) × Unit) × Unit)) (vrFuel : Int → Option ((Int × Unit) × Unit × Unit)) (vAsk : List Int → Int → Int → List (List Int) → List (List Int) → List Int → List Int → List Int → List Int → List Int → List Int → Int → List Int → List Int → Int → Bool → List (List Int) → Int → List Int → List Bool → Option ((Int × Unit) × ((Int × List (List Int) × List (List Int) × List Int × List Int × List Int × List Int × List Int × List Int × Int × List Int × List Int × Int × Bool × List (List Int) × Int × List Int × List Bool × Unit) × Unit) × Unit)) (l : List (List Int)) (asked : List (List Int)) (fl : List Int) (assume : List Int) : Option ((Bool × Unit) × Unit × Unit) :=
  bindO (vhead) fun y0 =>
  bindO (vrSmalls l) fun y1 =>
  bindO (vrCut assume 12) fun y2 =>
  bindO (vrSmall y2.1.1) fun y3 =>
  bindO (vrSmalls asked) fun y4 =>
  bindO (vmade y1.1.1) fun y5 =>
  bindO (vNew 8) fun y6 =>
  iterO (X := Int × (Int × Int × Int × Bool × Int) × List (List Int) × List (List Int) × List Int × List Int × List Int × List Int × List Int × List Int × List Int × List Int × List (List Int) × List Int × List Bool) (fun y7 =>
    bif decide (y7.1 < nI y1.1.1.length) then
      gd (0 ≤ y7.1) <|
      gd (y7.1 < nI y1.1.1.length) <|
      bindO (vAdd (getL y1.1.1 y7.1) y7.2.1.1 y7.2.2.1 y7.2.2.2.1 y7.2.2.2.2.1 y7.2.2.2.2.2.1 y7.2.2.2.2.2.2.1 y7.2.2.2.2.2.2.2.1 y7.2.1.2.1 y7.2.2.2.2.2.2.2.2.2.2.1 y7.2.2.2.2.2.2.2.2.2.2.2.1 y7.2.1.2.2.1 y7.2.1.2.2.2.1 y7.2.1.2.2.2.2 y7.2.2.2.2.2.2.2.2.2.2.2.2.2.1 y7.2.2.2.2.2.2.2.2.2.2.2.2.2.2) fun y8 =>
      bif decide (y7.1 < nI y4.1.1.length) then
        bif bif true then decide (y7.1 < nI fl.length) else false then
          gd (0 ≤ y7.1) <|
          gd (y7.1 < nI y4.1.1.length) <|
          gd (0 ≤ y7.1) <|
          gd (y7.1 < nI fl.length) <|
          bindO (vAsk (getL y4.1.1 y7.1) (IntKind.i64.wrap (get (Ty.int IntKind.u8) fl y7.1)) y8.2.1.1.1 y8.2.1.1.2.1 y8.2.1.1.2.2.1 y8.2.1.1.2.2.2.1 y8.2.1.1.2.2.2.2.1 y8.2.1.1.2.2.2.2.2.1 y8.2.1.1.2.2.2.2.2.2.1 y7.2.2.2.2.2.2.2.2.1 y7.2.2.2.2.2.2.2.2.2.1 y8.2.1.1.2.2.2.2.2.2.2.1 y8.2.1.1.2.2.2.2.2.2.2.2.1 y8.2.1.1.2.2.2.2.2.2.2.2.2.1 y8.2.1.1.2.2.2.2.2.2.2.2.2.2.1 y8.2.1.1.2.2.2.2.2.2.2.2.2.2.2.1 y7.2.2.2.2.2.2.2.2.2.2.2.2.1 y8.2.1.1.2.2.2.2.2.2.2.2.2.2.2.2.1 y8.2.1.1.2.2.2.2.2.2.2.2.2.2.2.2.2.1 y8.2.1.1.2.2.2.2.2.2.2.2.2.2.2.2.2.2.1) fun y9 =>
          gd (inK IntKind.i64 (y7.1 + 1)) <|
          some (Sum.inl (y7.1 + 1, (y9.2.1.1.1, y9.2.1.1.2.2.2.2.2.2.2.2.2.1, y9.2.1.1.2.2.2.2.2.2.2.2.2.2.2.2.1, y9.2.1.1.2.2.2.2.2.2.2.2.2.2.2.2.2.1, y9.2.1.1.2.2.2.2.2.2.2.2.2.2.2.2.2.2.2.1), y9.2.1.1.2.1, y9.2.1.1.2.2.1, y9.2.1.1.2.2.2.1, y9.2.1.1.2.2.2.2.1, y9.2.1.1.2.2.2.2.2.1, y9.2.1.1.2.2.2.2.2.2.1, y9.2.1.1.2.2.2.2.2.2.2.1, y9.2.1.1.2.2.2.2.2.2.2.2.1, y9.2.1.1.2.2.2.2.2.2.2.2.2.2.1, y9.2.1.1.2.2.2.2.2.2.2.2.2.2.2.1, y9.2.1.1.2.2.2.2.2.2.2.2.2.2.2.2.2.2.1, y9.2.1.1.2.2.2.2.2.2.2.2.2.2.2.2.2.2.2.2.1, y9.2.1.1.2.2.2.2.2.2.2.2.2.2.2.2.2.2.2.2.2.1))
        else
          gd (inK IntKind.i64 (y7.1 + 1)) <|
          some (Sum.inl (y7.1 + 1, (y8.2.1.1.1, y8.2.1.1.2.2.2.2.2.2.2.1, y8.2.1.1.2.2.2.2.2.2.2.2.2.2.1, y8.2.1.1.2.2.2.2.2.2.2.2.2.2.2.1, y8.2.1.1.2.2.2.2.2.2.2.2.2.2.2.2.1), y8.2.1.1.2.1, y8.2.1.1.2.2.1, y8.2.1.1.2.2.2.1, y8.2.1.1.2.2.2.2.1, y8.2.1.1.2.2.2.2.2.1, y8.2.1.1.2.2.2.2.2.2.1, y7.2.2.2.2.2.2.2.2.1, y7.2.2.2.2.2.2.2.2.2.1, y8.2.1.1.2.2.2.2.2.2.2.2.1, y8.2.1.1.2.2.2.2.2.2.2.2.2.1, y7.2.2.2.2.2.2.2.2.2.2.2.2.1, y8.2.1.1.2.2.2.2.2.2.2.2.2.2.2.2.2.1, y8.2.1.1.2.2.2.2.2.2.2.2.2.2.2.2.2.2.1))
      else
        gd (inK IntKind.i64 (y7.1 + 1)) <|
        some (Sum.inl (y7.1 + 1, (y8.2.1.1.1, y8.2.1.1.2.2.2.2.2.2.2.1, y8.2.1.1.2.2.2.2.2.2.2.2.2.2.1, y8.2.1.1.2.2.2.2.2.2.2.2.2.2.2.1, y8.2.1.1.2.2.2.2.2.2.2.2.2.2.2.2.1), y8.2.1.1.2.1, y8.2.1.1.2.2.1, y8.2.1.1.2.2.2.1, y8.2.1.1.2.2.2.2.1, y8.2.1.1.2.2.2.2.2.1, y8.2.1.1.2.2.2.2.2.2.1, y7.2.2.2.2.2.2.2.2.1, y7.2.2.2.2.2.2.2.2.2.1, y8.2.1.1.2.2.2.2.2.2.2.2.1, y8.2.1.1.2.2.2.2.2.2.2.2.2.1, y7.2.2.2.2.2.2.2.2.2.2.2.2.1, y8.2.1.1.2.2.2.2.2.2.2.2.2.2.2.2.2.1, y8.2.1.1.2.2.2.2.2.2.2.2.2.2.2.2.2.2.1))
    else
      bif y0.1.1 then
        bindO (vrFuel 8) fun y8 =>
        bindO (vAsk y3.1.1 y8.1.1 y5.2.2.1.1 y5.2.2.1.2.1 y5.2.2.1.2.2.1 y5.2.2.1.2.2.2.1 y5.2.2.1.2.2.2.2.1 y5.2.2.1.2.2.2.2.2.1 y5.2.2.1.2.2.2.2.2.2.1 y5.2.2.1.2.2.2.2.2.2.2.1 y5.2.2.1.2.2.2.2.2.2.2.2.1 y5.2.2.1.2.2.2.2.2.2.2.2.2.1 y5.2.2.1.2.2.2.2.2.2.2.2.2.2.1 y5.2.2.1.2.2.2.2.2.2.2.2.2.2.2.1 y5.2.2.1.2.2.2.2.2.2.2.2.2.2.2.2.1 y5.2.2.1.2.2.2.2.2.2.2.2.2.2.2.2.2.1 y5.2.2.1.2.2.2.2.2.2.2.2.2.2.2.2.2.2.1 y5.2.2.1.2.2.2.2.2.2.2.2.2.2.2.2.2.2.2.1 y5.2.2.1.2.2.2.2.2.2.2.2.2.2.2.2.2.2.2.2.1 y5.2.2.1.2.2.2.2.2.2.2.2.2.2.2.2.2.2.2.2.2.1) fun y9 =>
        bindO (vrFuel 8) fun y10 =>
        bindO (vAsk y3.1.1 y10.1.1 y7.2.1.1 y7.2.2.1 y7.2.2.2.1 y7.2.2.2.2.1 y7.2.2.2.2.2.1 y7.2.2.2.2.2.2.1 y7.2.2.2.2.2.2.2.1 y7.2.2.2.2.2.2.2.2.1 y7.2.2.2.2.2.2.2.2.2.1 y7.2.1.2.1 y7.2.2.2.2.2.2.2.2.2.2.1 y7.2.2.2.2.2.2.2.2.2.2.2.1 y7.2.1.2.2.1 y7.2.1.2.2.2.1 y7.2.2.2.2.2.2.2.2.2.2.2.2.1 y7.2.1.2.2.2.2 y7.2.2.2.2.2.2.2.2.2.2.2.2.2.1 y7.2.2.2.2.2.2.2.2.2.2.2.2.2.2) fun y11 =>
        some (Sum.inr ((bif true then y9.1.1 == y11.1.1 else false, ()), (), ()))
      else
        some (Sum.inr ((false, ()), (), ()))) (nn) (0, (y6.2.2.1.1, y6.2.2.1.2.2.2.2.2.2.2.2.2.1, y6.2.2.1.2.2.2.2.2.2.2.2.2.2.2.2.1, y6.2.2.1.2.2.2.2.2.2.2.2.2.2.2.2.2.1, y6.2.2.1.2.2.2.2.2.2.2.2.2.2.2.2.2.2.2.1), y6.2.2.1.2.1, y6.2.2.1.2.2.1, y6.2.2.1.2.2.2.1, y6.2.2.1.2.2.2.2.1, y6.2.2.1.2.2.2.2.2.1, y6.2.2.1.2.2.2.2.2.2.1, y6.2.2.1.2.2.2.2.2.2.2.1, y6.2.2.1.2.2.2.2.2.2.2.2.1, y6.2.2.1.2.2.2.2.2.2.2.2.2.2.1, y6.2.2.1.2.2.2.2.2.2.2.2.2.2.2.1, y6.2.2.1.2.2.2.2.2.2.2.2.2.2.2.2.2.2.1, y6.2.2.1.2.2.2.2.2.2.2.2.2.2.2.2.2.2.2.2.1, y6.2.2.1.2.2.2.2.2.2.2.2.2.2.2.2.2.2.2.2.2.1)

def SatStays (l : List (List Int)) (asked : List (List Int)) (fl : List Int) (assume : List Int) : Option ((Bool × Unit) × Unit × Unit) := SatStaysF fuelN head rSmalls rCut rSmall made New Add rFuel Ask l asked fl assume

def SatProofF (nn : Nat) (vhead : Option ((Bool × Unit) × Unit × Unit)) (vrSmalls : List (List Int) → Option ((List (List Int) × Unit) × Unit × Unit)) (vrCut : List Int → Int → Option ((List Int × Unit) × Unit × Unit)) (vrSmall : List Int → Option ((List Int × Unit) × Unit × Unit)) (vNew : Int → Option (Unit × Unit × (Int × List (List Int) × List (List Int) × List Int × List Int × List Int × List Int × List Int × List Int × Int × List Int × List Int × Int × Bool × List (List Int) × Int × List Int × List Bool × Unit) × Unit)) (vAdd : List Int → Int → List (List Int) → List (List Int) → List Int → List Int → List Int → List Int → Int → List Int → List Int → Int → Bool → Int → List Int → List Bool → Option (Unit × ((Int × List (List Int) × List (List Int) × List Int × List Int × List Int × List Int × Int × List Int × List Int × Int × Bool × Int × List Int × List Bool × Unit) × Unit) × Unit)) (vrFuel : Int → Option ((Int × Unit) × Unit × Unit)) (vAsk : List Int → Int → Int → List (List Int) → List (List Int) → List Int → List Int → List Int → List Int → List Int → List Int → Int → List Int → List Int → Int → Bool → List (List Int) → Int → List Int → List Bool → Option ((Int × Unit) × ((Int × List (List Int) × List (List Int) × List Int × List Int × List Int × List Int × List Int × List Int × Int × List Int × List Int × Int × Bool × List (List Int) × Int × List Int × List Bool × Unit) × Unit) × Unit)) (vProof : List (List Int) → Int → Option ((List (List Int) × Unit) × ((List (List Int) × Int × Unit) × Unit) × Unit)) (vCore : List Int → Option ((List Int × Unit) × ((List Int × Unit) × Unit) × Unit)) (vrNorm : List Int → Option ((List Int × Bool × Unit) × Unit × Unit)) (vrRefutes : List (List Int) → Int → List (List Int) → List Int → Option ((Bool × Unit) × Unit × Unit)) (l : List (List Int)) (asked : List (List Int)) (assume : List Int) : Option ((Bool × Unit) × Unit × Unit) :=
  bindO (vhead) fun y0 =>
  bindO (vrSmalls l) fun y1 =>
  bindO (vrCut assume 12) fun y2 =>
  bindO (vrSmall y2.1.1) fun y3 =>
  bindO (vrSmalls asked) fun y4 =>
  bindO (vNew 8) fun y5 =>
  iterO (X := Int × (Int × Int × Int × Bool × Int) × List (List Int) × List (List Int) × List Int × List Int × List Int × List Int × List Int × List Int × List Int × List Int × List (List Int) × List Int × List Bool) (fun y6 =>
    bif decide (y6.1 < nI y1.1.1.length) then
      gd (0 ≤ y6.1) <|
      gd (y6.1 < nI y1.1.1.length) <|
      bindO (vAdd (getL y1.1.1 y6.1) y6.2.1.1 y6.2.2.1 y6.2.2.2.1 y6.2.2.2.2.1 y6.2.2.2.2.2.1 y6.2.2.2.2.2.2.1 y6.2.2.2.2.2.2.2.1 y6.2.1.2.1 y6.2.2.2.2.2.2.2.2.2.2.1 y6.2.2.2.2.2.2.2.2.2.2.2.1 y6.2.1.2.2.1 y6.2.1.2.2.2.1 y6.2.1.2.2.2.2 y6.2.2.2.2.2.2.2.2.2.2.2.2.2.1 y6.2.2.2.2.2.2.2.2.2.2.2.2.2.2) fun y7 =>
      bif decide (y6.1 < nI y4.1.1.length) then
        gd (0 ≤ y6.1) <|
        gd (y6.1 < nI y4.1.1.length) <|
        bindO (vrFuel 8) fun y8 =>
        bindO (vAsk (getL y4.1.1 y6.1) y8.1.1 y7.2.1.1.1 y7.2.1.1.2.1 y7.2.1.1.2.2.1 y7.2.1.1.2.2.2.1 y7.2.1.1.2.2.2.2.1 y7.2.1.1.2.2.2.2.2.1 y7.2.1.1.2.2.2.2.2.2.1 y6.2.2.2.2.2.2.2.2.1 y6.2.2.2.2.2.2.2.2.2.1 y7.2.1.1.2.2.2.2.2.2.2.1 y7.2.1.1.2.2.2.2.2.2.2.2.1 y7.2.1.1.2.2.2.2.2.2.2.2.2.1 y7.2.1.1.2.2.2.2.2.2.2.2.2.2.1 y7.2.1.1.2.2.2.2.2.2.2.2.2.2.2.1 y6.2.2.2.2.2.2.2.2.2.2.2.2.1 y7.2.1.1.2.2.2.2.2.2.2.2.2.2.2.2.1 y7.2.1.1.2.2.2.2.2.2.2.2.2.2.2.2.2.1 y7.2.1.1.2.2.2.2.2.2.2.2.2.2.2.2.2.2.1) fun y9 =>
        gd (inK IntKind.i64 (y6.1 + 1)) <|
        some (Sum.inl (y6.1 + 1, (y9.2.1.1.1, y9.2.1.1.2.2.2.2.2.2.2.2.2.1, y9.2.1.1.2.2.2.2.2.2.2.2.2.2.2.2.1, y9.2.1.1.2.2.2.2.2.2.2.2.2.2.2.2.2.1, y9.2.1.1.2.2.2.2.2.2.2.2.2.2.2.2.2.2.2.1), y9.2.1.1.2.1, y9.2.1.1.2.2.1, y9.2.1.1.2.2.2.1, y9.2.1.1.2.2.2.2.1, y9.2.1.1.2.2.2.2.2.1, y9.2.1.1.2.2.2.2.2.2.1, y9.2.1.1.2.2.2.2.2.2.2.1, y9.2.1.1.2.2.2.2.2.2.2.2.1, y9.2.1.1.2.2.2.2.2.2.2.2.2.2.1, y9.2.1.1.2.2.2.2.2.2.2.2.2.2.2.1, y9.2.1.1.2.2.2.2.2.2.2.2.2.2.2.2.2.2.1, y9.2.1.1.2.2.2.2.2.2.2.2.2.2.2.2.2.2.2.2.1, y9.2.1.1.2.2.2.2.2.2.2.2.2.2.2.2.2.2.2.2.2.1))
      else
        gd (inK IntKind.i64 (y6.1 + 1)) <|
        some (Sum.inl (y6.1 + 1, (y7.2.1.1.1, y7.2.1.1.2.2.2.2.2.2.2.1, y7.2.1.1.2.2.2.2.2.2.2.2.2.2.1, y7.2.1.1.2.2.2.2.2.2.2.2.2.2.2.1, y7.2.1.1.2.2.2.2.2.2.2.2.2.2.2.2.1), y7.2.1.1.2.1, y7.2.1.1.2.2.1, y7.2.1.1.2.2.2.1, y7.2.1.1.2.2.2.2.1, y7.2.1.1.2.2.2.2.2.1, y7.2.1.1.2.2.2.2.2.2.1, y6.2.2.2.2.2.2.2.2.1, y6.2.2.2.2.2.2.2.2.2.1, y7.2.1.1.2.2.2.2.2.2.2.2.1, y7.2.1.1.2.2.2.2.2.2.2.2.2.1, y6.2.2.2.2.2.2.2.2.2.2.2.2.1, y7.2.1.1.2.2.2.2.2.2.2.2.2.2.2.2.2.1, y7.2.1.1.2.2.2.2.2.2.2.2.2.2.2.2.2.2.1))
    else
      bindO (vrFuel 8) fun y7 =>
      bindO (vAsk y3.1.1 y7.1.1 y6.2.1.1 y6.2.2.1 y6.2.2.2.1 y6.2.2.2.2.1 y6.2.2.2.2.2.1 y6.2.2.2.2.2.2.1 y6.2.2.2.2.2.2.2.1 y6.2.2.2.2.2.2.2.2.1 y6.2.2.2.2.2.2.2.2.2.1 y6.2.1.2.1 y6.2.2.2.2.2.2.2.2.2.2.1 y6.2.2.2.2.2.2.2.2.2.2.2.1 y6.2.1.2.2.1 y6.2.1.2.2.2.1 y6.2.2.2.2.2.2.2.2.2.2.2.2.1 y6.2.1.2.2.2.2 y6.2.2.2.2.2.2.2.2.2.2.2.2.2.1 y6.2.2.2.2.2.2.2.2.2.2.2.2.2.2) fun y8 =>
      bif y8.1.1 != 2 then
        bif y0.1.1 then
          bif bif true then y8.1.1 == 1 else false then
            bindO (vProof y8.2.1.1.2.2.2.2.2.2.2.2.2.2.2.2.2.2.1 y8.2.1.1.2.2.2.2.2.2.2.2.2.2.2.2.2.2.2.1) fun y9 =>
            some (Sum.inr ((bif true then nI y9.1.1.length == 0 else false, ()), (), ()))
          else
            some (Sum.inr ((false, ()), (), ()))
        else
          some (Sum.inr ((false, ()), (), ()))
      else
        bindO (vProof y8.2.1.1.2.2.2.2.2.2.2.2.2.2.2.2.2.2.1 y8.2.1.1.2.2.2.2.2.2.2.2.2.2.2.2.2.2.2.1) fun y9 =>
        iterO (X := Int) (fun y10 =>
          bif decide (y10 < nI y9.1.1.length) then
            gd (0 ≤ y10) <|
            gd (y10 < nI y9.1.1.length) <|
            bindO (vrNorm (getL y9.1.1 y10)) fun y11 =>
            bif !y11.1.2.1 then
              some (Sum.inr (Sum.inr ((false, ()), (), ())))
            else
              gd (0 ≤ y10) <|
              gd (y10 < nI y9.1.1.length) <|
              bif bif false then true else nI y11.1.1.length != nI (List.length (getL y9.1.1 y10)) then
                some (Sum.inr (Sum.inr ((false, ()), (), ())))
              else
                gd (inK IntKind.i64 (y10 + 1)) <|
                some (Sum.inl (y10 + 1))
          else
            bif y0.1.1 then
              bindO (vCore y8.2.1.1.2.2.2.2.2.2.2.2.2.2.2.2.2.2.2.2.1) fun y11 =>
              bindO (vrRefutes y1.1.1 8 y9.1.1 y11.1.1) fun y12 =>
              some (Sum.inr (Sum.inr ((bif true then y12.1.1 else false, ()), (), ())))
            else
              some (Sum.inr (Sum.inr ((false, ()), (), ())))) (nn) 0) (nn) (0, (y5.2.2.1.1, y5.2.2.1.2.2.2.2.2.2.2.2.2.1, y5.2.2.1.2.2.2.2.2.2.2.2.2.2.2.2.1, y5.2.2.1.2.2.2.2.2.2.2.2.2.2.2.2.2.1, y5.2.2.1.2.2.2.2.2.2.2.2.2.2.2.2.2.2.2.1), y5.2.2.1.2.1, y5.2.2.1.2.2.1, y5.2.2.1.2.2.2.1, y5.2.2.1.2.2.2.2.1, y5.2.2.1.2.2.2.2.2.1, y5.2.2.1.2.2.2.2.2.2.1, y5.2.2.1.2.2.2.2.2.2.2.1, y5.2.2.1.2.2.2.2.2.2.2.2.1, y5.2.2.1.2.2.2.2.2.2.2.2.2.2.1, y5.2.2.1.2.2.2.2.2.2.2.2.2.2.2.1, y5.2.2.1.2.2.2.2.2.2.2.2.2.2.2.2.2.2.1, y5.2.2.1.2.2.2.2.2.2.2.2.2.2.2.2.2.2.2.2.1, y5.2.2.1.2.2.2.2.2.2.2.2.2.2.2.2.2.2.2.2.2.1)

def SatProof (l : List (List Int)) (asked : List (List Int)) (assume : List Int) : Option ((Bool × Unit) × Unit × Unit) := SatProofF fuelN head rSmalls rCut rSmall New Add rFuel Ask Proof Core rNorm rRefutes l asked assume

def SatOrderF (nn : Nat) (vhead : Option ((Bool × Unit) × Unit × Unit)) (vrSmalls : List (List Int) → Option ((List (List Int) × Unit) × Unit × Unit)) (vrCut : List Int → Int → Option ((List Int × Unit) × Unit × Unit)) (vrSmall : List Int → Option ((List Int × Unit) × Unit × Unit)) (vmade : List (List Int) → Option (Unit × Unit × (Int × List (List Int) × List (List Int) × List Int × List Int × List Int × List Int × List Int × List Int × Int × List Int × List Int × Int × Bool × List (List Int) × Int × List Int × List Bool × Unit) × Unit)) (vrFuel : Int → Option ((Int × Unit) × Unit × Unit)) (vAsk : List Int → Int → Int → List (List Int) → List (List Int) → List Int → List Int → List Int → List Int → List Int → List Int → Int → List Int → List Int → Int → Bool → List (List Int) → Int → List Int → List Bool → Option ((Int × Unit) × ((Int × List (List Int) × List (List Int) × List Int × List Int × List Int × List Int × List Int × List Int × Int × List Int × List Int × Int × Bool × List (List Int) × Int × List Int × List Bool × Unit) × Unit) × Unit)) (l : List (List Int)) (assume : List Int) (twice : Int) : Option ((Bool × Unit) × Unit × Unit) :=
  bindO (vhead) fun y0 =>
  bindO (vrSmalls l) fun y1 =>
  bindO (vrCut assume 12) fun y2 =>
  bindO (vrSmall y2.1.1) fun y3 =>
  gd (inK IntKind.i64 (nI y1.1.1.length - 1)) <|
  iterO (X := Int × List (List Int) × List (List Int)) (fun y4 =>
    bif decide (y4.1 ≥ 0) then
      gd (0 ≤ y4.1) <|
      gd (y4.1 < nI y1.1.1.length) <|
      gd (inK IntKind.i64 (nI (List.length (getL y1.1.1 y4.1)) - 1)) <|
      iterO (X := Int × List Int × List Int) (fun y5 =>
        bif decide (y5.1 ≥ 0) then
          gd (0 ≤ y4.1) <|
          gd (y4.1 < nI y1.1.1.length) <|
          gd (0 ≤ y5.1) <|
          gd (y5.1 < nI (List.length (getL y1.1.1 y4.1))) <|
          gd ((y5.2.1.length + [getI (getL y1.1.1 y4.1) y5.1].length) * 8 ≤ lim) <|
          gd (y5.2.1.length + [getI (getL y1.1.1 y4.1) y5.1].length ≤ lim) <|
          gd (inK IntKind.i64 (y5.1 - 1)) <|
          some (Sum.inl (y5.1 - 1, y5.2.1 ++ [getI (getL y1.1.1 y4.1) y5.1], y5.2.1 ++ [getI (getL y1.1.1 y4.1) y5.1]))
        else
          gd ((y4.2.1.length + [y5.2.1].length) * 24 ≤ lim) <|
          gd (y4.2.1.length + [y5.2.1].length ≤ lim) <|
          gd (inK IntKind.i64 (y4.1 - 1)) <|
          some (Sum.inr (Sum.inl (y4.1 - 1, y4.2.1 ++ [y5.2.1], y4.2.1 ++ [y5.2.1])))) (nn) (nI (List.length (getL y1.1.1 y4.1)) - 1, [], [])
    else
      gd (inK IntKind.i64 (nI y3.1.1.length - 1)) <|
      iterO (X := Int × List Int × List Int) (fun y5 =>
        bif decide (y5.1 ≥ 0) then
          gd (0 ≤ y5.1) <|
          gd (y5.1 < nI y3.1.1.length) <|
          gd ((y5.2.1.length + [getI y3.1.1 y5.1].length) * 8 ≤ lim) <|
          gd (y5.2.1.length + [getI y3.1.1 y5.1].length ≤ lim) <|
          gd (inK IntKind.i64 (y5.1 - 1)) <|
          some (Sum.inl (y5.1 - 1, y5.2.1 ++ [getI y3.1.1 y5.1], y5.2.1 ++ [getI y3.1.1 y5.1]))
        else
          bif decide (nI y1.1.1.length > 0) then
            gd (nI y1.1.1.length ≠ 0) <|
            gd (0 ≤ (IntKind.i64.wrap twice).tmod (nI y1.1.1.length)) <|
            gd ((IntKind.i64.wrap twice).tmod (nI y1.1.1.length) < nI y1.1.1.length) <|
            gd ((y4.2.1.length + [getL y1.1.1 ((IntKind.i64.wrap twice).tmod (nI y1.1.1.length))].length) * 24 ≤ lim) <|
            gd (y4.2.1.length + [getL y1.1.1 ((IntKind.i64.wrap twice).tmod (nI y1.1.1.length))].length ≤ lim) <|
            bindO (vmade y1.1.1) fun y6 =>
            bindO (vmade (y4.2.1 ++ [getL y1.1.1 ((IntKind.i64.wrap twice).tmod (nI y1.1.1.length))])) fun y7 =>
            bif y0.1.1 then
              bindO (vrFuel 8) fun y8 =>
              bindO (vAsk y3.1.1 y8.1.1 y6.2.2.1.1 y6.2.2.1.2.1 y6.2.2.1.2.2.1 y6.2.2.1.2.2.2.1 y6.2.2.1.2.2.2.2.1 y6.2.2.1.2.2.2.2.2.1 y6.2.2.1.2.2.2.2.2.2.1 y6.2.2.1.2.2.2.2.2.2.2.1 y6.2.2.1.2.2.2.2.2.2.2.2.1 y6.2.2.1.2.2.2.2.2.2.2.2.2.1 y6.2.2.1.2.2.2.2.2.2.2.2.2.2.1 y6.2.2.1.2.2.2.2.2.2.2.2.2.2.2.1 y6.2.2.1.2.2.2.2.2.2.2.2.2.2.2.2.1 y6.2.2.1.2.2.2.2.2.2.2.2.2.2.2.2.2.1 y6.2.2.1.2.2.2.2.2.2.2.2.2.2.2.2.2.2.1 y6.2.2.1.2.2.2.2.2.2.2.2.2.2.2.2.2.2.2.1 y6.2.2.1.2.2.2.2.2.2.2.2.2.2.2.2.2.2.2.2.1 y6.2.2.1.2.2.2.2.2.2.2.2.2.2.2.2.2.2.2.2.2.1) fun y9 =>
              bindO (vrFuel 8) fun y10 =>
              bindO (vAsk y5.2.1 y10.1.1 y7.2.2.1.1 y7.2.2.1.2.1 y7.2.2.1.2.2.1 y7.2.2.1.2.2.2.1 y7.2.2.1.2.2.2.2.1 y7.2.2.1.2.2.2.2.2.1 y7.2.2.1.2.2.2.2.2.2.1 y7.2.2.1.2.2.2.2.2.2.2.1 y7.2.2.1.2.2.2.2.2.2.2.2.1 y7.2.2.1.2.2.2.2.2.2.2.2.2.1 y7.2.2.1.2.2.2.2.2.2.2.2.2.2.1 y7.2.2.1.2.2.2.2.2.2.2.2.2.2.2.1 y7.2.2.1.2.2.2.2.2.2.2.2.2.2.2.2.1 y7.2.2.1.2.2.2.2.2.2.2.2.2.2.2.2.2.1 y7.2.2.1.2.2.2.2.2.2.2.2.2.2.2.2.2.2.1 y7.2.2.1.2.2.2.2.2.2.2.2.2.2.2.2.2.2.2.1 y7.2.2.1.2.2.2.2.2.2.2.2.2.2.2.2.2.2.2.2.1 y7.2.2.1.2.2.2.2.2.2.2.2.2.2.2.2.2.2.2.2.2.1) fun y11 =>
              some (Sum.inr (Sum.inr ((bif true then y9.1.1 == y11.1.1 else false, ()), (), ())))
            else
              some (Sum.inr (Sum.inr ((false, ()), (), ())))
          else
            bindO (vmade y1.1.1) fun y6 =>
            bindO (vmade y4.2.1) fun y7 =>
            bif y0.1.1 then
              bindO (vrFuel 8) fun y8 =>
              bindO (vAsk y3.1.1 y8.1.1 y6.2.2.1.1 y6.2.2.1.2.1 y6.2.2.1.2.2.1 y6.2.2.1.2.2.2.1 y6.2.2.1.2.2.2.2.1 y6.2.2.1.2.2.2.2.2.1 y6.2.2.1.2.2.2.2.2.2.1 y6.2.2.1.2.2.2.2.2.2.2.1 y6.2.2.1.2.2.2.2.2.2.2.2.1 y6.2.2.1.2.2.2.2.2.2.2.2.2.1 y6.2.2.1.2.2.2.2.2.2.2.2.2.2.1 y6.2.2.1.2.2.2.2.2.2.2.2.2.2.2.1 y6.2.2.1.2.2.2.2.2.2.2.2.2.2.2.2.1 y6.2.2.1.2.2.2.2.2.2.2.2.2.2.2.2.2.1 y6.2.2.1.2.2.2.2.2.2.2.2.2.2.2.2.2.2.1 y6.2.2.1.2.2.2.2.2.2.2.2.2.2.2.2.2.2.2.1 y6.2.2.1.2.2.2.2.2.2.2.2.2.2.2.2.2.2.2.2.1 y6.2.2.1.2.2.2.2.2.2.2.2.2.2.2.2.2.2.2.2.2.1) fun y9 =>
              bindO (vrFuel 8) fun y10 =>
              bindO (vAsk y5.2.1 y10.1.1 y7.2.2.1.1 y7.2.2.1.2.1 y7.2.2.1.2.2.1 y7.2.2.1.2.2.2.1 y7.2.2.1.2.2.2.2.1 y7.2.2.1.2.2.2.2.2.1 y7.2.2.1.2.2.2.2.2.2.1 y7.2.2.1.2.2.2.2.2.2.2.1 y7.2.2.1.2.2.2.2.2.2.2.2.1 y7.2.2.1.2.2.2.2.2.2.2.2.2.1 y7.2.2.1.2.2.2.2.2.2.2.2.2.2.1 y7.2.2.1.2.2.2.2.2.2.2.2.2.2.2.1 y7.2.2.1.2.2.2.2.2.2.2.2.2.2.2.2.1 y7.2.2.1.2.2.2.2.2.2.2.2.2.2.2.2.2.1 y7.2.2.1.2.2.2.2.2.2.2.2.2.2.2.2.2.2.1 y7.2.2.1.2.2.2.2.2.2.2.2.2.2.2.2.2.2.2.1 y7.2.2.1.2.2.2.2.2.2.2.2.2.2.2.2.2.2.2.2.1 y7.2.2.1.2.2.2.2.2.2.2.2.2.2.2.2.2.2.2.2.2.1) fun y11 =>
              some (Sum.inr (Sum.inr ((bif true then y9.1.1 == y11.1.1 else false, ()), (), ())))
            else
              some (Sum.inr (Sum.inr ((false, ()), (), ())))) (nn) (nI y3.1.1.length - 1, [], [])) (nn) (nI y1.1.1.length - 1, [], [])

def SatOrder (l : List (List Int)) (assume : List Int) (twice : Int) : Option ((Bool × Unit) × Unit × Unit) := SatOrderF fuelN head rSmalls rCut rSmall made rFuel Ask l assume twice

def SatTellsF (nn : Nat) (vhead : Option ((Bool × Unit) × Unit × Unit)) (vgreat : List (Int × Int × List Int × Unit) → Option ((Bool × Unit) × Unit × Unit)) (vNew : Int → Option (Unit × Unit × (Int × List (List Int) × List (List Int) × List Int × List Int × List Int × List Int × List Int × List Int × Int × List Int × List Int × Int × Bool × List (List Int) × Int × List Int × List Bool × Unit) × Unit)) (vrNew : Int → Option (Unit × Unit × (Int × List (List Int) × Unit) × Unit)) (vAdd : List Int → Int → List (List Int) → List (List Int) → List Int → List Int → List Int → List Int → Int → List Int → List Int → Int → Bool → Int → List Int → List Bool → Option (Unit × ((Int × List (List Int) × List (List Int) × List Int × List Int × List Int × List Int × Int × List Int × List Int × Int × Bool × Int × List Int × List Bool × Unit) × Unit) × Unit)) (vrAdd : List Int → Int → List (List Int) → Option (Unit × ((Int × List (List Int) × Unit) × Unit) × Unit)) (vrFuel : Int → Option ((Int × Unit) × Unit × Unit)) (vAsk : List Int → Int → Int → List (List Int) → List (List Int) → List Int → List Int → List Int → List Int → List Int → List Int → Int → List Int → List Int → Int → Bool → List (List Int) → Int → List Int → List Bool → Option ((Int × Unit) × ((Int × List (List Int) × List (List Int) × List Int × List Int × List Int × List Int × List Int × List Int × Int × List Int × List Int × Int × Bool × List (List Int) × Int × List Int × List Bool × Unit) × Unit) × Unit)) (vrAsk : List Int → Int → List (List Int) → Option ((Int × Unit) × ((Int × List (List Int) × Unit) × Unit) × Unit)) (vModel : List Bool → Option ((List Bool × Unit) × ((List Bool × Unit) × Unit) × Unit)) (vCore : List Int → Option ((List Int × Unit) × ((List Int × Unit) × Unit) × Unit)) (vProof : List (List Int) → Int → Option ((List (List Int) × Unit) × ((List (List Int) × Int × Unit) × Unit) × Unit)) (vGrow : Int → Int → List (List Int) → List Int → List Int → List Int → List Int → List Int → Int → List Int → List Bool → Option (Unit × ((Int × List (List Int) × List Int × List Int × List Int × List Int × List Int × Int × List Int × List Bool × Unit) × Unit) × Unit)) (vrGrow : Int → Int → Option (Unit × ((Int × Unit) × Unit) × Unit)) (first : Int) (l : List (Int × Int × List Int × Unit)) : Option ((Bool × Unit) × Unit × Unit) :=
  bindO (vhead) fun y0 =>
  bindO (vgreat l) fun y1 =>
  bif y1.1.1 then
    some ((y0.1.1, ()), (), ())
  else
    bif bif false then true else decide (first > 8) then
      some ((y0.1.1, ()), (), ())
    else
      bindO (vNew first) fun y2 =>
      bindO (vrNew first) fun y3 =>
      iterO (X := Int × (Int × Int × Int × Bool × Int) × List (List Int) × List (List Int) × List Int × List Int × List Int × List Int × List Int × List Int × List Int × List Int × List (List Int) × List Int × List Bool × Int × List (List Int)) (fun y4 =>
        bif decide (y4.1 < nI l.length) then
          gd (0 ≤ y4.1) <|
          gd (y4.1 < nI l.length) <|
          bif (get actT l y4.1).1 == 0 then
            bindO (vAdd (get actT l y4.1).2.2.1 y4.2.1.1 y4.2.2.1 y4.2.2.2.1 y4.2.2.2.2.1 y4.2.2.2.2.2.1 y4.2.2.2.2.2.2.1 y4.2.2.2.2.2.2.2.1 y4.2.1.2.1 y4.2.2.2.2.2.2.2.2.2.2.1 y4.2.2.2.2.2.2.2.2.2.2.2.1 y4.2.1.2.2.1 y4.2.1.2.2.2.1 y4.2.1.2.2.2.2 y4.2.2.2.2.2.2.2.2.2.2.2.2.2.1 y4.2.2.2.2.2.2.2.2.2.2.2.2.2.2.1) fun y5 =>
            bindO (vrAdd (get actT l y4.1).2.2.1 y4.2.2.2.2.2.2.2.2.2.2.2.2.2.2.2.1 y4.2.2.2.2.2.2.2.2.2.2.2.2.2.2.2.2) fun y6 =>
            bindO (vModel y5.2.1.1.2.2.2.2.2.2.2.2.2.2.2.2.2.2.1) fun y7 =>
            bindO (vCore y5.2.1.1.2.2.2.2.2.2.2.2.2.2.2.2.2.1) fun y8 =>
            gd (inK IntKind.i64 (nI y7.1.1.length + nI y8.1.1.length)) <|
            bindO (vProof y4.2.2.2.2.2.2.2.2.2.2.2.2.1 y5.2.1.1.2.2.2.2.2.2.2.2.2.2.2.2.1) fun y9 =>
            gd (inK IntKind.i64 (nI y7.1.1.length + nI y8.1.1.length + nI y9.1.1.length)) <|
            bif decide (nI y7.1.1.length + nI y8.1.1.length + nI y9.1.1.length > 0) then
              bif bif true then decide ((get actT l y4.1).1 ≥ 0) else false then
                bif bif true then decide ((get actT l y4.1).1 ≤ 2) else false then
                  some (Sum.inr ((false, ()), (), ()))
                else
                  gd (inK IntKind.i64 (y4.1 + 1)) <|
                  some (Sum.inl (y4.1 + 1, (y5.2.1.1.1, y5.2.1.1.2.2.2.2.2.2.2.1, y5.2.1.1.2.2.2.2.2.2.2.2.2.2.1, y5.2.1.1.2.2.2.2.2.2.2.2.2.2.2.1, y9.2.1.1.2.1), y5.2.1.1.2.1, y5.2.1.1.2.2.1, y5.2.1.1.2.2.2.1, y5.2.1.1.2.2.2.2.1, y5.2.1.1.2.2.2.2.2.1, y5.2.1.1.2.2.2.2.2.2.1, y4.2.2.2.2.2.2.2.2.1, y4.2.2.2.2.2.2.2.2.2.1, y5.2.1.1.2.2.2.2.2.2.2.2.1, y5.2.1.1.2.2.2.2.2.2.2.2.2.1, y9.2.1.1.1, y5.2.1.1.2.2.2.2.2.2.2.2.2.2.2.2.2.1, y5.2.1.1.2.2.2.2.2.2.2.2.2.2.2.2.2.2.1, y6.2.1.1.1, y6.2.1.1.2.1))
              else
                gd (inK IntKind.i64 (y4.1 + 1)) <|
                some (Sum.inl (y4.1 + 1, (y5.2.1.1.1, y5.2.1.1.2.2.2.2.2.2.2.1, y5.2.1.1.2.2.2.2.2.2.2.2.2.2.1, y5.2.1.1.2.2.2.2.2.2.2.2.2.2.2.1, y9.2.1.1.2.1), y5.2.1.1.2.1, y5.2.1.1.2.2.1, y5.2.1.1.2.2.2.1, y5.2.1.1.2.2.2.2.1, y5.2.1.1.2.2.2.2.2.1, y5.2.1.1.2.2.2.2.2.2.1, y4.2.2.2.2.2.2.2.2.1, y4.2.2.2.2.2.2.2.2.2.1, y5.2.1.1.2.2.2.2.2.2.2.2.1, y5.2.1.1.2.2.2.2.2.2.2.2.2.1, y9.2.1.1.1, y5.2.1.1.2.2.2.2.2.2.2.2.2.2.2.2.2.1, y5.2.1.1.2.2.2.2.2.2.2.2.2.2.2.2.2.2.1, y6.2.1.1.1, y6.2.1.1.2.1))
            else
              gd (inK IntKind.i64 (y4.1 + 1)) <|
              some (Sum.inl (y4.1 + 1, (y5.2.1.1.1, y5.2.1.1.2.2.2.2.2.2.2.1, y5.2.1.1.2.2.2.2.2.2.2.2.2.2.1, y5.2.1.1.2.2.2.2.2.2.2.2.2.2.2.1, y9.2.1.1.2.1), y5.2.1.1.2.1, y5.2.1.1.2.2.1, y5.2.1.1.2.2.2.1, y5.2.1.1.2.2.2.2.1, y5.2.1.1.2.2.2.2.2.1, y5.2.1.1.2.2.2.2.2.2.1, y4.2.2.2.2.2.2.2.2.1, y4.2.2.2.2.2.2.2.2.2.1, y5.2.1.1.2.2.2.2.2.2.2.2.1, y5.2.1.1.2.2.2.2.2.2.2.2.2.1, y9.2.1.1.1, y5.2.1.1.2.2.2.2.2.2.2.2.2.2.2.2.2.1, y5.2.1.1.2.2.2.2.2.2.2.2.2.2.2.2.2.2.1, y6.2.1.1.1, y6.2.1.1.2.1))
          else
            bif (get actT l y4.1).1 == 1 then
              bindO (vrFuel 8) fun y5 =>
              bindO (vAsk (get actT l y4.1).2.2.1 y5.1.1 y4.2.1.1 y4.2.2.1 y4.2.2.2.1 y4.2.2.2.2.1 y4.2.2.2.2.2.1 y4.2.2.2.2.2.2.1 y4.2.2.2.2.2.2.2.1 y4.2.2.2.2.2.2.2.2.1 y4.2.2.2.2.2.2.2.2.2.1 y4.2.1.2.1 y4.2.2.2.2.2.2.2.2.2.2.1 y4.2.2.2.2.2.2.2.2.2.2.2.1 y4.2.1.2.2.1 y4.2.1.2.2.2.1 y4.2.2.2.2.2.2.2.2.2.2.2.2.1 y4.2.1.2.2.2.2 y4.2.2.2.2.2.2.2.2.2.2.2.2.2.1 y4.2.2.2.2.2.2.2.2.2.2.2.2.2.2.1) fun y6 =>
              bindO (vrAsk (get actT l y4.1).2.2.1 y4.2.2.2.2.2.2.2.2.2.2.2.2.2.2.2.1 y4.2.2.2.2.2.2.2.2.2.2.2.2.2.2.2.2) fun y7 =>
              bif y6.1.1 != y7.1.1 then
                some (Sum.inr ((false, ()), (), ()))
              else
                bindO (vModel y6.2.1.1.2.2.2.2.2.2.2.2.2.2.2.2.2.2.2.2.2.1) fun y8 =>
                bif nI y8.1.1.length == y7.2.1.1.1 then
                  bif !(y6.1.1 == 1) == bif true then decide (y7.2.1.1.1 > 0) else false then
                    bif bif false then true else bif true then decide (y7.2.1.1.1 > 0) else false then
                      some (Sum.inr ((false, ()), (), ()))
                    else
                      bif y6.1.1 != 1 then
                        bindO (vModel y6.2.1.1.2.2.2.2.2.2.2.2.2.2.2.2.2.2.2.2.2.1) fun y9 =>
                        bif bif false then true else bif true then decide (nI y9.1.1.length > 0) else false then
                          some (Sum.inr ((false, ()), (), ()))
                        else
                          bif y6.1.1 != 2 then
                            bindO (vCore y6.2.1.1.2.2.2.2.2.2.2.2.2.2.2.2.2.2.2.2.1) fun y10 =>
                            bindO (vProof y6.2.1.1.2.2.2.2.2.2.2.2.2.2.2.2.2.2.1 y6.2.1.1.2.2.2.2.2.2.2.2.2.2.2.2.2.2.2.1) fun y11 =>
                            gd (inK IntKind.i64 (nI y10.1.1.length + nI y11.1.1.length)) <|
                            bif bif false then true else bif true then decide (nI y10.1.1.length + nI y11.1.1.length > 0) else false then
                              some (Sum.inr ((false, ()), (), ()))
                            else
                              gd (inK IntKind.i64 (y4.1 + 1)) <|
                              some (Sum.inl (y4.1 + 1, (y6.2.1.1.1, y6.2.1.1.2.2.2.2.2.2.2.2.2.1, y6.2.1.1.2.2.2.2.2.2.2.2.2.2.2.2.1, y6.2.1.1.2.2.2.2.2.2.2.2.2.2.2.2.2.1, y11.2.1.1.2.1), y6.2.1.1.2.1, y6.2.1.1.2.2.1, y6.2.1.1.2.2.2.1, y6.2.1.1.2.2.2.2.1, y6.2.1.1.2.2.2.2.2.1, y6.2.1.1.2.2.2.2.2.2.1, y6.2.1.1.2.2.2.2.2.2.2.1, y6.2.1.1.2.2.2.2.2.2.2.2.1, y6.2.1.1.2.2.2.2.2.2.2.2.2.2.1, y6.2.1.1.2.2.2.2.2.2.2.2.2.2.2.1, y11.2.1.1.1, y6.2.1.1.2.2.2.2.2.2.2.2.2.2.2.2.2.2.2.2.1, y6.2.1.1.2.2.2.2.2.2.2.2.2.2.2.2.2.2.2.2.2.1, y7.2.1.1.1, y7.2.1.1.2.1))
                          else
                            gd (inK IntKind.i64 (y4.1 + 1)) <|
                            some (Sum.inl (y4.1 + 1, (y6.2.1.1.1, y6.2.1.1.2.2.2.2.2.2.2.2.2.1, y6.2.1.1.2.2.2.2.2.2.2.2.2.2.2.2.1, y6.2.1.1.2.2.2.2.2.2.2.2.2.2.2.2.2.1, y6.2.1.1.2.2.2.2.2.2.2.2.2.2.2.2.2.2.2.1), y6.2.1.1.2.1, y6.2.1.1.2.2.1, y6.2.1.1.2.2.2.1, y6.2.1.1.2.2.2.2.1, y6.2.1.1.2.2.2.2.2.1, y6.2.1.1.2.2.2.2.2.2.1, y6.2.1.1.2.2.2.2.2.2.2.1, y6.2.1.1.2.2.2.2.2.2.2.2.1, y6.2.1.1.2.2.2.2.2.2.2.2.2.2.1, y6.2.1.1.2.2.2.2.2.2.2.2.2.2.2.1, y6.2.1.1.2.2.2.2.2.2.2.2.2.2.2.2.2.2.1, y6.2.1.1.2.2.2.2.2.2.2.2.2.2.2.2.2.2.2.2.1, y6.2.1.1.2.2.2.2.2.2.2.2.2.2.2.2.2.2.2.2.2.1, y7.2.1.1.1, y7.2.1.1.2.1))
                      else
                        bif y6.1.1 != 2 then
                          bindO (vCore y6.2.1.1.2.2.2.2.2.2.2.2.2.2.2.2.2.2.2.2.1) fun y9 =>
                          bindO (vProof y6.2.1.1.2.2.2.2.2.2.2.2.2.2.2.2.2.2.1 y6.2.1.1.2.2.2.2.2.2.2.2.2.2.2.2.2.2.2.1) fun y10 =>
                          gd (inK IntKind.i64 (nI y9.1.1.length + nI y10.1.1.length)) <|
                          bif bif false then true else bif true then decide (nI y9.1.1.length + nI y10.1.1.length > 0) else false then
                            some (Sum.inr ((false, ()), (), ()))
                          else
                            gd (inK IntKind.i64 (y4.1 + 1)) <|
                            some (Sum.inl (y4.1 + 1, (y6.2.1.1.1, y6.2.1.1.2.2.2.2.2.2.2.2.2.1, y6.2.1.1.2.2.2.2.2.2.2.2.2.2.2.2.1, y6.2.1.1.2.2.2.2.2.2.2.2.2.2.2.2.2.1, y10.2.1.1.2.1), y6.2.1.1.2.1, y6.2.1.1.2.2.1, y6.2.1.1.2.2.2.1, y6.2.1.1.2.2.2.2.1, y6.2.1.1.2.2.2.2.2.1, y6.2.1.1.2.2.2.2.2.2.1, y6.2.1.1.2.2.2.2.2.2.2.1, y6.2.1.1.2.2.2.2.2.2.2.2.1, y6.2.1.1.2.2.2.2.2.2.2.2.2.2.1, y6.2.1.1.2.2.2.2.2.2.2.2.2.2.2.1, y10.2.1.1.1, y6.2.1.1.2.2.2.2.2.2.2.2.2.2.2.2.2.2.2.2.1, y6.2.1.1.2.2.2.2.2.2.2.2.2.2.2.2.2.2.2.2.2.1, y7.2.1.1.1, y7.2.1.1.2.1))
                        else
                          gd (inK IntKind.i64 (y4.1 + 1)) <|
                          some (Sum.inl (y4.1 + 1, (y6.2.1.1.1, y6.2.1.1.2.2.2.2.2.2.2.2.2.1, y6.2.1.1.2.2.2.2.2.2.2.2.2.2.2.2.1, y6.2.1.1.2.2.2.2.2.2.2.2.2.2.2.2.2.1, y6.2.1.1.2.2.2.2.2.2.2.2.2.2.2.2.2.2.2.1), y6.2.1.1.2.1, y6.2.1.1.2.2.1, y6.2.1.1.2.2.2.1, y6.2.1.1.2.2.2.2.1, y6.2.1.1.2.2.2.2.2.1, y6.2.1.1.2.2.2.2.2.2.1, y6.2.1.1.2.2.2.2.2.2.2.1, y6.2.1.1.2.2.2.2.2.2.2.2.1, y6.2.1.1.2.2.2.2.2.2.2.2.2.2.1, y6.2.1.1.2.2.2.2.2.2.2.2.2.2.2.1, y6.2.1.1.2.2.2.2.2.2.2.2.2.2.2.2.2.2.1, y6.2.1.1.2.2.2.2.2.2.2.2.2.2.2.2.2.2.2.2.1, y6.2.1.1.2.2.2.2.2.2.2.2.2.2.2.2.2.2.2.2.2.1, y7.2.1.1.1, y7.2.1.1.2.1))
                  else
                    bif y6.1.1 != 1 then
                      bindO (vModel y6.2.1.1.2.2.2.2.2.2.2.2.2.2.2.2.2.2.2.2.2.1) fun y9 =>
                      bif bif false then true else bif true then decide (nI y9.1.1.length > 0) else false then
                        some (Sum.inr ((false, ()), (), ()))
                      else
                        bif y6.1.1 != 2 then
                          bindO (vCore y6.2.1.1.2.2.2.2.2.2.2.2.2.2.2.2.2.2.2.2.1) fun y10 =>
                          bindO (vProof y6.2.1.1.2.2.2.2.2.2.2.2.2.2.2.2.2.2.1 y6.2.1.1.2.2.2.2.2.2.2.2.2.2.2.2.2.2.2.1) fun y11 =>
                          gd (inK IntKind.i64 (nI y10.1.1.length + nI y11.1.1.length)) <|
                          bif bif false then true else bif true then decide (nI y10.1.1.length + nI y11.1.1.length > 0) else false then
                            some (Sum.inr ((false, ()), (), ()))
                          else
                            gd (inK IntKind.i64 (y4.1 + 1)) <|
                            some (Sum.inl (y4.1 + 1, (y6.2.1.1.1, y6.2.1.1.2.2.2.2.2.2.2.2.2.1, y6.2.1.1.2.2.2.2.2.2.2.2.2.2.2.2.1, y6.2.1.1.2.2.2.2.2.2.2.2.2.2.2.2.2.1, y11.2.1.1.2.1), y6.2.1.1.2.1, y6.2.1.1.2.2.1, y6.2.1.1.2.2.2.1, y6.2.1.1.2.2.2.2.1, y6.2.1.1.2.2.2.2.2.1, y6.2.1.1.2.2.2.2.2.2.1, y6.2.1.1.2.2.2.2.2.2.2.1, y6.2.1.1.2.2.2.2.2.2.2.2.1, y6.2.1.1.2.2.2.2.2.2.2.2.2.2.1, y6.2.1.1.2.2.2.2.2.2.2.2.2.2.2.1, y11.2.1.1.1, y6.2.1.1.2.2.2.2.2.2.2.2.2.2.2.2.2.2.2.2.1, y6.2.1.1.2.2.2.2.2.2.2.2.2.2.2.2.2.2.2.2.2.1, y7.2.1.1.1, y7.2.1.1.2.1))
                        else
                          gd (inK IntKind.i64 (y4.1 + 1)) <|
                          some (Sum.inl (y4.1 + 1, (y6.2.1.1.1, y6.2.1.1.2.2.2.2.2.2.2.2.2.1, y6.2.1.1.2.2.2.2.2.2.2.2.2.2.2.2.1, y6.2.1.1.2.2.2.2.2.2.2.2.2.2.2.2.2.1, y6.2.1.1.2.2.2.2.2.2.2.2.2.2.2.2.2.2.2.1), y6.2.1.1.2.1, y6.2.1.1.2.2.1, y6.2.1.1.2.2.2.1, y6.2.1.1.2.2.2.2.1, y6.2.1.1.2.2.2.2.2.1, y6.2.1.1.2.2.2.2.2.2.1, y6.2.1.1.2.2.2.2.2.2.2.1, y6.2.1.1.2.2.2.2.2.2.2.2.1, y6.2.1.1.2.2.2.2.2.2.2.2.2.2.1, y6.2.1.1.2.2.2.2.2.2.2.2.2.2.2.1, y6.2.1.1.2.2.2.2.2.2.2.2.2.2.2.2.2.2.1, y6.2.1.1.2.2.2.2.2.2.2.2.2.2.2.2.2.2.2.2.1, y6.2.1.1.2.2.2.2.2.2.2.2.2.2.2.2.2.2.2.2.2.1, y7.2.1.1.1, y7.2.1.1.2.1))
                    else
                      bif y6.1.1 != 2 then
                        bindO (vCore y6.2.1.1.2.2.2.2.2.2.2.2.2.2.2.2.2.2.2.2.1) fun y9 =>
                        bindO (vProof y6.2.1.1.2.2.2.2.2.2.2.2.2.2.2.2.2.2.1 y6.2.1.1.2.2.2.2.2.2.2.2.2.2.2.2.2.2.2.1) fun y10 =>
                        gd (inK IntKind.i64 (nI y9.1.1.length + nI y10.1.1.length)) <|
                        bif bif false then true else bif true then decide (nI y9.1.1.length + nI y10.1.1.length > 0) else false then
                          some (Sum.inr ((false, ()), (), ()))
                        else
                          gd (inK IntKind.i64 (y4.1 + 1)) <|
                          some (Sum.inl (y4.1 + 1, (y6.2.1.1.1, y6.2.1.1.2.2.2.2.2.2.2.2.2.1, y6.2.1.1.2.2.2.2.2.2.2.2.2.2.2.2.1, y6.2.1.1.2.2.2.2.2.2.2.2.2.2.2.2.2.1, y10.2.1.1.2.1), y6.2.1.1.2.1, y6.2.1.1.2.2.1, y6.2.1.1.2.2.2.1, y6.2.1.1.2.2.2.2.1, y6.2.1.1.2.2.2.2.2.1, y6.2.1.1.2.2.2.2.2.2.1, y6.2.1.1.2.2.2.2.2.2.2.1, y6.2.1.1.2.2.2.2.2.2.2.2.1, y6.2.1.1.2.2.2.2.2.2.2.2.2.2.1, y6.2.1.1.2.2.2.2.2.2.2.2.2.2.2.1, y10.2.1.1.1, y6.2.1.1.2.2.2.2.2.2.2.2.2.2.2.2.2.2.2.2.1, y6.2.1.1.2.2.2.2.2.2.2.2.2.2.2.2.2.2.2.2.2.1, y7.2.1.1.1, y7.2.1.1.2.1))
                      else
                        gd (inK IntKind.i64 (y4.1 + 1)) <|
                        some (Sum.inl (y4.1 + 1, (y6.2.1.1.1, y6.2.1.1.2.2.2.2.2.2.2.2.2.1, y6.2.1.1.2.2.2.2.2.2.2.2.2.2.2.2.1, y6.2.1.1.2.2.2.2.2.2.2.2.2.2.2.2.2.1, y6.2.1.1.2.2.2.2.2.2.2.2.2.2.2.2.2.2.2.1), y6.2.1.1.2.1, y6.2.1.1.2.2.1, y6.2.1.1.2.2.2.1, y6.2.1.1.2.2.2.2.1, y6.2.1.1.2.2.2.2.2.1, y6.2.1.1.2.2.2.2.2.2.1, y6.2.1.1.2.2.2.2.2.2.2.1, y6.2.1.1.2.2.2.2.2.2.2.2.1, y6.2.1.1.2.2.2.2.2.2.2.2.2.2.1, y6.2.1.1.2.2.2.2.2.2.2.2.2.2.2.1, y6.2.1.1.2.2.2.2.2.2.2.2.2.2.2.2.2.2.1, y6.2.1.1.2.2.2.2.2.2.2.2.2.2.2.2.2.2.2.2.1, y6.2.1.1.2.2.2.2.2.2.2.2.2.2.2.2.2.2.2.2.2.1, y7.2.1.1.1, y7.2.1.1.2.1))
                else
                  bif !(y6.1.1 == 1) == false then
                    bif bif false then true else bif true then decide (y7.2.1.1.1 > 0) else false then
                      some (Sum.inr ((false, ()), (), ()))
                    else
                      bif y6.1.1 != 1 then
                        bindO (vModel y6.2.1.1.2.2.2.2.2.2.2.2.2.2.2.2.2.2.2.2.2.1) fun y9 =>
                        bif bif false then true else bif true then decide (nI y9.1.1.length > 0) else false then
                          some (Sum.inr ((false, ()), (), ()))
                        else
                          bif y6.1.1 != 2 then
                            bindO (vCore y6.2.1.1.2.2.2.2.2.2.2.2.2.2.2.2.2.2.2.2.1) fun y10 =>
                            bindO (vProof y6.2.1.1.2.2.2.2.2.2.2.2.2.2.2.2.2.2.1 y6.2.1.1.2.2.2.2.2.2.2.2.2.2.2.2.2.2.2.1) fun y11 =>
                            gd (inK IntKind.i64 (nI y10.1.1.length + nI y11.1.1.length)) <|
                            bif bif false then true else bif true then decide (nI y10.1.1.length + nI y11.1.1.length > 0) else false then
                              some (Sum.inr ((false, ()), (), ()))
                            else
                              gd (inK IntKind.i64 (y4.1 + 1)) <|
                              some (Sum.inl (y4.1 + 1, (y6.2.1.1.1, y6.2.1.1.2.2.2.2.2.2.2.2.2.1, y6.2.1.1.2.2.2.2.2.2.2.2.2.2.2.2.1, y6.2.1.1.2.2.2.2.2.2.2.2.2.2.2.2.2.1, y11.2.1.1.2.1), y6.2.1.1.2.1, y6.2.1.1.2.2.1, y6.2.1.1.2.2.2.1, y6.2.1.1.2.2.2.2.1, y6.2.1.1.2.2.2.2.2.1, y6.2.1.1.2.2.2.2.2.2.1, y6.2.1.1.2.2.2.2.2.2.2.1, y6.2.1.1.2.2.2.2.2.2.2.2.1, y6.2.1.1.2.2.2.2.2.2.2.2.2.2.1, y6.2.1.1.2.2.2.2.2.2.2.2.2.2.2.1, y11.2.1.1.1, y6.2.1.1.2.2.2.2.2.2.2.2.2.2.2.2.2.2.2.2.1, y6.2.1.1.2.2.2.2.2.2.2.2.2.2.2.2.2.2.2.2.2.1, y7.2.1.1.1, y7.2.1.1.2.1))
                          else
                            gd (inK IntKind.i64 (y4.1 + 1)) <|
                            some (Sum.inl (y4.1 + 1, (y6.2.1.1.1, y6.2.1.1.2.2.2.2.2.2.2.2.2.1, y6.2.1.1.2.2.2.2.2.2.2.2.2.2.2.2.1, y6.2.1.1.2.2.2.2.2.2.2.2.2.2.2.2.2.1, y6.2.1.1.2.2.2.2.2.2.2.2.2.2.2.2.2.2.2.1), y6.2.1.1.2.1, y6.2.1.1.2.2.1, y6.2.1.1.2.2.2.1, y6.2.1.1.2.2.2.2.1, y6.2.1.1.2.2.2.2.2.1, y6.2.1.1.2.2.2.2.2.2.1, y6.2.1.1.2.2.2.2.2.2.2.1, y6.2.1.1.2.2.2.2.2.2.2.2.1, y6.2.1.1.2.2.2.2.2.2.2.2.2.2.1, y6.2.1.1.2.2.2.2.2.2.2.2.2.2.2.1, y6.2.1.1.2.2.2.2.2.2.2.2.2.2.2.2.2.2.1, y6.2.1.1.2.2.2.2.2.2.2.2.2.2.2.2.2.2.2.2.1, y6.2.1.1.2.2.2.2.2.2.2.2.2.2.2.2.2.2.2.2.2.1, y7.2.1.1.1, y7.2.1.1.2.1))
                      else
                        bif y6.1.1 != 2 then
                          bindO (vCore y6.2.1.1.2.2.2.2.2.2.2.2.2.2.2.2.2.2.2.2.1) fun y9 =>
                          bindO (vProof y6.2.1.1.2.2.2.2.2.2.2.2.2.2.2.2.2.2.1 y6.2.1.1.2.2.2.2.2.2.2.2.2.2.2.2.2.2.2.1) fun y10 =>
                          gd (inK IntKind.i64 (nI y9.1.1.length + nI y10.1.1.length)) <|
                          bif bif false then true else bif true then decide (nI y9.1.1.length + nI y10.1.1.length > 0) else false then
                            some (Sum.inr ((false, ()), (), ()))
                          else
                            gd (inK IntKind.i64 (y4.1 + 1)) <|
                            some (Sum.inl (y4.1 + 1, (y6.2.1.1.1, y6.2.1.1.2.2.2.2.2.2.2.2.2.1, y6.2.1.1.2.2.2.2.2.2.2.2.2.2.2.2.1, y6.2.1.1.2.2.2.2.2.2.2.2.2.2.2.2.2.1, y10.2.1.1.2.1), y6.2.1.1.2.1, y6.2.1.1.2.2.1, y6.2.1.1.2.2.2.1, y6.2.1.1.2.2.2.2.1, y6.2.1.1.2.2.2.2.2.1, y6.2.1.1.2.2.2.2.2.2.1, y6.2.1.1.2.2.2.2.2.2.2.1, y6.2.1.1.2.2.2.2.2.2.2.2.1, y6.2.1.1.2.2.2.2.2.2.2.2.2.2.1, y6.2.1.1.2.2.2.2.2.2.2.2.2.2.2.1, y10.2.1.1.1, y6.2.1.1.2.2.2.2.2.2.2.2.2.2.2.2.2.2.2.2.1, y6.2.1.1.2.2.2.2.2.2.2.2.2.2.2.2.2.2.2.2.2.1, y7.2.1.1.1, y7.2.1.1.2.1))
                        else
                          gd (inK IntKind.i64 (y4.1 + 1)) <|
                          some (Sum.inl (y4.1 + 1, (y6.2.1.1.1, y6.2.1.1.2.2.2.2.2.2.2.2.2.1, y6.2.1.1.2.2.2.2.2.2.2.2.2.2.2.2.1, y6.2.1.1.2.2.2.2.2.2.2.2.2.2.2.2.2.1, y6.2.1.1.2.2.2.2.2.2.2.2.2.2.2.2.2.2.2.1), y6.2.1.1.2.1, y6.2.1.1.2.2.1, y6.2.1.1.2.2.2.1, y6.2.1.1.2.2.2.2.1, y6.2.1.1.2.2.2.2.2.1, y6.2.1.1.2.2.2.2.2.2.1, y6.2.1.1.2.2.2.2.2.2.2.1, y6.2.1.1.2.2.2.2.2.2.2.2.1, y6.2.1.1.2.2.2.2.2.2.2.2.2.2.1, y6.2.1.1.2.2.2.2.2.2.2.2.2.2.2.1, y6.2.1.1.2.2.2.2.2.2.2.2.2.2.2.2.2.2.1, y6.2.1.1.2.2.2.2.2.2.2.2.2.2.2.2.2.2.2.2.1, y6.2.1.1.2.2.2.2.2.2.2.2.2.2.2.2.2.2.2.2.2.1, y7.2.1.1.1, y7.2.1.1.2.1))
                  else
                    bif y6.1.1 != 1 then
                      bindO (vModel y6.2.1.1.2.2.2.2.2.2.2.2.2.2.2.2.2.2.2.2.2.1) fun y9 =>
                      bif bif false then true else bif true then decide (nI y9.1.1.length > 0) else false then
                        some (Sum.inr ((false, ()), (), ()))
                      else
                        bif y6.1.1 != 2 then
                          bindO (vCore y6.2.1.1.2.2.2.2.2.2.2.2.2.2.2.2.2.2.2.2.1) fun y10 =>
                          bindO (vProof y6.2.1.1.2.2.2.2.2.2.2.2.2.2.2.2.2.2.1 y6.2.1.1.2.2.2.2.2.2.2.2.2.2.2.2.2.2.2.1) fun y11 =>
                          gd (inK IntKind.i64 (nI y10.1.1.length + nI y11.1.1.length)) <|
                          bif bif false then true else bif true then decide (nI y10.1.1.length + nI y11.1.1.length > 0) else false then
                            some (Sum.inr ((false, ()), (), ()))
                          else
                            gd (inK IntKind.i64 (y4.1 + 1)) <|
                            some (Sum.inl (y4.1 + 1, (y6.2.1.1.1, y6.2.1.1.2.2.2.2.2.2.2.2.2.1, y6.2.1.1.2.2.2.2.2.2.2.2.2.2.2.2.1, y6.2.1.1.2.2.2.2.2.2.2.2.2.2.2.2.2.1, y11.2.1.1.2.1), y6.2.1.1.2.1, y6.2.1.1.2.2.1, y6.2.1.1.2.2.2.1, y6.2.1.1.2.2.2.2.1, y6.2.1.1.2.2.2.2.2.1, y6.2.1.1.2.2.2.2.2.2.1, y6.2.1.1.2.2.2.2.2.2.2.1, y6.2.1.1.2.2.2.2.2.2.2.2.1, y6.2.1.1.2.2.2.2.2.2.2.2.2.2.1, y6.2.1.1.2.2.2.2.2.2.2.2.2.2.2.1, y11.2.1.1.1, y6.2.1.1.2.2.2.2.2.2.2.2.2.2.2.2.2.2.2.2.1, y6.2.1.1.2.2.2.2.2.2.2.2.2.2.2.2.2.2.2.2.2.1, y7.2.1.1.1, y7.2.1.1.2.1))
                        else
                          gd (inK IntKind.i64 (y4.1 + 1)) <|
                          some (Sum.inl (y4.1 + 1, (y6.2.1.1.1, y6.2.1.1.2.2.2.2.2.2.2.2.2.1, y6.2.1.1.2.2.2.2.2.2.2.2.2.2.2.2.1, y6.2.1.1.2.2.2.2.2.2.2.2.2.2.2.2.2.1, y6.2.1.1.2.2.2.2.2.2.2.2.2.2.2.2.2.2.2.1), y6.2.1.1.2.1, y6.2.1.1.2.2.1, y6.2.1.1.2.2.2.1, y6.2.1.1.2.2.2.2.1, y6.2.1.1.2.2.2.2.2.1, y6.2.1.1.2.2.2.2.2.2.1, y6.2.1.1.2.2.2.2.2.2.2.1, y6.2.1.1.2.2.2.2.2.2.2.2.1, y6.2.1.1.2.2.2.2.2.2.2.2.2.2.1, y6.2.1.1.2.2.2.2.2.2.2.2.2.2.2.1, y6.2.1.1.2.2.2.2.2.2.2.2.2.2.2.2.2.2.1, y6.2.1.1.2.2.2.2.2.2.2.2.2.2.2.2.2.2.2.2.1, y6.2.1.1.2.2.2.2.2.2.2.2.2.2.2.2.2.2.2.2.2.1, y7.2.1.1.1, y7.2.1.1.2.1))
                    else
                      bif y6.1.1 != 2 then
                        bindO (vCore y6.2.1.1.2.2.2.2.2.2.2.2.2.2.2.2.2.2.2.2.1) fun y9 =>
                        bindO (vProof y6.2.1.1.2.2.2.2.2.2.2.2.2.2.2.2.2.2.1 y6.2.1.1.2.2.2.2.2.2.2.2.2.2.2.2.2.2.2.1) fun y10 =>
                        gd (inK IntKind.i64 (nI y9.1.1.length + nI y10.1.1.length)) <|
                        bif bif false then true else bif true then decide (nI y9.1.1.length + nI y10.1.1.length > 0) else false then
                          some (Sum.inr ((false, ()), (), ()))
                        else
                          gd (inK IntKind.i64 (y4.1 + 1)) <|
                          some (Sum.inl (y4.1 + 1, (y6.2.1.1.1, y6.2.1.1.2.2.2.2.2.2.2.2.2.1, y6.2.1.1.2.2.2.2.2.2.2.2.2.2.2.2.1, y6.2.1.1.2.2.2.2.2.2.2.2.2.2.2.2.2.1, y10.2.1.1.2.1), y6.2.1.1.2.1, y6.2.1.1.2.2.1, y6.2.1.1.2.2.2.1, y6.2.1.1.2.2.2.2.1, y6.2.1.1.2.2.2.2.2.1, y6.2.1.1.2.2.2.2.2.2.1, y6.2.1.1.2.2.2.2.2.2.2.1, y6.2.1.1.2.2.2.2.2.2.2.2.1, y6.2.1.1.2.2.2.2.2.2.2.2.2.2.1, y6.2.1.1.2.2.2.2.2.2.2.2.2.2.2.1, y10.2.1.1.1, y6.2.1.1.2.2.2.2.2.2.2.2.2.2.2.2.2.2.2.2.1, y6.2.1.1.2.2.2.2.2.2.2.2.2.2.2.2.2.2.2.2.2.1, y7.2.1.1.1, y7.2.1.1.2.1))
                      else
                        gd (inK IntKind.i64 (y4.1 + 1)) <|
                        some (Sum.inl (y4.1 + 1, (y6.2.1.1.1, y6.2.1.1.2.2.2.2.2.2.2.2.2.1, y6.2.1.1.2.2.2.2.2.2.2.2.2.2.2.2.1, y6.2.1.1.2.2.2.2.2.2.2.2.2.2.2.2.2.1, y6.2.1.1.2.2.2.2.2.2.2.2.2.2.2.2.2.2.2.1), y6.2.1.1.2.1, y6.2.1.1.2.2.1, y6.2.1.1.2.2.2.1, y6.2.1.1.2.2.2.2.1, y6.2.1.1.2.2.2.2.2.1, y6.2.1.1.2.2.2.2.2.2.1, y6.2.1.1.2.2.2.2.2.2.2.1, y6.2.1.1.2.2.2.2.2.2.2.2.1, y6.2.1.1.2.2.2.2.2.2.2.2.2.2.1, y6.2.1.1.2.2.2.2.2.2.2.2.2.2.2.1, y6.2.1.1.2.2.2.2.2.2.2.2.2.2.2.2.2.2.1, y6.2.1.1.2.2.2.2.2.2.2.2.2.2.2.2.2.2.2.2.1, y6.2.1.1.2.2.2.2.2.2.2.2.2.2.2.2.2.2.2.2.2.1, y7.2.1.1.1, y7.2.1.1.2.1))
            else
              bif (get actT l y4.1).1 == 2 then
                bif decide ((get actT l y4.1).2.1 > 8) then
                  bif bif true then decide ((get actT l y4.1).2.1 ≤ 1048576) else false then
                    some (Sum.inr ((y0.1.1, ()), (), ()))
                  else
                    bindO (vGrow (get actT l y4.1).2.1 y4.2.1.1 y4.2.2.2.1 y4.2.2.2.2.1 y4.2.2.2.2.2.1 y4.2.2.2.2.2.2.1 y4.2.2.2.2.2.2.2.1 y4.2.2.2.2.2.2.2.2.1 y4.2.1.2.2.2.2 y4.2.2.2.2.2.2.2.2.2.2.2.2.2.1 y4.2.2.2.2.2.2.2.2.2.2.2.2.2.2.1) fun y5 =>
                    bindO (vrGrow (get actT l y4.1).2.1 y4.2.2.2.2.2.2.2.2.2.2.2.2.2.2.2.1) fun y6 =>
                    bindO (vModel y5.2.1.1.2.2.2.2.2.2.2.2.2.1) fun y7 =>
                    bindO (vCore y5.2.1.1.2.2.2.2.2.2.2.2.1) fun y8 =>
                    gd (inK IntKind.i64 (nI y7.1.1.length + nI y8.1.1.length)) <|
                    bindO (vProof y4.2.2.2.2.2.2.2.2.2.2.2.2.1 y5.2.1.1.2.2.2.2.2.2.2.1) fun y9 =>
                    gd (inK IntKind.i64 (nI y7.1.1.length + nI y8.1.1.length + nI y9.1.1.length)) <|
                    bif decide (nI y7.1.1.length + nI y8.1.1.length + nI y9.1.1.length > 0) then
                      bif bif true then decide ((get actT l y4.1).1 ≥ 0) else false then
                        bif bif true then decide ((get actT l y4.1).1 ≤ 2) else false then
                          some (Sum.inr ((false, ()), (), ()))
                        else
                          gd (inK IntKind.i64 (y4.1 + 1)) <|
                          some (Sum.inl (y4.1 + 1, (y5.2.1.1.1, y4.2.1.2.1, y4.2.1.2.2.1, y4.2.1.2.2.2.1, y9.2.1.1.2.1), y4.2.2.1, y5.2.1.1.2.1, y5.2.1.1.2.2.1, y5.2.1.1.2.2.2.1, y5.2.1.1.2.2.2.2.1, y5.2.1.1.2.2.2.2.2.1, y5.2.1.1.2.2.2.2.2.2.1, y4.2.2.2.2.2.2.2.2.2.1, y4.2.2.2.2.2.2.2.2.2.2.1, y4.2.2.2.2.2.2.2.2.2.2.2.1, y9.2.1.1.1, y5.2.1.1.2.2.2.2.2.2.2.2.1, y5.2.1.1.2.2.2.2.2.2.2.2.2.1, y6.2.1.1.1, y4.2.2.2.2.2.2.2.2.2.2.2.2.2.2.2.2))
                      else
                        gd (inK IntKind.i64 (y4.1 + 1)) <|
                        some (Sum.inl (y4.1 + 1, (y5.2.1.1.1, y4.2.1.2.1, y4.2.1.2.2.1, y4.2.1.2.2.2.1, y9.2.1.1.2.1), y4.2.2.1, y5.2.1.1.2.1, y5.2.1.1.2.2.1, y5.2.1.1.2.2.2.1, y5.2.1.1.2.2.2.2.1, y5.2.1.1.2.2.2.2.2.1, y5.2.1.1.2.2.2.2.2.2.1, y4.2.2.2.2.2.2.2.2.2.1, y4.2.2.2.2.2.2.2.2.2.2.1, y4.2.2.2.2.2.2.2.2.2.2.2.1, y9.2.1.1.1, y5.2.1.1.2.2.2.2.2.2.2.2.1, y5.2.1.1.2.2.2.2.2.2.2.2.2.1, y6.2.1.1.1, y4.2.2.2.2.2.2.2.2.2.2.2.2.2.2.2.2))
                    else
                      gd (inK IntKind.i64 (y4.1 + 1)) <|
                      some (Sum.inl (y4.1 + 1, (y5.2.1.1.1, y4.2.1.2.1, y4.2.1.2.2.1, y4.2.1.2.2.2.1, y9.2.1.1.2.1), y4.2.2.1, y5.2.1.1.2.1, y5.2.1.1.2.2.1, y5.2.1.1.2.2.2.1, y5.2.1.1.2.2.2.2.1, y5.2.1.1.2.2.2.2.2.1, y5.2.1.1.2.2.2.2.2.2.1, y4.2.2.2.2.2.2.2.2.2.1, y4.2.2.2.2.2.2.2.2.2.2.1, y4.2.2.2.2.2.2.2.2.2.2.2.1, y9.2.1.1.1, y5.2.1.1.2.2.2.2.2.2.2.2.1, y5.2.1.1.2.2.2.2.2.2.2.2.2.1, y6.2.1.1.1, y4.2.2.2.2.2.2.2.2.2.2.2.2.2.2.2.2))
                else
                  bindO (vGrow (get actT l y4.1).2.1 y4.2.1.1 y4.2.2.2.1 y4.2.2.2.2.1 y4.2.2.2.2.2.1 y4.2.2.2.2.2.2.1 y4.2.2.2.2.2.2.2.1 y4.2.2.2.2.2.2.2.2.1 y4.2.1.2.2.2.2 y4.2.2.2.2.2.2.2.2.2.2.2.2.2.1 y4.2.2.2.2.2.2.2.2.2.2.2.2.2.2.1) fun y5 =>
                  bindO (vrGrow (get actT l y4.1).2.1 y4.2.2.2.2.2.2.2.2.2.2.2.2.2.2.2.1) fun y6 =>
                  bindO (vModel y5.2.1.1.2.2.2.2.2.2.2.2.2.1) fun y7 =>
                  bindO (vCore y5.2.1.1.2.2.2.2.2.2.2.2.1) fun y8 =>
                  gd (inK IntKind.i64 (nI y7.1.1.length + nI y8.1.1.length)) <|
                  bindO (vProof y4.2.2.2.2.2.2.2.2.2.2.2.2.1 y5.2.1.1.2.2.2.2.2.2.2.1) fun y9 =>
                  gd (inK IntKind.i64 (nI y7.1.1.length + nI y8.1.1.length + nI y9.1.1.length)) <|
                  bif decide (nI y7.1.1.length + nI y8.1.1.length + nI y9.1.1.length > 0) then
                    bif bif true then decide ((get actT l y4.1).1 ≥ 0) else false then
                      bif bif true then decide ((get actT l y4.1).1 ≤ 2) else false then
                        some (Sum.inr ((false, ()), (), ()))
                      else
                        gd (inK IntKind.i64 (y4.1 + 1)) <|
                        some (Sum.inl (y4.1 + 1, (y5.2.1.1.1, y4.2.1.2.1, y4.2.1.2.2.1, y4.2.1.2.2.2.1, y9.2.1.1.2.1), y4.2.2.1, y5.2.1.1.2.1, y5.2.1.1.2.2.1, y5.2.1.1.2.2.2.1, y5.2.1.1.2.2.2.2.1, y5.2.1.1.2.2.2.2.2.1, y5.2.1.1.2.2.2.2.2.2.1, y4.2.2.2.2.2.2.2.2.2.1, y4.2.2.2.2.2.2.2.2.2.2.1, y4.2.2.2.2.2.2.2.2.2.2.2.1, y9.2.1.1.1, y5.2.1.1.2.2.2.2.2.2.2.2.1, y5.2.1.1.2.2.2.2.2.2.2.2.2.1, y6.2.1.1.1, y4.2.2.2.2.2.2.2.2.2.2.2.2.2.2.2.2))
                    else
                      gd (inK IntKind.i64 (y4.1 + 1)) <|
                      some (Sum.inl (y4.1 + 1, (y5.2.1.1.1, y4.2.1.2.1, y4.2.1.2.2.1, y4.2.1.2.2.2.1, y9.2.1.1.2.1), y4.2.2.1, y5.2.1.1.2.1, y5.2.1.1.2.2.1, y5.2.1.1.2.2.2.1, y5.2.1.1.2.2.2.2.1, y5.2.1.1.2.2.2.2.2.1, y5.2.1.1.2.2.2.2.2.2.1, y4.2.2.2.2.2.2.2.2.2.1, y4.2.2.2.2.2.2.2.2.2.2.1, y4.2.2.2.2.2.2.2.2.2.2.2.1, y9.2.1.1.1, y5.2.1.1.2.2.2.2.2.2.2.2.1, y5.2.1.1.2.2.2.2.2.2.2.2.2.1, y6.2.1.1.1, y4.2.2.2.2.2.2.2.2.2.2.2.2.2.2.2.2))
                  else
                    gd (inK IntKind.i64 (y4.1 + 1)) <|
                    some (Sum.inl (y4.1 + 1, (y5.2.1.1.1, y4.2.1.2.1, y4.2.1.2.2.1, y4.2.1.2.2.2.1, y9.2.1.1.2.1), y4.2.2.1, y5.2.1.1.2.1, y5.2.1.1.2.2.1, y5.2.1.1.2.2.2.1, y5.2.1.1.2.2.2.2.1, y5.2.1.1.2.2.2.2.2.1, y5.2.1.1.2.2.2.2.2.2.1, y4.2.2.2.2.2.2.2.2.2.1, y4.2.2.2.2.2.2.2.2.2.2.1, y4.2.2.2.2.2.2.2.2.2.2.2.1, y9.2.1.1.1, y5.2.1.1.2.2.2.2.2.2.2.2.1, y5.2.1.1.2.2.2.2.2.2.2.2.2.1, y6.2.1.1.1, y4.2.2.2.2.2.2.2.2.2.2.2.2.2.2.2.2))
              else
                bindO (vModel y4.2.2.2.2.2.2.2.2.2.2.2.2.2.2.1) fun y5 =>
                bindO (vCore y4.2.2.2.2.2.2.2.2.2.2.2.2.2.1) fun y6 =>
                gd (inK IntKind.i64 (nI y5.1.1.length + nI y6.1.1.length)) <|
                bindO (vProof y4.2.2.2.2.2.2.2.2.2.2.2.2.1 y4.2.1.2.2.2.2) fun y7 =>
                gd (inK IntKind.i64 (nI y5.1.1.length + nI y6.1.1.length + nI y7.1.1.length)) <|
                bif decide (nI y5.1.1.length + nI y6.1.1.length + nI y7.1.1.length > 0) then
                  bif bif true then decide ((get actT l y4.1).1 ≥ 0) else false then
                    bif bif true then decide ((get actT l y4.1).1 ≤ 2) else false then
                      some (Sum.inr ((false, ()), (), ()))
                    else
                      gd (inK IntKind.i64 (y4.1 + 1)) <|
                      some (Sum.inl (y4.1 + 1, (y4.2.1.1, y4.2.1.2.1, y4.2.1.2.2.1, y4.2.1.2.2.2.1, y7.2.1.1.2.1), y4.2.2.1, y4.2.2.2.1, y4.2.2.2.2.1, y4.2.2.2.2.2.1, y4.2.2.2.2.2.2.1, y4.2.2.2.2.2.2.2.1, y4.2.2.2.2.2.2.2.2.1, y4.2.2.2.2.2.2.2.2.2.1, y4.2.2.2.2.2.2.2.2.2.2.1, y4.2.2.2.2.2.2.2.2.2.2.2.1, y7.2.1.1.1, y4.2.2.2.2.2.2.2.2.2.2.2.2.2.1, y4.2.2.2.2.2.2.2.2.2.2.2.2.2.2.1, y4.2.2.2.2.2.2.2.2.2.2.2.2.2.2.2.1, y4.2.2.2.2.2.2.2.2.2.2.2.2.2.2.2.2))
                  else
                    gd (inK IntKind.i64 (y4.1 + 1)) <|
                    some (Sum.inl (y4.1 + 1, (y4.2.1.1, y4.2.1.2.1, y4.2.1.2.2.1, y4.2.1.2.2.2.1, y7.2.1.1.2.1), y4.2.2.1, y4.2.2.2.1, y4.2.2.2.2.1, y4.2.2.2.2.2.1, y4.2.2.2.2.2.2.1, y4.2.2.2.2.2.2.2.1, y4.2.2.2.2.2.2.2.2.1, y4.2.2.2.2.2.2.2.2.2.1, y4.2.2.2.2.2.2.2.2.2.2.1, y4.2.2.2.2.2.2.2.2.2.2.2.1, y7.2.1.1.1, y4.2.2.2.2.2.2.2.2.2.2.2.2.2.1, y4.2.2.2.2.2.2.2.2.2.2.2.2.2.2.1, y4.2.2.2.2.2.2.2.2.2.2.2.2.2.2.2.1, y4.2.2.2.2.2.2.2.2.2.2.2.2.2.2.2.2))
                else
                  gd (inK IntKind.i64 (y4.1 + 1)) <|
                  some (Sum.inl (y4.1 + 1, (y4.2.1.1, y4.2.1.2.1, y4.2.1.2.2.1, y4.2.1.2.2.2.1, y7.2.1.1.2.1), y4.2.2.1, y4.2.2.2.1, y4.2.2.2.2.1, y4.2.2.2.2.2.1, y4.2.2.2.2.2.2.1, y4.2.2.2.2.2.2.2.1, y4.2.2.2.2.2.2.2.2.1, y4.2.2.2.2.2.2.2.2.2.1, y4.2.2.2.2.2.2.2.2.2.2.1, y4.2.2.2.2.2.2.2.2.2.2.2.1, y7.2.1.1.1, y4.2.2.2.2.2.2.2.2.2.2.2.2.2.1, y4.2.2.2.2.2.2.2.2.2.2.2.2.2.2.1, y4.2.2.2.2.2.2.2.2.2.2.2.2.2.2.2.1, y4.2.2.2.2.2.2.2.2.2.2.2.2.2.2.2.2))
        else
          some (Sum.inr ((y0.1.1, ()), (), ()))) (nn) (0, (y2.2.2.1.1, y2.2.2.1.2.2.2.2.2.2.2.2.2.1, y2.2.2.1.2.2.2.2.2.2.2.2.2.2.2.2.1, y2.2.2.1.2.2.2.2.2.2.2.2.2.2.2.2.2.1, y2.2.2.1.2.2.2.2.2.2.2.2.2.2.2.2.2.2.2.1), y2.2.2.1.2.1, y2.2.2.1.2.2.1, y2.2.2.1.2.2.2.1, y2.2.2.1.2.2.2.2.1, y2.2.2.1.2.2.2.2.2.1, y2.2.2.1.2.2.2.2.2.2.1, y2.2.2.1.2.2.2.2.2.2.2.1, y2.2.2.1.2.2.2.2.2.2.2.2.1, y2.2.2.1.2.2.2.2.2.2.2.2.2.2.1, y2.2.2.1.2.2.2.2.2.2.2.2.2.2.2.1, y2.2.2.1.2.2.2.2.2.2.2.2.2.2.2.2.2.2.1, y2.2.2.1.2.2.2.2.2.2.2.2.2.2.2.2.2.2.2.2.1, y2.2.2.1.2.2.2.2.2.2.2.2.2.2.2.2.2.2.2.2.2.1, y3.2.2.1.1, y3.2.2.1.2.1)

def SatTells (first : Int) (l : List (Int × Int × List Int × Unit)) : Option ((Bool × Unit) × Unit × Unit) := SatTellsF fuelN head great New rNew Add rAdd rFuel Ask rAsk Model Core Proof Grow rGrow first l

def SatSameF (nn : Nat) (vhead : Option ((Bool × Unit) × Unit × Unit)) (vgreat : List (Int × Int × List Int × Unit) → Option ((Bool × Unit) × Unit × Unit)) (vNew : Int → Option (Unit × Unit × (Int × List (List Int) × List (List Int) × List Int × List Int × List Int × List Int × List Int × List Int × Int × List Int × List Int × Int × Bool × List (List Int) × Int × List Int × List Bool × Unit) × Unit)) (vAdd : List Int → Int → List (List Int) → List (List Int) → List Int → List Int → List Int → List Int → Int → List Int → List Int → Int → Bool → Int → List Int → List Bool → Option (Unit × ((Int × List (List Int) × List (List Int) × List Int × List Int × List Int × List Int × Int × List Int × List Int × Int × Bool × Int × List Int × List Bool × Unit) × Unit) × Unit)) (vAsk : List Int → Int → Int → List (List Int) → List (List Int) → List Int → List Int → List Int → List Int → List Int → List Int → Int → List Int → List Int → Int → Bool → List (List Int) → Int → List Int → List Bool → Option ((Int × Unit) × ((Int × List (List Int) × List (List Int) × List Int × List Int × List Int × List Int × List Int × List Int × Int × List Int × List Int × Int × Bool × List (List Int) × Int × List Int × List Bool × Unit) × Unit) × Unit)) (vModel : List Bool → Option ((List Bool × Unit) × ((List Bool × Unit) × Unit) × Unit)) (vCore : List Int → Option ((List Int × Unit) × ((List Int × Unit) × Unit) × Unit)) (vProof : List (List Int) → Int → Option ((List (List Int) × Unit) × ((List (List Int) × Int × Unit) × Unit) × Unit)) (vGrow : Int → Int → List (List Int) → List Int → List Int → List Int → List Int → List Int → Int → List Int → List Bool → Option (Unit × ((Int × List (List Int) × List Int × List Int × List Int × List Int × List Int × Int × List Int × List Bool × Unit) × Unit) × Unit)) (vrSame : List Int → List Int → Option ((Bool × Unit) × Unit × Unit)) (vrSameR : List (List Int) → List (List Int) → Option ((Bool × Unit) × Unit × Unit)) (vrSameBits : List Bool → List Bool → Option ((Bool × Unit) × Unit × Unit)) (first : Int) (l : List (Int × Int × List Int × Unit)) : Option ((Bool × Unit) × Unit × Unit) :=
  bindO (vhead) fun y0 =>
  bindO (vgreat l) fun y1 =>
  bif y1.1.1 then
    some ((y0.1.1, ()), (), ())
  else
    bif bif false then true else decide (first > 60) then
      some ((y0.1.1, ()), (), ())
    else
      bindO (vNew first) fun y2 =>
      bindO (vNew first) fun y3 =>
      iterO (X := Int × (Int × Int × Int × Bool × Int) × List (List Int) × List (List Int) × List Int × List Int × List Int × List Int × List Int × List Int × List Int × List Int × List (List Int) × List Int × List Bool × (Int × Int × Int × Bool × Int) × List (List Int) × List (List Int) × List Int × List Int × List Int × List Int × List Int × List Int × List Int × List Int × List (List Int) × List Int × List Bool) (fun y4 =>
        bif decide (y4.1 < nI l.length) then
          gd (0 ≤ y4.1) <|
          gd (y4.1 < nI l.length) <|
          bif (get actT l y4.1).1 == 0 then
            bindO (vAdd (get actT l y4.1).2.2.1 y4.2.1.1 y4.2.2.1 y4.2.2.2.1 y4.2.2.2.2.1 y4.2.2.2.2.2.1 y4.2.2.2.2.2.2.1 y4.2.2.2.2.2.2.2.1 y4.2.1.2.1 y4.2.2.2.2.2.2.2.2.2.2.1 y4.2.2.2.2.2.2.2.2.2.2.2.1 y4.2.1.2.2.1 y4.2.1.2.2.2.1 y4.2.1.2.2.2.2 y4.2.2.2.2.2.2.2.2.2.2.2.2.2.1 y4.2.2.2.2.2.2.2.2.2.2.2.2.2.2.1) fun y5 =>
            bindO (vAdd (get actT l y4.1).2.2.1 y4.2.2.2.2.2.2.2.2.2.2.2.2.2.2.2.1.1 y4.2.2.2.2.2.2.2.2.2.2.2.2.2.2.2.2.1 y4.2.2.2.2.2.2.2.2.2.2.2.2.2.2.2.2.2.1 y4.2.2.2.2.2.2.2.2.2.2.2.2.2.2.2.2.2.2.1 y4.2.2.2.2.2.2.2.2.2.2.2.2.2.2.2.2.2.2.2.1 y4.2.2.2.2.2.2.2.2.2.2.2.2.2.2.2.2.2.2.2.2.1 y4.2.2.2.2.2.2.2.2.2.2.2.2.2.2.2.2.2.2.2.2.2.1 y4.2.2.2.2.2.2.2.2.2.2.2.2.2.2.2.1.2.1 y4.2.2.2.2.2.2.2.2.2.2.2.2.2.2.2.2.2.2.2.2.2.2.2.2.1 y4.2.2.2.2.2.2.2.2.2.2.2.2.2.2.2.2.2.2.2.2.2.2.2.2.2.1 y4.2.2.2.2.2.2.2.2.2.2.2.2.2.2.2.1.2.2.1 y4.2.2.2.2.2.2.2.2.2.2.2.2.2.2.2.1.2.2.2.1 y4.2.2.2.2.2.2.2.2.2.2.2.2.2.2.2.1.2.2.2.2 y4.2.2.2.2.2.2.2.2.2.2.2.2.2.2.2.2.2.2.2.2.2.2.2.2.2.2.2.1 y4.2.2.2.2.2.2.2.2.2.2.2.2.2.2.2.2.2.2.2.2.2.2.2.2.2.2.2.2) fun y6 =>
            bindO (vModel y5.2.1.1.2.2.2.2.2.2.2.2.2.2.2.2.2.2.1) fun y7 =>
            bindO (vModel y6.2.1.1.2.2.2.2.2.2.2.2.2.2.2.2.2.2.1) fun y8 =>
            bindO (vrSameBits y7.1.1 y8.1.1) fun y9 =>
            bif !y9.1.1 then
              some (Sum.inr ((false, ()), (), ()))
            else
              bindO (vCore y5.2.1.1.2.2.2.2.2.2.2.2.2.2.2.2.2.1) fun y10 =>
              bindO (vCore y6.2.1.1.2.2.2.2.2.2.2.2.2.2.2.2.2.1) fun y11 =>
              bindO (vrSame y10.1.1 y11.1.1) fun y12 =>
              bif bif false then true else !y12.1.1 then
                some (Sum.inr ((false, ()), (), ()))
              else
                bindO (vProof y4.2.2.2.2.2.2.2.2.2.2.2.2.1 y5.2.1.1.2.2.2.2.2.2.2.2.2.2.2.2.1) fun y13 =>
                bindO (vProof y4.2.2.2.2.2.2.2.2.2.2.2.2.2.2.2.2.2.2.2.2.2.2.2.2.2.2.1 y6.2.1.1.2.2.2.2.2.2.2.2.2.2.2.2.1) fun y14 =>
                bindO (vrSameR y13.1.1 y14.1.1) fun y15 =>
                bif bif false then true else !y15.1.1 then
                  some (Sum.inr ((false, ()), (), ()))
                else
                  gd (inK IntKind.i64 (y4.1 + 1)) <|
                  some (Sum.inl (y4.1 + 1, (y5.2.1.1.1, y5.2.1.1.2.2.2.2.2.2.2.1, y5.2.1.1.2.2.2.2.2.2.2.2.2.2.1, y5.2.1.1.2.2.2.2.2.2.2.2.2.2.2.1, y13.2.1.1.2.1), y5.2.1.1.2.1, y5.2.1.1.2.2.1, y5.2.1.1.2.2.2.1, y5.2.1.1.2.2.2.2.1, y5.2.1.1.2.2.2.2.2.1, y5.2.1.1.2.2.2.2.2.2.1, y4.2.2.2.2.2.2.2.2.1, y4.2.2.2.2.2.2.2.2.2.1, y5.2.1.1.2.2.2.2.2.2.2.2.1, y5.2.1.1.2.2.2.2.2.2.2.2.2.1, y13.2.1.1.1, y5.2.1.1.2.2.2.2.2.2.2.2.2.2.2.2.2.1, y5.2.1.1.2.2.2.2.2.2.2.2.2.2.2.2.2.2.1, (y6.2.1.1.1, y6.2.1.1.2.2.2.2.2.2.2.1, y6.2.1.1.2.2.2.2.2.2.2.2.2.2.1, y6.2.1.1.2.2.2.2.2.2.2.2.2.2.2.1, y14.2.1.1.2.1), y6.2.1.1.2.1, y6.2.1.1.2.2.1, y6.2.1.1.2.2.2.1, y6.2.1.1.2.2.2.2.1, y6.2.1.1.2.2.2.2.2.1, y6.2.1.1.2.2.2.2.2.2.1, y4.2.2.2.2.2.2.2.2.2.2.2.2.2.2.2.2.2.2.2.2.2.2.1, y4.2.2.2.2.2.2.2.2.2.2.2.2.2.2.2.2.2.2.2.2.2.2.2.1, y6.2.1.1.2.2.2.2.2.2.2.2.1, y6.2.1.1.2.2.2.2.2.2.2.2.2.1, y14.2.1.1.1, y6.2.1.1.2.2.2.2.2.2.2.2.2.2.2.2.2.1, y6.2.1.1.2.2.2.2.2.2.2.2.2.2.2.2.2.2.1))
          else
            bif (get actT l y4.1).1 == 1 then
              bindO (vAsk (get actT l y4.1).2.2.1 (min2 (get actT l y4.1).2.1 9999) y4.2.1.1 y4.2.2.1 y4.2.2.2.1 y4.2.2.2.2.1 y4.2.2.2.2.2.1 y4.2.2.2.2.2.2.1 y4.2.2.2.2.2.2.2.1 y4.2.2.2.2.2.2.2.2.1 y4.2.2.2.2.2.2.2.2.2.1 y4.2.1.2.1 y4.2.2.2.2.2.2.2.2.2.2.1 y4.2.2.2.2.2.2.2.2.2.2.2.1 y4.2.1.2.2.1 y4.2.1.2.2.2.1 y4.2.2.2.2.2.2.2.2.2.2.2.2.1 y4.2.1.2.2.2.2 y4.2.2.2.2.2.2.2.2.2.2.2.2.2.1 y4.2.2.2.2.2.2.2.2.2.2.2.2.2.2.1) fun y5 =>
              bindO (vAsk (get actT l y4.1).2.2.1 (min2 (get actT l y4.1).2.1 9999) y4.2.2.2.2.2.2.2.2.2.2.2.2.2.2.2.1.1 y4.2.2.2.2.2.2.2.2.2.2.2.2.2.2.2.2.1 y4.2.2.2.2.2.2.2.2.2.2.2.2.2.2.2.2.2.1 y4.2.2.2.2.2.2.2.2.2.2.2.2.2.2.2.2.2.2.1 y4.2.2.2.2.2.2.2.2.2.2.2.2.2.2.2.2.2.2.2.1 y4.2.2.2.2.2.2.2.2.2.2.2.2.2.2.2.2.2.2.2.2.1 y4.2.2.2.2.2.2.2.2.2.2.2.2.2.2.2.2.2.2.2.2.2.1 y4.2.2.2.2.2.2.2.2.2.2.2.2.2.2.2.2.2.2.2.2.2.2.1 y4.2.2.2.2.2.2.2.2.2.2.2.2.2.2.2.2.2.2.2.2.2.2.2.1 y4.2.2.2.2.2.2.2.2.2.2.2.2.2.2.2.1.2.1 y4.2.2.2.2.2.2.2.2.2.2.2.2.2.2.2.2.2.2.2.2.2.2.2.2.1 y4.2.2.2.2.2.2.2.2.2.2.2.2.2.2.2.2.2.2.2.2.2.2.2.2.2.1 y4.2.2.2.2.2.2.2.2.2.2.2.2.2.2.2.1.2.2.1 y4.2.2.2.2.2.2.2.2.2.2.2.2.2.2.2.1.2.2.2.1 y4.2.2.2.2.2.2.2.2.2.2.2.2.2.2.2.2.2.2.2.2.2.2.2.2.2.2.1 y4.2.2.2.2.2.2.2.2.2.2.2.2.2.2.2.1.2.2.2.2 y4.2.2.2.2.2.2.2.2.2.2.2.2.2.2.2.2.2.2.2.2.2.2.2.2.2.2.2.1 y4.2.2.2.2.2.2.2.2.2.2.2.2.2.2.2.2.2.2.2.2.2.2.2.2.2.2.2.2) fun y6 =>
              bif y5.1.1 != y6.1.1 then
                some (Sum.inr ((false, ()), (), ()))
              else
                bindO (vModel y5.2.1.1.2.2.2.2.2.2.2.2.2.2.2.2.2.2.2.2.2.1) fun y7 =>
                bindO (vModel y6.2.1.1.2.2.2.2.2.2.2.2.2.2.2.2.2.2.2.2.2.1) fun y8 =>
                bindO (vrSameBits y7.1.1 y8.1.1) fun y9 =>
                bif !y9.1.1 then
                  some (Sum.inr ((false, ()), (), ()))
                else
                  bindO (vCore y5.2.1.1.2.2.2.2.2.2.2.2.2.2.2.2.2.2.2.2.1) fun y10 =>
                  bindO (vCore y6.2.1.1.2.2.2.2.2.2.2.2.2.2.2.2.2.2.2.2.1) fun y11 =>
                  bindO (vrSame y10.1.1 y11.1.1) fun y12 =>
                  bif bif false then true else !y12.1.1 then
                    some (Sum.inr ((false, ()), (), ()))
                  else
                    bindO (vProof y5.2.1.1.2.2.2.2.2.2.2.2.2.2.2.2.2.2.1 y5.2.1.1.2.2.2.2.2.2.2.2.2.2.2.2.2.2.2.1) fun y13 =>
                    bindO (vProof y6.2.1.1.2.2.2.2.2.2.2.2.2.2.2.2.2.2.1 y6.2.1.1.2.2.2.2.2.2.2.2.2.2.2.2.2.2.2.1) fun y14 =>
                    bindO (vrSameR y13.1.1 y14.1.1) fun y15 =>
                    bif bif false then true else !y15.1.1 then
                      some (Sum.inr ((false, ()), (), ()))
                    else
                      gd (inK IntKind.i64 (y4.1 + 1)) <|
                      some (Sum.inl (y4.1 + 1, (y5.2.1.1.1, y5.2.1.1.2.2.2.2.2.2.2.2.2.1, y5.2.1.1.2.2.2.2.2.2.2.2.2.2.2.2.1, y5.2.1.1.2.2.2.2.2.2.2.2.2.2.2.2.2.1, y13.2.1.1.2.1), y5.2.1.1.2.1, y5.2.1.1.2.2.1, y5.2.1.1.2.2.2.1, y5.2.1.1.2.2.2.2.1, y5.2.1.1.2.2.2.2.2.1, y5.2.1.1.2.2.2.2.2.2.1, y5.2.1.1.2.2.2.2.2.2.2.1, y5.2.1.1.2.2.2.2.2.2.2.2.1, y5.2.1.1.2.2.2.2.2.2.2.2.2.2.1, y5.2.1.1.2.2.2.2.2.2.2.2.2.2.2.1, y13.2.1.1.1, y5.2.1.1.2.2.2.2.2.2.2.2.2.2.2.2.2.2.2.2.1, y5.2.1.1.2.2.2.2.2.2.2.2.2.2.2.2.2.2.2.2.2.1, (y6.2.1.1.1, y6.2.1.1.2.2.2.2.2.2.2.2.2.1, y6.2.1.1.2.2.2.2.2.2.2.2.2.2.2.2.1, y6.2.1.1.2.2.2.2.2.2.2.2.2.2.2.2.2.1, y14.2.1.1.2.1), y6.2.1.1.2.1, y6.2.1.1.2.2.1, y6.2.1.1.2.2.2.1, y6.2.1.1.2.2.2.2.1, y6.2.1.1.2.2.2.2.2.1, y6.2.1.1.2.2.2.2.2.2.1, y6.2.1.1.2.2.2.2.2.2.2.1, y6.2.1.1.2.2.2.2.2.2.2.2.1, y6.2.1.1.2.2.2.2.2.2.2.2.2.2.1, y6.2.1.1.2.2.2.2.2.2.2.2.2.2.2.1, y14.2.1.1.1, y6.2.1.1.2.2.2.2.2.2.2.2.2.2.2.2.2.2.2.2.1, y6.2.1.1.2.2.2.2.2.2.2.2.2.2.2.2.2.2.2.2.2.1))
            else
              bif (get actT l y4.1).1 == 2 then
                bif decide ((get actT l y4.1).2.1 > 60) then
                  bif bif true then decide ((get actT l y4.1).2.1 ≤ 1048576) else false then
                    some (Sum.inr ((y0.1.1, ()), (), ()))
                  else
                    bindO (vGrow (get actT l y4.1).2.1 y4.2.1.1 y4.2.2.2.1 y4.2.2.2.2.1 y4.2.2.2.2.2.1 y4.2.2.2.2.2.2.1 y4.2.2.2.2.2.2.2.1 y4.2.2.2.2.2.2.2.2.1 y4.2.1.2.2.2.2 y4.2.2.2.2.2.2.2.2.2.2.2.2.2.1 y4.2.2.2.2.2.2.2.2.2.2.2.2.2.2.1) fun y5 =>
                    bindO (vGrow (get actT l y4.1).2.1 y4.2.2.2.2.2.2.2.2.2.2.2.2.2.2.2.1.1 y4.2.2.2.2.2.2.2.2.2.2.2.2.2.2.2.2.2.1 y4.2.2.2.2.2.2.2.2.2.2.2.2.2.2.2.2.2.2.1 y4.2.2.2.2.2.2.2.2.2.2.2.2.2.2.2.2.2.2.2.1 y4.2.2.2.2.2.2.2.2.2.2.2.2.2.2.2.2.2.2.2.2.1 y4.2.2.2.2.2.2.2.2.2.2.2.2.2.2.2.2.2.2.2.2.2.1 y4.2.2.2.2.2.2.2.2.2.2.2.2.2.2.2.2.2.2.2.2.2.2.1 y4.2.2.2.2.2.2.2.2.2.2.2.2.2.2.2.1.2.2.2.2 y4.2.2.2.2.2.2.2.2.2.2.2.2.2.2.2.2.2.2.2.2.2.2.2.2.2.2.2.1 y4.2.2.2.2.2.2.2.2.2.2.2.2.2.2.2.2.2.2.2.2.2.2.2.2.2.2.2.2) fun y6 =>
                    bindO (vModel y5.2.1.1.2.2.2.2.2.2.2.2.2.1) fun y7 =>
                    bindO (vModel y6.2.1.1.2.2.2.2.2.2.2.2.2.1) fun y8 =>
                    bindO (vrSameBits y7.1.1 y8.1.1) fun y9 =>
                    bif !y9.1.1 then
                      some (Sum.inr ((false, ()), (), ()))
                    else
                      bindO (vCore y5.2.1.1.2.2.2.2.2.2.2.2.1) fun y10 =>
                      bindO (vCore y6.2.1.1.2.2.2.2.2.2.2.2.1) fun y11 =>
                      bindO (vrSame y10.1.1 y11.1.1) fun y12 =>
                      bif bif false then true else !y12.1.1 then
                        some (Sum.inr ((false, ()), (), ()))
                      else
                        bindO (vProof y4.2.2.2.2.2.2.2.2.2.2.2.2.1 y5.2.1.1.2.2.2.2.2.2.2.1) fun y13 =>
                        bindO (vProof y4.2.2.2.2.2.2.2.2.2.2.2.2.2.2.2.2.2.2.2.2.2.2.2.2.2.2.1 y6.2.1.1.2.2.2.2.2.2.2.1) fun y14 =>
                        bindO (vrSameR y13.1.1 y14.1.1) fun y15 =>
                        bif bif false then true else !y15.1.1 then
                          some (Sum.inr ((false, ()), (), ()))
                        else
                          gd (inK IntKind.i64 (y4.1 + 1)) <|
                          some (Sum.inl (y4.1 + 1, (y5.2.1.1.1, y4.2.1.2.1, y4.2.1.2.2.1, y4.2.1.2.2.2.1, y13.2.1.1.2.1), y4.2.2.1, y5.2.1.1.2.1, y5.2.1.1.2.2.1, y5.2.1.1.2.2.2.1, y5.2.1.1.2.2.2.2.1, y5.2.1.1.2.2.2.2.2.1, y5.2.1.1.2.2.2.2.2.2.1, y4.2.2.2.2.2.2.2.2.2.1, y4.2.2.2.2.2.2.2.2.2.2.1, y4.2.2.2.2.2.2.2.2.2.2.2.1, y13.2.1.1.1, y5.2.1.1.2.2.2.2.2.2.2.2.1, y5.2.1.1.2.2.2.2.2.2.2.2.2.1, (y6.2.1.1.1, y4.2.2.2.2.2.2.2.2.2.2.2.2.2.2.2.1.2.1, y4.2.2.2.2.2.2.2.2.2.2.2.2.2.2.2.1.2.2.1, y4.2.2.2.2.2.2.2.2.2.2.2.2.2.2.2.1.2.2.2.1, y14.2.1.1.2.1), y4.2.2.2.2.2.2.2.2.2.2.2.2.2.2.2.2.1, y6.2.1.1.2.1, y6.2.1.1.2.2.1, y6.2.1.1.2.2.2.1, y6.2.1.1.2.2.2.2.1, y6.2.1.1.2.2.2.2.2.1, y6.2.1.1.2.2.2.2.2.2.1, y4.2.2.2.2.2.2.2.2.2.2.2.2.2.2.2.2.2.2.2.2.2.2.2.1, y4.2.2.2.2.2.2.2.2.2.2.2.2.2.2.2.2.2.2.2.2.2.2.2.2.1, y4.2.2.2.2.2.2.2.2.2.2.2.2.2.2.2.2.2.2.2.2.2.2.2.2.2.1, y14.2.1.1.1, y6.2.1.1.2.2.2.2.2.2.2.2.1, y6.2.1.1.2.2.2.2.2.2.2.2.2.1))
                else
                  bindO (vGrow (get actT l y4.1).2.1 y4.2.1.1 y4.2.2.2.1 y4.2.2.2.2.1 y4.2.2.2.2.2.1 y4.2.2.2.2.2.2.1 y4.2.2.2.2.2.2.2.1 y4.2.2.2.2.2.2.2.2.1 y4.2.1.2.2.2.2 y4.2.2.2.2.2.2.2.2.2.2.2.2.2.1 y4.2.2.2.2.2.2.2.2.2.2.2.2.2.2.1) fun y5 =>
                  bindO (vGrow (get actT l y4.1).2.1 y4.2.2.2.2.2.2.2.2.2.2.2.2.2.2.2.1.1 y4.2.2.2.2.2.2.2.2.2.2.2.2.2.2.2.2.2.1 y4.2.2.2.2.2.2.2.2.2.2.2.2.2.2.2.2.2.2.1 y4.2.2.2.2.2.2.2.2.2.2.2.2.2.2.2.2.2.2.2.1 y4.2.2.2.2.2.2.2.2.2.2.2.2.2.2.2.2.2.2.2.2.1 y4.2.2.2.2.2.2.2.2.2.2.2.2.2.2.2.2.2.2.2.2.2.1 y4.2.2.2.2.2.2.2.2.2.2.2.2.2.2.2.2.2.2.2.2.2.2.1 y4.2.2.2.2.2.2.2.2.2.2.2.2.2.2.2.1.2.2.2.2 y4.2.2.2.2.2.2.2.2.2.2.2.2.2.2.2.2.2.2.2.2.2.2.2.2.2.2.2.1 y4.2.2.2.2.2.2.2.2.2.2.2.2.2.2.2.2.2.2.2.2.2.2.2.2.2.2.2.2) fun y6 =>
                  bindO (vModel y5.2.1.1.2.2.2.2.2.2.2.2.2.1) fun y7 =>
                  bindO (vModel y6.2.1.1.2.2.2.2.2.2.2.2.2.1) fun y8 =>
                  bindO (vrSameBits y7.1.1 y8.1.1) fun y9 =>
                  bif !y9.1.1 then
                    some (Sum.inr ((false, ()), (), ()))
                  else
                    bindO (vCore y5.2.1.1.2.2.2.2.2.2.2.2.1) fun y10 =>
                    bindO (vCore y6.2.1.1.2.2.2.2.2.2.2.2.1) fun y11 =>
                    bindO (vrSame y10.1.1 y11.1.1) fun y12 =>
                    bif bif false then true else !y12.1.1 then
                      some (Sum.inr ((false, ()), (), ()))
                    else
                      bindO (vProof y4.2.2.2.2.2.2.2.2.2.2.2.2.1 y5.2.1.1.2.2.2.2.2.2.2.1) fun y13 =>
                      bindO (vProof y4.2.2.2.2.2.2.2.2.2.2.2.2.2.2.2.2.2.2.2.2.2.2.2.2.2.2.1 y6.2.1.1.2.2.2.2.2.2.2.1) fun y14 =>
                      bindO (vrSameR y13.1.1 y14.1.1) fun y15 =>
                      bif bif false then true else !y15.1.1 then
                        some (Sum.inr ((false, ()), (), ()))
                      else
                        gd (inK IntKind.i64 (y4.1 + 1)) <|
                        some (Sum.inl (y4.1 + 1, (y5.2.1.1.1, y4.2.1.2.1, y4.2.1.2.2.1, y4.2.1.2.2.2.1, y13.2.1.1.2.1), y4.2.2.1, y5.2.1.1.2.1, y5.2.1.1.2.2.1, y5.2.1.1.2.2.2.1, y5.2.1.1.2.2.2.2.1, y5.2.1.1.2.2.2.2.2.1, y5.2.1.1.2.2.2.2.2.2.1, y4.2.2.2.2.2.2.2.2.2.1, y4.2.2.2.2.2.2.2.2.2.2.1, y4.2.2.2.2.2.2.2.2.2.2.2.1, y13.2.1.1.1, y5.2.1.1.2.2.2.2.2.2.2.2.1, y5.2.1.1.2.2.2.2.2.2.2.2.2.1, (y6.2.1.1.1, y4.2.2.2.2.2.2.2.2.2.2.2.2.2.2.2.1.2.1, y4.2.2.2.2.2.2.2.2.2.2.2.2.2.2.2.1.2.2.1, y4.2.2.2.2.2.2.2.2.2.2.2.2.2.2.2.1.2.2.2.1, y14.2.1.1.2.1), y4.2.2.2.2.2.2.2.2.2.2.2.2.2.2.2.2.1, y6.2.1.1.2.1, y6.2.1.1.2.2.1, y6.2.1.1.2.2.2.1, y6.2.1.1.2.2.2.2.1, y6.2.1.1.2.2.2.2.2.1, y6.2.1.1.2.2.2.2.2.2.1, y4.2.2.2.2.2.2.2.2.2.2.2.2.2.2.2.2.2.2.2.2.2.2.2.1, y4.2.2.2.2.2.2.2.2.2.2.2.2.2.2.2.2.2.2.2.2.2.2.2.2.1, y4.2.2.2.2.2.2.2.2.2.2.2.2.2.2.2.2.2.2.2.2.2.2.2.2.2.1, y14.2.1.1.1, y6.2.1.1.2.2.2.2.2.2.2.2.1, y6.2.1.1.2.2.2.2.2.2.2.2.2.1))
              else
                bindO (vModel y4.2.2.2.2.2.2.2.2.2.2.2.2.2.2.1) fun y5 =>
                bindO (vModel y4.2.2.2.2.2.2.2.2.2.2.2.2.2.2.2.2.2.2.2.2.2.2.2.2.2.2.2.2) fun y6 =>
                bindO (vrSameBits y5.1.1 y6.1.1) fun y7 =>
                bif !y7.1.1 then
                  some (Sum.inr ((false, ()), (), ()))
                else
                  bindO (vCore y4.2.2.2.2.2.2.2.2.2.2.2.2.2.1) fun y8 =>
                  bindO (vCore y4.2.2.2.2.2.2.2.2.2.2.2.2.2.2.2.2.2.2.2.2.2.2.2.2.2.2.2.1) fun y9 =>
                  bindO (vrSame y8.1.1 y9.1.1) fun y10 =>
                  bif bif false then true else !y10.1.1 then
                    some (Sum.inr ((false, ()), (), ()))
                  else
                    bindO (vProof y4.2.2.2.2.2.2.2.2.2.2.2.2.1 y4.2.1.2.2.2.2) fun y11 =>
                    bindO (vProof y4.2.2.2.2.2.2.2.2.2.2.2.2.2.2.2.2.2.2.2.2.2.2.2.2.2.2.1 y4.2.2.2.2.2.2.2.2.2.2.2.2.2.2.2.1.2.2.2.2) fun y12 =>
                    bindO (vrSameR y11.1.1 y12.1.1) fun y13 =>
                    bif bif false then true else !y13.1.1 then
                      some (Sum.inr ((false, ()), (), ()))
                    else
                      gd (inK IntKind.i64 (y4.1 + 1)) <|
                      some (Sum.inl (y4.1 + 1, (y4.2.1.1, y4.2.1.2.1, y4.2.1.2.2.1, y4.2.1.2.2.2.1, y11.2.1.1.2.1), y4.2.2.1, y4.2.2.2.1, y4.2.2.2.2.1, y4.2.2.2.2.2.1, y4.2.2.2.2.2.2.1, y4.2.2.2.2.2.2.2.1, y4.2.2.2.2.2.2.2.2.1, y4.2.2.2.2.2.2.2.2.2.1, y4.2.2.2.2.2.2.2.2.2.2.1, y4.2.2.2.2.2.2.2.2.2.2.2.1, y11.2.1.1.1, y4.2.2.2.2.2.2.2.2.2.2.2.2.2.1, y4.2.2.2.2.2.2.2.2.2.2.2.2.2.2.1, (y4.2.2.2.2.2.2.2.2.2.2.2.2.2.2.2.1.1, y4.2.2.2.2.2.2.2.2.2.2.2.2.2.2.2.1.2.1, y4.2.2.2.2.2.2.2.2.2.2.2.2.2.2.2.1.2.2.1, y4.2.2.2.2.2.2.2.2.2.2.2.2.2.2.2.1.2.2.2.1, y12.2.1.1.2.1), y4.2.2.2.2.2.2.2.2.2.2.2.2.2.2.2.2.1, y4.2.2.2.2.2.2.2.2.2.2.2.2.2.2.2.2.2.1, y4.2.2.2.2.2.2.2.2.2.2.2.2.2.2.2.2.2.2.1, y4.2.2.2.2.2.2.2.2.2.2.2.2.2.2.2.2.2.2.2.1, y4.2.2.2.2.2.2.2.2.2.2.2.2.2.2.2.2.2.2.2.2.1, y4.2.2.2.2.2.2.2.2.2.2.2.2.2.2.2.2.2.2.2.2.2.1, y4.2.2.2.2.2.2.2.2.2.2.2.2.2.2.2.2.2.2.2.2.2.2.1, y4.2.2.2.2.2.2.2.2.2.2.2.2.2.2.2.2.2.2.2.2.2.2.2.1, y4.2.2.2.2.2.2.2.2.2.2.2.2.2.2.2.2.2.2.2.2.2.2.2.2.1, y4.2.2.2.2.2.2.2.2.2.2.2.2.2.2.2.2.2.2.2.2.2.2.2.2.2.1, y12.2.1.1.1, y4.2.2.2.2.2.2.2.2.2.2.2.2.2.2.2.2.2.2.2.2.2.2.2.2.2.2.2.1, y4.2.2.2.2.2.2.2.2.2.2.2.2.2.2.2.2.2.2.2.2.2.2.2.2.2.2.2.2))
        else
          some (Sum.inr ((y0.1.1, ()), (), ()))) (nn) (0, (y2.2.2.1.1, y2.2.2.1.2.2.2.2.2.2.2.2.2.1, y2.2.2.1.2.2.2.2.2.2.2.2.2.2.2.2.1, y2.2.2.1.2.2.2.2.2.2.2.2.2.2.2.2.2.1, y2.2.2.1.2.2.2.2.2.2.2.2.2.2.2.2.2.2.2.1), y2.2.2.1.2.1, y2.2.2.1.2.2.1, y2.2.2.1.2.2.2.1, y2.2.2.1.2.2.2.2.1, y2.2.2.1.2.2.2.2.2.1, y2.2.2.1.2.2.2.2.2.2.1, y2.2.2.1.2.2.2.2.2.2.2.1, y2.2.2.1.2.2.2.2.2.2.2.2.1, y2.2.2.1.2.2.2.2.2.2.2.2.2.2.1, y2.2.2.1.2.2.2.2.2.2.2.2.2.2.2.1, y2.2.2.1.2.2.2.2.2.2.2.2.2.2.2.2.2.2.1, y2.2.2.1.2.2.2.2.2.2.2.2.2.2.2.2.2.2.2.2.1, y2.2.2.1.2.2.2.2.2.2.2.2.2.2.2.2.2.2.2.2.2.1, (y3.2.2.1.1, y3.2.2.1.2.2.2.2.2.2.2.2.2.1, y3.2.2.1.2.2.2.2.2.2.2.2.2.2.2.2.1, y3.2.2.1.2.2.2.2.2.2.2.2.2.2.2.2.2.1, y3.2.2.1.2.2.2.2.2.2.2.2.2.2.2.2.2.2.2.1), y3.2.2.1.2.1, y3.2.2.1.2.2.1, y3.2.2.1.2.2.2.1, y3.2.2.1.2.2.2.2.1, y3.2.2.1.2.2.2.2.2.1, y3.2.2.1.2.2.2.2.2.2.1, y3.2.2.1.2.2.2.2.2.2.2.1, y3.2.2.1.2.2.2.2.2.2.2.2.1, y3.2.2.1.2.2.2.2.2.2.2.2.2.2.1, y3.2.2.1.2.2.2.2.2.2.2.2.2.2.2.1, y3.2.2.1.2.2.2.2.2.2.2.2.2.2.2.2.2.2.1, y3.2.2.1.2.2.2.2.2.2.2.2.2.2.2.2.2.2.2.2.1, y3.2.2.1.2.2.2.2.2.2.2.2.2.2.2.2.2.2.2.2.2.1)

def SatSame (first : Int) (l : List (Int × Int × List Int × Unit)) : Option ((Bool × Unit) × Unit × Unit) := SatSameF fuelN head great New Add Ask Model Core Proof Grow rSame rSameR rSameBits first l

end GoSx
end
section
/- Walks: the functions compute what their models say: SatA. -/
set_option linter.unusedVariables false
set_option maxHeartbeats 0
namespace GoSx
open Go Go.Proofs
theorem fol : Try.prog.follows .mixedOrders = true := by kernel_rfl
def size_s : FSig := ⟨.val int <| .nil, [], .val int <| .nil, []⟩
def size_L : Nat → Option LoopS := fun n =>
  none
def size_J : Nat → Option Shape := fun n =>
  none
set_option maxRecDepth 100000 in
theorem size_eq : ∀  xa xo, (size_s.prog (mkC Try.prog noS ⟨false, false⟩ size_L size_J) Try.f62 xa xo).run = size  xa.1 := by intros; kernel_rfl
noncomputable def T_size : FuncId → Summ := addS noS 62 (size_s.summ (fun xa xo => size xa.1))
theorem T_size_ok : ∀ g, SummOK Try.prog g (T_size g) := fn_ok noS_ok fol Try.func62 (by kernel_rfl) (by kernel_rfl) (by kernel_rfl) size_eq

def at__s : FSig := ⟨.val int <| .nil, [], .val int <| .nil, []⟩
def at__L : Nat → Option LoopS := fun n =>
  none
def at__J : Nat → Option Shape := fun n =>
  none
set_option maxRecDepth 100000 in
theorem at__eq : ∀  xa xo, (at__s.prog (mkC Try.prog T_size ⟨false, false⟩ at__L at__J) Try.f64 xa xo).run = at_  xa.1 := by intros; kernel_rfl
noncomputable def T_at_ : FuncId → Summ := addS T_size 64 (at__s.summ (fun xa xo => at_ xa.1))
theorem T_at__ok : ∀ g, SummOK Try.prog g (T_at_ g) := fn_ok T_size_ok fol Try.func64 (by kernel_rfl) (by kernel_rfl) (by kernel_rfl) at__eq

def value_s : FSig := ⟨.obj 0 <| .val int <| .nil, [(66, .skip <| .skip <| .skip <| .lend (.sl int) <| .skip <| .skip <| .skip <| .skip <| .skip <| .skip <| .skip <| .skip <| .skip <| .skip <| .skip <| .skip <| .skip <| .skip <| .nil)], .val int <| .nil, []⟩
def value_L : Nat → Option LoopS := fun n =>
  none
def value_J : Nat → Option Shape := fun n =>
  none
set_option maxRecDepth 100000 in
theorem value_eq : ∀  xa xo, (value_s.prog (mkC Try.prog T_at_ ⟨false, false⟩ value_L value_J) Try.f43 xa xo).run = value  xa.1 xo.1.1 := by intros; kernel_rfl
noncomputable def T_value : FuncId → Summ := addS T_at_ 43 (value_s.summ (fun xa xo => value xa.1 xo.1.1))
theorem T_value_ok : ∀ g, SummOK Try.prog g (T_value g) := fn_ok T_at__ok fol Try.func43 (by kernel_rfl) (by kernel_rfl) (by kernel_rfl) value_eq

def set__s : FSig := ⟨.obj 0 <| .val int <| .val int <| .nil, [(66, .skip <| .skip <| .skip <| .own 3 int <| .own 3 int <| .own 3 int <| .skip <| .skip <| .skip <| .skip <| .own 3 int <| .lend (.sl int) <| .skip <| .skip <| .skip <| .skip <| .skip <| .skip <| .nil)], .nil, []⟩
def set__L : Nat → Option LoopS := fun n =>
  none
def set__J : Nat → Option Shape := fun n =>
  none
set_option maxRecDepth 100000 in
theorem set__eq : ∀  xa xo, (set__s.prog (mkC Try.prog T_value ⟨false, false⟩ set__L set__J) Try.f45 xa xo).run = set_  xa.1 xa.2.1 xo.1.1 xo.1.2.1 xo.1.2.2.1 xo.1.2.2.2.1 xo.1.2.2.2.2.1 := by intros; kernel_rfl
noncomputable def T_set_ : FuncId → Summ := addS T_value 45 (set__s.summ (fun xa xo => set_ xa.1 xa.2.1 xo.1.1 xo.1.2.1 xo.1.2.2.1 xo.1.2.2.2.1 xo.1.2.2.2.2.1))
theorem T_set__ok : ∀ g, SummOK Try.prog g (T_set_ g) := fn_ok T_value_ok fol Try.func45 (by kernel_rfl) (by kernel_rfl) (by kernel_rfl) set__eq

def back_s : FSig := ⟨.obj 0 <| .val int <| .nil, [(66, .skip <| .skip <| .skip <| .own 3 int <| .skip <| .skip <| .own 3 int <| .skip <| .skip <| .val int <| .own 3 int <| .own 3 int <| .val int <| .skip <| .skip <| .skip <| .skip <| .skip <| .nil)], .nil, []⟩
def back_L (nn : Nat) : Nat → Option LoopS := fun n =>
  bif Nat.beq n 3 then some ⟨{ env := [(29, ASh.dat (Ty.int IntKind.i64))], heap := [(1, CSh.box 66 ((ASh.opq 18).cons ((ASh.opq 19).cons ((ASh.opq 20).cons ((ASh.arr 21).cons ((ASh.opq 22).cons ((ASh.opq 23).cons ((ASh.arr 24).cons ((ASh.opq 25).cons ((ASh.opq 26).cons ((ASh.dat (Ty.int IntKind.i64)).cons ((ASh.arr 28).cons ((ASh.arr 29).cons ((ASh.dat (Ty.int IntKind.i64)).cons ((ASh.opq 31).cons ((ASh.opq 32).cons ((ASh.opq 33).cons ((ASh.opq 34).cons ((ASh.opq 35).cons ASh.nil))))))))))))))))))), (21, CSh.arr 3 (Ty.int IntKind.i64)), (24, CSh.arr 3 (Ty.int IntKind.i64))], keep := [0, 1, 4, 27, 28], keepH := [28, 29] }, fun _ => nn⟩ else
  none
def back_J : Nat → Option Shape := fun n =>
  none
set_option maxRecDepth 100000 in
theorem back_eq : ∀ (nn : Nat)  xa xo, (back_s.prog (mkC Try.prog T_set_ ⟨false, false⟩ (back_L nn) back_J) Try.f42 xa xo).run = backF nn xa.1 xo.1.1 xo.1.2.1 xo.1.2.2.1 xo.1.2.2.2.1 xo.1.2.2.2.2.1 xo.1.2.2.2.2.2.1 := by intros; kernel_rfl
noncomputable def T_back : FuncId → Summ := addS T_set_ 42 (back_s.summ (fun xa xo => back xa.1 xo.1.1 xo.1.2.1 xo.1.2.2.1 xo.1.2.2.2.1 xo.1.2.2.2.2.1 xo.1.2.2.2.2.2.1))
theorem T_back_ok : ∀ g, SummOK Try.prog g (T_back g) := fn_ok T_set__ok fol Try.func42 (by kernel_rfl) (by kernel_rfl) (by kernel_rfl) (back_eq fuelN)

def keep_s : FSig := ⟨.obj 0 <| .lendh int <| .nil, [(66, .skip <| .own2h 29 3 int 17 <| .own2 29 3 int <| .skip <| .skip <| .skip <| .skip <| .skip <| .skip <| .skip <| .skip <| .skip <| .skip <| .skip <| .skip <| .skip <| .skip <| .skip <| .nil)], .val int <| .nil, []⟩
def keep_L : Nat → Option LoopS := fun n =>
  none
def keep_J : Nat → Option Shape := fun n =>
  none
set_option maxRecDepth 100000 in
theorem keep_eq : ∀  xa xo, (keep_s.prog (mkC Try.prog T_back ⟨false, false⟩ keep_L keep_J) Try.f46 xa xo).run = keep  xa.1 xo.1.1 xo.1.2.1 xo.1.2.2.1 := by intros; kernel_rfl
noncomputable def T_keep : FuncId → Summ := addS T_back 46 (keep_s.summ (fun xa xo => keep xa.1 xo.1.1 xo.1.2.1 xo.1.2.2.1))
theorem T_keep_ok : ∀ g, SummOK Try.prog g (T_keep g) := fn_ok T_back_ok fol Try.func46 (by kernel_rfl) (by kernel_rfl) (by kernel_rfl) keep_eq

end GoSx
end
section
/- Walks: the functions compute what their models say: SatB. -/
set_option linter.unusedVariables false
set_option maxHeartbeats 0
namespace GoSx
open Go Go.Proofs
def forget_s : FSig := ⟨.obj 0 <| .nil, [(66, .skip <| .skip <| .skip <| .skip <| .skip <| .skip <| .skip <| .skip <| .skip <| .skip <| .skip <| .skip <| .skip <| .skip <| .skip <| .val int <| .own 3 int <| .own 4 .bool <| .nil)], .nil, []⟩
def forget_L : Nat → Option LoopS := fun n =>
  none
def forget_J : Nat → Option Shape := fun n =>
  none
set_option maxRecDepth 100000 in
theorem forget_eq : ∀  xa xo, (forget_s.prog (mkC Try.prog T_keep ⟨false, false⟩ forget_L forget_J) Try.f40 xa xo).run = forget  xo.1.1 xo.1.2.1 xo.1.2.2.1 := by intros; kernel_rfl
noncomputable def T_forget : FuncId → Summ := addS T_keep 40 (forget_s.summ (fun xa xo => forget xo.1.1 xo.1.2.1 xo.1.2.2.1))
theorem T_forget_ok : ∀ g, SummOK Try.prog g (T_forget g) := fn_ok T_keep_ok fol Try.func40 (by kernel_rfl) (by kernel_rfl) (by kernel_rfl) forget_eq

def ownC_s : FSig := ⟨.val int <| .obj 0 <| .nil, [(25, .obj 1 <| .nil), (66, .val int <| .skip <| .skip <| .skip <| .skip <| .skip <| .skip <| .skip <| .skip <| .skip <| .skip <| .skip <| .skip <| .skip <| .skip <| .skip <| .skip <| .skip <| .nil)], .val .bool <| .nil, []⟩
def ownC_L : Nat → Option LoopS := fun n =>
  none
def ownC_J : Nat → Option Shape := fun n =>
  none
set_option maxRecDepth 100000 in
theorem ownC_eq : ∀  xa xo, (ownC_s.prog (mkC Try.prog T_forget ⟨false, false⟩ ownC_L ownC_J) Try.f61 xa xo).run = ownC  xa.1 xo.2.1.1 := by intros; kernel_rfl
noncomputable def T_ownC : FuncId → Summ := addS T_forget 61 (ownC_s.summ (fun xa xo => ownC xa.1 xo.2.1.1))
theorem T_ownC_ok : ∀ g, SummOK Try.prog g (T_ownC g) := fn_ok T_forget_ok fol Try.func61 (by kernel_rfl) (by kernel_rfl) (by kernel_rfl) ownC_eq

def IndexFunc_own_s : FSig := ⟨.val (.sl int) <| .clo 61 (.obj 0 <| .nil) <| .nil, [(25, .obj 1 <| .nil), (66, .val int <| .skip <| .skip <| .skip <| .skip <| .skip <| .skip <| .skip <| .skip <| .skip <| .skip <| .skip <| .skip <| .skip <| .skip <| .skip <| .skip <| .skip <| .nil)], .val int <| .nil, []⟩
def IndexFunc_own_L (nn : Nat) : Nat → Option LoopS := fun n =>
  bif Nat.beq n 2 then some ⟨{ env := [(8, ASh.dat (Ty.int IntKind.i64))], heap := [(1, CSh.box 25 ((ASh.ref 2 0).cons ASh.nil)), (2, CSh.box 66 ((ASh.dat (Ty.int IntKind.i64)).cons ((ASh.opq 20).cons ((ASh.opq 21).cons ((ASh.opq 22).cons ((ASh.opq 23).cons ((ASh.opq 24).cons ((ASh.opq 25).cons ((ASh.opq 26).cons ((ASh.opq 27).cons ((ASh.opq 28).cons ((ASh.opq 29).cons ((ASh.opq 30).cons ((ASh.opq 31).cons ((ASh.opq 32).cons ((ASh.opq 33).cons ((ASh.opq 34).cons ((ASh.opq 35).cons ((ASh.opq 36).cons ASh.nil)))))))))))))))))))], keep := [0, 1, 4, 7], keepH := [] }, fun _ => nn⟩ else
  none
def IndexFunc_own_J : Nat → Option Shape := fun n =>
  none
set_option maxRecDepth 100000 in
theorem IndexFunc_own_eq : ∀ (nn : Nat)  xa xo, (IndexFunc_own_s.prog (mkC Try.prog T_ownC ⟨false, false⟩ (IndexFunc_own_L nn) IndexFunc_own_J) Try.f70 xa xo).run = IndexFunc_ownF nn xa.1 xo.2.1.1 := by intros; kernel_rfl
noncomputable def T_IndexFunc_own : FuncId → Summ := addS T_ownC 70 (IndexFunc_own_s.summ (fun xa xo => IndexFunc_own xa.1 xo.2.1.1))
theorem T_IndexFunc_own_ok : ∀ g, SummOK Try.prog g (T_IndexFunc_own g) := fn_ok T_ownC_ok fol Try.func70 (by kernel_rfl) (by kernel_rfl) (by kernel_rfl) (IndexFunc_own_eq fuelN)

def ContainsFunc_own_s : FSig := ⟨.val (.sl int) <| .clo 61 (.obj 0 <| .nil) <| .nil, [(25, .obj 1 <| .nil), (66, .val int <| .skip <| .skip <| .skip <| .skip <| .skip <| .skip <| .skip <| .skip <| .skip <| .skip <| .skip <| .skip <| .skip <| .skip <| .skip <| .skip <| .skip <| .nil)], .val .bool <| .nil, []⟩
def ContainsFunc_own_L : Nat → Option LoopS := fun n =>
  none
def ContainsFunc_own_J : Nat → Option Shape := fun n =>
  none
set_option maxRecDepth 100000 in
theorem ContainsFunc_own_eq : ∀  xa xo, (ContainsFunc_own_s.prog (mkC Try.prog T_IndexFunc_own ⟨false, false⟩ ContainsFunc_own_L ContainsFunc_own_J) Try.f60 xa xo).run = ContainsFunc_own  xa.1 xo.2.1.1 := by intros; kernel_rfl
noncomputable def T_ContainsFunc_own : FuncId → Summ := addS T_IndexFunc_own 60 (ContainsFunc_own_s.summ (fun xa xo => ContainsFunc_own xa.1 xo.2.1.1))
theorem T_ContainsFunc_own_ok : ∀ g, SummOK Try.prog g (T_ContainsFunc_own g) := fn_ok T_IndexFunc_own_ok fol Try.func60 (by kernel_rfl) (by kernel_rfl) (by kernel_rfl) ContainsFunc_own_eq

def own_s : FSig := ⟨.obj 0 <| .val (.sl int) <| .nil, [(66, .val int <| .skip <| .skip <| .skip <| .skip <| .skip <| .skip <| .skip <| .skip <| .skip <| .skip <| .skip <| .skip <| .skip <| .skip <| .skip <| .skip <| .skip <| .nil)], .val .bool <| .nil, []⟩
def own_L : Nat → Option LoopS := fun n =>
  none
def own_J : Nat → Option Shape := fun n =>
  none
set_option maxRecDepth 100000 in
theorem own_eq : ∀  xa xo, (own_s.prog (mkC Try.prog T_ContainsFunc_own ⟨false, false⟩ own_L own_J) Try.f41 xa xo).run = own  xa.1 xo.1.1 := by intros; kernel_rfl
noncomputable def T_own : FuncId → Summ := addS T_ContainsFunc_own 41 (own_s.summ (fun xa xo => own xa.1 xo.1.1))
theorem T_own_ok : ∀ g, SummOK Try.prog g (T_own g) := fn_ok T_ContainsFunc_own_ok fol Try.func41 (by kernel_rfl) (by kernel_rfl) (by kernel_rfl) own_eq

def Index__s : FSig := ⟨.lend (.sl int) <| .val int <| .nil, [], .val int <| .nil, []⟩
def Index__L (nn : Nat) : Nat → Option LoopS := fun n =>
  bif Nat.beq n 2 then some ⟨{ env := [(8, ASh.dat (Ty.int IntKind.i64))], heap := [], keep := [0, 1, 4, 7], keepH := [] }, fun _ => nn⟩ else
  none
def Index__J : Nat → Option Shape := fun n =>
  none
set_option maxRecDepth 100000 in
theorem Index__eq : ∀ (nn : Nat)  xa xo, (Index__s.prog (mkC Try.prog T_own ⟨false, false⟩ (Index__L nn) Index__J) Try.f63 xa xo).run = Index_F nn xa.1 xa.2.1 := by intros; kernel_rfl
noncomputable def T_Index_ : FuncId → Summ := addS T_own 63 (Index__s.summ (fun xa xo => Index_ xa.1 xa.2.1))
theorem T_Index__ok : ∀ g, SummOK Try.prog g (T_Index_ g) := fn_ok T_own_ok fol Try.func63 (by kernel_rfl) (by kernel_rfl) (by kernel_rfl) (Index__eq fuelN)

def Contains__s : FSig := ⟨.lend (.sl int) <| .val int <| .nil, [], .val .bool <| .nil, []⟩
def Contains__L : Nat → Option LoopS := fun n =>
  none
def Contains__J : Nat → Option Shape := fun n =>
  none
set_option maxRecDepth 100000 in
theorem Contains__eq : ∀  xa xo, (Contains__s.prog (mkC Try.prog T_Index_ ⟨false, false⟩ Contains__L Contains__J) Try.f44 xa xo).run = Contains_  xa.1 xa.2.1 := by intros; kernel_rfl
noncomputable def T_Contains_ : FuncId → Summ := addS T_Index_ 44 (Contains__s.summ (fun xa xo => Contains_ xa.1 xa.2.1))
theorem T_Contains__ok : ∀ g, SummOK Try.prog g (T_Contains_ g) := fn_ok T_Index__ok fol Try.func44 (by kernel_rfl) (by kernel_rfl) (by kernel_rfl) Contains__eq

def pick_s : FSig := ⟨.obj 0 <| .nil, [(66, .val int <| .skip <| .skip <| .lend (.sl int) <| .skip <| .skip <| .lend (.sl int) <| .lend (.sl int) <| .lend (.sl int) <| .val int <| .skip <| .skip <| .skip <| .skip <| .skip <| .skip <| .skip <| .skip <| .nil)], .val int <| .nil, []⟩
def pick_L (nn : Nat) : Nat → Option LoopS := fun n =>
  bif Nat.beq n 3 then some ⟨{ env := [(3, ASh.dat (Ty.int IntKind.i64)), (11, ASh.dat (Ty.int IntKind.i64))], heap := [], keep := [0, 2, 9, 10], keepH := [1] }, fun _ => nn⟩ else
  bif Nat.beq n 8 then some ⟨{ env := [(3, ASh.dat (Ty.int IntKind.i64))], heap := [(1, CSh.box 66 ((ASh.dat (Ty.int IntKind.i64)).cons ((ASh.opq 18).cons ((ASh.opq 19).cons ((ASh.idn 20 (Ty.int IntKind.i64).sl).cons ((ASh.opq 21).cons ((ASh.opq 22).cons ((ASh.idn 23 (Ty.int IntKind.i64).sl).cons ((ASh.idn 24 (Ty.int IntKind.i64).sl).cons ((ASh.idn 25 (Ty.int IntKind.i64).sl).cons ((ASh.dat (Ty.int IntKind.i64)).cons ((ASh.opq 27).cons ((ASh.opq 28).cons ((ASh.opq 29).cons ((ASh.opq 30).cons ((ASh.opq 31).cons ((ASh.opq 32).cons ((ASh.opq 33).cons ((ASh.opq 34).cons ASh.nil)))))))))))))))))))], keep := [0, 2, 9, 10, 11], keepH := [] }, fun _ => nn⟩ else
  none
def pick_J : Nat → Option Shape := fun n =>
  none
set_option maxRecDepth 100000 in
theorem pick_eq : ∀ (nn : Nat)  xa xo, (pick_s.prog (mkC Try.prog T_Contains_ ⟨false, false⟩ (pick_L nn) pick_J) Try.f68 xa xo).run = pickF nn xo.1.1 xo.1.2.1 xo.1.2.2.1 xo.1.2.2.2.1 xo.1.2.2.2.2.1 xo.1.2.2.2.2.2.1 := by intros; kernel_rfl
noncomputable def T_pick : FuncId → Summ := addS T_Contains_ 68 (pick_s.summ (fun xa xo => pick xo.1.1 xo.1.2.1 xo.1.2.2.1 xo.1.2.2.2.1 xo.1.2.2.2.2.1 xo.1.2.2.2.2.2.1))
theorem T_pick_ok : ∀ g, SummOK Try.prog g (T_pick g) := fn_ok T_Contains__ok fol Try.func68 (by kernel_rfl) (by kernel_rfl) (by kernel_rfl) (pick_eq fuelN)

def Clone__s : FSig := ⟨.lend (.sl int) <| .nil, [], .own 3 int <| .nil, []⟩
theorem Clone__nf (s : List Int) (y : Clone__s.oty.den) : Clone__s.vcond (mkC Try.prog T_pick ⟨false, false⟩ (fun _ => none) (fun _ => none)) Try.f50 (s, ()) () y =
  ((s = [] → some (([], ()), (), ()) = some y) ∧ (([] : List Int).length + s.length) * 8 ≤ lim ∧ ([] : List Int).length + s.length ≤ lim ∧ some (([] ++ s, ()), (), ()) = some y) := by kernel_rfl
theorem Clone__vc (xa : Clone__s.args.ty.den) (xo : (objsTy Clone__s.objs).den) (y : Clone__s.oty.den) (h : Clone_ xa.1 = some y) : Clone__s.vcond (mkC Try.prog T_pick ⟨false, false⟩ (fun _ => none) (fun _ => none)) Try.f50 xa xo y := by
  have e := Clone__nf xa.1 y
  refine e.mpr ?_
  unfold Clone_ at h
  obtain ⟨h1, h⟩ := gd_some.1 h
  obtain ⟨h2, h⟩ := gd_some.1 h
  refine ⟨fun hs => ?_, h1, h2, ?_⟩
  · rw [hs] at h; exact h
  · exact h
noncomputable def T_Clone_ : FuncId → Summ := addS T_pick 50 (Clone__s.summ (fun xa xo => Clone_ xa.1))
theorem T_Clone__ok : ∀ g, SummOK Try.prog g (T_Clone_ g) := fn_ok_vc T_pick_ok fol Try.func50 (by kernel_rfl) (by kernel_rfl) (by kernel_rfl) Clone__vc

def CloneB_s : FSig := ⟨.lend (.sl .bool) <| .nil, [], .own 4 .bool <| .nil, []⟩
theorem CloneB_nf (s : List Bool) (y : CloneB_s.oty.den) : CloneB_s.vcond (mkC Try.prog T_Clone_ ⟨false, false⟩ (fun _ => none) (fun _ => none)) Try.f49 (s, ()) () y =
  ((s = [] → some (([], ()), (), ()) = some y) ∧ (([] : List Bool).length + s.length) * 1 ≤ lim ∧ ([] : List Bool).length + s.length ≤ lim ∧ some (([] ++ s, ()), (), ()) = some y) := by kernel_rfl
theorem CloneB_vc (xa : CloneB_s.args.ty.den) (xo : (objsTy CloneB_s.objs).den) (y : CloneB_s.oty.den) (h : CloneB xa.1 = some y) : CloneB_s.vcond (mkC Try.prog T_Clone_ ⟨false, false⟩ (fun _ => none) (fun _ => none)) Try.f49 xa xo y := by
  have e := CloneB_nf xa.1 y
  refine e.mpr ?_
  unfold CloneB at h
  obtain ⟨h1, h⟩ := gd_some.1 h
  obtain ⟨h2, h⟩ := gd_some.1 h
  refine ⟨fun hs => ?_, h1, h2, ?_⟩
  · rw [hs] at h; exact h
  · exact h
noncomputable def T_CloneB : FuncId → Summ := addS T_Clone_ 49 (CloneB_s.summ (fun xa xo => CloneB xa.1))
theorem T_CloneB_ok : ∀ g, SummOK Try.prog g (T_CloneB g) := fn_ok_vc T_Clone__ok fol Try.func49 (by kernel_rfl) (by kernel_rfl) (by kernel_rfl) CloneB_vc

end GoSx
end
section
/- Walks: the functions compute what their models say: SatC. -/
set_option linter.unusedVariables false
set_option maxHeartbeats 0
namespace GoSx
open Go Go.Proofs
def more_s : FSig := ⟨.own 3 int <| .val int <| .nil, [], .own 3 int <| .nil, []⟩
def more_L : Nat → Option LoopS := fun n =>
  none
def more_J : Nat → Option Shape := fun n =>
  none
set_option maxRecDepth 100000 in
theorem more_eq : ∀  xa xo, (more_s.prog (mkC Try.prog T_CloneB ⟨false, false⟩ more_L more_J) Try.f59 xa xo).run = more  xa.1 xa.2.1 := by intros; kernel_rfl
noncomputable def T_more : FuncId → Summ := addS T_CloneB 59 (more_s.summ (fun xa xo => more xa.1 xa.2.1))
theorem T_more_ok : ∀ g, SummOK Try.prog g (T_more g) := fn_ok T_CloneB_ok fol Try.func59 (by kernel_rfl) (by kernel_rfl) (by kernel_rfl) more_eq

def grow_s : FSig := ⟨.obj 0 <| .val int <| .nil, [(66, .val int <| .skip <| .own2 29 3 int <| .own 3 int <| .own 3 int <| .own 3 int <| .own 3 int <| .own 3 int <| .skip <| .skip <| .skip <| .skip <| .skip <| .skip <| .skip <| .skip <| .skip <| .skip <| .nil)], .nil, []⟩
def grow_L : Nat → Option LoopS := fun n =>
  none
def grow_J : Nat → Option Shape := fun n =>
  none
set_option maxRecDepth 100000 in
theorem grow_eq : ∀  xa xo, (grow_s.prog (mkC Try.prog T_more ⟨false, false⟩ grow_L grow_J) Try.f39 xa xo).run = grow  xa.1 xo.1.1 xo.1.2.1 xo.1.2.2.1 xo.1.2.2.2.1 xo.1.2.2.2.2.1 xo.1.2.2.2.2.2.1 xo.1.2.2.2.2.2.2.1 := by intros; kernel_rfl
noncomputable def T_grow : FuncId → Summ := addS T_more 39 (grow_s.summ (fun xa xo => grow xa.1 xo.1.1 xo.1.2.1 xo.1.2.2.1 xo.1.2.2.2.1 xo.1.2.2.2.2.1 xo.1.2.2.2.2.2.1 xo.1.2.2.2.2.2.2.1))
theorem T_grow_ok : ∀ g, SummOK Try.prog g (T_grow g) := fn_ok T_more_ok fol Try.func39 (by kernel_rfl) (by kernel_rfl) (by kernel_rfl) grow_eq

def New_s : FSig := ⟨.val int <| .nil, [], .obj 0 <| .nil, [(66, .val int <| .own2 29 3 int <| .own2 29 3 int <| .own 3 int <| .own 3 int <| .own 3 int <| .own 3 int <| .own 3 int <| .own 3 int <| .val int <| .own 3 int <| .own 3 int <| .val int <| .val .bool <| .own 29 (.sl int) <| .val int <| .own 3 int <| .own 4 .bool <| .nil)]⟩
def New_L : Nat → Option LoopS := fun n =>
  none
def New_J : Nat → Option Shape := fun n =>
  none
set_option maxRecDepth 100000 in
theorem New_eq : ∀  xa xo, (New_s.prog (mkC Try.prog T_grow ⟨false, false⟩ New_L New_J) Try.f14 xa xo).run = New  xa.1 := by intros; kernel_rfl
noncomputable def T_New : FuncId → Summ := addS T_grow 14 (New_s.summ (fun xa xo => New xa.1))
theorem T_New_ok : ∀ g, SummOK Try.prog g (T_New g) := fn_ok T_grow_ok fol Try.func14 (by kernel_rfl) (by kernel_rfl) (by kernel_rfl) New_eq

def Grow_s : FSig := ⟨.obj 0 <| .val int <| .nil, [(66, .val int <| .skip <| .own2 29 3 int <| .own 3 int <| .own 3 int <| .own 3 int <| .own 3 int <| .own 3 int <| .skip <| .skip <| .skip <| .skip <| .skip <| .skip <| .skip <| .val int <| .own 3 int <| .own 4 .bool <| .nil)], .nil, []⟩
def Grow_L : Nat → Option LoopS := fun n =>
  none
def Grow_J : Nat → Option Shape := fun n =>
  none
set_option maxRecDepth 100000 in
theorem Grow_eq : ∀  xa xo, (Grow_s.prog (mkC Try.prog T_New ⟨false, false⟩ Grow_L Grow_J) Try.f24 xa xo).run = Grow  xa.1 xo.1.1 xo.1.2.1 xo.1.2.2.1 xo.1.2.2.2.1 xo.1.2.2.2.2.1 xo.1.2.2.2.2.2.1 xo.1.2.2.2.2.2.2.1 xo.1.2.2.2.2.2.2.2.1 xo.1.2.2.2.2.2.2.2.2.1 xo.1.2.2.2.2.2.2.2.2.2.1 := by intros; kernel_rfl
noncomputable def T_Grow : FuncId → Summ := addS T_New 24 (Grow_s.summ (fun xa xo => Grow xa.1 xo.1.1 xo.1.2.1 xo.1.2.2.1 xo.1.2.2.2.1 xo.1.2.2.2.2.1 xo.1.2.2.2.2.2.1 xo.1.2.2.2.2.2.2.1 xo.1.2.2.2.2.2.2.2.1 xo.1.2.2.2.2.2.2.2.2.1 xo.1.2.2.2.2.2.2.2.2.2.1))
theorem T_Grow_ok : ∀ g, SummOK Try.prog g (T_Grow g) := fn_ok T_New_ok fol Try.func24 (by kernel_rfl) (by kernel_rfl) (by kernel_rfl) Grow_eq

def Add_s : FSig := ⟨.obj 0 <| .val (.sl int) <| .nil, [(66, .val int <| .own2 29 3 int <| .own2 29 3 int <| .own 3 int <| .own 3 int <| .own 3 int <| .own 3 int <| .skip <| .skip <| .val int <| .own 3 int <| .own 3 int <| .val int <| .val .bool <| .skip <| .val int <| .own 3 int <| .own 4 .bool <| .nil)], .nil, []⟩
def Add_L (nn : Nat) : Nat → Option LoopS := fun n =>
  bif Nat.beq n 5 then some ⟨{ env := [(4, ASh.arr 49), (17, ASh.dat (Ty.int IntKind.i64))], heap := [(1, CSh.box 66 ((ASh.dat (Ty.int IntKind.i64)).cons ((ASh.arr 19).cons ((ASh.arr 20).cons ((ASh.arr 533).cons ((ASh.arr 22).cons ((ASh.arr 23).cons ((ASh.arr 536).cons ((ASh.opq 25).cons ((ASh.opq 26).cons ((ASh.dat (Ty.int IntKind.i64)).cons ((ASh.arr 540).cons ((ASh.arr 541).cons ((ASh.dat (Ty.int IntKind.i64)).cons ((ASh.dat Ty.bool).cons ((ASh.opq 32).cons ((ASh.dat (Ty.int IntKind.i64)).cons ((ASh.arr 161).cons ((ASh.arr 162).cons ASh.nil))))))))))))))))))), (49, CSh.arr 3 (Ty.int IntKind.i64))], keep := [0, 1, 15, 16], keepH := [19, 20, 533, 22, 23, 536, 540, 541, 161, 162] }, fun _ => nn⟩ else
  none
def Add_J : Nat → Option Shape := fun n =>
  none
set_option maxRecDepth 100000 in
theorem Add_eq : ∀ (nn : Nat)  xa xo, (Add_s.prog (mkC Try.prog T_Grow ⟨false, false⟩ (Add_L nn) Add_J) Try.f16 xa xo).run = AddF nn xa.1 xo.1.1 xo.1.2.1 xo.1.2.2.1 xo.1.2.2.2.1 xo.1.2.2.2.2.1 xo.1.2.2.2.2.2.1 xo.1.2.2.2.2.2.2.1 xo.1.2.2.2.2.2.2.2.1 xo.1.2.2.2.2.2.2.2.2.1 xo.1.2.2.2.2.2.2.2.2.2.1 xo.1.2.2.2.2.2.2.2.2.2.2.1 xo.1.2.2.2.2.2.2.2.2.2.2.2.1 xo.1.2.2.2.2.2.2.2.2.2.2.2.2.1 xo.1.2.2.2.2.2.2.2.2.2.2.2.2.2.1 xo.1.2.2.2.2.2.2.2.2.2.2.2.2.2.2.1 := by intros; kernel_rfl
noncomputable def T_Add : FuncId → Summ := addS T_Grow 16 (Add_s.summ (fun xa xo => Add xa.1 xo.1.1 xo.1.2.1 xo.1.2.2.1 xo.1.2.2.2.1 xo.1.2.2.2.2.1 xo.1.2.2.2.2.2.1 xo.1.2.2.2.2.2.2.1 xo.1.2.2.2.2.2.2.2.1 xo.1.2.2.2.2.2.2.2.2.1 xo.1.2.2.2.2.2.2.2.2.2.1 xo.1.2.2.2.2.2.2.2.2.2.2.1 xo.1.2.2.2.2.2.2.2.2.2.2.2.1 xo.1.2.2.2.2.2.2.2.2.2.2.2.2.1 xo.1.2.2.2.2.2.2.2.2.2.2.2.2.2.1 xo.1.2.2.2.2.2.2.2.2.2.2.2.2.2.2.1))
theorem T_Add_ok : ∀ g, SummOK Try.prog g (T_Add g) := fn_ok T_Grow_ok fol Try.func16 (by kernel_rfl) (by kernel_rfl) (by kernel_rfl) (Add_eq fuelN)

def Model_s : FSig := ⟨.obj 0 <| .nil, [(66, .skip <| .skip <| .skip <| .skip <| .skip <| .skip <| .skip <| .skip <| .skip <| .skip <| .skip <| .skip <| .skip <| .skip <| .skip <| .skip <| .skip <| .lend (.sl .bool) <| .nil)], .own 4 .bool <| .nil, []⟩
def Model_L : Nat → Option LoopS := fun n =>
  none
def Model_J : Nat → Option Shape := fun n =>
  none
set_option maxRecDepth 100000 in
theorem Model_eq : ∀  xa xo, (Model_s.prog (mkC Try.prog T_Add ⟨false, false⟩ Model_L Model_J) Try.f21 xa xo).run = Model  xo.1.1 := by intros; kernel_rfl
noncomputable def T_Model : FuncId → Summ := addS T_Add 21 (Model_s.summ (fun xa xo => Model xo.1.1))
theorem T_Model_ok : ∀ g, SummOK Try.prog g (T_Model g) := fn_ok T_Add_ok fol Try.func21 (by kernel_rfl) (by kernel_rfl) (by kernel_rfl) Model_eq

def Core_s : FSig := ⟨.obj 0 <| .nil, [(66, .skip <| .skip <| .skip <| .skip <| .skip <| .skip <| .skip <| .skip <| .skip <| .skip <| .skip <| .skip <| .skip <| .skip <| .skip <| .skip <| .lend (.sl int) <| .skip <| .nil)], .own 3 int <| .nil, []⟩
def Core_L : Nat → Option LoopS := fun n =>
  none
def Core_J : Nat → Option Shape := fun n =>
  none
set_option maxRecDepth 100000 in
theorem Core_eq : ∀  xa xo, (Core_s.prog (mkC Try.prog T_Model ⟨false, false⟩ Core_L Core_J) Try.f22 xa xo).run = Core  xo.1.1 := by intros; kernel_rfl
noncomputable def T_Core : FuncId → Summ := addS T_Model 22 (Core_s.summ (fun xa xo => Core xo.1.1))
theorem T_Core_ok : ∀ g, SummOK Try.prog g (T_Core g) := fn_ok T_Model_ok fol Try.func22 (by kernel_rfl) (by kernel_rfl) (by kernel_rfl) Core_eq

def Proof_s : FSig := ⟨.obj 0 <| .nil, [(66, .skip <| .skip <| .skip <| .skip <| .skip <| .skip <| .skip <| .skip <| .skip <| .skip <| .skip <| .skip <| .skip <| .skip <| .own 29 (.sl int) <| .val int <| .skip <| .skip <| .nil)], .own 29 (.sl int) <| .nil, []⟩
def Proof_L (nn : Nat) : Nat → Option LoopS := fun n =>
  bif Nat.beq n 5 then some ⟨{ env := [(3, ASh.arr 49), (16, ASh.dat (Ty.int IntKind.i64))], heap := [(49, CSh.arr 29 (Ty.int IntKind.i64).sl)], keep := [0, 2, 14, 15], keepH := [1, 31] }, fun _ => nn⟩ else
  none
def Proof_J : Nat → Option Shape := fun n =>
  none
set_option maxRecDepth 100000 in
theorem Proof_eq : ∀ (nn : Nat)  xa xo, (Proof_s.prog (mkC Try.prog T_Core ⟨false, false⟩ (Proof_L nn) Proof_J) Try.f23 xa xo).run = ProofF nn xo.1.1 xo.1.2.1 := by intros; kernel_rfl
noncomputable def T_Proof : FuncId → Summ := addS T_Core 23 (Proof_s.summ (fun xa xo => Proof xo.1.1 xo.1.2.1))
theorem T_Proof_ok : ∀ g, SummOK Try.prog g (T_Proof g) := fn_ok T_Core_ok fol Try.func23 (by kernel_rfl) (by kernel_rfl) (by kernel_rfl) (Proof_eq fuelN)

def blame_s : FSig := ⟨.obj 0 <| .val int <| .nil, [(66, .skip <| .own2 29 3 int <| .skip <| .skip <| .skip <| .lend (.sl int) <| .skip <| .skip <| .skip <| .skip <| .lend (.sl int) <| .lend (.sl int) <| .skip <| .skip <| .skip <| .skip <| .skip <| .skip <| .nil)], .own 3 int <| .nil, []⟩
def blame_L (nn : Nat) : Nat → Option LoopS := fun n =>
  bif Nat.beq n 4 then some ⟨{ env := [(7, ASh.dat (Ty.int IntKind.i64)), (5, ASh.arr 192)], heap := [(19, CSh.arr2 29 3 (Ty.int IntKind.i64) []), (192, CSh.arr 3 (Ty.int IntKind.i64)), (192, CSh.arr 3 (Ty.int IntKind.i64)), (320, CSh.mp IntKind.i64 Ty.bool)], keep := [0, 1, 4, 6], keepH := [1] }, fun _ => nn⟩ else
  bif Nat.beq n 11 then some ⟨{ env := [(85, ASh.dat (Ty.int IntKind.i64))], heap := [(320, CSh.mp IntKind.i64 Ty.bool)], keep := [0, 1, 4, 5, 6, 7, 8, 83, 84], keepH := [1, 19, 4672, 192] }, fun _ => nn⟩ else
  none
def blame_J : Nat → Option Shape := fun n =>
  none
set_option maxRecDepth 100000 in
theorem blame_eq : ∀ (nn : Nat)  xa xo, (blame_s.prog (mkC Try.prog T_Proof ⟨false, false⟩ (blame_L nn) blame_J) Try.f67 xa xo).run = blameF nn xa.1 xo.1.1 xo.1.2.1 xo.1.2.2.1 xo.1.2.2.2.1 := by intros; kernel_rfl
noncomputable def T_blame : FuncId → Summ := addS T_Proof 67 (blame_s.summ (fun xa xo => blame xa.1 xo.1.1 xo.1.2.1 xo.1.2.2.1 xo.1.2.2.2.1))
theorem T_blame_ok : ∀ g, SummOK Try.prog g (T_blame g) := fn_ok T_Proof_ok fol Try.func67 (by kernel_rfl) (by kernel_rfl) (by kernel_rfl) (blame_eq fuelN)

def learn_s : FSig := ⟨.obj 0 <| .val int <| .nil, [(66, .skip <| .own2 29 3 int <| .skip <| .lend (.sl int) <| .lend (.sl int) <| .lend (.sl int) <| .skip <| .own 3 int <| .own 3 int <| .skip <| .lend (.sl int) <| .lend (.sl int) <| .skip <| .skip <| .skip <| .skip <| .skip <| .skip <| .nil)], .own 3 int <| .val int <| .nil, []⟩
def learn_L (nn : Nat) : Nat → Option LoopS := fun n =>
  bif Nat.beq n 5 then some ⟨{ env := [(7, ASh.arr 320), (8, ASh.dat (Ty.int IntKind.i64)), (9, ASh.dat (Ty.int IntKind.i64)), (10, ASh.arr 1280)], heap := [(1, CSh.box 66 ((ASh.opq 18).cons ((ASh.arr 19).cons ((ASh.opq 20).cons ((ASh.idn 21 (Ty.int IntKind.i64).sl).cons ((ASh.idn 22 (Ty.int IntKind.i64).sl).cons ((ASh.idn 23 (Ty.int IntKind.i64).sl).cons ((ASh.opq 24).cons ((ASh.arr 25).cons ((ASh.arr 26).cons ((ASh.opq 27).cons ((ASh.idn 28 (Ty.int IntKind.i64).sl).cons ((ASh.idn 29 (Ty.int IntKind.i64).sl).cons ((ASh.opq 30).cons ((ASh.opq 31).cons ((ASh.opq 32).cons ((ASh.opq 33).cons ((ASh.opq 34).cons ((ASh.opq 35).cons ASh.nil))))))))))))))))))), (19, CSh.arr2 29 3 (Ty.int IntKind.i64) [1280]), (1280, CSh.arr 3 (Ty.int IntKind.i64)), (1280, CSh.arr 3 (Ty.int IntKind.i64)), (25, CSh.arr 3 (Ty.int IntKind.i64)), (26, CSh.arr 3 (Ty.int IntKind.i64)), (192, CSh.mp IntKind.i64 Ty.bool), (320, CSh.arr 3 (Ty.int IntKind.i64))], keep := [0, 1, 4, 5, 6], keepH := [] }, fun _ => nn⟩ else
  bif Nat.beq n 6 then some ⟨{ env := [(34, ASh.dat (Ty.int IntKind.i64)), (8, ASh.dat (Ty.int IntKind.i64)), (7, ASh.arr 320)], heap := [(1, CSh.box 66 ((ASh.opq 18).cons ((ASh.arr 19).cons ((ASh.opq 20).cons ((ASh.idn 21 (Ty.int IntKind.i64).sl).cons ((ASh.idn 22 (Ty.int IntKind.i64).sl).cons ((ASh.idn 23 (Ty.int IntKind.i64).sl).cons ((ASh.opq 24).cons ((ASh.arr 25).cons ((ASh.arr 26).cons ((ASh.opq 27).cons ((ASh.idn 28 (Ty.int IntKind.i64).sl).cons ((ASh.idn 29 (Ty.int IntKind.i64).sl).cons ((ASh.opq 30).cons ((ASh.opq 31).cons ((ASh.opq 32).cons ((ASh.opq 33).cons ((ASh.opq 34).cons ((ASh.opq 35).cons ASh.nil))))))))))))))))))), (25, CSh.arr 3 (Ty.int IntKind.i64)), (26, CSh.arr 3 (Ty.int IntKind.i64)), (192, CSh.mp IntKind.i64 Ty.bool), (320, CSh.arr 3 (Ty.int IntKind.i64)), (320, CSh.arr 3 (Ty.int IntKind.i64))], keep := [0, 1, 4, 5, 6, 9, 10, 32, 33], keepH := [19, 1280] }, fun _ => nn⟩ else
  bif Nat.beq n 19 then some ⟨{ env := [(9, ASh.dat (Ty.int IntKind.i64))], heap := [], keep := [0, 1, 4, 5, 6, 7, 8, 10, 32, 33, 34], keepH := [1, 19, 1280, 25, 26, 192, 320] }, fun _ => nn⟩ else
  bif Nat.beq n 28 then some ⟨{ env := [(15, ASh.dat (Ty.int IntKind.i64)), (16, ASh.dat (Ty.int IntKind.i64))], heap := [(320, CSh.arr 3 (Ty.int IntKind.i64))], keep := [0, 1, 4, 5, 6, 7, 8, 9, 10, 14, 32, 33, 34], keepH := [1, 19, 1280, 25, 26, 192] }, fun _ => nn⟩ else
  none
def learn_J : Nat → Option Shape := fun n =>
  none
set_option maxRecDepth 100000 in
theorem learn_eq : ∀ (nn : Nat)  xa xo, (learn_s.prog (mkC Try.prog T_blame ⟨false, true⟩ (learn_L nn) learn_J) Try.f71 xa xo).run = learnF nn xa.1 xo.1.1 xo.1.2.1 xo.1.2.2.1 xo.1.2.2.2.1 xo.1.2.2.2.2.1 xo.1.2.2.2.2.2.1 xo.1.2.2.2.2.2.2.1 xo.1.2.2.2.2.2.2.2.1 := by intros; kernel_rfl
noncomputable def T_learn : FuncId → Summ := addS T_blame 71 (learn_s.summ (fun xa xo => learn xa.1 xo.1.1 xo.1.2.1 xo.1.2.2.1 xo.1.2.2.2.1 xo.1.2.2.2.2.1 xo.1.2.2.2.2.2.1 xo.1.2.2.2.2.2.2.1 xo.1.2.2.2.2.2.2.2.1))
theorem T_learn_ok : ∀ g, SummOK Try.prog g (T_learn g) := fn_ok T_blame_ok fol Try.func71 (by kernel_rfl) (by kernel_rfl) (by kernel_rfl) (learn_eq fuelN)

def unit_s : FSig := ⟨.obj 0 <| .nil, [(66, .skip <| .own2 29 3 int <| .own2 29 3 int <| .own 3 int <| .own 3 int <| .own 3 int <| .skip <| .skip <| .skip <| .skip <| .own 3 int <| .lend (.sl int) <| .val int <| .skip <| .skip <| .skip <| .skip <| .skip <| .nil)], .val int <| .nil, []⟩
def unit_L (nn : Nat) : Nat → Option LoopS := fun n =>
  bif Nat.beq n 1 then some ⟨{ env := [], heap := [(1, CSh.box 66 ((ASh.opq 17).cons ((ASh.arr 18).cons ((ASh.arr 19).cons ((ASh.arr 20).cons ((ASh.arr 21).cons ((ASh.arr 22).cons ((ASh.opq 23).cons ((ASh.opq 24).cons ((ASh.opq 25).cons ((ASh.opq 26).cons ((ASh.arr 27).cons ((ASh.idn 28 (Ty.int IntKind.i64).sl).cons ((ASh.dat (Ty.int IntKind.i64)).cons ((ASh.opq 30).cons ((ASh.opq 31).cons ((ASh.opq 32).cons ((ASh.opq 33).cons ((ASh.opq 34).cons ASh.nil))))))))))))))))))), (18, CSh.arr2 29 3 (Ty.int IntKind.i64) []), (19, CSh.arr2 29 3 (Ty.int IntKind.i64) []), (20, CSh.arr 3 (Ty.int IntKind.i64)), (21, CSh.arr 3 (Ty.int IntKind.i64)), (22, CSh.arr 3 (Ty.int IntKind.i64)), (27, CSh.arr 3 (Ty.int IntKind.i64))], keep := [0, 2], keepH := [] }, fun _ => nn⟩ else
  bif Nat.beq n 7 then some ⟨{ env := [(5, ASh.dat (Ty.int IntKind.i64)), (48, ASh.dat (Ty.int IntKind.i64))], heap := [(1, CSh.box 66 ((ASh.opq 17).cons ((ASh.arr 18).cons ((ASh.arr 19).cons ((ASh.arr 20).cons ((ASh.arr 21).cons ((ASh.arr 22).cons ((ASh.opq 23).cons ((ASh.opq 24).cons ((ASh.opq 25).cons ((ASh.opq 26).cons ((ASh.arr 27).cons ((ASh.idn 28 (Ty.int IntKind.i64).sl).cons ((ASh.dat (Ty.int IntKind.i64)).cons ((ASh.opq 30).cons ((ASh.opq 31).cons ((ASh.opq 32).cons ((ASh.opq 33).cons ((ASh.opq 34).cons ASh.nil))))))))))))))))))), (18, CSh.arr2 29 3 (Ty.int IntKind.i64) []), (19, CSh.arr2 29 3 (Ty.int IntKind.i64) [2496]), (2496, CSh.arr 3 (Ty.int IntKind.i64)), (20, CSh.arr 3 (Ty.int IntKind.i64)), (21, CSh.arr 3 (Ty.int IntKind.i64)), (22, CSh.arr 3 (Ty.int IntKind.i64)), (27, CSh.arr 3 (Ty.int IntKind.i64))], keep := [0, 2, 3, 4, 46, 47], keepH := [] }, fun _ => nn⟩ else
  bif Nat.beq n 16 then some ⟨{ env := [(9, ASh.dat (Ty.int IntKind.i64))], heap := [(1, CSh.box 66 ((ASh.opq 17).cons ((ASh.arr 18).cons ((ASh.arr 19).cons ((ASh.arr 20).cons ((ASh.arr 21).cons ((ASh.arr 22).cons ((ASh.opq 23).cons ((ASh.opq 24).cons ((ASh.opq 25).cons ((ASh.opq 26).cons ((ASh.arr 27).cons ((ASh.idn 28 (Ty.int IntKind.i64).sl).cons ((ASh.dat (Ty.int IntKind.i64)).cons ((ASh.opq 30).cons ((ASh.opq 31).cons ((ASh.opq 32).cons ((ASh.opq 33).cons ((ASh.opq 34).cons ASh.nil)))))))))))))))))))], keep := [0, 2, 3, 4, 5, 6, 7, 8, 46, 47, 48], keepH := [18, 3648, 19, 2496, 20, 21, 22, 27] }, fun _ => nn⟩ else
  none
def unit_J : Nat → Option Shape := fun n =>
  bif Nat.beq n 12 then some ({ env := [], heap := [(3648, CSh.arr 3 (Ty.int IntKind.i64))], keep := [0, 2, 3, 4, 5, 6, 7, 8, 46, 47, 48], keepH := [1, 18, 19, 2496, 20, 21, 22, 27] }) else
  bif Nat.beq n 21 then some ({ env := [(9, ASh.dat (Ty.int IntKind.i64))], heap := [(1, CSh.box 66 ((ASh.opq 17).cons ((ASh.arr 18).cons ((ASh.arr 19).cons ((ASh.arr 20).cons ((ASh.arr 21).cons ((ASh.arr 22).cons ((ASh.opq 23).cons ((ASh.opq 24).cons ((ASh.opq 25).cons ((ASh.opq 26).cons ((ASh.arr 27).cons ((ASh.idn 28 (Ty.int IntKind.i64).sl).cons ((ASh.dat (Ty.int IntKind.i64)).cons ((ASh.opq 30).cons ((ASh.opq 31).cons ((ASh.opq 32).cons ((ASh.opq 33).cons ((ASh.opq 34).cons ASh.nil)))))))))))))))))))], keep := [0, 2, 3, 4, 5, 6, 7, 8, 46, 47, 48], keepH := [18, 3648, 19, 2496, 20, 21, 22, 27] }) else
  bif Nat.beq n 29 then some ({ env := [(5, ASh.dat (Ty.int IntKind.i64)), (46, ASh.arr 2496), (47, ASh.dat (Ty.int IntKind.i64)), (48, ASh.dat (Ty.int IntKind.i64))], heap := [(1, CSh.box 66 ((ASh.opq 17).cons ((ASh.arr 18).cons ((ASh.arr 19).cons ((ASh.arr 20).cons ((ASh.arr 21).cons ((ASh.arr 22).cons ((ASh.opq 23).cons ((ASh.opq 24).cons ((ASh.opq 25).cons ((ASh.opq 26).cons ((ASh.arr 27).cons ((ASh.idn 28 (Ty.int IntKind.i64).sl).cons ((ASh.dat (Ty.int IntKind.i64)).cons ((ASh.opq 30).cons ((ASh.opq 31).cons ((ASh.opq 32).cons ((ASh.opq 33).cons ((ASh.opq 34).cons ASh.nil))))))))))))))))))), (18, CSh.arr2 29 3 (Ty.int IntKind.i64) []), (19, CSh.arr2 29 3 (Ty.int IntKind.i64) [2496]), (2496, CSh.arr 3 (Ty.int IntKind.i64)), (20, CSh.arr 3 (Ty.int IntKind.i64)), (21, CSh.arr 3 (Ty.int IntKind.i64)), (22, CSh.arr 3 (Ty.int IntKind.i64)), (27, CSh.arr 3 (Ty.int IntKind.i64))], keep := [0, 2, 3, 4], keepH := [] }) else
  none
set_option maxRecDepth 100000 in
theorem unit_eq : ∀ (nn : Nat)  xa xo, (unit_s.prog (mkC Try.prog T_learn ⟨false, false⟩ (unit_L nn) unit_J) Try.f65 xa xo).run = unitF nn xo.1.1 xo.1.2.1 xo.1.2.2.1 xo.1.2.2.2.1 xo.1.2.2.2.2.1 xo.1.2.2.2.2.2.1 xo.1.2.2.2.2.2.2.1 xo.1.2.2.2.2.2.2.2.1 := by intros; kernel_rfl
noncomputable def T_unit : FuncId → Summ := addS T_learn 65 (unit_s.summ (fun xa xo => unit xo.1.1 xo.1.2.1 xo.1.2.2.1 xo.1.2.2.2.1 xo.1.2.2.2.2.1 xo.1.2.2.2.2.2.1 xo.1.2.2.2.2.2.2.1 xo.1.2.2.2.2.2.2.2.1))
theorem T_unit_ok : ∀ g, SummOK Try.prog g (T_unit g) := fn_ok T_learn_ok fol Try.func65 (by kernel_rfl) (by kernel_rfl) (by kernel_rfl) (unit_eq fuelN)

end GoSx
end
section
/- Walks: the functions compute what their models say: SatD. -/
set_option linter.unusedVariables false
set_option maxHeartbeats 0
namespace GoSx
open Go Go.Proofs
def take_s : FSig := ⟨.obj 0 <| .val int <| .nil, [(66, .skip <| .own2 29 3 int <| .own2 29 3 int <| .own 3 int <| .own 3 int <| .own 3 int <| .own 3 int <| .own 3 int <| .own 3 int <| .val int <| .own 3 int <| .own 3 int <| .val int <| .skip <| .own 29 (.sl int) <| .skip <| .skip <| .skip <| .nil)], .nil, []⟩
def take_L : Nat → Option LoopS := fun n =>
  none
def take_J : Nat → Option Shape := fun n =>
  none
set_option maxRecDepth 100000 in
theorem take_eq : ∀  xa xo, (take_s.prog (mkC Try.prog T_unit ⟨false, false⟩ take_L take_J) Try.f66 xa xo).run = take  xa.1 xo.1.1 xo.1.2.1 xo.1.2.2.1 xo.1.2.2.2.1 xo.1.2.2.2.2.1 xo.1.2.2.2.2.2.1 xo.1.2.2.2.2.2.2.1 xo.1.2.2.2.2.2.2.2.1 xo.1.2.2.2.2.2.2.2.2.1 xo.1.2.2.2.2.2.2.2.2.2.1 xo.1.2.2.2.2.2.2.2.2.2.2.1 xo.1.2.2.2.2.2.2.2.2.2.2.2.1 xo.1.2.2.2.2.2.2.2.2.2.2.2.2.1 := by intros; kernel_rfl
noncomputable def T_take : FuncId → Summ := addS T_unit 66 (take_s.summ (fun xa xo => take xa.1 xo.1.1 xo.1.2.1 xo.1.2.2.1 xo.1.2.2.2.1 xo.1.2.2.2.2.1 xo.1.2.2.2.2.2.1 xo.1.2.2.2.2.2.2.1 xo.1.2.2.2.2.2.2.2.1 xo.1.2.2.2.2.2.2.2.2.1 xo.1.2.2.2.2.2.2.2.2.2.1 xo.1.2.2.2.2.2.2.2.2.2.2.1 xo.1.2.2.2.2.2.2.2.2.2.2.2.1 xo.1.2.2.2.2.2.2.2.2.2.2.2.2.1))
theorem T_take_ok : ∀ g, SummOK Try.prog g (T_take g) := fn_ok T_unit_ok fol Try.func66 (by kernel_rfl) (by kernel_rfl) (by kernel_rfl) take_eq

def search_s : FSig := ⟨.obj 0 <| .val (.sl int) <| .val int <| .nil, [(66, .val int <| .own2 29 3 int <| .own2 29 3 int <| .own 3 int <| .own 3 int <| .own 3 int <| .own 3 int <| .own 3 int <| .own 3 int <| .val int <| .own 3 int <| .own 3 int <| .val int <| .val .bool <| .own 29 (.sl int) <| .skip <| .own 3 int <| .skip <| .nil)], .val int <| .nil, []⟩
def search_L (nn : Nat) : Nat → Option LoopS := fun n =>
  bif Nat.beq n 2 then some ⟨{ env := [(7, ASh.dat (Ty.int IntKind.i64))], heap := [(1, CSh.box 66 ((ASh.dat (Ty.int IntKind.i64)).cons ((ASh.arr 20).cons ((ASh.arr 21).cons ((ASh.arr 22).cons ((ASh.arr 23).cons ((ASh.arr 24).cons ((ASh.arr 25).cons ((ASh.arr 26).cons ((ASh.arr 27).cons ((ASh.dat (Ty.int IntKind.i64)).cons ((ASh.arr 29).cons ((ASh.arr 30).cons ((ASh.dat (Ty.int IntKind.i64)).cons ((ASh.dat Ty.bool).cons ((ASh.arr 33).cons ((ASh.opq 34).cons ((ASh.arr 35).cons ((ASh.opq 36).cons ASh.nil))))))))))))))))))), (20, CSh.arr2 29 3 (Ty.int IntKind.i64) []), (21, CSh.arr2 29 3 (Ty.int IntKind.i64) []), (22, CSh.arr 3 (Ty.int IntKind.i64)), (23, CSh.arr 3 (Ty.int IntKind.i64)), (24, CSh.arr 3 (Ty.int IntKind.i64)), (25, CSh.arr 3 (Ty.int IntKind.i64)), (26, CSh.arr 3 (Ty.int IntKind.i64)), (27, CSh.arr 3 (Ty.int IntKind.i64)), (29, CSh.arr 3 (Ty.int IntKind.i64)), (30, CSh.arr 3 (Ty.int IntKind.i64)), (33, CSh.arr 29 (Ty.int IntKind.i64).sl)], keep := [0, 1, 2, 6], keepH := [35] }, fun _ => nn⟩ else
  bif Nat.beq n 12 then some ⟨{ env := [], heap := [(1, CSh.box 66 ((ASh.dat (Ty.int IntKind.i64)).cons ((ASh.arr 274).cons ((ASh.arr 275).cons ((ASh.arr 276).cons ((ASh.arr 277).cons ((ASh.arr 278).cons ((ASh.arr 25).cons ((ASh.arr 26).cons ((ASh.arr 27).cons ((ASh.dat (Ty.int IntKind.i64)).cons ((ASh.arr 283).cons ((ASh.arr 30).cons ((ASh.dat (Ty.int IntKind.i64)).cons ((ASh.dat Ty.bool).cons ((ASh.arr 33).cons ((ASh.opq 34).cons ((ASh.arr 35).cons ((ASh.opq 36).cons ASh.nil))))))))))))))))))), (30, CSh.arr 3 (Ty.int IntKind.i64))], keep := [0, 1, 2, 6, 7, 8, 9], keepH := [274, 275, 276, 277, 278, 25, 26, 27, 283, 33, 35] }, fun _ => nn⟩ else
  none
def search_J : Nat → Option Shape := fun n =>
  none
set_option maxRecDepth 100000 in
theorem search_eq : ∀ (nn : Nat)  xa xo, (search_s.prog (mkC Try.prog T_take ⟨false, false⟩ (search_L nn) search_J) Try.f48 xa xo).run = searchF nn xa.1 xa.2.1 xo.1.1 xo.1.2.1 xo.1.2.2.1 xo.1.2.2.2.1 xo.1.2.2.2.2.1 xo.1.2.2.2.2.2.1 xo.1.2.2.2.2.2.2.1 xo.1.2.2.2.2.2.2.2.1 xo.1.2.2.2.2.2.2.2.2.1 xo.1.2.2.2.2.2.2.2.2.2.1 xo.1.2.2.2.2.2.2.2.2.2.2.1 xo.1.2.2.2.2.2.2.2.2.2.2.2.1 xo.1.2.2.2.2.2.2.2.2.2.2.2.2.1 xo.1.2.2.2.2.2.2.2.2.2.2.2.2.2.1 xo.1.2.2.2.2.2.2.2.2.2.2.2.2.2.2.1 xo.1.2.2.2.2.2.2.2.2.2.2.2.2.2.2.2.1 := by intros; kernel_rfl
noncomputable def T_search : FuncId → Summ := addS T_take 48 (search_s.summ (fun xa xo => search xa.1 xa.2.1 xo.1.1 xo.1.2.1 xo.1.2.2.1 xo.1.2.2.2.1 xo.1.2.2.2.2.1 xo.1.2.2.2.2.2.1 xo.1.2.2.2.2.2.2.1 xo.1.2.2.2.2.2.2.2.1 xo.1.2.2.2.2.2.2.2.2.1 xo.1.2.2.2.2.2.2.2.2.2.1 xo.1.2.2.2.2.2.2.2.2.2.2.1 xo.1.2.2.2.2.2.2.2.2.2.2.2.1 xo.1.2.2.2.2.2.2.2.2.2.2.2.2.1 xo.1.2.2.2.2.2.2.2.2.2.2.2.2.2.1 xo.1.2.2.2.2.2.2.2.2.2.2.2.2.2.2.1 xo.1.2.2.2.2.2.2.2.2.2.2.2.2.2.2.2.1))
theorem T_search_ok : ∀ g, SummOK Try.prog g (T_search g) := fn_ok T_take_ok fol Try.func48 (by kernel_rfl) (by kernel_rfl) (by kernel_rfl) (search_eq fuelN)

def Ask_s : FSig := ⟨.obj 0 <| .val (.sl int) <| .val int <| .nil, [(66, .val int <| .own2 29 3 int <| .own2 29 3 int <| .own 3 int <| .own 3 int <| .own 3 int <| .own 3 int <| .own 3 int <| .own 3 int <| .val int <| .own 3 int <| .own 3 int <| .val int <| .val .bool <| .own 29 (.sl int) <| .val int <| .own 3 int <| .own 4 .bool <| .nil)], .val int <| .nil, []⟩
def Ask_L (nn : Nat) : Nat → Option LoopS := fun n =>
  bif Nat.beq n 11 then some ⟨{ env := [(7, ASh.dat (Ty.int IntKind.i64))], heap := [(1, CSh.box 66 ((ASh.dat (Ty.int IntKind.i64)).cons ((ASh.arr 49).cons ((ASh.arr 50).cons ((ASh.arr 51).cons ((ASh.arr 52).cons ((ASh.arr 53).cons ((ASh.arr 54).cons ((ASh.arr 55).cons ((ASh.arr 56).cons ((ASh.dat (Ty.int IntKind.i64)).cons ((ASh.arr 57).cons ((ASh.arr 58).cons ((ASh.dat (Ty.int IntKind.i64)).cons ((ASh.dat Ty.bool).cons ((ASh.arr 59).cons ((ASh.dat (Ty.int IntKind.i64)).cons ((ASh.arr 60).cons ((ASh.arr 226).cons ASh.nil))))))))))))))))))), (226, CSh.arr 4 Ty.bool)], keep := [0, 1, 2, 6, 37], keepH := [49, 50, 51, 52, 53, 54, 55, 56, 57, 58, 59, 60] }, fun _ => nn⟩ else
  bif Nat.beq n 17 then some ⟨{ env := [(8, ASh.arr 61), (69, ASh.dat (Ty.int IntKind.i64))], heap := [(61, CSh.arr 3 (Ty.int IntKind.i64))], keep := [0, 1, 2, 6, 37, 67, 68], keepH := [1, 49, 50, 51, 52, 53, 54, 55, 56, 57, 58, 59, 60, 226] }, fun _ => nn⟩ else
  none
def Ask_J : Nat → Option Shape := fun n =>
  bif Nat.beq n 8 then some ({ env := [], heap := [(1, CSh.box 66 ((ASh.dat (Ty.int IntKind.i64)).cons ((ASh.arr 49).cons ((ASh.arr 50).cons ((ASh.arr 51).cons ((ASh.arr 52).cons ((ASh.arr 53).cons ((ASh.arr 54).cons ((ASh.arr 55).cons ((ASh.arr 56).cons ((ASh.dat (Ty.int IntKind.i64)).cons ((ASh.arr 57).cons ((ASh.arr 58).cons ((ASh.dat (Ty.int IntKind.i64)).cons ((ASh.dat Ty.bool).cons ((ASh.arr 59).cons ((ASh.dat (Ty.int IntKind.i64)).cons ((ASh.arr 60).cons ((ASh.arr 226).cons ASh.nil))))))))))))))))))), (49, CSh.arr2 29 3 (Ty.int IntKind.i64) []), (50, CSh.arr2 29 3 (Ty.int IntKind.i64) []), (51, CSh.arr 3 (Ty.int IntKind.i64)), (52, CSh.arr 3 (Ty.int IntKind.i64)), (53, CSh.arr 3 (Ty.int IntKind.i64)), (54, CSh.arr 3 (Ty.int IntKind.i64)), (55, CSh.arr 3 (Ty.int IntKind.i64)), (56, CSh.arr 3 (Ty.int IntKind.i64)), (57, CSh.arr 3 (Ty.int IntKind.i64)), (58, CSh.arr 3 (Ty.int IntKind.i64)), (59, CSh.arr 29 (Ty.int IntKind.i64).sl), (60, CSh.arr 3 (Ty.int IntKind.i64))], keep := [0, 1, 2, 6], keepH := [226] }) else
  none
set_option maxRecDepth 100000 in
theorem Ask_eq : ∀ (nn : Nat)  xa xo, (Ask_s.prog (mkC Try.prog T_search ⟨false, false⟩ (Ask_L nn) Ask_J) Try.f18 xa xo).run = AskF nn xa.1 xa.2.1 xo.1.1 xo.1.2.1 xo.1.2.2.1 xo.1.2.2.2.1 xo.1.2.2.2.2.1 xo.1.2.2.2.2.2.1 xo.1.2.2.2.2.2.2.1 xo.1.2.2.2.2.2.2.2.1 xo.1.2.2.2.2.2.2.2.2.1 xo.1.2.2.2.2.2.2.2.2.2.1 xo.1.2.2.2.2.2.2.2.2.2.2.1 xo.1.2.2.2.2.2.2.2.2.2.2.2.1 xo.1.2.2.2.2.2.2.2.2.2.2.2.2.1 xo.1.2.2.2.2.2.2.2.2.2.2.2.2.2.1 xo.1.2.2.2.2.2.2.2.2.2.2.2.2.2.2.1 xo.1.2.2.2.2.2.2.2.2.2.2.2.2.2.2.2.1 xo.1.2.2.2.2.2.2.2.2.2.2.2.2.2.2.2.2.1 xo.1.2.2.2.2.2.2.2.2.2.2.2.2.2.2.2.2.2.1 := by intros; kernel_rfl
noncomputable def T_Ask : FuncId → Summ := addS T_search 18 (Ask_s.summ (fun xa xo => Ask xa.1 xa.2.1 xo.1.1 xo.1.2.1 xo.1.2.2.1 xo.1.2.2.2.1 xo.1.2.2.2.2.1 xo.1.2.2.2.2.2.1 xo.1.2.2.2.2.2.2.1 xo.1.2.2.2.2.2.2.2.1 xo.1.2.2.2.2.2.2.2.2.1 xo.1.2.2.2.2.2.2.2.2.2.1 xo.1.2.2.2.2.2.2.2.2.2.2.1 xo.1.2.2.2.2.2.2.2.2.2.2.2.1 xo.1.2.2.2.2.2.2.2.2.2.2.2.2.1 xo.1.2.2.2.2.2.2.2.2.2.2.2.2.2.1 xo.1.2.2.2.2.2.2.2.2.2.2.2.2.2.2.1 xo.1.2.2.2.2.2.2.2.2.2.2.2.2.2.2.2.1 xo.1.2.2.2.2.2.2.2.2.2.2.2.2.2.2.2.2.1 xo.1.2.2.2.2.2.2.2.2.2.2.2.2.2.2.2.2.2.1))
theorem T_Ask_ok : ∀ g, SummOK Try.prog g (T_Ask g) := fn_ok T_search_ok fol Try.func18 (by kernel_rfl) (by kernel_rfl) (by kernel_rfl) (Ask_eq fuelN)

end GoSx
end
section
/- Walks: the functions compute what their models say: SatE. -/
set_option linter.unusedVariables false
set_option maxHeartbeats 0
namespace GoSx
open Go Go.Proofs
def rOf_s : FSig := ⟨.val int <| .nil, [], .val int <| .nil, []⟩
def rOf_L : Nat → Option LoopS := fun n =>
  none
def rOf_J : Nat → Option Shape := fun n =>
  none
set_option maxRecDepth 100000 in
theorem rOf_eq : ∀  xa xo, (rOf_s.prog (mkC Try.prog T_Ask ⟨true, false⟩ rOf_L rOf_J) Try.f52 xa xo).run = rOf  xa.1 := by intros; kernel_rfl
noncomputable def T_rOf : FuncId → Summ := addS T_Ask 52 (rOf_s.summ (fun xa xo => rOf xa.1))
theorem T_rOf_ok : ∀ g, SummOK Try.prog g (T_rOf g) := fn_ok T_Ask_ok fol Try.func52 (by kernel_rfl) (by kernel_rfl) (by kernel_rfl) rOf_eq

def rHas_s : FSig := ⟨.lend (.sl int) <| .val int <| .nil, [], .val .bool <| .nil, []⟩
def rHas_L (nn : Nat) : Nat → Option LoopS := fun n =>
  bif Nat.beq n 2 then some ⟨{ env := [(5, ASh.dat (Ty.int IntKind.i64))], heap := [], keep := [0, 1, 4], keepH := [] }, fun _ => nn⟩ else
  none
def rHas_J : Nat → Option Shape := fun n =>
  none
set_option maxRecDepth 100000 in
theorem rHas_eq : ∀ (nn : Nat)  xa xo, (rHas_s.prog (mkC Try.prog T_rOf ⟨false, false⟩ (rHas_L nn) rHas_J) Try.f32 xa xo).run = rHasF nn xa.1 xa.2.1 := by intros; kernel_rfl
noncomputable def T_rHas : FuncId → Summ := addS T_rOf 32 (rHas_s.summ (fun xa xo => rHas xa.1 xa.2.1))
theorem T_rHas_ok : ∀ g, SummOK Try.prog g (T_rHas g) := fn_ok T_rOf_ok fol Try.func32 (by kernel_rfl) (by kernel_rfl) (by kernel_rfl) (rHas_eq fuelN)

def rRight_s : FSig := ⟨.lend (.sl (.sl int)) <| .val int <| .nil, [], .val .bool <| .nil, []⟩
def rRight_L (nn : Nat) : Nat → Option LoopS := fun n =>
  bif Nat.beq n 4 then some ⟨{ env := [(5, ASh.dat (Ty.int IntKind.i64))], heap := [], keep := [0, 1, 4], keepH := [] }, fun _ => nn⟩ else
  bif Nat.beq n 7 then some ⟨{ env := [(6, ASh.dat (Ty.int IntKind.i64))], heap := [], keep := [0, 1, 4, 5], keepH := [] }, fun _ => nn⟩ else
  none
def rRight_J : Nat → Option Shape := fun n =>
  none
set_option maxRecDepth 100000 in
theorem rRight_eq : ∀ (nn : Nat)  xa xo, (rRight_s.prog (mkC Try.prog T_rHas ⟨false, false⟩ (rRight_L nn) rRight_J) Try.f58 xa xo).run = rRightF nn xa.1 xa.2.1 := by intros; kernel_rfl
noncomputable def T_rRight : FuncId → Summ := addS T_rHas 58 (rRight_s.summ (fun xa xo => rRight xa.1 xa.2.1))
theorem T_rRight_ok : ∀ g, SummOK Try.prog g (T_rRight g) := fn_ok T_rHas_ok fol Try.func58 (by kernel_rfl) (by kernel_rfl) (by kernel_rfl) (rRight_eq fuelN)

def rTrue_s : FSig := ⟨.lend (.sl .bool) <| .val int <| .nil, [], .val .bool <| .nil, []⟩
def rTrue_L : Nat → Option LoopS := fun n =>
  none
def rTrue_J : Nat → Option Shape := fun n =>
  none
set_option maxRecDepth 100000 in
theorem rTrue_eq : ∀  xa xo, (rTrue_s.prog (mkC Try.prog T_rRight ⟨false, false⟩ rTrue_L rTrue_J) Try.f53 xa xo).run = rTrue  xa.1 xa.2.1 := by intros; kernel_rfl
noncomputable def T_rTrue : FuncId → Summ := addS T_rRight 53 (rTrue_s.summ (fun xa xo => rTrue xa.1 xa.2.1))
theorem T_rTrue_ok : ∀ g, SummOK Try.prog g (T_rTrue g) := fn_ok T_rRight_ok fol Try.func53 (by kernel_rfl) (by kernel_rfl) (by kernel_rfl) rTrue_eq

def rMet_s : FSig := ⟨.lend (.sl (.sl int)) <| .lend (.sl .bool) <| .nil, [], .val .bool <| .nil, []⟩
def rMet_L (nn : Nat) : Nat → Option LoopS := fun n =>
  bif Nat.beq n 2 then some ⟨{ env := [(5, ASh.dat (Ty.int IntKind.i64))], heap := [], keep := [0, 1, 4], keepH := [] }, fun _ => nn⟩ else
  bif Nat.beq n 6 then some ⟨{ env := [(6, ASh.dat Ty.bool), (7, ASh.dat (Ty.int IntKind.i64))], heap := [], keep := [0, 1, 4, 5], keepH := [] }, fun _ => nn⟩ else
  none
def rMet_J : Nat → Option Shape := fun n =>
  none
set_option maxRecDepth 100000 in
theorem rMet_eq : ∀ (nn : Nat)  xa xo, (rMet_s.prog (mkC Try.prog T_rTrue ⟨false, false⟩ (rMet_L nn) rMet_J) Try.f30 xa xo).run = rMetF nn xa.1 xa.2.1 := by intros; kernel_rfl
noncomputable def T_rMet : FuncId → Summ := addS T_rTrue 30 (rMet_s.summ (fun xa xo => rMet xa.1 xa.2.1))
theorem T_rMet_ok : ∀ g, SummOK Try.prog g (T_rMet g) := fn_ok T_rTrue_ok fol Try.func30 (by kernel_rfl) (by kernel_rfl) (by kernel_rfl) (rMet_eq fuelN)

def rnext_s : FSig := ⟨.lend (.sl int) <| .lend (.sl int) <| .nil, [], .val int <| .val .bool <| .nil, []⟩
def rnext_L (nn : Nat) : Nat → Option LoopS := fun n =>
  bif Nat.beq n 3 then some ⟨{ env := [(7, ASh.dat (Ty.int IntKind.i64)), (6, ASh.dat (Ty.int IntKind.i64))], heap := [], keep := [0, 1, 4, 5], keepH := [] }, fun _ => nn⟩ else
  none
def rnext_J : Nat → Option Shape := fun n =>
  none
set_option maxRecDepth 100000 in
theorem rnext_eq : ∀ (nn : Nat)  xa xo, (rnext_s.prog (mkC Try.prog T_rMet ⟨false, false⟩ (rnext_L nn) rnext_J) Try.f69 xa xo).run = rnextF nn xa.1 xa.2.1 := by intros; kernel_rfl
noncomputable def T_rnext : FuncId → Summ := addS T_rMet 69 (rnext_s.summ (fun xa xo => rnext xa.1 xa.2.1))
theorem T_rnext_ok : ∀ g, SummOK Try.prog g (T_rnext g) := fn_ok T_rMet_ok fol Try.func69 (by kernel_rfl) (by kernel_rfl) (by kernel_rfl) (rnext_eq fuelN)

def rNorm_s : FSig := ⟨.lend (.sl int) <| .nil, [], .own 3 int <| .val .bool <| .nil, []⟩
def rNorm_L (nn : Nat) : Nat → Option LoopS := fun n =>
  bif Nat.beq n 3 then some ⟨{ env := [(5, ASh.dat (Ty.int IntKind.i64)), (4, ASh.arr 192)], heap := [(192, CSh.arr 3 (Ty.int IntKind.i64))], keep := [0, 2, 3], keepH := [] }, fun _ => nn⟩ else
  bif Nat.beq n 9 then some ⟨{ env := [(6, ASh.dat (Ty.int IntKind.i64))], heap := [], keep := [0, 2, 3, 4, 5], keepH := [192] }, fun _ => nn⟩ else
  none
def rNorm_J : Nat → Option Shape := fun n =>
  none
set_option maxRecDepth 100000 in
theorem rNorm_eq : ∀ (nn : Nat)  xa xo, (rNorm_s.prog (mkC Try.prog T_rnext ⟨false, false⟩ (rNorm_L nn) rNorm_J) Try.f34 xa xo).run = rNormF nn xa.1 := by intros; kernel_rfl
noncomputable def T_rNorm : FuncId → Summ := addS T_rnext 34 (rNorm_s.summ (fun xa xo => rNorm xa.1))
theorem T_rNorm_ok : ∀ g, SummOK Try.prog g (T_rNorm g) := fn_ok T_rnext_ok fol Try.func34 (by kernel_rfl) (by kernel_rfl) (by kernel_rfl) (rNorm_eq fuelN)

def rUnit_s : FSig := ⟨.lend (.sl (.sl int)) <| .val int <| .lend (.sl int) <| .nil, [], .own 3 int <| .val .bool <| .nil, []⟩
def rUnit_L (nn : Nat) : Nat → Option LoopS := fun n =>
  bif Nat.beq n 5 then some ⟨{ env := [(8, ASh.arr 256), (10, ASh.dat (Ty.int IntKind.i64))], heap := [(256, CSh.arr 3 (Ty.int IntKind.i64)), (256, CSh.arr 3 (Ty.int IntKind.i64))], keep := [0, 1, 2, 6, 7, 9], keepH := [] }, fun _ => nn⟩ else
  none
def rUnit_J : Nat → Option Shape := fun n =>
  none
set_option maxRecDepth 100000 in
theorem rUnit_eq : ∀ (nn : Nat)  xa xo, (rUnit_s.prog (mkC Try.prog T_rNorm ⟨false, false⟩ (rUnit_L nn) rUnit_J) Try.f57 xa xo).run = rUnitF nn xa.1 xa.2.1 xa.2.2.1 := by intros; kernel_rfl
noncomputable def T_rUnit : FuncId → Summ := addS T_rNorm 57 (rUnit_s.summ (fun xa xo => rUnit xa.1 xa.2.1 xa.2.2.1))
theorem T_rUnit_ok : ∀ g, SummOK Try.prog g (T_rUnit g) := fn_ok T_rNorm_ok fol Try.func57 (by kernel_rfl) (by kernel_rfl) (by kernel_rfl) (rUnit_eq fuelN)

def rSame_s : FSig := ⟨.lend (.sl int) <| .lend (.sl int) <| .nil, [], .val .bool <| .nil, []⟩
def rSame_L (nn : Nat) : Nat → Option LoopS := fun n =>
  bif Nat.beq n 4 then some ⟨{ env := [(5, ASh.dat (Ty.int IntKind.i64))], heap := [], keep := [0, 1, 4], keepH := [] }, fun _ => nn⟩ else
  none
def rSame_J : Nat → Option Shape := fun n =>
  none
set_option maxRecDepth 100000 in
theorem rSame_eq : ∀ (nn : Nat)  xa xo, (rSame_s.prog (mkC Try.prog T_rUnit ⟨false, false⟩ (rSame_L nn) rSame_J) Try.f37 xa xo).run = rSameF nn xa.1 xa.2.1 := by intros; kernel_rfl
noncomputable def T_rSame : FuncId → Summ := addS T_rUnit 37 (rSame_s.summ (fun xa xo => rSame xa.1 xa.2.1))
theorem T_rSame_ok : ∀ g, SummOK Try.prog g (T_rSame g) := fn_ok T_rUnit_ok fol Try.func37 (by kernel_rfl) (by kernel_rfl) (by kernel_rfl) (rSame_eq fuelN)

def rCut_s : FSig := ⟨.lend (.sl int) <| .val int <| .nil, [], .own 3 int <| .nil, []⟩
def rCut_L : Nat → Option LoopS := fun n =>
  none
def rCut_J : Nat → Option Shape := fun n =>
  none
set_option maxRecDepth 100000 in
theorem rCut_eq : ∀  xa xo, (rCut_s.prog (mkC Try.prog T_rSame ⟨false, false⟩ rCut_L rCut_J) Try.f28 xa xo).run = rCut  xa.1 xa.2.1 := by intros; kernel_rfl
noncomputable def T_rCut : FuncId → Summ := addS T_rSame 28 (rCut_s.summ (fun xa xo => rCut xa.1 xa.2.1))
theorem T_rCut_ok : ∀ g, SummOK Try.prog g (T_rCut g) := fn_ok T_rSame_ok fol Try.func28 (by kernel_rfl) (by kernel_rfl) (by kernel_rfl) rCut_eq

def rFew_s : FSig := ⟨.val (.sl (.sl int)) <| .nil, [], .own 29 (.sl int) <| .nil, []⟩
def rFew_L (nn : Nat) : Nat → Option LoopS := fun n =>
  bif Nat.beq n 3 then some ⟨{ env := [(3, ASh.arr 128), (4, ASh.dat (Ty.int IntKind.i64))], heap := [(128, CSh.arr 29 (Ty.int IntKind.i64).sl), (128, CSh.arr 29 (Ty.int IntKind.i64).sl)], keep := [0, 2], keepH := [] }, fun _ => nn⟩ else
  none
def rFew_J : Nat → Option Shape := fun n =>
  none
set_option maxRecDepth 100000 in
theorem rFew_eq : ∀ (nn : Nat)  xa xo, (rFew_s.prog (mkC Try.prog T_rCut ⟨false, false⟩ (rFew_L nn) rFew_J) Try.f51 xa xo).run = rFewF nn xa.1 := by intros; kernel_rfl
noncomputable def T_rFew : FuncId → Summ := addS T_rCut 51 (rFew_s.summ (fun xa xo => rFew xa.1))
theorem T_rFew_ok : ∀ g, SummOK Try.prog g (T_rFew g) := fn_ok T_rCut_ok fol Try.func51 (by kernel_rfl) (by kernel_rfl) (by kernel_rfl) (rFew_eq fuelN)

def rModel_s : FSig := ⟨.val int <| .val int <| .nil, [], .own 4 .bool <| .nil, []⟩
def rModel_L (nn : Nat) : Nat → Option LoopS := fun n =>
  bif Nat.beq n 3 then some ⟨{ env := [(0, ASh.dat (Ty.int IntKind.i64)), (5, ASh.arr 128), (6, ASh.dat (Ty.int IntKind.i64))], heap := [(128, CSh.arr 4 Ty.bool), (128, CSh.arr 4 Ty.bool)], keep := [1, 4], keepH := [] }, fun _ => nn⟩ else
  none
def rModel_J : Nat → Option Shape := fun n =>
  none
set_option maxRecDepth 100000 in
theorem rModel_eq : ∀ (nn : Nat)  xa xo, (rModel_s.prog (mkC Try.prog T_rFew ⟨false, false⟩ (rModel_L nn) rModel_J) Try.f55 xa xo).run = rModelF nn xa.1 xa.2.1 := by intros; kernel_rfl
noncomputable def T_rModel : FuncId → Summ := addS T_rFew 55 (rModel_s.summ (fun xa xo => rModel xa.1 xa.2.1))
theorem T_rModel_ok : ∀ g, SummOK Try.prog g (T_rModel g) := fn_ok T_rFew_ok fol Try.func55 (by kernel_rfl) (by kernel_rfl) (by kernel_rfl) (rModel_eq fuelN)

def rSmall_s : FSig := ⟨.lend (.sl int) <| .nil, [], .own 3 int <| .nil, []⟩
def rSmall_L (nn : Nat) : Nat → Option LoopS := fun n =>
  bif Nat.beq n 3 then some ⟨{ env := [(3, ASh.arr 128), (4, ASh.dat (Ty.int IntKind.i64))], heap := [(128, CSh.arr 3 (Ty.int IntKind.i64)), (128, CSh.arr 3 (Ty.int IntKind.i64))], keep := [0, 2], keepH := [] }, fun _ => nn⟩ else
  none
def rSmall_J : Nat → Option Shape := fun n =>
  none
set_option maxRecDepth 100000 in
theorem rSmall_eq : ∀ (nn : Nat)  xa xo, (rSmall_s.prog (mkC Try.prog T_rModel ⟨false, false⟩ (rSmall_L nn) rSmall_J) Try.f27 xa xo).run = rSmallF nn xa.1 := by intros; kernel_rfl
noncomputable def T_rSmall : FuncId → Summ := addS T_rModel 27 (rSmall_s.summ (fun xa xo => rSmall xa.1))
theorem T_rSmall_ok : ∀ g, SummOK Try.prog g (T_rSmall g) := fn_ok T_rModel_ok fol Try.func27 (by kernel_rfl) (by kernel_rfl) (by kernel_rfl) (rSmall_eq fuelN)

def rSmalls_s : FSig := ⟨.val (.sl (.sl int)) <| .nil, [], .own 29 (.sl int) <| .nil, []⟩
def rSmalls_L (nn : Nat) : Nat → Option LoopS := fun n =>
  bif Nat.beq n 4 then some ⟨{ env := [(3, ASh.arr 128), (5, ASh.dat (Ty.int IntKind.i64))], heap := [(128, CSh.arr 29 (Ty.int IntKind.i64).sl), (128, CSh.arr 29 (Ty.int IntKind.i64).sl)], keep := [0, 2, 4], keepH := [320] }, fun _ => nn⟩ else
  none
def rSmalls_J : Nat → Option Shape := fun n =>
  none
set_option maxRecDepth 100000 in
theorem rSmalls_eq : ∀ (nn : Nat)  xa xo, (rSmalls_s.prog (mkC Try.prog T_rSmall ⟨false, false⟩ (rSmalls_L nn) rSmalls_J) Try.f26 xa xo).run = rSmallsF nn xa.1 := by intros; kernel_rfl
noncomputable def T_rSmalls : FuncId → Summ := addS T_rSmall 26 (rSmalls_s.summ (fun xa xo => rSmalls xa.1))
theorem T_rSmalls_ok : ∀ g, SummOK Try.prog g (T_rSmalls g) := fn_ok T_rSmall_ok fol Try.func26 (by kernel_rfl) (by kernel_rfl) (by kernel_rfl) (rSmalls_eq fuelN)

def rNew_s : FSig := ⟨.val int <| .nil, [], .obj 0 <| .nil, [(40, .val int <| .val (.sl (.sl int)) <| .nil)]⟩
def rNew_L : Nat → Option LoopS := fun n =>
  none
def rNew_J : Nat → Option Shape := fun n =>
  none
set_option maxRecDepth 100000 in
theorem rNew_eq : ∀  xa xo, (rNew_s.prog (mkC Try.prog T_rSmalls ⟨false, false⟩ rNew_L rNew_J) Try.f15 xa xo).run = rNew  xa.1 := by intros; kernel_rfl
noncomputable def T_rNew : FuncId → Summ := addS T_rSmalls 15 (rNew_s.summ (fun xa xo => rNew xa.1))
theorem T_rNew_ok : ∀ g, SummOK Try.prog g (T_rNew g) := fn_ok T_rSmalls_ok fol Try.func15 (by kernel_rfl) (by kernel_rfl) (by kernel_rfl) rNew_eq

def rGrow_s : FSig := ⟨.obj 0 <| .val int <| .nil, [(40, .val int <| .skip <| .nil)], .nil, []⟩
def rGrow_L : Nat → Option LoopS := fun n =>
  none
def rGrow_J : Nat → Option Shape := fun n =>
  none
set_option maxRecDepth 100000 in
theorem rGrow_eq : ∀  xa xo, (rGrow_s.prog (mkC Try.prog T_rNew ⟨false, false⟩ rGrow_L rGrow_J) Try.f25 xa xo).run = rGrow  xa.1 xo.1.1 := by intros; kernel_rfl
noncomputable def T_rGrow : FuncId → Summ := addS T_rNew 25 (rGrow_s.summ (fun xa xo => rGrow xa.1 xo.1.1))
theorem T_rGrow_ok : ∀ g, SummOK Try.prog g (T_rGrow g) := fn_ok T_rNew_ok fol Try.func25 (by kernel_rfl) (by kernel_rfl) (by kernel_rfl) rGrow_eq

def rOwn_s : FSig := ⟨.obj 0 <| .val (.sl int) <| .nil, [(40, .val int <| .skip <| .nil)], .val .bool <| .nil, []⟩
def rOwn_L : Nat → Option LoopS := fun n =>
  none
def rOwn_J : Nat → Option Shape := fun n =>
  none
set_option maxRecDepth 100000 in
theorem rOwn_eq : ∀  xa xo, (rOwn_s.prog (mkC Try.prog T_rGrow ⟨false, false⟩ rOwn_L rOwn_J) Try.f47 xa xo).run = rOwn  xa.1 xo.1.1 := by intros; kernel_rfl
noncomputable def T_rOwn : FuncId → Summ := addS T_rGrow 47 (rOwn_s.summ (fun xa xo => rOwn xa.1 xo.1.1))
theorem T_rOwn_ok : ∀ g, SummOK Try.prog g (T_rOwn g) := fn_ok T_rGrow_ok fol Try.func47 (by kernel_rfl) (by kernel_rfl) (by kernel_rfl) rOwn_eq

def rAdd_s : FSig := ⟨.obj 0 <| .val (.sl int) <| .nil, [(40, .val int <| .val (.sl (.sl int)) <| .nil)], .nil, []⟩
def rAdd_L : Nat → Option LoopS := fun n =>
  none
def rAdd_J : Nat → Option Shape := fun n =>
  none
set_option maxRecDepth 100000 in
theorem rAdd_eq : ∀  xa xo, (rAdd_s.prog (mkC Try.prog T_rOwn ⟨false, false⟩ rAdd_L rAdd_J) Try.f17 xa xo).run = rAdd  xa.1 xo.1.1 xo.1.2.1 := by intros; kernel_rfl
noncomputable def T_rAdd : FuncId → Summ := addS T_rOwn 17 (rAdd_s.summ (fun xa xo => rAdd xa.1 xo.1.1 xo.1.2.1))
theorem T_rAdd_ok : ∀ g, SummOK Try.prog g (T_rAdd g) := fn_ok T_rOwn_ok fol Try.func17 (by kernel_rfl) (by kernel_rfl) (by kernel_rfl) rAdd_eq

def runits_s : FSig := ⟨.val (.sl int) <| .nil, [], .own 29 (.sl int) <| .nil, []⟩
def runits_L (nn : Nat) : Nat → Option LoopS := fun n =>
  bif Nat.beq n 3 then some ⟨{ env := [(3, ASh.arr 128), (4, ASh.dat (Ty.int IntKind.i64))], heap := [(128, CSh.arr 29 (Ty.int IntKind.i64).sl), (128, CSh.arr 29 (Ty.int IntKind.i64).sl)], keep := [0, 2], keepH := [] }, fun _ => nn⟩ else
  none
def runits_J : Nat → Option Shape := fun n =>
  none
set_option maxRecDepth 100000 in
theorem runits_eq : ∀ (nn : Nat)  xa xo, (runits_s.prog (mkC Try.prog T_rAdd ⟨false, false⟩ (runits_L nn) runits_J) Try.f54 xa xo).run = runitsF nn xa.1 := by intros; kernel_rfl
noncomputable def T_runits : FuncId → Summ := addS T_rAdd 54 (runits_s.summ (fun xa xo => runits xa.1))
theorem T_runits_ok : ∀ g, SummOK Try.prog g (T_runits g) := fn_ok T_rAdd_ok fol Try.func54 (by kernel_rfl) (by kernel_rfl) (by kernel_rfl) (runits_eq fuelN)

def rCan_s : FSig := ⟨.val (.sl (.sl int)) <| .val int <| .val (.sl int) <| .nil, [], .val .bool <| .nil, []⟩
def rCan_L (nn : Nat) : Nat → Option LoopS := fun n =>
  bif Nat.beq n 4 then some ⟨{ env := [(8, ASh.dat (Ty.int IntKind.i64)), (9, ASh.dat (Ty.int IntKind.i64))], heap := [], keep := [0, 1, 2, 6, 7], keepH := [448] }, fun _ => nn⟩ else
  bif Nat.beq n 8 then some ⟨{ env := [(10, ASh.dat (Ty.int IntKind.i64))], heap := [], keep := [0, 1, 2, 6, 7, 8, 9], keepH := [448] }, fun _ => nn⟩ else
  none
def rCan_J : Nat → Option Shape := fun n =>
  none
set_option maxRecDepth 100000 in
theorem rCan_eq : ∀ (nn : Nat)  xa xo, (rCan_s.prog (mkC Try.prog T_runits ⟨false, false⟩ (rCan_L nn) rCan_J) Try.f33 xa xo).run = rCanF nn xa.1 xa.2.1 xa.2.2.1 := by intros; kernel_rfl
noncomputable def T_rCan : FuncId → Summ := addS T_runits 33 (rCan_s.summ (fun xa xo => rCan xa.1 xa.2.1 xa.2.2.1))
theorem T_rCan_ok : ∀ g, SummOK Try.prog g (T_rCan g) := fn_ok T_runits_ok fol Try.func33 (by kernel_rfl) (by kernel_rfl) (by kernel_rfl) (rCan_eq fuelN)

def rAsk_s : FSig := ⟨.obj 0 <| .val (.sl int) <| .nil, [(40, .val int <| .val (.sl (.sl int)) <| .nil)], .val int <| .nil, []⟩
def rAsk_L : Nat → Option LoopS := fun n =>
  none
def rAsk_J : Nat → Option Shape := fun n =>
  none
set_option maxRecDepth 100000 in
theorem rAsk_eq : ∀  xa xo, (rAsk_s.prog (mkC Try.prog T_rCan ⟨false, false⟩ rAsk_L rAsk_J) Try.f20 xa xo).run = rAsk  xa.1 xo.1.1 xo.1.2.1 := by intros; kernel_rfl
noncomputable def T_rAsk : FuncId → Summ := addS T_rCan 20 (rAsk_s.summ (fun xa xo => rAsk xa.1 xo.1.1 xo.1.2.1))
theorem T_rAsk_ok : ∀ g, SummOK Try.prog g (T_rAsk g) := fn_ok T_rCan_ok fol Try.func20 (by kernel_rfl) (by kernel_rfl) (by kernel_rfl) rAsk_eq

def rFollows_s : FSig := ⟨.lend (.sl (.sl int)) <| .val int <| .val (.sl int) <| .nil, [], .val .bool <| .nil, []⟩
def rFollows_L (nn : Nat) : Nat → Option LoopS := fun n =>
  bif Nat.beq n 3 then some ⟨{ env := [(7, ASh.arr 128), (8, ASh.dat (Ty.int IntKind.i64))], heap := [(128, CSh.arr 3 (Ty.int IntKind.i64)), (128, CSh.arr 3 (Ty.int IntKind.i64))], keep := [0, 1, 2, 6], keepH := [] }, fun _ => nn⟩ else
  none
def rFollows_J : Nat → Option Shape := fun n =>
  none
set_option maxRecDepth 100000 in
theorem rFollows_eq : ∀ (nn : Nat)  xa xo, (rFollows_s.prog (mkC Try.prog T_rAsk ⟨false, false⟩ (rFollows_L nn) rFollows_J) Try.f56 xa xo).run = rFollowsF nn xa.1 xa.2.1 xa.2.2.1 := by intros; kernel_rfl
noncomputable def T_rFollows : FuncId → Summ := addS T_rAsk 56 (rFollows_s.summ (fun xa xo => rFollows xa.1 xa.2.1 xa.2.2.1))
theorem T_rFollows_ok : ∀ g, SummOK Try.prog g (T_rFollows g) := fn_ok T_rAsk_ok fol Try.func56 (by kernel_rfl) (by kernel_rfl) (by kernel_rfl) (rFollows_eq fuelN)

def rRefutes_s : FSig := ⟨.val (.sl (.sl int)) <| .val int <| .val (.sl (.sl int)) <| .val (.sl int) <| .nil, [], .val .bool <| .nil, []⟩
def rRefutes_L (nn : Nat) : Nat → Option LoopS := fun n =>
  bif Nat.beq n 3 then some ⟨{ env := [(9, ASh.arr 256), (10, ASh.dat (Ty.int IntKind.i64))], heap := [(256, CSh.arr 29 (Ty.int IntKind.i64).sl), (256, CSh.arr 29 (Ty.int IntKind.i64).sl)], keep := [0, 1, 2, 3, 8], keepH := [] }, fun _ => nn⟩ else
  none
def rRefutes_J : Nat → Option Shape := fun n =>
  none
set_option maxRecDepth 100000 in
theorem rRefutes_eq : ∀ (nn : Nat)  xa xo, (rRefutes_s.prog (mkC Try.prog T_rFollows ⟨false, false⟩ (rRefutes_L nn) rRefutes_J) Try.f35 xa xo).run = rRefutesF nn xa.1 xa.2.1 xa.2.2.1 xa.2.2.2.1 := by intros; kernel_rfl
noncomputable def T_rRefutes : FuncId → Summ := addS T_rFollows 35 (rRefutes_s.summ (fun xa xo => rRefutes xa.1 xa.2.1 xa.2.2.1 xa.2.2.2.1))
theorem T_rRefutes_ok : ∀ g, SummOK Try.prog g (T_rRefutes g) := fn_ok T_rFollows_ok fol Try.func35 (by kernel_rfl) (by kernel_rfl) (by kernel_rfl) (rRefutes_eq fuelN)

def rFuel_s : FSig := ⟨.val int <| .nil, [], .val int <| .nil, []⟩
def rFuel_L (nn : Nat) : Nat → Option LoopS := fun n =>
  bif Nat.beq n 3 then some ⟨{ env := [(3, ASh.dat (Ty.int IntKind.i64)), (4, ASh.dat (Ty.int IntKind.i64))], heap := [], keep := [0, 2], keepH := [] }, fun _ => nn⟩ else
  none
def rFuel_J : Nat → Option Shape := fun n =>
  none
set_option maxRecDepth 100000 in
theorem rFuel_eq : ∀ (nn : Nat)  xa xo, (rFuel_s.prog (mkC Try.prog T_rRefutes ⟨false, false⟩ (rFuel_L nn) rFuel_J) Try.f19 xa xo).run = rFuelF nn xa.1 := by intros; kernel_rfl
noncomputable def T_rFuel : FuncId → Summ := addS T_rRefutes 19 (rFuel_s.summ (fun xa xo => rFuel xa.1))
theorem T_rFuel_ok : ∀ g, SummOK Try.prog g (T_rFuel g) := fn_ok T_rRefutes_ok fol Try.func19 (by kernel_rfl) (by kernel_rfl) (by kernel_rfl) (rFuel_eq fuelN)

def rSameR_s : FSig := ⟨.lend (.sl (.sl int)) <| .lend (.sl (.sl int)) <| .nil, [], .val .bool <| .nil, []⟩
def rSameR_L (nn : Nat) : Nat → Option LoopS := fun n =>
  bif Nat.beq n 4 then some ⟨{ env := [(5, ASh.dat (Ty.int IntKind.i64))], heap := [], keep := [0, 1, 4], keepH := [] }, fun _ => nn⟩ else
  none
def rSameR_J : Nat → Option Shape := fun n =>
  none
set_option maxRecDepth 100000 in
theorem rSameR_eq : ∀ (nn : Nat)  xa xo, (rSameR_s.prog (mkC Try.prog T_rFuel ⟨false, false⟩ (rSameR_L nn) rSameR_J) Try.f38 xa xo).run = rSameRF nn xa.1 xa.2.1 := by intros; kernel_rfl
noncomputable def T_rSameR : FuncId → Summ := addS T_rFuel 38 (rSameR_s.summ (fun xa xo => rSameR xa.1 xa.2.1))
theorem T_rSameR_ok : ∀ g, SummOK Try.prog g (T_rSameR g) := fn_ok T_rFuel_ok fol Try.func38 (by kernel_rfl) (by kernel_rfl) (by kernel_rfl) (rSameR_eq fuelN)

def rSameBits_s : FSig := ⟨.lend (.sl .bool) <| .lend (.sl .bool) <| .nil, [], .val .bool <| .nil, []⟩
def rSameBits_L (nn : Nat) : Nat → Option LoopS := fun n =>
  bif Nat.beq n 4 then some ⟨{ env := [(5, ASh.dat (Ty.int IntKind.i64))], heap := [], keep := [0, 1, 4], keepH := [] }, fun _ => nn⟩ else
  none
def rSameBits_J : Nat → Option Shape := fun n =>
  none
set_option maxRecDepth 100000 in
theorem rSameBits_eq : ∀ (nn : Nat)  xa xo, (rSameBits_s.prog (mkC Try.prog T_rSameR ⟨false, false⟩ (rSameBits_L nn) rSameBits_J) Try.f36 xa xo).run = rSameBitsF nn xa.1 xa.2.1 := by intros; kernel_rfl
noncomputable def T_rSameBits : FuncId → Summ := addS T_rSameR 36 (rSameBits_s.summ (fun xa xo => rSameBits xa.1 xa.2.1))
theorem T_rSameBits_ok : ∀ g, SummOK Try.prog g (T_rSameBits g) := fn_ok T_rSameR_ok fol Try.func36 (by kernel_rfl) (by kernel_rfl) (by kernel_rfl) (rSameBits_eq fuelN)

end GoSx
end
