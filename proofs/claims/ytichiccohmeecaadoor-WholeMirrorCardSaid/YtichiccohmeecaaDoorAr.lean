/- Walks of the functions of package arith and of its reference. -/
import Derived.Test.YtichiccohmeecaaDoorProg
import Derived.WalkKit
import Derived.Lib.Hide
import Derived.Outline
namespace Go.Proofs.YtichiccohmeecaaDoor
open Go.RowKit

def b2i (b : Bool) : Int := if b then 1 else 0

def divV (op x y : Int) : Int := if (y == 0) = true then 0 else if (op == 11) = true then wrap64 (x.tdiv y) else x.tmod y
def divE (y : Int) : Int := if (y == 0) = true then 11 else 0

def applyV (op x y : Int) : Int :=
  if op = 8 then wrap64 (x + y) else if op = 9 then wrap64 (x - y) else if op = 10 then wrap64 (x * y)
  else if op = 11 then divV 11 x y else if op = 12 then divV 12 x y
  else if op = 13 then bits .and .i64 x y else if op = 14 then bits .or .i64 x y else if op = 15 then bits .xor .i64 x y
  else if op = 16 then b2i (x == y) else if op = 17 then b2i (x != y) else if op = 18 then b2i (decide (x < y))
  else if op = 19 then b2i (decide (x ≤ y)) else if op = 20 then b2i (decide (y < x)) else if op = 21 then b2i (decide (y ≤ x))
  else if op = 22 then b2i (x != 0 && y != 0) else if op = 23 then b2i (x != 0 || y != 0) else 0

def applyE (op y : Int) : Int :=
  if op = 11 ∨ op = 12 then divE y else if 8 ≤ op ∧ op ≤ 23 then 0 else 7

theorem ret_tup2 {k1 k2 : IntKind} {a b c d : Int} (h : a = b) (h' : c = d) : Ending.returned (.tuple #[.int k1 a, .int k2 c]) = .returned (.tuple #[.int k1 b, .int k2 d]) := by rw [h, h']

theorem number_any (b : Bool) (w : World) : Calls Tryd.prog 56 #[.bool b] w fun e w' => e = .returned (.int .i64 (b2i b)) ∧ w = w' := by
  cases b
  all_goals
    go_enter Tryd.func56, Tryd.ntmps56
    go_wp2
    go_ret
    exact ⟨rfl, rfl⟩


theorem divide_any (op x y : Int) (w : World) : Calls Tryd.prog 55 #[.int .u8 op, .int .i64 x, .int .i64 y] w fun e w' => e = .returned (.tuple #[.int .i64 (divV op x y), .int .i64 (divE y)]) ∧ w = w' := by
  by_cases h0 : y = 0
  · subst h0
    go_enter Tryd.func55, Tryd.ntmps55
    go_wp2
    go_ret2
    exact ⟨rfl, rfl⟩
  · have h1 : (y == 0) = false := by simp [h0]
    by_cases h2 : op = 11
    · subst h2
      go_enter Tryd.func55, Tryd.ntmps55
      go_wp2
      go_ret2
      exact ⟨ret_tup2 (by unfold divV; rw [h1]; rfl) (by unfold divE; rw [h1]; rfl), rfl⟩
    · have h3 : (op == 11) = false := by simp [h2]
      go_enter Tryd.func55, Tryd.ntmps55
      go_wp2
      go_ret2
      exact ⟨ret_tup2 (by unfold divV; rw [h1, h3]; rfl) (by unfold divE; rw [h1]; rfl), rfl⟩

theorem apply_any (op x y : Int) (w : World) : Calls Tryd.prog 49 #[.int .u8 op, .int .i64 x, .int .i64 y] w fun e w' => e = .returned (.tuple #[.int .i64 (applyV op x y), .int .i64 (applyE op y)]) ∧ w = w' := by
  go_enter Tryd.func49, Tryd.ntmps49
  go_wp2_with (first
    | (go_at_call 55; refine (divide_any _ _ _ _).mono ?_; rintro e w' ⟨rfl, rfl⟩)
    | (go_at_call 56; refine (number_any _ _).mono ?_; rintro e w' ⟨rfl, rfl⟩))
  all_goals go_ret2
  all_goals refine ⟨ret_tup2 ?_ ?_, rfl⟩
  all_goals simp_all [applyV, applyE]
  all_goals first | omega | (unfold wrap64; omega) | (refine congrArg b2i ?_; simp [*]; done)


def unV (op x : Int) : Int := if op = 6 then wrap64 (-x) else if op = 7 then b2i (x == 0) else 0
def unE (op : Int) : Int := if op = 6 ∨ op = 7 then 0 else 7
def updV (k x y : Int) : Int := if k = 40 then wrap64 (x + y) else if k = 41 then wrap64 (x - y) else if k = 42 then bits .xor .i64 x y else 0
def updE (k : Int) : Int := if k = 40 ∨ k = 41 ∨ k = 42 then 0 else 7
def invV (k : Int) : Int := if k = 40 then 41 else if k = 41 then 40 else if k = 42 then 42 else 0
def invB (k : Int) : Bool := decide (k = 40 ∨ k = 41 ∨ k = 42)





theorem ret_ib {k1 : IntKind} {a b : Int} {c d : Bool} (h : a = b) (h' : c = d) : Ending.returned (.tuple #[.int k1 a, .bool c]) = .returned (.tuple #[.int k1 b, .bool d]) := by rw [h, h']




end Go.Proofs.YtichiccohmeecaaDoor
