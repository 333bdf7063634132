/- Walks of the functions of package arith and of its reference. -/
import Derived.Test.YtgoaplmmeciamaaDoorProg
import Derived.WalkKit
import Derived.Lib.Hide
import Derived.Outline
namespace Go.Proofs.YtgoaplmmeciamaaDoor
open Go.RowKit

def b2i (b : Bool) : Int := if b then 1 else 0

def divV (op x y : Int) : Int := if (y == 0) = true then 0 else if (op == 11) = true then wrap64 (x.tdiv y) else x.tmod y
def divE (y : Int) : Int := if (y == 0) = true then 11 else 0

def applyV (op x y : Int) : Int :=
  if op = 8 then wrap64 (x + y) else if op = 9 then wrap64 (x - y) else if op = 10 then wrap64 (x * y)
  else if op = 11 then divV 11 x y else if op = 12 then divV 12 x y
  else if op = 13 then bits .and .i64 x y else if op = 14 then bits .or .i64 x y else if op = 15 then bits .xor .i64 x y
  else if op = 16 then b2i (x == y) else if op = 17 then b2i (x != y) else if op = 18 then b2i (decide (x < y))
  else if op = 19 then b2i (decide (x ≤ y)) else if op = 20 then b2i (decide (y < x)) else if op = 21 then b2i (decide (y ≤ x))
  else if op = 22 then b2i (x != 0 && y != 0) else if op = 23 then b2i (x != 0 || y != 0) else 0

def applyE (op y : Int) : Int :=
  if op = 11 ∨ op = 12 then divE y else if 8 ≤ op ∧ op ≤ 23 then 0 else 7

theorem ret_tup2 {k1 k2 : IntKind} {a b c d : Int} (h : a = b) (h' : c = d) : Ending.returned (.tuple #[.int k1 a, .int k2 c]) = .returned (.tuple #[.int k1 b, .int k2 d]) := by rw [h, h']

theorem number_any (b : Bool) (w : World) : Calls Tryd.prog 14 #[.bool b] w fun e w' => e = .returned (.int .i64 (b2i b)) ∧ w = w' := by
  cases b
  all_goals
    go_enter Tryd.func14, Tryd.ntmps14
    go_wp2
    go_ret
    exact ⟨rfl, rfl⟩


theorem divide_any (op x y : Int) (w : World) : Calls Tryd.prog 13 #[.int .u8 op, .int .i64 x, .int .i64 y] w fun e w' => e = .returned (.tuple #[.int .i64 (divV op x y), .int .i64 (divE y)]) ∧ w = w' := by
  by_cases h0 : y = 0
  · subst h0
    go_enter Tryd.func13, Tryd.ntmps13
    go_wp2
    go_ret2
    exact ⟨rfl, rfl⟩
  · have h1 : (y == 0) = false := by simp [h0]
    by_cases h2 : op = 11
    · subst h2
      go_enter Tryd.func13, Tryd.ntmps13
      go_wp2
      go_ret2
      exact ⟨ret_tup2 (by unfold divV; rw [h1]; rfl) (by unfold divE; rw [h1]; rfl), rfl⟩
    · have h3 : (op == 11) = false := by simp [h2]
      go_enter Tryd.func13, Tryd.ntmps13
      go_wp2
      go_ret2
      exact ⟨ret_tup2 (by unfold divV; rw [h1, h3]; rfl) (by unfold divE; rw [h1]; rfl), rfl⟩

theorem apply_any (op x y : Int) (w : World) : Calls Tryd.prog 11 #[.int .u8 op, .int .i64 x, .int .i64 y] w fun e w' => e = .returned (.tuple #[.int .i64 (applyV op x y), .int .i64 (applyE op y)]) ∧ w = w' := by
  go_enter Tryd.func11, Tryd.ntmps11
  go_wp2_with (first
    | (go_at_call 13; refine (divide_any _ _ _ _).mono ?_; rintro e w' ⟨rfl, rfl⟩)
    | (go_at_call 14; refine (number_any _ _).mono ?_; rintro e w' ⟨rfl, rfl⟩))
  all_goals go_ret2
  all_goals refine ⟨ret_tup2 ?_ ?_, rfl⟩
  all_goals simp_all [applyV, applyE]
  all_goals first | omega | (unfold wrap64; omega) | (refine congrArg b2i ?_; simp [*]; done)


def unV (op x : Int) : Int := if op = 6 then wrap64 (-x) else if op = 7 then b2i (x == 0) else 0
def unE (op : Int) : Int := if op = 6 ∨ op = 7 then 0 else 7
def updV (k x y : Int) : Int := if k = 40 then wrap64 (x + y) else if k = 41 then wrap64 (x - y) else if k = 42 then bits .xor .i64 x y else 0
def updE (k : Int) : Int := if k = 40 ∨ k = 41 ∨ k = 42 then 0 else 7
def invV (k : Int) : Int := if k = 40 then 41 else if k = 41 then 40 else if k = 42 then 42 else 0
def invB (k : Int) : Bool := decide (k = 40 ∨ k = 41 ∨ k = 42)



theorem update_any (k x y : Int) (w : World) : Calls Tryd.prog 12 #[.int .u8 k, .int .i64 x, .int .i64 y] w fun e w' => e = .returned (.tuple #[.int .i64 (updV k x y), .int .i64 (updE k)]) ∧ w = w' := by
  go_enter Tryd.func12, Tryd.ntmps12
  go_wp2
  all_goals go_ret2
  all_goals refine ⟨ret_tup2 ?_ ?_, rfl⟩
  all_goals simp_all [updV, updE]


theorem ret_ib {k1 : IntKind} {a b : Int} {c d : Bool} (h : a = b) (h' : c = d) : Ending.returned (.tuple #[.int k1 a, .bool c]) = .returned (.tuple #[.int k1 b, .bool d]) := by rw [h, h']

theorem inverse_any (k : Int) (w : World) : Calls Tryd.prog 5 #[.int .u8 k] w fun e w' => e = .returned (.tuple #[.int .u8 (invV k), .bool (invB k)]) ∧ w = w' := by
  go_enter Tryd.func5, Tryd.ntmps5
  go_wp2
  all_goals go_ret2
  all_goals refine ⟨ret_ib ?_ ?_, rfl⟩
  all_goals simp_all [invV, invB]


theorem awake_any (w : World) : Calls Tryd.prog 4 #[] w fun e w' => e = .returned (.bool true) ∧ w = w' := by
  have a1 : applyV 11 (-7) 2 = -3 := by decide +kernel
  have a2 : applyE 11 2 = 0 := by decide
  have a3 : applyV 12 (-7) 2 = -1 := by decide
  have a4 : applyE 12 2 = 0 := by decide
  have a5 : applyV 22 5 (-1) = 1 := by decide
  have a6 : applyE 22 (-1) = 0 := by decide
  have a7 : applyE 12 0 = 11 := by decide
  have a8 : updV 41 3 5 = -2 := by decide +kernel
  have a9 : updE 41 = 0 := by decide
  go_enter Tryd.func4, Tryd.ntmps4
  go_wp2_with (first
    | (go_at_call 11; refine (apply_any _ _ _ _).mono ?_; rintro e w' ⟨rfl, rfl⟩)
    | (go_at_call 12; refine (update_any _ _ _ _).mono ?_; rintro e w' ⟨rfl, rfl⟩))
  go_ret
  exact ⟨rfl, rfl⟩

end Go.Proofs.YtgoaplmmeciamaaDoor
