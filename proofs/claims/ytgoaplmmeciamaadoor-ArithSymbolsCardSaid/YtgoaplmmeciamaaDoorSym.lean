/- Walks of Symbol, Level, Inverse and of their references, and of the law ArithSymbols. -/
import Derived.Test.YtgoaplmmeciamaaDoorW1
import Derived.Deep.QuietTactic
import Derived.BigQuiet
import Derived.Deep.DeepMust
import Derived.WalkLawsBesides
namespace Go.Proofs.YtgoaplmmeciamaaDoor
open Go.RowKit

def symL : List (List UInt8) := [[], [], [], [], [], [], [45], [33], [43], [45], [42], [47], [37], [38], [124], [94], [61, 61], [33, 61], [60], [60, 61], [62], [62, 61], [38, 38], [124, 124], [], [], [], [], [], [], [], [], [], [], [], [], [], [], [], [], [43, 61], [45, 61], [94, 61]]
def symS (op : Int) : ByteArray := ⟨(symL.getD op.toNat []).toArray⟩
def levV (op : Int) : Int :=
  if op = 23 then 1 else if op = 22 then 2 else if op = 14 then 3 else if op = 15 then 4 else if op = 13 then 5
  else if 16 ≤ op ∧ op ≤ 21 then 6 else if op = 8 ∨ op = 9 then 7 else if op = 10 ∨ op = 11 ∨ op = 12 then 8 else if op = 6 ∨ op = 7 then 9 else 0

theorem level_any (op : Int) (w : World) : Calls Tryd.prog 8 #[.int .u8 op] w fun e w' => e = .returned (.int .i64 (levV op)) ∧ w = w' := by
  go_enter Tryd.func8, Tryd.ntmps8
  go_wp2
  all_goals go_ret
  all_goals refine ⟨?_, rfl⟩
  all_goals simp_all [levV]
  all_goals omega

theorem rlevel_any (op : Int) (w : World) : Calls Tryd.prog 9 #[.int .u8 op] w fun e w' => e = .returned (.int .i64 (levV op)) ∧ w = w' := by
  go_enter Tryd.func9, Tryd.ntmps9
  go_wp2
  all_goals go_ret
  all_goals refine ⟨?_, rfl⟩
  all_goals simp_all [levV]
  all_goals omega

theorem rinverse_any (op : Int) (w : World) : Calls Tryd.prog 10 #[.int .u8 op] w fun e w' => e = .returned (.int .u8 (invV op)) ∧ w = w' := by
  go_enter Tryd.func10, Tryd.ntmps10
  go_wp2
  all_goals go_ret
  all_goals refine ⟨?_, rfl⟩
  all_goals simp_all [invV]

theorem ret_str {a b : ByteArray} (h : a = b) : Ending.returned (.string a) = .returned (.string b) := by rw [h]
theorem symS_out {op : Int} (h : 43 ≤ op) : symS op = ⟨#[]⟩ := by
  unfold symS
  have hl : symL.length ≤ op.toNat := by show 43 ≤ _; omega
  rw [List.getD, List.getElem?_eq_none hl]
  rfl
theorem symS_none {op : Int} (h0 : 0 ≤ op) (h : op < 6 ∨ (24 ≤ op ∧ op < 40) ∨ 43 ≤ op) : symS op = ⟨#[]⟩ := by
  have hh : op = 0 ∨ op = 1 ∨ op = 2 ∨ op = 3 ∨ op = 4 ∨ op = 5 ∨ op = 24 ∨ op = 25 ∨ op = 26 ∨ op = 27 ∨ op = 28 ∨ op = 29 ∨ op = 30 ∨ op = 31 ∨ op = 32 ∨ op = 33 ∨ op = 34 ∨ op = 35 ∨ op = 36 ∨ op = 37 ∨ op = 38 ∨ op = 39 ∨ 43 ≤ op := by omega
  rcases hh with rfl | rfl | rfl | rfl | rfl | rfl | rfl | rfl | rfl | rfl | rfl | rfl | rfl | rfl | rfl | rfl | rfl | rfl | rfl | rfl | rfl | rfl | h
  · rfl
  · rfl
  · rfl
  · rfl
  · rfl
  · rfl
  · rfl
  · rfl
  · rfl
  · rfl
  · rfl
  · rfl
  · rfl
  · rfl
  · rfl
  · rfl
  · rfl
  · rfl
  · rfl
  · rfl
  · rfl
  · rfl
  · exact symS_out h

theorem symbol_any (op : Int) (h0 : 0 ≤ op) (h1 : op ≤ 255) (w : World) (hc : Hid (∀ i, i < 43 → w.cell? ⟨0, i, none⟩ = some (.string ⟨(symL.getD i []).toArray⟩))) :
    Calls Tryd.prog 6 #[.int .u8 op] w fun e w' => e = .returned (.string (symS op)) ∧ w = w' := by
  by_cases h : op < 43
  · obtain ⟨k, rfl⟩ := Int.eq_ofNat_of_zero_le h0
    have hk : k < 43 := by omega
    have e : symS (k : Int) = ⟨(symL.getD k []).toArray⟩ := by unfold symS; rw [Int.toNat_natCast]
    have c := hc.out k hk
    rw [← e] at c
    generalize symS (k : Int) = q at *
    clear e hc
    have hb : k ≤ 255 := by omega
    go_enter Tryd.func6, Tryd.ntmps6
    go_wp2
    go_ret
    exact ⟨rfl, rfl⟩
  · have e := Lib.hid (symS_out (op := op) (by omega))
    clear hc
    go_enter Tryd.func6, Tryd.ntmps6
    go_wp2
    go_ret
    exact ⟨by rw [e.out]; rfl, rfl⟩

theorem rsymbol_any (op : Int) (h0 : 0 ≤ op) (w : World) :
    Calls Tryd.prog 7 #[.int .u8 op] w fun e w' => e = .returned (.string (symS op)) ∧ w = w' := by
  go_enter Tryd.func7, Tryd.ntmps7
  go_wp2
  all_goals go_ret
  all_goals refine ⟨ret_str ?_, rfl⟩
  all_goals simp_all only [beq_iff_eq, beq_eq_false_iff_ne]
  all_goals first | rfl | (refine (symS_none h0 ?_).symm; omega)

def symG (w : World) : Prop := ∀ i, i < 43 → w.cell? ⟨0, i, none⟩ = some (.string ⟨(symL.getD i []).toArray⟩)

theorem inv_is (k : Int) : (invB k == (invV k != 0)) = true := by
  unfold invB invV
  by_cases h1 : k = 40
  · subst h1; decide
  by_cases h2 : k = 41
  · subst h2; decide
  by_cases h3 : k = 42
  · subst h3; decide
  simp [h1, h2, h3]

set_option maxHeartbeats 2000000 in
theorem law_any (op : Int) (h0 : 0 ≤ op) (h1 : op ≤ 255) (w : World) (hc : Hid (symG w)) :
    Calls Tryd.prog 3 #[.int .u8 op] w fun e w' => e = .returned (.bool true) ∧ Grown w w' := by
  have hi := inv_is op
  go_enter Tryd.func3, Tryd.ntmps3
  go_wp2_with (first
    | (go_at_call 4; refine (awake_any _).mono ?_; rintro e w' ⟨rfl, rfl⟩)
    | (go_at_call 5; refine (inverse_any _ _).mono ?_; rintro e w' ⟨rfl, rfl⟩)
    | (go_at_call 6; refine (symbol_any _ h0 h1 _ hc).mono ?_; rintro e w' ⟨rfl, rfl⟩)
    | (go_at_call 7; refine (rsymbol_any _ h0 _).mono ?_; rintro e w' ⟨rfl, rfl⟩)
    | (go_at_call 8; refine (level_any _ _).mono ?_; rintro e w' ⟨rfl, rfl⟩)
    | (go_at_call 9; refine (rlevel_any _ _).mono ?_; rintro e w' ⟨rfl, rfl⟩)
    | (go_at_call 10; refine (rinverse_any _ _).mono ?_; rintro e w' ⟨rfl, rfl⟩))
  go_ret
  exact ⟨rfl, by repeat (first | exact Grown.refl _ | apply Grown.drewN | apply Grown.drew | apply Grown.alloc)⟩

end Go.Proofs.YtgoaplmmeciamaaDoor
