/- 's[1:]' as one equation. -/
import Derived.Test.YtichiccohmeecaaDoorWhO
namespace Go.Proofs.YtichiccohmeecaaDoor
open Go.RowKit

theorem tail_ints (h o n c : Nat) (hn : 1 ≤ n) (hc : n ≤ c) : ∃ ad : Addr, (n = 1 ∨ ad = ⟨h, o + 1, none⟩) ∧ ∀ w, (Instr.slice 26 (.slice (some ⟨h, o, none⟩) n c) (some (.int .i64 1)) none none).run Tryd.prog w = .ok (.slice (some ad) (n - 1) (c - 1)) w := by
  have h1 : (1 : Int) ≤ (n : Int) := by omega
  by_cases hcc : c = 1
  · refine ⟨⟨h, o, none⟩, .inl (by omega), fun w => ?_⟩
    subst hcc
    obtain rfl : n = 1 := by omega
    go_simp
  · refine ⟨⟨h, o + 1, none⟩, .inr rfl, fun w => ?_⟩
    have hc1 : ¬ (c = 1) := hcc
    go_simp
theorem tail_rows (h o n c : Nat) (hn : 1 ≤ n) (hc : n ≤ c) : ∃ ad : Addr, (n = 1 ∨ ad = ⟨h, o + 1, none⟩) ∧ ∀ w, (Instr.slice 27 (.slice (some ⟨h, o, none⟩) n c) (some (.int .i64 1)) none none).run Tryd.prog w = .ok (.slice (some ad) (n - 1) (c - 1)) w := by
  have h1 : (1 : Int) ≤ (n : Int) := by omega
  by_cases hcc : c = 1
  · refine ⟨⟨h, o, none⟩, .inl (by omega), fun w => ?_⟩
    subst hcc
    obtain rfl : n = 1 := by omega
    go_simp
  · refine ⟨⟨h, o + 1, none⟩, .inr rfl, fun w => ?_⟩
    have hc1 : ¬ (c = 1) := hcc
    go_simp

end Go.Proofs.YtichiccohmeecaaDoor
