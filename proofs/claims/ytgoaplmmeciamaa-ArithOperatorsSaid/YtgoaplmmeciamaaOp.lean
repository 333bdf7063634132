/- The walk of Operators: a slice of its own that holds the kinds 8 to 23. -/
import Derived.Test.YtgoaplmmeciamaaW1
import Derived.Deep.LoopGhost
import Derived.Deep.DeepMust
import Derived.Below
import Derived.OwnWalk
import Derived.Maps.AppendAt
namespace Go.Proofs.Ytgoaplmmeciamaa
open Go.RowKit

def opv (k : Nat) : Value := .int .u8 ((k : Int) + 8)
def opl (k : Nat) : List Value := (List.range k).map opv
theorem opl_succ (k : Nat) : opl (k + 1) = opl k ++ [opv k] := by simp [opl, List.range_succ]

theorem Try.info5 : (Try.prog.info? 5).map (fun i => (i.zero, i.size, i.bytes)) = some (some (.int .u8 0), 1, 1) := by kernel_rfl

set_option maxHeartbeats 1000000 in
theorem operators_any (w : World) :
    Calls Try.prog 14 #[] w fun e w' => ∃ v, e = .returned v ∧ w'.ownsRow w.heap.size 5 1 v 16 (opl 16) ∧ Below w.heap.size w w' := by
  obtain ⟨i0, hi, hz0, hz1, hz2⟩ := info_parts Try.info5
  have HB := Lib.hid (rfl : w.heap.size = w.heap.size)
  go_enter Try.func14, Try.ntmps14
  go_wp2
  go_loopg [1, 2] 16 (fun n v op wr => ∃ k : Nat, k + n = 16 ∧ op = .int .u8 ((k : Int) + 8) ∧ wr.ownsRow w.heap.size 5 1 v k (opl k) ∧ Below w.heap.size w wr)
  case atStart => exact ⟨0, rfl, rfl, World.ownsRow_nil _ _ _ _, Below.refl _ _⟩
  case round =>
    obtain ⟨k, hk, rfl, hown, hb⟩ := hrel
    have hsz := hb.size
    by_cases hlt : k < 16
    · have hlt' : (k : Int) < 16 := by omega
      have Hk := Lib.hid hk
      clear hk
      go_wp2_with ((at_builtin; refine wpList_append_own _ rfl _ _ 31 rfl w.heap.size 5 i0 (.int .u8 0) 1 1 Try.underlying31 hi hz0 hz1 hz2 rfl (by decide) _ _ _ rfl (hown.alloc _) ⟨wr.heap.size, 0, none⟩ 1 1 [opv k] rfl rfl ?c1 ?c2 ?c3 ?c4 ?c5 ?_))
      case c1 => exact cell_one_new _ _ _
      case c2 => intro u hu; simp only [List.mem_singleton] at hu; subst hu; rfl
      case c3 => unfold maxLen; omega
      case c4 => omega
      case c5 => simp; omega
      intro v' w1 hown1 hgrow _
      have hb1 : Below w.heap.size w w1 := (hb.alloc hsz _).grown hgrow (by simp; omega) (fun j hj => (hown.lt j hj).1)
      rw [← opl_succ] at hown1
      clear hown hgrow hb
      go_wp2
      have hk := Hk.out
      go_roundg (15 - k)
      case measure => omega
      case rel => exact ⟨k + 1, by omega, by go_num, hown1, hb1⟩
    · have hge : ¬ (k : Int) < 16 := by omega
      obtain rfl : k = 16 := by omega
      go_wp2
      go_ret
      exact ⟨_, rfl, hown, hb⟩

end Go.Proofs.Ytgoaplmmeciamaa
