/- The walk of the law ArithOperators. -/
import Derived.Test.YtgoaplmmeciamaaOp
import Derived.Deep.QuietTactic
import Derived.BigQuiet
import Derived.WalkLawsBesides
namespace Go.Proofs.Ytgoaplmmeciamaa
open Go.RowKit

def hasB (op : Int) (k : Nat) : Bool := decide (8 ≤ op ∧ op < (k : Int) + 8)
theorem hasB_succ (op : Int) (k : Nat) : hasB op (k + 1) = (hasB op k || ((k : Int) + 8 == op)) := by
  unfold hasB; rw [Bool.eq_iff_iff]; simp; omega
theorem hasB_all (op : Int) : hasB op 16 = (applyE op 1 == 0) := by
  unfold hasB applyE divE
  rw [Bool.eq_iff_iff]
  split
  · simp; omega
  · split <;> simp <;> omega

theorem row_at {w : World} {g : Nat} {cur : Array Value} {e : TypeId} (h : w.heap[g]? = some (.cells cur e (0, 0))) (k : Nat) (hk : k < cur.size) : ∃ x, w.cell? ⟨g, k, none⟩ = some x :=
  ⟨cur[k], by rw [cell_of_row w g k cur e (0, 0) h, Array.getElem?_eq_getElem hk]⟩
theorem row_free {w : World} {g : Nat} {cur : Array Value} {e : TypeId} (h : w.heap[g]? = some (.cells cur e (0, 0))) (k : Nat) : w.frozen? ⟨g, k, none⟩ = false := by simp [World.frozen?, h]
theorem row_set {w : World} {g : Nat} {cur : Array Value} {e : TypeId} (h : w.heap[g]? = some (.cells cur e (0, 0))) (k : Nat) (v : Value) :
    (w.setCell ⟨g, k, none⟩ v).heap[g]? = some (.cells (cur.setIfInBounds k v) e (0, 0)) := by
  simp [World.setCell, Array.getElem?_modify, h]

theorem own_at {w : World} {base : Nat} {v : Value} {n : Nat} {xs : List Value} {e : TypeId} (h : w.ownsRow base e 1 v n xs) (hn : 0 < n) :
    ∃ g cap cur, v = .slice (some ⟨g, 0, none⟩) n cap ∧ w.heap[g]? = some (.cells cur e (0, 0)) ∧ cur.size = cap ∧ base ≤ g ∧ g < w.heap.size ∧ n ≤ cap ∧ cap ≤ maxLen ∧ (∀ j u, xs[j]? = some u → w.cell? ⟨g, j, none⟩ = some u) ∧ (∀ j, w.frozen? ⟨g, j, none⟩ = false) := by
  rcases h.2 with ⟨_, h0⟩ | ⟨g, cap, cur, rfl, hb, hg, hn', hm, hc, ht⟩
  · omega
  · refine ⟨g, cap, cur, rfl, hg, by simpa using hc, hb, (Array.getElem?_eq_some_iff.1 hg).1, hn', hm, fun j u hu => ?_, fun j => by simp [World.frozen?, hg]⟩
    rw [cell_of_row w g j cur e (0, 0) hg]
    rw [← ht, List.getElem?_take] at hu
    split at hu
    · simpa using hu
    · cases hu

theorem opl_at {k n : Nat} (h : k < n) : (opl n)[k]? = some (opv k) := by
  simp [opl, h]

theorem applyE_in (k : Nat) (hk : k < 16) : applyE ((k : Int) + 8) 1 = 0 := by
  unfold applyE divE
  split
  · decide
  · rw [if_pos (by omega)]

set_option maxHeartbeats 400000 in
theorem opslaw_any (op : Int) (_ : (Lit.int .u8 op).wf = true) (w : World) :
    Calls Try.prog 6 #[.int .u8 op] w fun e w' => e = .returned (.bool true) ∧ Below w.heap.size w w' := by
  go_enter Try.func6, Try.ntmps6
  go_wp2_with (first
    | (go_at_call 10; refine (awake_any _).mono ?_; rintro e w' ⟨rfl, rfl⟩)
    | (go_at_call 14; refine (operators_any _).mono ?_; rintro e w1 ⟨v, rfl, hown, hb⟩; obtain ⟨g, cap, cur, rfl, hgr, hcs, hbg, hgs, hnc, hcm, hcell, hfz⟩ := own_at hown (by decide)))
  have hcl : ∀ j, j < 16 → w1.cell? ⟨g, j, none⟩ = some (.int .u8 ((j : Int) + 8)) := fun j hj => hcell j _ (opl_at hj)
  have HC := Lib.hid hcl
  have HF := Lib.hid hfz
  have HG := Lib.hid hgr
  have HS := Lib.hid hcs
  have HO := Lib.hid hown
  have HB := Lib.hid hb
  clear hcell hcl hfz hown hb hgr hcs
  go_loopg [19] 16 (fun n i wr => ∃ k : Nat, k + n = 16 ∧ i = .int .i64 k ∧ ∃ m, wr = w1.drewN m)
  case atStart => exact ⟨0, rfl, rfl, 0, rfl⟩
  case round =>
    obtain ⟨k, hk, rfl, m, rfl⟩ := hrel
    have Hk := Lib.hid hk
    clear hk
    by_cases hlt : k < 16
    · have hlt' : (k : Int) < 16 := by omega
      have hz0 : (0 : Int) ≤ k := by omega
      have e1 := applyE_in k hlt
      have c1 := HC.out k hlt
      by_cases hk0 : k = 0
      · have hk1 : (k : Int) ≤ 0 := by omega
        have hd : decide (0 < k) = false := by simp; omega
        clear hk0 c1
        have c1 := HC.out k hlt
        go_wp2_with ((go_at_call 12; refine (rapply_any _ _ _ _).mono ?_; rintro e w' ⟨rfl, rfl⟩))
        go_quiet (fail)
        go_wp2
        have hk := Hk.out
        go_roundg (15 - k)
        case measure => omega
        case rel => exact ⟨k + 1, by omega, by go_num, _, by first | rfl | exact World.drewN_drewN _ _ _⟩
      · obtain ⟨q, rfl⟩ : ∃ q, k = q + 1 := ⟨k - 1, by omega⟩
        have c2 := HC.out q (by omega)
        have e2 : ((q + 1 : Nat) : Int) = (q : Int) + 1 := by omega
        rw [e2] at c1 e1 hlt' hz0
        rw [e2]
        clear hk0 e2
        have e3 : IntKind.i64.wrap (q : Int) = (q : Int) := IntWalk.i64_in _ (by omega)
        have e5 : decide ((0 : Int) ≤ (q : Int)) = true := by simp
        have e6 : (q : Int) < 16 := by omega
        have e7 : decide ((q : Int) + 1 ≤ (q : Int)) = false := by simp; omega
        go_wp2_with ((go_at_call 12; refine (rapply_any _ _ _ _).mono ?_; rintro e w' ⟨rfl, rfl⟩))
        go_quiet (fail)
        go_wp2
        have hk := Hk.out
        go_roundg (15 - (q + 1))
        case measure => omega
        case rel => exact ⟨q + 2, by omega, by go_num, _, by first | rfl | exact World.drewN_drewN _ _ _⟩
    · have hge : ¬ (k : Int) < 16 := by omega
      obtain rfl : k = 16 := by have := Hk.out; omega
      clear hlt
      go_wp2_with ((go_at_call 12; refine (rapply_any _ _ _ _).mono ?_; rintro e w' ⟨rfl, rfl⟩))
      go_loopg [9, 56] 16 (fun n v i wr => ∃ k : Nat, k + n = 16 ∧ i = .int .i64 k ∧ v = .bool (hasB op k) ∧ wr = w1.drewN m)
      case atStart => exact ⟨0, rfl, rfl, by unfold hasB; congr 1; symm; simp <;> omega, rfl⟩
      case round =>
        obtain ⟨k, hk, rfl, rfl, rfl⟩ := hrel
        have Hk := Lib.hid hk
        clear hk
        by_cases hlt : k < 16
        · have hlt' : (k : Int) < 16 := by omega
          have hz0 : (0 : Int) ≤ k := by omega
          have c1 := HC.out k hlt
          have hs := hasB_succ op k
          generalize hasB op k = b at *
          have hs := Lib.hid hs
          cases b
          all_goals
            go_wp2
            have hk := Hk.out
            go_roundg (15 - k)
            case measure => omega
            case rel => exact ⟨k + 1, by omega, by go_num, by rw [hs.out]; simp, rfl⟩
        · have hge : ¬ (k : Int) < 16 := by omega
          obtain rfl : k = 16 := by have := Hk.out; omega
          have HH := Lib.hid (hasB_all op)
          clear hlt
          have hh : (hasB op 16 == (applyE op 1 == 0)) = true := by rw [hasB_all]; simp
          clear HH
          have HHH := Lib.hid hh
          go_wp2
          go_loopg [69] 16 (fun n i wr => ∃ k : Nat, k + n = 16 ∧ i = .int .i64 k ∧ ∃ cu, wr.heap[g]? = some (.cells cu 5 (0, 0)) ∧ cu.size = cap ∧ Below w.heap.size w wr)
          case atStart => exact ⟨0, rfl, rfl, cur, HG.out, HS.out, by first | exact HB.out | exact ⟨HB.out.os, HB.out.tape, HB.out.output, HB.out.size, HB.out.block⟩⟩
          case round =>
            obtain ⟨k, hk, rfl, cu, hgr, hcs, hb⟩ := hrel
            have Hk := Lib.hid hk
            have Hcs := Lib.hid hcs
            clear hk
            by_cases hlt : k < 16
            · have hlt' : (k : Int) < 16 := by omega
              have hz0 : (0 : Int) ≤ k := by omega
              obtain ⟨x, c1⟩ := row_at hgr k (by omega)
              have f1 := row_free hgr k
              have Hg := Lib.hid hgr
              have Hb := Lib.hid hb
              clear hgr hb hcs
              go_wp2
              have hk := Hk.out
              have hgr := Hg.out
              go_roundg (15 - k)
              case measure => omega
              case rel => exact ⟨k + 1, by omega, by go_num, _, row_set hgr k _, by simp [Hcs.out], Hb.out.setCell hbg _⟩
            · have hge : ¬ (k : Int) < 16 := by omega
              obtain rfl : k = 16 := by have := Hk.out; omega
              have Hb := Lib.hid hb
              clear hlt hgr hb hcs
              go_wp2_with ((go_at_call 14; refine (operators_any _).mono ?_; rintro e w2 ⟨v2, rfl, hown2, hb2⟩; obtain ⟨g2, cap2, cur2, rfl, hgr2, hcs2, hbg2, hgs2, hnc2, hcm2, hcell2, hfz2⟩ := own_at hown2 (by decide); have c2 : w2.cell? ⟨g2, 0, none⟩ = some (.int .u8 8) := hcell2 0 _ (opl_at (by decide)); have HB2 := Lib.hid hb2; have hh := HHH.out; clear hown2 hb2 hgr2 hcs2 hcell2 hfz2))
              go_ret
              exact ⟨rfl, Hb.out.trans (HB2.out.mono Hb.out.size)⟩

end Go.Proofs.Ytgoaplmmeciamaa
