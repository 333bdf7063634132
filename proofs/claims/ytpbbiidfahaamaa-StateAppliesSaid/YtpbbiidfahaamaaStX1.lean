/- slices.Backward over changes: the iterator's contract. -/
import Derived.RangeFuncBox
import Derived.RangeFuncNested
import Derived.RangeFuncBound
import Derived.RangeFuncCalls
import Derived.RangeFuncLeaves
import Derived.Shelf.Abstract
import Derived.Shelf.RegionOpen
import Derived.OwnWalkIn
import Derived.TacticsInMore
import Derived.LoopNIn
import Derived.LoopIn
import Derived.Test.YtpbbiidfahaamaaStX0
namespace Go.Proofs.Ytpbbiidfahaamaa
open Go.RowKit Go.Shelf

attribute [local go_sem] Oper.semAt_some

/-- what a round keeps: older memory, and the iterator's own box -/
def Kp2 (n₀ Bs : Nat) (W W' : World) : Prop := Below n₀ W W' ∧ W'.heap[Bs]? = W.heap[Bs]?
theorem Kp2.refl (n₀ Bs : Nat) (W : World) : Kp2 n₀ Bs W W := ⟨Below.refl _ _, rfl⟩
theorem Kp2.trans {n₀ Bs : Nat} {A B C : World} (h1 : Kp2 n₀ Bs A B) (h2 : Kp2 n₀ Bs B C) : Kp2 n₀ Bs A C := ⟨h1.1.trans h2.1, h2.2.trans h1.2⟩
theorem Kp2.cell {n₀ Bs : Nat} {W W' : World} (h : Kp2 n₀ Bs W W') : W'.cell? ⟨Bs, 0, none⟩ = W.cell? ⟨Bs, 0, none⟩ := World.cell?_of_block (w := W) h.2

def chg0 : Chg := ⟨0, 0, 0, 0⟩
def encC (x : Nat × Chg) : Array Value := #[.int .i64 (x.1 : Int), .agg #[.int .i64 x.2.cell, .int .i64 x.2.pos, .int .i64 x.2.old, .int .i64 x.2.new]]
/-- what has come when k rounds are over -/
def back (C : List Chg) (k : Nat) : List (Nat × Chg) := (List.range k).map (fun j => (C.length - 1 - j, C.getD (C.length - 1 - j) chg0))
theorem back_succ (C : List Chg) (k : Nat) : back C (k + 1) = back C k ++ [(C.length - 1 - k, C.getD (C.length - 1 - k) chg0)] := by simp [back, List.range_succ]
theorem back_len (C : List Chg) (k : Nat) : (back C k).length = k := by simp [back]

set_option maxRecDepth 100000 in
set_option maxHeartbeats 2000000 in
theorem backward1_in (F : Fence) (n : Nat) (hf : F.fn 59) (hro : F.round = none) (hn : 1 ≤ n) (l Bs n₀ b off cap : Nat) (C : List Chg) (hC : C.length ≤ 1000000) (hb : b < n₀) (J Jx : List (Nat × Chg) → World → Prop)
    (hY : ∀ pre x W, J pre W → pre.length < C.length → YieldAt F (n - 1) Try.prog l (encC x) W fun e W' =>
      (e = .returned (.bool true) ∧ J (pre ++ [x]) W' ∧ Kp2 n₀ Bs W W') ∨ (e = .returned (.bool false) ∧ Jx (pre ++ [x]) W'))
    (W : World) (hBs : W.cell? ⟨Bs, 0, none⟩ = some (.slice (some ⟨b, off, none⟩) C.length cap))
    (hc : ∀ j c, C[j]? = some c → W.cell? ⟨b, off + j * 4, none⟩ = some (.int .i64 c.cell) ∧ W.cell? ⟨b, off + j * 4 + 1, none⟩ = some (.int .i64 c.pos) ∧ W.cell? ⟨b, off + j * 4 + 2, none⟩ = some (.int .i64 c.old) ∧ W.cell? ⟨b, off + j * 4 + 3, none⟩ = some (.int .i64 c.new)) (h0 : J [] W) :
    CallsIn F n Try.prog 59 #[.func (.yield l) #[] #[], .pointer (some ⟨Bs, 0, none⟩)] W fun e W' => (∃ v, e = .returned v) ∧
      ((∃ ys, ys = back C C.length ∧ J ys W') ∨ (∃ pre, (∃ k, k ≤ C.length ∧ pre = back C k) ∧ Jx pre W')) := by
  have HC := Lib.hid hc
  have HY := Lib.hid hY
  clear hc hY
  obtain ⟨m, hm⟩ : ∃ m, m = C.length := ⟨_, rfl⟩
  rw [← hm] at hBs hC
  have HM := Lib.hid hm
  have hm0 : (m : Int) ≤ 1000000 := by omega
  clear hm
  refine callsIn_of_wp Try.func59 rfl hf ?_ hro
  simp only [Try.ntmps59, List.size_toArray, List.length_cons, List.length_nil, Nat.reduceAdd, Nat.reduceSub, Array.replicate_succ, Array.replicate_zero, List.push_toArray, List.append_toArray, List.nil_append, List.cons_append]
  gi_wp2
  gi_loopw [3] (fun i wr => ∃ k : Nat, k ≤ m ∧ i = .int .i64 ((m : Int) - 1 - k) ∧ J (back C k) wr ∧ Kp2 n₀ Bs W wr)
    (fun i _ => (intOf i + 1).toNat)
  case atStart => exact ⟨0, Nat.zero_le _, by congr 1; omega, h0, Kp2.refl _ _ _⟩
  case round =>
    obtain ⟨k, hk, rfl, hJs, hnx⟩ := hrel
    have hBs' := hnx.cell.trans hBs
    by_cases hlt : k < m
    · have hlen := HM.out
      obtain ⟨j, hj⟩ : ∃ j, j = m - 1 - k := ⟨_, rfl⟩
      have hjl : j < C.length := by omega
      have hx : C[j]? = some (C.getD j chg0) := by rw [List.getD_eq_getElem?_getD, List.getElem?_eq_getElem hjl]; rfl
      obtain ⟨q0, q1, q2, q3⟩ := HC.out j _ hx
      have m0 := (hnx.1.cell (p := ⟨b, off + j * 4, none⟩) hb).trans q0
      have m1 := (hnx.1.cell (p := ⟨b, off + j * 4 + 1, none⟩) hb).trans q1
      have m2 := (hnx.1.cell (p := ⟨b, off + j * 4 + 2, none⟩) hb).trans q2
      have m3 := (hnx.1.cell (p := ⟨b, off + j * 4 + 3, none⟩) hb).trans q3
      have hbk : back C (k + 1) = back C k ++ [(j, C.getD j chg0)] := by rw [back_succ, ← hlen, ← hj]
      generalize C.getD j chg0 = x at *
      obtain ⟨fn, tmps, assign, body, hy, hR⟩ := HY.out _ (j, x) wr hJs (by rw [back_len]; omega)
      simp only [encC] at hy
      have e1 : (m : Int) - 1 - (k : Int) = (j : Int) := by omega
      rw [e1]
      have hj0 : (0 : Int) ≤ (j : Int) := Int.natCast_nonneg _
      have hjm : (j : Int) < (m : Int) := by omega
      have HBK := Lib.hid hbk
      obtain ⟨x0, x1, x2, x3⟩ := x
      simp only at m0 m1 m2 m3
      have Hj := Lib.hid hj
      clear q0 q1 q2 q3 hx hbk hj hlen e1
      gi_wp2
      refine hR.mono ?_
      rintro e W3 (⟨rfl, hJ3, hk3⟩ | ⟨rfl, hJx3⟩)
      · gi_wp2
        go_roundw
        case rel =>
          refine ⟨k + 1, by omega, ?_, by rw [HBK.out]; exact hJ3, hnx.trans hk3⟩
          have := Hj.out
          congr 1
          omega
        case measure =>
          simp [intOf]
          try omega
      · gi_wp2
        refine bodyPost_ret (results_none rfl _ _ _) rfl ?_
        exact ⟨⟨_, rfl⟩, .inr ⟨_, ⟨k + 1, by rw [← HM.out]; omega, HBK.out.symm⟩, hJx3⟩⟩
    · have hkm : m = k := by omega
      subst hkm
      have e1 : (m : Int) - 1 - (m : Int) = -1 := by omega
      rw [e1]
      gi_wp2
      go_end0
      exact ⟨⟨_, rfl⟩, .inl ⟨_, by rw [HM.out], hJs⟩⟩

set_option maxRecDepth 100000 in
set_option maxHeartbeats 1000000 in
theorem backward1_nil_in (F : Fence) (n : Nat) (hf : F.fn 59) (hro : F.round = none) (l Bs cap : Nat) (a : Option Addr) (J : List (Nat × Chg) → World → Prop) (W : World) (hBs : W.cell? ⟨Bs, 0, none⟩ = some (.slice a 0 cap)) (h0 : J [] W) :
    CallsIn F n Try.prog 59 #[.func (.yield l) #[] #[], .pointer (some ⟨Bs, 0, none⟩)] W fun e W' => (∃ v, e = .returned v) ∧ J [] W' := by
  refine callsIn_of_wp Try.func59 rfl hf ?_ hro
  simp only [Try.ntmps59, List.size_toArray, List.length_cons, List.length_nil, Nat.reduceAdd, Nat.reduceSub, Array.replicate_succ, Array.replicate_zero, List.push_toArray, List.append_toArray, List.nil_append, List.cons_append]
  gi_wp2
  gi_loopw [3] (fun i wr => i = .int .i64 (-1) ∧ J [] wr) (fun _ _ => 0)
  case atStart => exact ⟨rfl, h0⟩
  case round =>
    obtain ⟨rfl, hJs⟩ := hrel
    gi_wp2
    go_end0
    exact ⟨⟨_, rfl⟩, hJs⟩

set_option maxHeartbeats 1000000 in
theorem backward_in (F : Fence) (n : Nat) (hf : F.fn 54) (hro : F.round = none) (a : Option Addr) (len cap : Nat) (w : World) :
    CallsIn F n Try.prog 54 #[.slice a len cap] w fun e w' => e = .returned (.func (.func 59) #[] #[.pointer (some ⟨w.heap.size, 0, none⟩)]) ∧ w' = w.alloc (.cells #[.slice a len cap] 30) := by
  refine callsIn_of_wp Try.func54 rfl hf ?_ hro
  simp only [Try.ntmps54, List.size_toArray, List.length_cons, List.length_nil, Nat.reduceAdd, Nat.reduceSub, Array.replicate_succ, Array.replicate_zero, List.push_toArray, List.append_toArray, List.nil_append, List.cons_append]
  gi_wp2
  go_ret
  exact ⟨rfl, rfl⟩

theorem backward_stops (F : Fence) (n : Nat) (hf : F.fn 59) (hro : F.round = none) (hn : 1 ≤ n) (Bs n₀ : Nat) (a : Option Addr) (cap : Nat) (C : List Chg) (hC : C.length ≤ 1000000) (W0 w : World) (hBs : Bs < w.heap.size)
    (hc : w.cell? ⟨Bs, 0, none⟩ = some (.slice a C.length cap)) (hI : ChgsAt W0 (.slice a C.length cap) C) (hb : Below W0.heap.size W0 w) (hW0 : W0.heap.size ≤ n₀) :
    SeqStopsK F n Try.prog 59 #[.pointer (some ⟨Bs, 0, none⟩)] encC (Kp2 n₀ Bs) (fun ys => ys = back C C.length) (fun pre => ∃ k, k ≤ C.length ∧ pre = back C k) C.length w := fun l J Jx W hW _ _ hY h0 => by
  have hc' := (hW.cell (p := ⟨Bs, 0, none⟩) hBs).trans hc
  rcases Nat.eq_zero_or_pos C.length with h | h
  · have hC0 : C = [] := List.eq_nil_of_length_eq_zero h
    subst hC0
    exact (backward1_nil_in F n hf hro l Bs cap a J W hc' h0).mono fun e W' ⟨he, hj⟩ => ⟨he, .inl ⟨_, rfl, hj⟩⟩
  · obtain ⟨⟨a', c', he, _, _, hq⟩, _⟩ := hI
    injection he with e1 e2 e3
    subst e1 e3
    obtain ⟨g, o, rfl, hg, hq⟩ := hq h
    have hbW : Below W0.heap.size W0 W := hb.trans (hW.mono hb.size)
    exact backward1_in F n hf hro hn l Bs n₀ g o cap C hC (by omega) J Jx hY W hc' (fun j c hj => by
      obtain ⟨q0, q1, q2, q3⟩ := hq j c hj
      exact ⟨cell_below hbW hg q0, cell_below hbW hg q1, cell_below hbW hg q2, cell_below hbW hg q3⟩) h0

end Go.Proofs.Ytpbbiidfahaamaa
