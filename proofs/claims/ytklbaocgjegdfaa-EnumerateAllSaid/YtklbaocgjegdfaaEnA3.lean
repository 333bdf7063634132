/- The walk of weights: the walk. -/
import Derived.Test.YtklbaocgjegdfaaEnA0
namespace Go.Proofs.Ytklbaocgjegdfaa
open Go.RowKit Go.Shelf

set_option maxRecDepth 100000 in
set_option maxHeartbeats 8000000 in
theorem weights_any {h : Int} {B : List Bd} (hcond : Cond h B) : WeightsOK h B := by
  intro Ll cl w hll
  have hn := hcond.n
  have hh1 := hcond.h1
  have hh2 := hcond.h2
  have hmk : ∀ W, (Instr.makeSlice 57 (.int .i64 ((B.length : Int) + 1)) (.int .i64 ((B.length : Int) + 1))).run Try.prog W = .ok (.slice (some ⟨W.heap.size, 0, none⟩) (B.length + 1) (B.length + 1)) (W.alloc (.cells (wArr h B B.length) 62)) := by
    intro W
    have := make_bds (B.length + 1) (by omega) W
    rw [made_bds] at this
    have e : ((B.length + 1 : Nat) : Int) = (B.length : Int) + 1 := by omega
    rwa [e] at this
  have f1 : IntKind.i64.wrap ((B.length : Int) + 1) = (B.length : Int) + 1 := IntWalk.i64_in _ (by omega)
  have f2 : IntKind.i64.wrap ((B.length : Int) - 1) = (B.length : Int) - 1 := IntWalk.i64_in _ (by omega)
  have HLL := Lib.hid hll
  clear hll
  go_enter Try.func33, Try.ntmps33
  go_wp2
  go_loopg [6] B.length (fun q i wr => ∃ k : Nat, k = q ∧ k ≤ B.length ∧ i = .int .i64 ((k : Int) - 1) ∧ Blk wr w.heap.size 62 (wArr h B k) ∧ Below w.heap.size w wr)
  case atStart => exact ⟨B.length, rfl, Nat.le_refl _, rfl, Blk.new _ _ _, below_alloc _ _⟩
  case round =>
    obtain ⟨k, rfl, hkB, rfl, hb, hbw⟩ := hrel
    have HB := Lib.hid hb
    have HBW := Lib.hid hbw
    have hlt := hb.lt
    clear hb hbw
    cases k with
    | zero =>
      have e0 : ((0 : Nat) : Int) - 1 = -1 := by omega
      rw [e0]
      go_wp2
      go_ret
      refine ⟨w.heap.size, B.length + 1, rfl, Nat.le_refl _, hlt, HBW.out, fun i hi => ?_⟩
      obtain ⟨c1, c2⟩ := wArr_get (h := h) (B := B) (i := 0) (Nat.zero_le i) hi
      exact ⟨by rw [HB.out.cell, c1], by rw [HB.out.cell, c2]⟩
    | succ k =>
      have e0 : ((k + 1 : Nat) : Int) - 1 = (k : Int) := by omega
      rw [e0]
      obtain ⟨b, hbk⟩ : ∃ b, B[k]? = some b := ⟨_, List.getElem?_eq_getElem (by omega)⟩
      obtain ⟨b1, b2, b3, b4⟩ := hcond.b b (List.mem_of_getElem? hbk)
      obtain ⟨r1, r2, r3, r4⟩ := hcond.rest (k + 1)
      have hrw := rwP_drop (h := h) hbk
      obtain ⟨c1, c2⟩ := wArr_get (h := h) (B := B) (i := k + 1) (Nat.le_refl _) hkB
      obtain ⟨l1, l2⟩ := HLL.out k b hbk
      have hLl := World.block_lt_of_cell? w _ l1
      have l1' := cell_below HBW.out hLl l1
      have l2' := cell_below HBW.out hLl l2
      rw [← HB.out.cell] at c1 c2
      obtain ⟨Rlo, hRlo⟩ : ∃ a, (rwP h (B.drop (k + 1))).lo = a := ⟨_, rfl⟩
      obtain ⟨Rhi, hRhi⟩ : ∃ a, (rwP h (B.drop (k + 1))).hi = a := ⟨_, rfl⟩
      obtain ⟨blo, hblo⟩ : ∃ a, b.lo = a := ⟨_, rfl⟩
      obtain ⟨bhi, hbhi⟩ : ∃ a, b.hi = a := ⟨_, rfl⟩
      rw [hRlo] at c1 r1 r2 hrw
      rw [hRhi] at c2 r3 r4 hrw
      rw [hblo] at l1' b1 b2 hrw
      rw [hbhi] at l2' b3 b4 hrw
      have hset := wArr_set (h := h) (B := B) (i := k)
      rw [hrw] at hset
      have m1 : 0 ≤ bhi * h := Int.mul_nonneg b3 (by omega)
      have m2 : bhi * h ≤ 1000 * 2001 := Int.mul_le_mul b4 hh2 (by omega) (by omega)
      have u1 : IntKind.i64.wrap ((k : Int) + 1) = (k : Int) + 1 := IntWalk.i64_in _ (by omega)
      have u2 : IntKind.i64.wrap (Rlo + blo) = Rlo + blo := IntWalk.i64_in _ (by omega)
      have u3 : IntKind.i64.wrap (bhi * h) = bhi * h := IntWalk.i64_in _ (by omega)
      have u4 : IntKind.i64.wrap (Rhi + bhi * h) = Rhi + bhi * h := IntWalk.i64_in _ (by omega)
      have u5 : IntKind.i64.wrap ((k : Int) - 1) = (k : Int) - 1 := IntWalk.i64_in _ (by omega)
      have hk0 : (0 : Int) ≤ (k : Int) := Int.natCast_nonneg _
      have hkl : (k : Int) < (B.length : Int) := by omega
      have hk1 : (0 : Int) ≤ (k : Int) + 1 := by omega
      have hk2 : ((k : Int) + 1).toNat = k + 1 := by omega
      have hkl3 : ¬ (B.length : Int) + 1 ≤ (k : Int) + 1 := by omega
      have hkl4 : (k : Int) + 1 ≤ (B.length : Int) := by omega
      have hkl1 : (k : Int) < (B.length : Int) + 1 := by omega
      have hkl2 : (k : Int) + 1 < (B.length : Int) + 1 := by omega
      have z0 := HB.out.free (k * 2)
      have z1 : wr.cell? ⟨w.heap.size, k * 2, none⟩ = some (.int .i64 0) := by
        rw [HB.out.cell]
        unfold wArr
        rw [arr_get _ (by omega), if_pos (by omega)]
      have HSET := Lib.hid hset
      clear hset hrw hRlo hRhi hblo hbhi hcond l1 l2
      go_wp2_with fail
      obtain ⟨A1, hA1⟩ : ∃ A1, A1 = (wr.setCell ⟨w.heap.size, k * 2, none⟩ (.int .i64 (Rlo + blo))).drew := ⟨_, rfl⟩
      have hb1 : Blk A1 w.heap.size 62 ((wArr h B (k + 1)).setIfInBounds (k * 2) (.int .i64 (Rlo + blo))) := by rw [hA1]; exact HB.out.set _ _
      have hw1 : Below w.heap.size w A1 := by rw [hA1]; exact below_drew (HBW.out.setCell (p := ⟨w.heap.size, k * 2, none⟩) (Nat.le_refl _) _)
      have d1 : ((wr.setCell ⟨w.heap.size, k * 2, none⟩ (.int .i64 (Rlo + blo))).drew).cell? ⟨w.heap.size, (k + 1) * 2, none⟩ = some (.int .i64 Rlo) := by
        rw [← hA1, hb1.cell, Array.getElem?_setIfInBounds_ne (by omega), ← HB.out.cell]
        exact c1
      have d2 : A1.cell? ⟨w.heap.size, (k + 1) * 2 + 1, none⟩ = some (.int .i64 Rhi) := by
        rw [hb1.cell, Array.getElem?_setIfInBounds_ne (by omega), ← HB.out.cell]
        exact c2
      have n1 : ((wr.setCell ⟨w.heap.size, k * 2, none⟩ (.int .i64 (Rlo + blo))).drew).cell? ⟨Ll, k * 2, none⟩ = some (.int .i64 blo) := by
        rw [← hA1]
        have := (HLL.out k b hbk).1
        exact (hw1.cell (p := ⟨Ll, k * 2, none⟩) hLl).trans ((HBW.out.cell (p := ⟨Ll, k * 2, none⟩) hLl).symm.trans l1')
      have n2 : A1.cell? ⟨Ll, k * 2 + 1, none⟩ = some (.int .i64 bhi) := (hw1.cell (p := ⟨Ll, k * 2 + 1, none⟩) hLl).trans ((HBW.out.cell (p := ⟨Ll, k * 2 + 1, none⟩) hLl).symm.trans l2')
      have d3 : ((wr.setCell ⟨w.heap.size, k * 2, none⟩ (.int .i64 (Rlo + blo))).drew).frozen? ⟨w.heap.size, k * 2, none⟩ = false := by rw [← hA1]; exact hb1.free _
      have c1d : wr.drew.cell? ⟨w.heap.size, (k + 1) * 2, none⟩ = some (.int .i64 Rlo) := c1
      have l1d : wr.drew.cell? ⟨Ll, k * 2, none⟩ = some (.int .i64 blo) := l1'
      have z0d : wr.drew.frozen? ⟨w.heap.size, k * 2, none⟩ = false := z0
      have z1d : wr.drew.cell? ⟨w.heap.size, k * 2, none⟩ = some (.int .i64 0) := z1
      go_region_held3 (fun w' => w'.cell? ⟨w.heap.size, (k + 1) * 2, none⟩ = some (.int .i64 Rlo) ∧ w'.cell? ⟨Ll, k * 2, none⟩ = some (.int .i64 blo) ∧ w'.frozen? ⟨w.heap.size, k * 2, none⟩ = false)
        (first | exact ⟨c1, l1', z0⟩ | exact ⟨c1d, l1d, z0d⟩ | exact ⟨d1, n1, d3⟩ | go_keep) (fail)
      rw [← hA1]
      have e1 := hb1.free (k * 2 + 1)
      have e2 : A1.cell? ⟨w.heap.size, k * 2 + 1, none⟩ = some (.int .i64 0) := by
        rw [hb1.cell, Array.getElem?_setIfInBounds_ne (by omega)]
        unfold wArr
        rw [arr_get _ (by omega), if_pos (by omega)]
      obtain ⟨A2, hA2⟩ : ∃ A2, A2 = (A1.setCell ⟨w.heap.size, k * 2 + 1, none⟩ (.int .i64 (Rhi + bhi * h))).drew := ⟨_, rfl⟩
      have hb2 : Blk A2 w.heap.size 62 (wArr h B k) := by rw [hA2, ← HSET.out]; exact hb1.set _ _
      have hw2 : Below w.heap.size w A2 := by rw [hA2]; exact below_drew (hw1.setCell (p := ⟨w.heap.size, k * 2 + 1, none⟩) (Nat.le_refl _) _)
      have s1 : ((A1.setCell ⟨w.heap.size, k * 2 + 1, none⟩ (.int .i64 (Rhi + bhi * h))).drew).cell? ⟨w.heap.size, (k + 1) * 2 + 1, none⟩ = some (.int .i64 Rhi) := by
        rw [← hA2, hb2.cell]
        have hx := (wArr_get (h := h) (B := B) (i := k) (j := k + 1) (by omega) hkB).2
        have hy := (wArr_get (h := h) (B := B) (i := k + 1) (j := k + 1) (Nat.le_refl _) hkB).2
        rw [hx, ← hy, ← HB.out.cell]
        exact c2
      have s2 : ((A1.setCell ⟨w.heap.size, k * 2 + 1, none⟩ (.int .i64 (Rhi + bhi * h))).drew).cell? ⟨Ll, k * 2 + 1, none⟩ = some (.int .i64 bhi) := by
        rw [← hA2]
        exact (hw2.cell (p := ⟨Ll, k * 2 + 1, none⟩) hLl).trans ((hw1.cell (p := ⟨Ll, k * 2 + 1, none⟩) hLl).symm.trans n2)
      have s3 : ((A1.setCell ⟨w.heap.size, k * 2 + 1, none⟩ (.int .i64 (Rhi + bhi * h))).drew).frozen? ⟨w.heap.size, k * 2 + 1, none⟩ = false := by rw [← hA2]; exact hb2.free _
      have d2d : A1.drew.cell? ⟨w.heap.size, (k + 1) * 2 + 1, none⟩ = some (.int .i64 Rhi) := d2
      have n2d : A1.drew.cell? ⟨Ll, k * 2 + 1, none⟩ = some (.int .i64 bhi) := n2
      have e1d : A1.drew.frozen? ⟨w.heap.size, k * 2 + 1, none⟩ = false := e1
      have e2d : A1.drew.cell? ⟨w.heap.size, k * 2 + 1, none⟩ = some (.int .i64 0) := e2
      clear hA1 d1 d3 n1
      go_wp2
      go_region_held3 (fun w' => w'.cell? ⟨w.heap.size, (k + 1) * 2 + 1, none⟩ = some (.int .i64 Rhi) ∧ w'.cell? ⟨Ll, k * 2 + 1, none⟩ = some (.int .i64 bhi) ∧ w'.frozen? ⟨w.heap.size, k * 2 + 1, none⟩ = false)
        (first | exact ⟨d2, n2, e1⟩ | exact ⟨d2d, n2d, e1d⟩ | exact ⟨s1, s2, s3⟩ | go_keep) (fail)
      rw [← hA2]
      clear hA2 s1 s2 s3
      go_wp2
      go_roundg k
      case measure => omega
      case rel => exact ⟨k, rfl, by omega, rfl, hb2, hw2⟩
end Go.Proofs.Ytklbaocgjegdfaa
