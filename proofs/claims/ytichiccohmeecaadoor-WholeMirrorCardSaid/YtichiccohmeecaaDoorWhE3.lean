/- The walk of cpu.execute at the opcodes of stacks and of the two rows; execute whole. -/
import Derived.Test.YtichiccohmeecaaDoorWhE2
import Derived.Test.YtichiccohmeecaaDoorWhC3
import Derived.Test.YtichiccohmeecaaDoorWhC6
import Derived.Test.YtichiccohmeecaaDoorWhC7
import Derived.Test.YtichiccohmeecaaDoorWhC8
import Derived.Test.YtichiccohmeecaaDoorWhC9
namespace Go.Proofs.YtichiccohmeecaaDoor
open Go.RowKit

set_option maxRecDepth 100000 in
set_option maxHeartbeats 4000000 in
theorem exec_12 (F : Nat → Prop) (g : Nat) (m : Mach) (V : MV) (w : World) (h : MachW F w g m V) (a : Nat) (b c d : Int) (ha : a < 16) (hb0 : 0 ≤ b) (hb1 : b ≤ 16384) (hs0 : 0 ≤ m.sb) (hs1 : m.sb ≤ 16384) (hl : m.S.length ≤ 16384) (hL : ∀ s ∈ m.S, s.length ≤ 1000000) :
    Calls Tryd.prog 37 #[.pointer (some ⟨g, 0, none⟩), .agg #[.int .u8 12, .int .i64 (a : Int), .int .i64 b, .int .i64 c, .int .i64 d]] w (ExecR F w g (exec m ⟨12, a, b, c, d⟩)) := by
  obtain ⟨W, hW⟩ : ∃ W, W = w.alloc (.cells #[.int .u8 12, .int .i64 a, .int .i64 b, .int .i64 c, .int .i64 d] 45) := ⟨_, rfl⟩
  have hk : Blk W w.heap.size 45 #[.int .u8 12, .int .i64 a, .int .i64 b, .int .i64 c, .int .i64 d] := by rw [hW]; exact Blk.new _ _ _
  have m1 : W.cell? ⟨w.heap.size, 1, none⟩ = some (.int .i64 a) := hk.cell 1
  have m2 : W.cell? ⟨w.heap.size, 2, none⟩ = some (.int .i64 b) := hk.cell 2
  have m3 : W.cell? ⟨w.heap.size, 3, none⟩ = some (.int .i64 c) := hk.cell 3
  have m4 : W.cell? ⟨w.heap.size, 4, none⟩ = some (.int .i64 d) := hk.cell 4
  have HMW : Hid (MachW F W g m V) := Lib.hid (by rw [hW]; exact h.al _)
  have HTW : Hid (Touch F w W) := Lib.hid (by rw [hW]; exact (Touch.refl F w).alloc _)
  have m0 : W.cell? ⟨w.heap.size, 0, none⟩ = some (.int .u8 12) := hk.cell 0
  have HC : Hid (Calls Tryd.prog 53 #[.pointer (some ⟨g, 0, none⟩), .agg #[.int .u8 12, .int .i64 (a : Int), .int .i64 b, .int .i64 c, .int .i64 d]] W (ExecR F W g (exec m ⟨12, a, b, c, d⟩))) := Lib.hid (stack_12 F g m V W HMW.out a b c d ha hb0 hb1 hs0 hs1 hl hL)
  generalize exec m ⟨12, a, b, c, d⟩ = r at *
  have HWW := Lib.hid hW
  clear h hW hk hs0 hs1 hl hL
  go_enter Tryd.func37, Tryd.ntmps37
  go_wp2_with fail
  rw [← HWW.out]
  refine HC.out.mono ?_
  rintro e w5 ⟨V', rfl, ht, hm⟩
  have HR := Lib.hid (ExecR.of (e := .returned (.int .i64 r.1)) ⟨V', rfl, ht, hm⟩ HTW.out)
  clear ht hm
  go_wp2
  go_ret
  exact HR.out

set_option maxRecDepth 100000 in
set_option maxHeartbeats 4000000 in
theorem exec_13 (F : Nat → Prop) (g : Nat) (m : Mach) (V : MV) (w : World) (h : MachW F w g m V) (a : Nat) (b c d : Int) (ha : a < 16) (hb0 : 0 ≤ b) (hb1 : b ≤ 16384) (hs0 : 0 ≤ m.sb) (hs1 : m.sb ≤ 16384) (hl : m.S.length ≤ 16384) (hL : ∀ s ∈ m.S, s.length ≤ 1000000) :
    Calls Tryd.prog 37 #[.pointer (some ⟨g, 0, none⟩), .agg #[.int .u8 13, .int .i64 (a : Int), .int .i64 b, .int .i64 c, .int .i64 d]] w (ExecR F w g (exec m ⟨13, a, b, c, d⟩)) := by
  obtain ⟨W, hW⟩ : ∃ W, W = w.alloc (.cells #[.int .u8 13, .int .i64 a, .int .i64 b, .int .i64 c, .int .i64 d] 45) := ⟨_, rfl⟩
  have hk : Blk W w.heap.size 45 #[.int .u8 13, .int .i64 a, .int .i64 b, .int .i64 c, .int .i64 d] := by rw [hW]; exact Blk.new _ _ _
  have m1 : W.cell? ⟨w.heap.size, 1, none⟩ = some (.int .i64 a) := hk.cell 1
  have m2 : W.cell? ⟨w.heap.size, 2, none⟩ = some (.int .i64 b) := hk.cell 2
  have m3 : W.cell? ⟨w.heap.size, 3, none⟩ = some (.int .i64 c) := hk.cell 3
  have m4 : W.cell? ⟨w.heap.size, 4, none⟩ = some (.int .i64 d) := hk.cell 4
  have HMW : Hid (MachW F W g m V) := Lib.hid (by rw [hW]; exact h.al _)
  have HTW : Hid (Touch F w W) := Lib.hid (by rw [hW]; exact (Touch.refl F w).alloc _)
  have m0 : W.cell? ⟨w.heap.size, 0, none⟩ = some (.int .u8 13) := hk.cell 0
  have HC : Hid (Calls Tryd.prog 53 #[.pointer (some ⟨g, 0, none⟩), .agg #[.int .u8 13, .int .i64 (a : Int), .int .i64 b, .int .i64 c, .int .i64 d]] W (ExecR F W g (exec m ⟨13, a, b, c, d⟩))) := Lib.hid (stack_13 F g m V W HMW.out a b c d ha hb0 hb1 hs0 hs1 hl hL)
  generalize exec m ⟨13, a, b, c, d⟩ = r at *
  have HWW := Lib.hid hW
  clear h hW hk hs0 hs1 hl hL
  go_enter Tryd.func37, Tryd.ntmps37
  go_wp2_with fail
  rw [← HWW.out]
  refine HC.out.mono ?_
  rintro e w5 ⟨V', rfl, ht, hm⟩
  have HR := Lib.hid (ExecR.of (e := .returned (.int .i64 r.1)) ⟨V', rfl, ht, hm⟩ HTW.out)
  clear ht hm
  go_wp2
  go_ret
  exact HR.out

set_option maxRecDepth 100000 in
set_option maxHeartbeats 4000000 in
theorem exec_14 (F : Nat → Prop) (g : Nat) (m : Mach) (V : MV) (w : World) (h : MachW F w g m V) (a : Nat) (b c d : Int) (ha : a < 16) (hb0 : 0 ≤ b) (hb1 : b ≤ 16384) (hs0 : 0 ≤ m.sb) (hs1 : m.sb ≤ 16384) (hl : m.S.length ≤ 16384) (hL : ∀ s ∈ m.S, s.length ≤ 1000000) :
    Calls Tryd.prog 37 #[.pointer (some ⟨g, 0, none⟩), .agg #[.int .u8 14, .int .i64 (a : Int), .int .i64 b, .int .i64 c, .int .i64 d]] w (ExecR F w g (exec m ⟨14, a, b, c, d⟩)) := by
  obtain ⟨W, hW⟩ : ∃ W, W = w.alloc (.cells #[.int .u8 14, .int .i64 a, .int .i64 b, .int .i64 c, .int .i64 d] 45) := ⟨_, rfl⟩
  have hk : Blk W w.heap.size 45 #[.int .u8 14, .int .i64 a, .int .i64 b, .int .i64 c, .int .i64 d] := by rw [hW]; exact Blk.new _ _ _
  have m1 : W.cell? ⟨w.heap.size, 1, none⟩ = some (.int .i64 a) := hk.cell 1
  have m2 : W.cell? ⟨w.heap.size, 2, none⟩ = some (.int .i64 b) := hk.cell 2
  have m3 : W.cell? ⟨w.heap.size, 3, none⟩ = some (.int .i64 c) := hk.cell 3
  have m4 : W.cell? ⟨w.heap.size, 4, none⟩ = some (.int .i64 d) := hk.cell 4
  have HMW : Hid (MachW F W g m V) := Lib.hid (by rw [hW]; exact h.al _)
  have HTW : Hid (Touch F w W) := Lib.hid (by rw [hW]; exact (Touch.refl F w).alloc _)
  have m0 : W.cell? ⟨w.heap.size, 0, none⟩ = some (.int .u8 14) := hk.cell 0
  have HC : Hid (Calls Tryd.prog 53 #[.pointer (some ⟨g, 0, none⟩), .agg #[.int .u8 14, .int .i64 (a : Int), .int .i64 b, .int .i64 c, .int .i64 d]] W (ExecR F W g (exec m ⟨14, a, b, c, d⟩))) := Lib.hid (stack_14 F g m V W HMW.out a b c d ha hb0 hb1 hs0 hs1 hl hL)
  generalize exec m ⟨14, a, b, c, d⟩ = r at *
  have HWW := Lib.hid hW
  clear h hW hk hs0 hs1 hl hL
  go_enter Tryd.func37, Tryd.ntmps37
  go_wp2_with fail
  rw [← HWW.out]
  refine HC.out.mono ?_
  rintro e w5 ⟨V', rfl, ht, hm⟩
  have HR := Lib.hid (ExecR.of (e := .returned (.int .i64 r.1)) ⟨V', rfl, ht, hm⟩ HTW.out)
  clear ht hm
  go_wp2
  go_ret
  exact HR.out

set_option maxRecDepth 100000 in
set_option maxHeartbeats 4000000 in
theorem exec_15 (F : Nat → Prop) (g : Nat) (m : Mach) (V : MV) (w : World) (h : MachW F w g m V) (a : Nat) (b c d : Int) (ha : a < 16) (hb0 : 0 ≤ b) (hb1 : b ≤ 16384) (hs0 : 0 ≤ m.sb) (hs1 : m.sb ≤ 16384) (hl : m.S.length ≤ 16384) (hL : ∀ s ∈ m.S, s.length ≤ 1000000) :
    Calls Tryd.prog 37 #[.pointer (some ⟨g, 0, none⟩), .agg #[.int .u8 15, .int .i64 (a : Int), .int .i64 b, .int .i64 c, .int .i64 d]] w (ExecR F w g (exec m ⟨15, a, b, c, d⟩)) := by
  obtain ⟨W, hW⟩ : ∃ W, W = w.alloc (.cells #[.int .u8 15, .int .i64 a, .int .i64 b, .int .i64 c, .int .i64 d] 45) := ⟨_, rfl⟩
  have hk : Blk W w.heap.size 45 #[.int .u8 15, .int .i64 a, .int .i64 b, .int .i64 c, .int .i64 d] := by rw [hW]; exact Blk.new _ _ _
  have m1 : W.cell? ⟨w.heap.size, 1, none⟩ = some (.int .i64 a) := hk.cell 1
  have m2 : W.cell? ⟨w.heap.size, 2, none⟩ = some (.int .i64 b) := hk.cell 2
  have m3 : W.cell? ⟨w.heap.size, 3, none⟩ = some (.int .i64 c) := hk.cell 3
  have m4 : W.cell? ⟨w.heap.size, 4, none⟩ = some (.int .i64 d) := hk.cell 4
  have HMW : Hid (MachW F W g m V) := Lib.hid (by rw [hW]; exact h.al _)
  have HTW : Hid (Touch F w W) := Lib.hid (by rw [hW]; exact (Touch.refl F w).alloc _)
  have m0 : W.cell? ⟨w.heap.size, 0, none⟩ = some (.int .u8 15) := hk.cell 0
  have HC : Hid (Calls Tryd.prog 53 #[.pointer (some ⟨g, 0, none⟩), .agg #[.int .u8 15, .int .i64 (a : Int), .int .i64 b, .int .i64 c, .int .i64 d]] W (ExecR F W g (exec m ⟨15, a, b, c, d⟩))) := Lib.hid (stack_15 F g m V W HMW.out a b c d ha hb0 hb1 hs0 hs1 hl hL)
  generalize exec m ⟨15, a, b, c, d⟩ = r at *
  have HWW := Lib.hid hW
  clear h hW hk hs0 hs1 hl hL
  go_enter Tryd.func37, Tryd.ntmps37
  go_wp2_with fail
  rw [← HWW.out]
  refine HC.out.mono ?_
  rintro e w5 ⟨V', rfl, ht, hm⟩
  have HR := Lib.hid (ExecR.of (e := .returned (.int .i64 r.1)) ⟨V', rfl, ht, hm⟩ HTW.out)
  clear ht hm
  go_wp2
  go_ret
  exact HR.out

set_option maxRecDepth 100000 in
set_option maxHeartbeats 4000000 in
theorem exec_16 (F : Nat → Prop) (g : Nat) (m : Mach) (V : MV) (w : World) (h : MachW F w g m V) (a b c d : Int) (ha0 : 0 ≤ a) (ha1 : a ≤ 16384) (hb0 : 0 ≤ b) (hb1 : b ≤ 16384) (hs0 : 0 ≤ m.sb) (hs1 : m.sb ≤ 16384) (hl : m.S.length ≤ 16384) :
    Calls Tryd.prog 37 #[.pointer (some ⟨g, 0, none⟩), .agg #[.int .u8 16, .int .i64 a, .int .i64 b, .int .i64 c, .int .i64 d]] w (ExecR F w g (exec m ⟨16, a, b, c, d⟩)) := by
  obtain ⟨W, hW⟩ : ∃ W, W = w.alloc (.cells #[.int .u8 16, .int .i64 a, .int .i64 b, .int .i64 c, .int .i64 d] 45) := ⟨_, rfl⟩
  have hk : Blk W w.heap.size 45 #[.int .u8 16, .int .i64 a, .int .i64 b, .int .i64 c, .int .i64 d] := by rw [hW]; exact Blk.new _ _ _
  have m1 : W.cell? ⟨w.heap.size, 1, none⟩ = some (.int .i64 a) := hk.cell 1
  have m2 : W.cell? ⟨w.heap.size, 2, none⟩ = some (.int .i64 b) := hk.cell 2
  have m3 : W.cell? ⟨w.heap.size, 3, none⟩ = some (.int .i64 c) := hk.cell 3
  have m4 : W.cell? ⟨w.heap.size, 4, none⟩ = some (.int .i64 d) := hk.cell 4
  have HMW : Hid (MachW F W g m V) := Lib.hid (by rw [hW]; exact h.al _)
  have HTW : Hid (Touch F w W) := Lib.hid (by rw [hW]; exact (Touch.refl F w).alloc _)
  have m0 : W.cell? ⟨w.heap.size, 0, none⟩ = some (.int .u8 16) := hk.cell 0
  have HC : Hid (Calls Tryd.prog 52 #[.pointer (some ⟨g, 0, none⟩), .int .i64 a, .int .i64 b] W (ExecR F W g (exec m ⟨16, a, b, c, d⟩))) := Lib.hid (swap_any F g m V W HMW.out a b ha0 ha1 hb0 hb1 hs0 hs1 hl)
  generalize exec m ⟨16, a, b, c, d⟩ = r at *
  have HWW := Lib.hid hW
  clear h hW hk hs0 hs1 hl
  go_enter Tryd.func37, Tryd.ntmps37
  go_wp2_with fail
  rw [← HWW.out]
  refine HC.out.mono ?_
  rintro e w5 ⟨V', rfl, ht, hm⟩
  have HR := Lib.hid (ExecR.of (e := .returned (.int .i64 r.1)) ⟨V', rfl, ht, hm⟩ HTW.out)
  clear ht hm
  go_wp2
  go_ret
  exact HR.out

set_option maxRecDepth 100000 in
set_option maxHeartbeats 4000000 in
theorem exec_17 (F : Nat → Prop) (g : Nat) (m : Mach) (V : MV) (w : World) (h : MachW F w g m V) (a : Nat) (b c d : Int) (ha : a < 16) (hI : m.inp.length ≤ 4096) (hO : m.out.length ≤ 4096) :
    Calls Tryd.prog 37 #[.pointer (some ⟨g, 0, none⟩), .agg #[.int .u8 17, .int .i64 (a : Int), .int .i64 b, .int .i64 c, .int .i64 d]] w (ExecR F w g (exec m ⟨17, a, b, c, d⟩)) := by
  obtain ⟨W, hW⟩ : ∃ W, W = w.alloc (.cells #[.int .u8 17, .int .i64 a, .int .i64 b, .int .i64 c, .int .i64 d] 45) := ⟨_, rfl⟩
  have hk : Blk W w.heap.size 45 #[.int .u8 17, .int .i64 a, .int .i64 b, .int .i64 c, .int .i64 d] := by rw [hW]; exact Blk.new _ _ _
  have m1 : W.cell? ⟨w.heap.size, 1, none⟩ = some (.int .i64 a) := hk.cell 1
  have m2 : W.cell? ⟨w.heap.size, 2, none⟩ = some (.int .i64 b) := hk.cell 2
  have m3 : W.cell? ⟨w.heap.size, 3, none⟩ = some (.int .i64 c) := hk.cell 3
  have m4 : W.cell? ⟨w.heap.size, 4, none⟩ = some (.int .i64 d) := hk.cell 4
  have HMW : Hid (MachW F W g m V) := Lib.hid (by rw [hW]; exact h.al _)
  have HTW : Hid (Touch F w W) := Lib.hid (by rw [hW]; exact (Touch.refl F w).alloc _)
  have m0 : W.cell? ⟨w.heap.size, 0, none⟩ = some (.int .u8 17) := hk.cell 0
  have HC : Hid (Calls Tryd.prog 54 #[.pointer (some ⟨g, 0, none⟩), .agg #[.int .u8 17, .int .i64 (a : Int), .int .i64 b, .int .i64 c, .int .i64 d]] W (ExecR F W g (exec m ⟨17, a, b, c, d⟩))) := Lib.hid (transfer_17 F g m V W HMW.out a b c d ha hI hO)
  generalize exec m ⟨17, a, b, c, d⟩ = r at *
  have HWW := Lib.hid hW
  clear h hW hk hI hO
  go_enter Tryd.func37, Tryd.ntmps37
  go_wp2_with fail
  rw [← HWW.out]
  refine HC.out.mono ?_
  rintro e w5 ⟨V', rfl, ht, hm⟩
  have HR := Lib.hid (ExecR.of (e := .returned (.int .i64 r.1)) ⟨V', rfl, ht, hm⟩ HTW.out)
  clear ht hm
  go_wp2
  go_ret
  exact HR.out

set_option maxRecDepth 100000 in
set_option maxHeartbeats 4000000 in
theorem exec_18 (F : Nat → Prop) (g : Nat) (m : Mach) (V : MV) (w : World) (h : MachW F w g m V) (a : Nat) (b c d : Int) (ha : a < 16) (hI : m.inp.length ≤ 4096) (hO : m.out.length ≤ 4096) :
    Calls Tryd.prog 37 #[.pointer (some ⟨g, 0, none⟩), .agg #[.int .u8 18, .int .i64 (a : Int), .int .i64 b, .int .i64 c, .int .i64 d]] w (ExecR F w g (exec m ⟨18, a, b, c, d⟩)) := by
  obtain ⟨W, hW⟩ : ∃ W, W = w.alloc (.cells #[.int .u8 18, .int .i64 a, .int .i64 b, .int .i64 c, .int .i64 d] 45) := ⟨_, rfl⟩
  have hk : Blk W w.heap.size 45 #[.int .u8 18, .int .i64 a, .int .i64 b, .int .i64 c, .int .i64 d] := by rw [hW]; exact Blk.new _ _ _
  have m1 : W.cell? ⟨w.heap.size, 1, none⟩ = some (.int .i64 a) := hk.cell 1
  have m2 : W.cell? ⟨w.heap.size, 2, none⟩ = some (.int .i64 b) := hk.cell 2
  have m3 : W.cell? ⟨w.heap.size, 3, none⟩ = some (.int .i64 c) := hk.cell 3
  have m4 : W.cell? ⟨w.heap.size, 4, none⟩ = some (.int .i64 d) := hk.cell 4
  have HMW : Hid (MachW F W g m V) := Lib.hid (by rw [hW]; exact h.al _)
  have HTW : Hid (Touch F w W) := Lib.hid (by rw [hW]; exact (Touch.refl F w).alloc _)
  have m0 : W.cell? ⟨w.heap.size, 0, none⟩ = some (.int .u8 18) := hk.cell 0
  have HC : Hid (Calls Tryd.prog 54 #[.pointer (some ⟨g, 0, none⟩), .agg #[.int .u8 18, .int .i64 (a : Int), .int .i64 b, .int .i64 c, .int .i64 d]] W (ExecR F W g (exec m ⟨18, a, b, c, d⟩))) := Lib.hid (transfer_18 F g m V W HMW.out a b c d ha hI hO)
  generalize exec m ⟨18, a, b, c, d⟩ = r at *
  have HWW := Lib.hid hW
  clear h hW hk hI hO
  go_enter Tryd.func37, Tryd.ntmps37
  go_wp2_with fail
  rw [← HWW.out]
  refine HC.out.mono ?_
  rintro e w5 ⟨V', rfl, ht, hm⟩
  have HR := Lib.hid (ExecR.of (e := .returned (.int .i64 r.1)) ⟨V', rfl, ht, hm⟩ HTW.out)
  clear ht hm
  go_wp2
  go_ret
  exact HR.out

set_option maxRecDepth 100000 in
set_option maxHeartbeats 4000000 in
theorem exec_19 (F : Nat → Prop) (g : Nat) (m : Mach) (V : MV) (w : World) (h : MachW F w g m V) (a : Nat) (b c d : Int) (ha : a < 16) (hI : m.inp.length ≤ 4096) (hO : m.out.length ≤ 4096) :
    Calls Tryd.prog 37 #[.pointer (some ⟨g, 0, none⟩), .agg #[.int .u8 19, .int .i64 (a : Int), .int .i64 b, .int .i64 c, .int .i64 d]] w (ExecR F w g (exec m ⟨19, a, b, c, d⟩)) := by
  obtain ⟨W, hW⟩ : ∃ W, W = w.alloc (.cells #[.int .u8 19, .int .i64 a, .int .i64 b, .int .i64 c, .int .i64 d] 45) := ⟨_, rfl⟩
  have hk : Blk W w.heap.size 45 #[.int .u8 19, .int .i64 a, .int .i64 b, .int .i64 c, .int .i64 d] := by rw [hW]; exact Blk.new _ _ _
  have m1 : W.cell? ⟨w.heap.size, 1, none⟩ = some (.int .i64 a) := hk.cell 1
  have m2 : W.cell? ⟨w.heap.size, 2, none⟩ = some (.int .i64 b) := hk.cell 2
  have m3 : W.cell? ⟨w.heap.size, 3, none⟩ = some (.int .i64 c) := hk.cell 3
  have m4 : W.cell? ⟨w.heap.size, 4, none⟩ = some (.int .i64 d) := hk.cell 4
  have HMW : Hid (MachW F W g m V) := Lib.hid (by rw [hW]; exact h.al _)
  have HTW : Hid (Touch F w W) := Lib.hid (by rw [hW]; exact (Touch.refl F w).alloc _)
  have m0 : W.cell? ⟨w.heap.size, 0, none⟩ = some (.int .u8 19) := hk.cell 0
  have HC : Hid (Calls Tryd.prog 54 #[.pointer (some ⟨g, 0, none⟩), .agg #[.int .u8 19, .int .i64 (a : Int), .int .i64 b, .int .i64 c, .int .i64 d]] W (ExecR F W g (exec m ⟨19, a, b, c, d⟩))) := Lib.hid (transfer_19 F g m V W HMW.out a b c d ha hI hO)
  generalize exec m ⟨19, a, b, c, d⟩ = r at *
  have HWW := Lib.hid hW
  clear h hW hk hI hO
  go_enter Tryd.func37, Tryd.ntmps37
  go_wp2_with fail
  rw [← HWW.out]
  refine HC.out.mono ?_
  rintro e w5 ⟨V', rfl, ht, hm⟩
  have HR := Lib.hid (ExecR.of (e := .returned (.int .i64 r.1)) ⟨V', rfl, ht, hm⟩ HTW.out)
  clear ht hm
  go_wp2
  go_ret
  exact HR.out

set_option maxRecDepth 100000 in
set_option maxHeartbeats 4000000 in
theorem exec_20 (F : Nat → Prop) (g : Nat) (m : Mach) (V : MV) (w : World) (h : MachW F w g m V) (a : Nat) (b c d : Int) (ha : a < 16) (hI : m.inp.length ≤ 4096) (hO : m.out.length ≤ 4096) :
    Calls Tryd.prog 37 #[.pointer (some ⟨g, 0, none⟩), .agg #[.int .u8 20, .int .i64 (a : Int), .int .i64 b, .int .i64 c, .int .i64 d]] w (ExecR F w g (exec m ⟨20, a, b, c, d⟩)) := by
  obtain ⟨W, hW⟩ : ∃ W, W = w.alloc (.cells #[.int .u8 20, .int .i64 a, .int .i64 b, .int .i64 c, .int .i64 d] 45) := ⟨_, rfl⟩
  have hk : Blk W w.heap.size 45 #[.int .u8 20, .int .i64 a, .int .i64 b, .int .i64 c, .int .i64 d] := by rw [hW]; exact Blk.new _ _ _
  have m1 : W.cell? ⟨w.heap.size, 1, none⟩ = some (.int .i64 a) := hk.cell 1
  have m2 : W.cell? ⟨w.heap.size, 2, none⟩ = some (.int .i64 b) := hk.cell 2
  have m3 : W.cell? ⟨w.heap.size, 3, none⟩ = some (.int .i64 c) := hk.cell 3
  have m4 : W.cell? ⟨w.heap.size, 4, none⟩ = some (.int .i64 d) := hk.cell 4
  have HMW : Hid (MachW F W g m V) := Lib.hid (by rw [hW]; exact h.al _)
  have HTW : Hid (Touch F w W) := Lib.hid (by rw [hW]; exact (Touch.refl F w).alloc _)
  have m0 : W.cell? ⟨w.heap.size, 0, none⟩ = some (.int .u8 20) := hk.cell 0
  have HC : Hid (Calls Tryd.prog 54 #[.pointer (some ⟨g, 0, none⟩), .agg #[.int .u8 20, .int .i64 (a : Int), .int .i64 b, .int .i64 c, .int .i64 d]] W (ExecR F W g (exec m ⟨20, a, b, c, d⟩))) := Lib.hid (transfer_20 F g m V W HMW.out a b c d ha hI hO)
  generalize exec m ⟨20, a, b, c, d⟩ = r at *
  have HWW := Lib.hid hW
  clear h hW hk hI hO
  go_enter Tryd.func37, Tryd.ntmps37
  go_wp2_with fail
  rw [← HWW.out]
  refine HC.out.mono ?_
  rintro e w5 ⟨V', rfl, ht, hm⟩
  have HR := Lib.hid (ExecR.of (e := .returned (.int .i64 r.1)) ⟨V', rfl, ht, hm⟩ HTW.out)
  clear ht hm
  go_wp2
  go_ret
  exact HR.out

/-- the opcodes that execute sees -/
def plainB (op : Nat) : Bool := decide (op ≤ 21) || decide (op = 28) || decide (op = 29)
theorem regNat {x : Int} (h : regB x = true) : ∃ a : Nat, x = a ∧ a < 16 := by
  simp only [regB, Bool.and_eq_true, decide_eq_true_eq] at h
  exact ⟨x.toNat, by omega, by omega⟩
theorem num_le {x : Int} (h : numB x = true) : 0 ≤ x ∧ x ≤ 16384 := by
  simpa only [numB, Bool.and_eq_true, decide_eq_true_eq] using h
theorem exec_any (F : Nat → Prop) (g : Nat) (m : Mach) (V : MV) (w : World) (h : MachW F w g m V) (i : Ins) (hv : validI i = true) (hp : plainB i.op = true)
    (hf0 : 0 ≤ m.fp) (hf1 : m.fp ≤ 16384) (hs0 : 0 ≤ m.sb) (hs1 : m.sb ≤ 16384) (hl : m.S.length ≤ 16384) (hL : ∀ s ∈ m.S, s.length ≤ 1000000) (hI : m.inp.length ≤ 4096) (hO : m.out.length ≤ 4096) :
    Calls Tryd.prog 37 #[.pointer (some ⟨g, 0, none⟩), insV i] w (ExecR F w g (exec m i)) := by
  obtain ⟨op, a, b, c, d⟩ := i
  have hq : op < 22 ∨ op = 28 ∨ op = 29 := by
    simp only [plainB, Bool.or_eq_true, decide_eq_true_eq] at hp
    omega
  simp only [validI, Bool.and_eq_true, decide_eq_true_eq] at hv
  obtain ⟨⟨_, _⟩, hform⟩ := hv
  clear hp
  have hc : op = 0 ∨ op = 1 ∨ op = 2 ∨ op = 3 ∨ op = 4 ∨ op = 5 ∨ op = 6 ∨ op = 7 ∨ op = 8 ∨ op = 9 ∨ op = 10 ∨ op = 11 ∨ op = 12 ∨ op = 13 ∨ op = 14 ∨ op = 15 ∨ op = 16 ∨ op = 17 ∨ op = 18 ∨ op = 19 ∨ op = 20 ∨ op = 21 ∨ op = 28 ∨ op = 29 := by omega
  rcases hc with rfl | rfl | rfl | rfl | rfl | rfl | rfl | rfl | rfl | rfl | rfl | rfl | rfl | rfl | rfl | rfl | rfl | rfl | rfl | rfl | rfl | rfl | rfl | rfl <;> dsimp only [formB] at hform <;> (try simp only [Bool.and_eq_true] at hform)

  · exact exec_0 F g m V w h a b c d
  · obtain ⟨⟨h1, h2⟩, _⟩ := hform
    obtain ⟨a, rfl, ha⟩ := regNat h1
    obtain ⟨b, rfl, hb⟩ := regNat h2
    exact exec_1 F g m V w h a b c d ha hb
  · obtain ⟨⟨h1, h2⟩, _⟩ := hform
    obtain ⟨a, rfl, ha⟩ := regNat h1
    obtain ⟨b, rfl, hb⟩ := regNat h2
    exact exec_2 F g m V w h a b c d ha hb
  · obtain ⟨⟨h1, h2⟩, _⟩ := hform
    obtain ⟨a, rfl, ha⟩ := regNat h1
    obtain ⟨b, rfl, hb⟩ := regNat h2
    exact exec_3 F g m V w h a b c d ha hb
  · obtain ⟨a, rfl, ha⟩ := regNat hform
    exact exec_4 F g m V w h a b c d ha
  · obtain ⟨a, rfl, ha⟩ := regNat hform
    exact exec_5 F g m V w h a b c d ha
  · obtain ⟨a, rfl, ha⟩ := regNat hform
    exact exec_6 F g m V w h a b c d ha
  · obtain ⟨h1, h2⟩ := hform
    obtain ⟨a, rfl, ha⟩ := regNat h1
    obtain ⟨b, rfl, hb⟩ := regNat h2
    exact exec_7 F g m V w h a b c d ha hb
  · obtain ⟨a, rfl, ha⟩ := regNat hform
    exact exec_8 F g m V w h a b c d ha
  · obtain ⟨⟨⟨⟨⟨h1, h2⟩, h3⟩, _⟩, _⟩, h4⟩ := hform
    obtain ⟨a, rfl, ha⟩ := regNat h1
    obtain ⟨b, rfl, hb⟩ := regNat h2
    obtain ⟨c, rfl, hc⟩ := regNat h3
    exact exec_9 F g m V w h a b c d ha hb hc h4
  · obtain ⟨h1, h2⟩ := hform
    obtain ⟨a, rfl, ha⟩ := regNat h1
    exact exec_10 F g m V w h a b c d ha (num_le h2).1 (num_le h2).2 hf0 hf1
  · obtain ⟨⟨⟨⟨h1, h2⟩, _⟩, h3⟩, h4⟩ := hform
    obtain ⟨a, rfl, ha⟩ := regNat h1
    obtain ⟨b, rfl, hb⟩ := regNat h2
    exact exec_11 F g m V w h a b c d ha hb (num_le h3).1 (num_le h3).2 (num_le h4).1 (num_le h4).2 hf0 hf1
  · obtain ⟨h1, h2⟩ := hform
    obtain ⟨a, rfl, ha⟩ := regNat h1
    exact exec_12 F g m V w h a b c d ha (num_le h2).1 (num_le h2).2 hs0 hs1 hl hL
  · obtain ⟨h1, h2⟩ := hform
    obtain ⟨a, rfl, ha⟩ := regNat h1
    exact exec_13 F g m V w h a b c d ha (num_le h2).1 (num_le h2).2 hs0 hs1 hl hL
  · obtain ⟨h1, h2⟩ := hform
    obtain ⟨a, rfl, ha⟩ := regNat h1
    exact exec_14 F g m V w h a b c d ha (num_le h2).1 (num_le h2).2 hs0 hs1 hl hL
  · obtain ⟨h1, h2⟩ := hform
    obtain ⟨a, rfl, ha⟩ := regNat h1
    exact exec_15 F g m V w h a b c d ha (num_le h2).1 (num_le h2).2 hs0 hs1 hl hL
  · obtain ⟨h1, h2⟩ := hform
    exact exec_16 F g m V w h a b c d (num_le h1).1 (num_le h1).2 (num_le h2).1 (num_le h2).2 hs0 hs1 hl
  · obtain ⟨a, rfl, ha⟩ := regNat hform
    exact exec_17 F g m V w h a b c d ha hI hO
  · obtain ⟨a, rfl, ha⟩ := regNat hform
    exact exec_18 F g m V w h a b c d ha hI hO
  · obtain ⟨a, rfl, ha⟩ := regNat hform
    exact exec_19 F g m V w h a b c d ha hI hO
  · obtain ⟨a, rfl, ha⟩ := regNat hform
    exact exec_20 F g m V w h a b c d ha hI hO
  · obtain ⟨⟨h1, _⟩, _⟩ := hform
    obtain ⟨a, rfl, ha⟩ := regNat h1
    exact exec_21 F g m V w h a b c d ha
  · obtain ⟨h1, h2⟩ := hform
    exact exec_28 F g m V w h a b c d (num_le h1).1 (num_le h1).2 (num_le h2).1 (num_le h2).2 hf0 hf1 hs0 hs1
  · obtain ⟨h1, h2⟩ := hform
    exact exec_29 F g m V w h a b c d (num_le h1).1 (num_le h1).2 (num_le h2).1 (num_le h2).2 hf0 hf1 hs0 hs1


end Go.Proofs.YtichiccohmeecaaDoor
