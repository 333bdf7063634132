/- The walk of cpu.execute at the opcodes of memory and of frames. -/
import Derived.Test.YtichiccohmeecaaDoorWhC2
namespace Go.Proofs.YtichiccohmeecaaDoor
open Go.RowKit

set_option maxRecDepth 100000 in
set_option maxHeartbeats 4000000 in
theorem exec_10 (F : Nat → Prop) (g : Nat) (m : Mach) (V : MV) (w : World) (h : MachW F w g m V) (a : Nat) (b c d : Int) (ha : a < 16) (hb0 : 0 ≤ b) (hb1 : b ≤ 16384) (hf0 : 0 ≤ m.fp) (hf1 : m.fp ≤ 16384) :
    Calls Tryd.prog 37 #[.pointer (some ⟨g, 0, none⟩), .agg #[.int .u8 10, .int .i64 (a : Int), .int .i64 b, .int .i64 c, .int .i64 d]] w (ExecR F w g (exec m ⟨10, a, b, c, d⟩)) := by
  obtain ⟨W, hW⟩ : ∃ W, W = w.alloc (.cells #[.int .u8 10, .int .i64 a, .int .i64 b, .int .i64 c, .int .i64 d] 45) := ⟨_, rfl⟩
  have hk : Blk W w.heap.size 45 #[.int .u8 10, .int .i64 a, .int .i64 b, .int .i64 c, .int .i64 d] := by rw [hW]; exact Blk.new _ _ _
  have m1 : W.cell? ⟨w.heap.size, 1, none⟩ = some (.int .i64 a) := hk.cell 1
  have m2 : W.cell? ⟨w.heap.size, 2, none⟩ = some (.int .i64 b) := hk.cell 2
  have m3 : W.cell? ⟨w.heap.size, 3, none⟩ = some (.int .i64 c) := hk.cell 3
  have m4 : W.cell? ⟨w.heap.size, 4, none⟩ = some (.int .i64 d) := hk.cell 4
  have HMW : Hid (MachW F W g m V) := Lib.hid (by rw [hW]; exact h.al _)
  have HTW : Hid (Touch F w W) := Lib.hid (by rw [hW]; exact (Touch.refl F w).alloc _)
  have y21 : W.cell? ⟨g, 21, none⟩ = some (.int .i64 m.fp) := HMW.out.cell (by decide)
  rw [show exec m ⟨10, a, b, c, d⟩ = exchange m a (m.fp + b) from rfl]
  have HC : Hid (∀ w', MachW F w' g m V → Calls Tryd.prog 50 #[.pointer (some ⟨g, 0, none⟩), .int .i64 a, .int .i64 (m.fp + b)] w' (ExecR F w' g (exchange m a (m.fp + b)))) := Lib.hid (fun w' hw => exchange_any F g m V w' hw a ha _)
  obtain ⟨f, hf⟩ : ∃ f, m.fp = f := ⟨_, rfl⟩
  rw [hf] at y21 hf0 hf1 HC ⊢
  have w1 : IntKind.i64.wrap (f + b) = f + b := IntWalk.i64_in _ (by omega)
  generalize exchange m a (f + b) = r at *
  have HWW := Lib.hid hW
  clear h hW hk ha hf
  go_enter Tryd.func37, Tryd.ntmps37
  go_wp2
  rw [← HWW.out]
  go_still_tail 10, (by kernel_rfl)
  change wpList _ _ _ _ _ W.drew
  obtain ⟨WD, hWD⟩ : ∃ WD, WD = W.drew := ⟨_, rfl⟩
  rw [← hWD]
  have HMD : Hid (MachW F WD g m V) := Lib.hid (by rw [hWD]; exact HMW.out.drew)
  have HTD : Hid (Touch F w WD) := Lib.hid (by rw [hWD]; exact HTW.out.drew)
  clear hWD
  go_wp2_with fail
  refine (HC.out WD HMD.out).mono ?_
  rintro e w5 ⟨V', rfl, ht, hm⟩
  have HR := Lib.hid (ExecR.of (e := .returned (.int .i64 r.1)) ⟨V', rfl, ht, hm⟩ HTD.out)
  clear ht hm
  go_wp2
  go_ret
  exact HR.out

set_option maxRecDepth 100000 in
set_option maxHeartbeats 4000000 in
theorem exec_11 (F : Nat → Prop) (g : Nat) (m : Mach) (V : MV) (w : World) (h : MachW F w g m V) (a b : Nat) (c d : Int) (ha : a < 16) (hb : b < 16) (hc0 : 0 ≤ c) (hc1 : c ≤ 16384) (hd0 : 0 ≤ d) (hd1 : d ≤ 16384) (hf0 : 0 ≤ m.fp) (hf1 : m.fp ≤ 16384) :
    Calls Tryd.prog 37 #[.pointer (some ⟨g, 0, none⟩), .agg #[.int .u8 11, .int .i64 (a : Int), .int .i64 (b : Int), .int .i64 c, .int .i64 d]] w (ExecR F w g (exec m ⟨11, a, b, c, d⟩)) := by
  obtain ⟨W, hW⟩ : ∃ W, W = w.alloc (.cells #[.int .u8 11, .int .i64 a, .int .i64 b, .int .i64 c, .int .i64 d] 45) := ⟨_, rfl⟩
  have hk : Blk W w.heap.size 45 #[.int .u8 11, .int .i64 a, .int .i64 b, .int .i64 c, .int .i64 d] := by rw [hW]; exact Blk.new _ _ _
  have m1 : W.cell? ⟨w.heap.size, 1, none⟩ = some (.int .i64 a) := hk.cell 1
  have m2 : W.cell? ⟨w.heap.size, 2, none⟩ = some (.int .i64 b) := hk.cell 2
  have m3 : W.cell? ⟨w.heap.size, 3, none⟩ = some (.int .i64 c) := hk.cell 3
  have m4 : W.cell? ⟨w.heap.size, 4, none⟩ = some (.int .i64 d) := hk.cell 4
  have HMW : Hid (MachW F W g m V) := Lib.hid (by rw [hW]; exact h.al _)
  have HTW : Hid (Touch F w W) := Lib.hid (by rw [hW]; exact (Touch.refl F w).alloc _)
  have y21 : W.cell? ⟨g, 21, none⟩ = some (.int .i64 m.fp) := HMW.out.cell (by decide)
  have yb : W.cell? ⟨g, 2 + b, none⟩ = some (.int .i64 (m.R b)) := by rw [← mf_reg m V hb]; exact HMW.out.cell (by omega)
  have b0 : (0 : Int) ≤ (b : Int) := Int.natCast_nonneg _
  have b1 : (b : Int) < 16 := by omega
  have er : exec m ⟨11, a, b, c, d⟩ = if 0 ≤ m.R b ∧ m.R b < d then exchange m a (m.fp + c + m.R b) else (12, m) := rfl
  rw [er]
  have HC : Hid (∀ w', MachW F w' g m V → Calls Tryd.prog 50 #[.pointer (some ⟨g, 0, none⟩), .int .i64 a, .int .i64 (m.fp + c + m.R b)] w' (ExecR F w' g (exchange m a (m.fp + c + m.R b)))) := Lib.hid (fun w' hw => exchange_any F g m V w' hw a ha _)
  obtain ⟨f, hf⟩ : ∃ f, m.fp = f := ⟨_, rfl⟩
  obtain ⟨y, hy⟩ : ∃ y, m.R b = y := ⟨_, rfl⟩
  rw [hf] at y21 hf0 hf1 HC ⊢
  rw [hy] at yb HC ⊢
  by_cases hin : 0 ≤ y ∧ y < d
  · rw [if_pos hin]
    have w1 : IntKind.i64.wrap (f + c) = f + c := IntWalk.i64_in _ (by omega)
    have w2 : IntKind.i64.wrap (f + c + y) = f + c + y := IntWalk.i64_in _ (by omega)
    obtain ⟨i0, i1⟩ := hin
    generalize exchange m a (f + c + y) = r at *
    have HWW := Lib.hid hW
    clear h hW hk ha hf hb hy er
    go_enter Tryd.func37, Tryd.ntmps37
    go_wp2
    rw [← HWW.out]
    go_quiet (fail)
    go_wp2
    have m1' : (W.drewN nq).cell? ⟨w.heap.size, 1, none⟩ = some (.int .i64 a) := m1
    have m2' : (W.drewN nq).cell? ⟨w.heap.size, 2, none⟩ = some (.int .i64 b) := m2
    have m3' : (W.drewN nq).cell? ⟨w.heap.size, 3, none⟩ = some (.int .i64 c) := m3
    have y21' : (W.drewN nq).cell? ⟨g, 21, none⟩ = some (.int .i64 f) := y21
    have yb' : (W.drewN nq).cell? ⟨g, 2 + b, none⟩ = some (.int .i64 y) := yb
    obtain ⟨W2, hW2⟩ : ∃ W2, W2 = W.drewN nq := ⟨_, rfl⟩
    rw [← hW2] at m1' m2' m3' y21' yb' ⊢
    have HM2 : Hid (MachW F W2 g m V) := Lib.hid (by rw [hW2]; exact HMW.out.drewN _)
    have HT2 : Hid (Touch F w W2) := Lib.hid (by rw [hW2]; exact HTW.out.drewN _)
    clear hW2
    go_still_tail 18, (by kernel_rfl)
    change wpList _ _ _ _ _ W2.drew
    obtain ⟨WD, hWD⟩ : ∃ WD, WD = W2.drew := ⟨_, rfl⟩
    rw [← hWD]
    have HMD : Hid (MachW F WD g m V) := Lib.hid (by rw [hWD]; exact HM2.out.drew)
    have HTD : Hid (Touch F w WD) := Lib.hid (by rw [hWD]; exact HT2.out.drew)
    clear hWD
    go_wp2_with fail
    refine (HC.out WD HMD.out).mono ?_
    rintro e w5 ⟨V', rfl, ht, hm⟩
    have HR := Lib.hid (ExecR.of (e := .returned (.int .i64 r.1)) ⟨V', rfl, ht, hm⟩ HTD.out)
    clear ht hm
    go_wp2
    go_ret
    exact HR.out
  · rw [if_neg hin]
    by_cases hn : y < 0
    · have HWW := Lib.hid hW
      clear h hW hk ha hf hb hy er hin
      go_enter Tryd.func37, Tryd.ntmps37
      go_wp2
      rw [← HWW.out]
      go_quiet (fail)
      go_wp2
      go_ret
      exact exec_done (HMW.out.drewN _) (HTW.out.drewN _) rfl
    · have hge : d ≤ y := by omega
      have hge0 : 0 ≤ y := by omega
      have HWW := Lib.hid hW
      clear h hW hk ha hf hb hy er hin hn
      go_enter Tryd.func37, Tryd.ntmps37
      go_wp2
      rw [← HWW.out]
      go_quiet (fail)
      have m4' : (W.drewN nq).cell? ⟨w.heap.size, 4, none⟩ = some (.int .i64 d) := m4
      go_wp2
      go_ret
      exact exec_done (HMW.out.drewN _) (HTW.out.drewN _) rfl

set_option maxRecDepth 100000 in
set_option maxHeartbeats 4000000 in
theorem exec_28 (F : Nat → Prop) (g : Nat) (m : Mach) (V : MV) (w : World) (h : MachW F w g m V) (a b c d : Int) (ha0 : 0 ≤ a) (ha1 : a ≤ 16384) (hb0 : 0 ≤ b) (hb1 : b ≤ 16384) (hf0 : 0 ≤ m.fp) (hf1 : m.fp ≤ 16384) (hs0 : 0 ≤ m.sb) (hs1 : m.sb ≤ 16384) :
    Calls Tryd.prog 37 #[.pointer (some ⟨g, 0, none⟩), .agg #[.int .u8 28, .int .i64 a, .int .i64 b, .int .i64 c, .int .i64 d]] w (ExecR F w g (exec m ⟨28, a, b, c, d⟩)) := by
  obtain ⟨W, hW⟩ : ∃ W, W = w.alloc (.cells #[.int .u8 28, .int .i64 a, .int .i64 b, .int .i64 c, .int .i64 d] 45) := ⟨_, rfl⟩
  have hk : Blk W w.heap.size 45 #[.int .u8 28, .int .i64 a, .int .i64 b, .int .i64 c, .int .i64 d] := by rw [hW]; exact Blk.new _ _ _
  have m1 : W.cell? ⟨w.heap.size, 1, none⟩ = some (.int .i64 a) := hk.cell 1
  have m2 : W.cell? ⟨w.heap.size, 2, none⟩ = some (.int .i64 b) := hk.cell 2
  have m3 : W.cell? ⟨w.heap.size, 3, none⟩ = some (.int .i64 c) := hk.cell 3
  have m4 : W.cell? ⟨w.heap.size, 4, none⟩ = some (.int .i64 d) := hk.cell 4
  have HMW : Hid (MachW F W g m V) := Lib.hid (by rw [hW]; exact h.al _)
  have HTW : Hid (Touch F w W) := Lib.hid (by rw [hW]; exact (Touch.refl F w).alloc _)
  rw [show exec m ⟨28, a, b, c, d⟩ = shift m a b from rfl]
  have HC : Hid (Calls Tryd.prog 51 #[.pointer (some ⟨g, 0, none⟩), .int .i64 a, .int .i64 b] W (ExecR F W g (shift m a b))) := Lib.hid (shift_any F g m V W HMW.out _ _ (by omega) (by omega) (by omega) (by omega) hf0 hf1 hs0 hs1)
  generalize shift m a b = r at *
  have HWW := Lib.hid hW
  clear h hW hk hf0 hf1 hs0 hs1
  go_enter Tryd.func37, Tryd.ntmps37
  go_wp2_with fail
  rw [← HWW.out]
  refine HC.out.mono ?_
  rintro e w5 ⟨V', rfl, ht, hm⟩
  have HR := Lib.hid (ExecR.of (e := .returned (.int .i64 r.1)) ⟨V', rfl, ht, hm⟩ HTW.out)
  clear ht hm
  go_wp2
  go_ret
  exact HR.out

set_option maxRecDepth 100000 in
set_option maxHeartbeats 4000000 in
theorem exec_29 (F : Nat → Prop) (g : Nat) (m : Mach) (V : MV) (w : World) (h : MachW F w g m V) (a b c d : Int) (ha0 : 0 ≤ a) (ha1 : a ≤ 16384) (hb0 : 0 ≤ b) (hb1 : b ≤ 16384) (hf0 : 0 ≤ m.fp) (hf1 : m.fp ≤ 16384) (hs0 : 0 ≤ m.sb) (hs1 : m.sb ≤ 16384) :
    Calls Tryd.prog 37 #[.pointer (some ⟨g, 0, none⟩), .agg #[.int .u8 29, .int .i64 a, .int .i64 b, .int .i64 c, .int .i64 d]] w (ExecR F w g (exec m ⟨29, a, b, c, d⟩)) := by
  obtain ⟨W, hW⟩ : ∃ W, W = w.alloc (.cells #[.int .u8 29, .int .i64 a, .int .i64 b, .int .i64 c, .int .i64 d] 45) := ⟨_, rfl⟩
  have hk : Blk W w.heap.size 45 #[.int .u8 29, .int .i64 a, .int .i64 b, .int .i64 c, .int .i64 d] := by rw [hW]; exact Blk.new _ _ _
  have m1 : W.cell? ⟨w.heap.size, 1, none⟩ = some (.int .i64 a) := hk.cell 1
  have m2 : W.cell? ⟨w.heap.size, 2, none⟩ = some (.int .i64 b) := hk.cell 2
  have m3 : W.cell? ⟨w.heap.size, 3, none⟩ = some (.int .i64 c) := hk.cell 3
  have m4 : W.cell? ⟨w.heap.size, 4, none⟩ = some (.int .i64 d) := hk.cell 4
  have HMW : Hid (MachW F W g m V) := Lib.hid (by rw [hW]; exact h.al _)
  have HTW : Hid (Touch F w W) := Lib.hid (by rw [hW]; exact (Touch.refl F w).alloc _)
  rw [show exec m ⟨29, a, b, c, d⟩ = shift m (-a) (-b) from rfl]
  have HC : Hid (Calls Tryd.prog 51 #[.pointer (some ⟨g, 0, none⟩), .int .i64 (-a), .int .i64 (-b)] W (ExecR F W g (shift m (-a) (-b)))) := Lib.hid (shift_any F g m V W HMW.out _ _ (by omega) (by omega) (by omega) (by omega) hf0 hf1 hs0 hs1)
  generalize shift m (-a) (-b) = r at *
  have HWW := Lib.hid hW
  clear h hW hk hf0 hf1 hs0 hs1
  go_enter Tryd.func37, Tryd.ntmps37
  go_wp2_with fail
  rw [← HWW.out]
  refine HC.out.mono ?_
  rintro e w5 ⟨V', rfl, ht, hm⟩
  have HR := Lib.hid (ExecR.of (e := .returned (.int .i64 r.1)) ⟨V', rfl, ht, hm⟩ HTW.out)
  clear ht hm
  go_wp2
  go_ret
  exact HR.out


end Go.Proofs.YtichiccohmeecaaDoor
