/- The walk of cpu.holds and of cpu.jump. -/
import Derived.Test.YtichiccohmeecaaDoorWhE3
namespace Go.Proofs.YtichiccohmeecaaDoor
open Go.RowKit

def HoldsR (b : Bool) (w : World) (e : Ending) (w' : World) : Prop := e = .returned (.bool b) ∧ Below w.heap.size w w'
set_option maxRecDepth 100000 in
theorem holds_at (op : Nat) (ho : op = 23 ∨ op = 26 ∨ op = 24 ∨ op = 27) (F : Nat → Prop) (g : Nat) (m : Mach) (V : MV) (w : World) (h : MachW F w g m V) (a : Nat) (ha : a < 16) (b c d : Int) :
    Calls Tryd.prog 48 #[.pointer (some ⟨g, 0, none⟩), insV ⟨op, a, b, c, d⟩] w (HoldsR (holds m ⟨op, a, b, c, d⟩) w) := by
  have hg := h.blk.lt
  have ya : w.cell? ⟨g, 2 + a, none⟩ = some (.int .i64 (m.R a)) := by rw [← mf_reg m V ha]; exact h.cell (by omega)
  have a0 : (0 : Int) ≤ (a : Int) := Int.natCast_nonneg _
  have a1 : (a : Int) < 16 := by omega
  obtain ⟨x, hx⟩ : ∃ x, m.R a = x := ⟨_, rfl⟩
  rw [hx] at ya
  rcases ho with rfl | rfl | rfl | rfl
  · have e : holds m ⟨23, a, b, c, d⟩ = (x == 0) := by rw [← hx]; rfl
    rw [e]
    clear h ha hx e
    obtain ⟨B, hB⟩ : ∃ B, B = w.alloc (.cells #[.int .u8 23, .int .i64 a, .int .i64 b, .int .i64 c, .int .i64 d] 45) := ⟨_, rfl⟩
    have hbel : Below w.heap.size w B := by rw [hB]; exact below_alloc _ _
    have HB := Lib.hid hB
    have HBEL := Lib.hid hbel
    have hk : Blk B w.heap.size 45 #[.int .u8 23, .int .i64 a, .int .i64 b, .int .i64 c, .int .i64 d] := by rw [hB]; exact Blk.new _ _ _
    have m0 : B.cell? ⟨w.heap.size, 0, none⟩ = some (.int .u8 23) := hk.cell 0
    have m1 : B.cell? ⟨w.heap.size, 1, none⟩ = some (.int .i64 a) := hk.cell 1
    have ya' : B.cell? ⟨g, 2 + a, none⟩ = some (.int .i64 x) := cell_lo hbel hg ya
    clear hB hbel hk ya
    unfold insV
    dsimp only
    go_enter Tryd.func48, Tryd.ntmps48
    go_wp2_with fail
    rw [← HB.out]
    go_quiet (fail)
    go_wp2
    go_ret
    exact ⟨rfl, drewN_below HBEL.out _⟩
  · have e : holds m ⟨26, a, b, c, d⟩ = (x == 0) := by rw [← hx]; rfl
    rw [e]
    clear h ha hx e
    obtain ⟨B, hB⟩ : ∃ B, B = w.alloc (.cells #[.int .u8 26, .int .i64 a, .int .i64 b, .int .i64 c, .int .i64 d] 45) := ⟨_, rfl⟩
    have hbel : Below w.heap.size w B := by rw [hB]; exact below_alloc _ _
    have HB := Lib.hid hB
    have HBEL := Lib.hid hbel
    have hk : Blk B w.heap.size 45 #[.int .u8 26, .int .i64 a, .int .i64 b, .int .i64 c, .int .i64 d] := by rw [hB]; exact Blk.new _ _ _
    have m0 : B.cell? ⟨w.heap.size, 0, none⟩ = some (.int .u8 26) := hk.cell 0
    have m1 : B.cell? ⟨w.heap.size, 1, none⟩ = some (.int .i64 a) := hk.cell 1
    have ya' : B.cell? ⟨g, 2 + a, none⟩ = some (.int .i64 x) := cell_lo hbel hg ya
    clear hB hbel hk ya
    unfold insV
    dsimp only
    go_enter Tryd.func48, Tryd.ntmps48
    go_wp2_with fail
    rw [← HB.out]
    go_quiet (fail)
    go_wp2
    go_ret
    exact ⟨rfl, drewN_below HBEL.out _⟩
  · have e : holds m ⟨24, a, b, c, d⟩ = (x != 0) := by rw [← hx]; rfl
    rw [e]
    clear h ha hx e
    obtain ⟨B, hB⟩ : ∃ B, B = w.alloc (.cells #[.int .u8 24, .int .i64 a, .int .i64 b, .int .i64 c, .int .i64 d] 45) := ⟨_, rfl⟩
    have hbel : Below w.heap.size w B := by rw [hB]; exact below_alloc _ _
    have HB := Lib.hid hB
    have HBEL := Lib.hid hbel
    have hk : Blk B w.heap.size 45 #[.int .u8 24, .int .i64 a, .int .i64 b, .int .i64 c, .int .i64 d] := by rw [hB]; exact Blk.new _ _ _
    have m0 : B.cell? ⟨w.heap.size, 0, none⟩ = some (.int .u8 24) := hk.cell 0
    have m1 : B.cell? ⟨w.heap.size, 1, none⟩ = some (.int .i64 a) := hk.cell 1
    have ya' : B.cell? ⟨g, 2 + a, none⟩ = some (.int .i64 x) := cell_lo hbel hg ya
    clear hB hbel hk ya
    unfold insV
    dsimp only
    go_enter Tryd.func48, Tryd.ntmps48
    go_wp2_with fail
    rw [← HB.out]
    go_quiet (fail)
    go_wp2
    go_ret
    exact ⟨rfl, drewN_below HBEL.out _⟩
  · have e : holds m ⟨27, a, b, c, d⟩ = (x != 0) := by rw [← hx]; rfl
    rw [e]
    clear h ha hx e
    obtain ⟨B, hB⟩ : ∃ B, B = w.alloc (.cells #[.int .u8 27, .int .i64 a, .int .i64 b, .int .i64 c, .int .i64 d] 45) := ⟨_, rfl⟩
    have hbel : Below w.heap.size w B := by rw [hB]; exact below_alloc _ _
    have HB := Lib.hid hB
    have HBEL := Lib.hid hbel
    have hk : Blk B w.heap.size 45 #[.int .u8 27, .int .i64 a, .int .i64 b, .int .i64 c, .int .i64 d] := by rw [hB]; exact Blk.new _ _ _
    have m0 : B.cell? ⟨w.heap.size, 0, none⟩ = some (.int .u8 27) := hk.cell 0
    have m1 : B.cell? ⟨w.heap.size, 1, none⟩ = some (.int .i64 a) := hk.cell 1
    have ya' : B.cell? ⟨g, 2 + a, none⟩ = some (.int .i64 x) := cell_lo hbel hg ya
    clear hB hbel hk ya
    unfold insV
    dsimp only
    go_enter Tryd.func48, Tryd.ntmps48
    go_wp2_with fail
    rw [← HB.out]
    go_quiet (fail)
    go_wp2
    go_ret
    exact ⟨rfl, drewN_below HBEL.out _⟩

set_option maxRecDepth 100000 in
theorem holds_no (op : Nat) (ho : ¬ (op = 23 ∨ op = 26)) (ho2 : ¬ (op = 24 ∨ op = 27)) (g : Nat) (m : Mach) (w : World) (a b c d : Int) :
    Calls Tryd.prog 48 #[.pointer (some ⟨g, 0, none⟩), insV ⟨op, a, b, c, d⟩] w (HoldsR (holds m ⟨op, a, b, c, d⟩) w) := by
  have e : holds m ⟨op, a, b, c, d⟩ = true := by unfold holds; dsimp only; rw [if_neg ho, if_neg ho2]
  rw [e]
  have n1 : ((op : Int) == 23) = false := by simp; omega
  have n2 : ((op : Int) == 26) = false := by simp; omega
  have n3 : ((op : Int) == 24) = false := by simp; omega
  have n4 : ((op : Int) == 27) = false := by simp; omega
  clear ho ho2 e
  unfold insV
  dsimp only
  go_enter Tryd.func48, Tryd.ntmps48
  go_wp2
  go_ret
  exact ⟨rfl, below_alloc _ _⟩

theorem valid_arg {i : Ins} (h : validI i = true) (ho : i.op = 23 ∨ i.op = 26 ∨ i.op = 24 ∨ i.op = 27) : ∃ a : Nat, i.a = a ∧ a < 16 := by
  obtain ⟨op, a, b, c, d⟩ := i
  simp only [validI, Bool.and_eq_true] at h
  obtain ⟨_, h⟩ := h
  dsimp only at ho
  rcases ho with rfl | rfl | rfl | rfl <;> dsimp only [formB] at h <;> simp only [Bool.and_eq_true] at h <;> exact regNat h.1

theorem holds_any (F : Nat → Prop) (g : Nat) (m : Mach) (V : MV) (w : World) (h : MachW F w g m V) (i : Ins) (hv : validI i = true) :
    Calls Tryd.prog 48 #[.pointer (some ⟨g, 0, none⟩), insV i] w (HoldsR (holds m i) w) := by
  by_cases ho : i.op = 23 ∨ i.op = 26 ∨ i.op = 24 ∨ i.op = 27
  · obtain ⟨a, ha, ha16⟩ := valid_arg hv ho
    obtain ⟨op, x, b, c, d⟩ := i
    dsimp only at ho ha
    subst ha
    exact holds_at op ho F g m V w h a ha16 b c d
  · obtain ⟨op, x, b, c, d⟩ := i
    dsimp only at ho
    exact holds_no op (by omega) (by omega) g m w x b c d
theorem partner_some {C : List Ins} {k t : Int} (h : partner C k = some t) : ∃ j : Nat, t = j ∧ j < C.length ∧ validI (cAt C k) = true ∧ validI (cAt C j) = true := by
  unfold partner at h
  split at h
  · split at h
    · cases h
    · split at h
      · rename_i t0 ht hc
        injection h with h
        subst h
        simp only [Bool.and_eq_true] at hc
        obtain ⟨⟨⟨⟨h1, h2⟩, h3⟩, _⟩, _⟩ := hc
        obtain ⟨h4, h5⟩ := inR_iff.1 h1
        obtain ⟨j, rfl⟩ := Int.eq_ofNat_of_zero_le h4
        exact ⟨j, rfl, by omega, h2, h3⟩
      · cases h
  · cases h
theorem ex2 {C : List Ins} {k : Nat} {x : Ins} (h : C[k]? = some x) : cAt C k = x := (partner_eq h).2

set_option maxRecDepth 100000 in
set_option maxHeartbeats 8000000 in
theorem jump_any {P : Nat → Prop} (F : Nat → Prop) (g : Nat) (m : Mach) (V : MV) (im : Im) (vc : Value) (w : World) (h : MachW F w g m V) (hC : CodeIn P w vc im.code) (hT : TabAt w) (k : Nat) (hk : k < im.code.length) (hl : im.code.length ≤ 1000000) :
    Calls Tryd.prog 36 #[imV vc im, .pointer (some ⟨g, 0, none⟩), .int .i64 k] w (ExecR F w g (jumpP im m k)) := by
  obtain ⟨B, hB⟩ : ∃ B, B = w.alloc (.cells #[vc, .int .i64 im.mem, .int .i64 im.stacks] 24) := ⟨_, rfl⟩
  have hbel : Below w.heap.size w B := by rw [hB]; exact below_alloc _ _
  have hbx : Blk B w.heap.size 24 #[vc, .int .i64 im.mem, .int .i64 im.stacks] := by rw [hB]; exact Blk.new _ _ _
  have HM := Lib.hid (h.below hbel)
  have HT : Hid (Touch F w B) := Lib.hid (Touch.of_below hbel)
  have HCB := Lib.hid (hC.below hbel)
  have HTB := Lib.hid (hT.below hbel)
  have HB := Lib.hid hB
  have hgl : g < B.heap.size := HM.out.blk.lt
  have hbl : w.heap.size < B.heap.size := by rw [hB]; simp
  have y1 : B.cell? ⟨g, 1, none⟩ = some (.int .i64 m.dir) := HM.out.cell (by decide)
  have y0 : B.cell? ⟨g, 0, none⟩ = some (.int .i64 m.pc) := HM.out.cell (by decide)
  have f0 : B.frozen? ⟨g, 0, none⟩ = false := HM.out.blk.free 0
  have b0 := hbx.cell 0
  have b1 := hbx.cell 1
  have b2 := hbx.cell 2
  have hC' := hC.below hbel
  obtain ⟨ac, cp, rfl, hn, hm, hq⟩ := hC'
  obtain ⟨gc, o, rfl, hgc, hp, hcell⟩ := hq (by omega)
  obtain ⟨x, hx⟩ := get_lt rfl hk
  obtain ⟨c0, c1, c2, c3, c4⟩ := hcell k x hx
  have HX := Lib.hid hx
  have HC := Lib.hid hcell
  have HMX := Lib.hid hm
  have hkn : (k : Int) < (im.code.length : Int) := by omega
  have hk0 : (0 : Int) ≤ (k : Int) := Int.natCast_nonneg _
  have hn63 : im.code.length ≤ 9223372036854775807 := by omega
  have hl1 : (im.code.length : Int) ≤ 1000000 := by omega
  obtain ⟨ll, hll⟩ : ∃ ll, im.code.length = ll := ⟨_, rfl⟩
  have HLL := Lib.hid hll
  rw [hll] at b0 hkn hn63 hl1 hn HCB HB
  have ex : cAt im.code k = x := (partner_eq hx).2
  unfold jumpP
  rw [ex]
  clear h hC hB hbel hbx hm hq hcell hll ex hT
  have HPA : Hid (Calls Tryd.prog 45 #[.agg #[.slice (some ⟨gc, o, none⟩) ll cp, .int .i64 im.mem, .int .i64 im.stacks], .int .i64 (k : Int)] B (ParR (partner im.code k) B)) := Lib.hid (partner_any im.code _ _ _ k B HCB.out HTB.out)
  unfold imV
  rw [HLL.out]
  obtain ⟨mm, hmm⟩ : ∃ mm, im.mem = mm := ⟨_, rfl⟩
  obtain ⟨ss, hss⟩ : ∃ ss, im.stacks = ss := ⟨_, rfl⟩
  rw [hmm, hss] at HPA HB ⊢
  rw [hmm] at b1
  rw [hss] at b2
  clear hmm hss
  cases hpn : partner im.code k with
  | none =>
    dsimp only
    rw [hpn] at HPA
    clear hpn hx
    go_enter Tryd.func36, Tryd.ntmps36
    go_wp2_with fail
    rw [← HB.out]
    refine HPA.out.mono ?_
    rintro e w1 ⟨he, hb⟩
    obtain rfl : e = .returned (.tuple #[.int .i64 0, .bool false]) := he
    go_wp2
    go_ret
    exact exec_done (HM.out.below hb) (HT.out.below hb) rfl
  | some t =>
    dsimp only
    rw [hpn] at HPA
    have hps := partner_some hpn
    obtain ⟨j, rfl, hj, hvx, hvy⟩ := hps
    rw [ex2 hx] at hvx
    obtain ⟨y, hy⟩ := get_lt rfl hj
    obtain ⟨d0, d1, d2, d3, d4⟩ := HC.out j y hy
    rw [ex2 hy] at hvy ⊢
    have HVX := Lib.hid hvx
    have HVY := Lib.hid hvy
    have hjn : (j : Int) < (ll : Int) := by have := HLL.out; omega
    have hj0 : (0 : Int) ≤ (j : Int) := Int.natCast_nonneg _
    have HHX : Hid (∀ F' w', MachW F' w' g m V → Calls Tryd.prog 48 #[.pointer (some ⟨g, 0, none⟩), insV x] w' (HoldsR (holds m x) w')) := Lib.hid (fun F' w' h' => holds_any F' g m V w' h' x HVX.out)
    have HHY : Hid (∀ F' w', MachW F' w' g m V → Calls Tryd.prog 48 #[.pointer (some ⟨g, 0, none⟩), insV y] w' (HoldsR (holds m y) w')) := Lib.hid (fun F' w' h' => holds_any F' g m V w' h' y HVY.out)
    obtain ⟨q, hq⟩ : ∃ q, jumpB x.op = q := ⟨_, rfl⟩
    have HJ := Lib.hid hq
    rw [hq]
    obtain ⟨xo, xa, xb, xc, xd⟩ := x
    obtain ⟨yo, ya, yb, yc, yd⟩ := y
    obtain ⟨dir, hdir⟩ : ∃ dir, m.dir = dir := ⟨_, rfl⟩
    rw [hdir] at y1 ⊢
    have HDIR := Lib.hid hdir
    dsimp only at c0 c1 c2 c3 c4 d0 d1 d2 d3 d4 HJ
    unfold insV at HHX HHY
    dsimp only at HHX HHY
    clear hpn hx hy hvx hvy hdir hq hp
    cases hh : holds m ⟨xo, xa, xb, xc, xd⟩ with
    | false =>
      rw [hh] at HHX
      rw [if_pos rfl]
      clear hh
      go_enter Tryd.func36, Tryd.ntmps36
      go_wp2_with fail
      rw [← HB.out]
      refine HPA.out.mono ?_
      rintro e w1 ⟨he, hb⟩
      obtain rfl : e = .returned (.tuple #[.int .i64 (j : Int), .bool true]) := he
      have hbl0 := hbl
      have hgc0 := hgc
      have hgl0 := hgl
      have b0 := cell_lo hb hbl b0
      have b1 := cell_lo hb hbl b1
      have b2 := cell_lo hb hbl b2
      have c0 := cell_lo hb hgc c0
      have c1 := cell_lo hb hgc c1
      have c2 := cell_lo hb hgc c2
      have c3 := cell_lo hb hgc c3
      have c4 := cell_lo hb hgc c4
      have y1 := cell_lo hb hgl y1
      have y0 := cell_lo hb hgl y0
      have d0 := cell_lo hb hgc d0
      have d1 := cell_lo hb hgc d1
      have d2 := cell_lo hb hgc d2
      have d3 := cell_lo hb hgc d3
      have d4 := cell_lo hb hgc d4
      have f0 := (hb.frozen (p := ⟨g, 0, none⟩) hgl).trans f0
      have HM := Lib.hid (HM.out.below hb)
      have HT := Lib.hid (HT.out.below hb)
      have hbl := Nat.lt_of_lt_of_le hbl hb.size
      have hgc := Nat.lt_of_lt_of_le hgc hb.size
      have hgl := Nat.lt_of_lt_of_le hgl hb.size
      clear hbl0 hgc0 hgl0 hb
      go_wp2_with fail
      refine (HHX.out _ _ HM.out).mono ?_
      rintro e w2 ⟨rfl, hb⟩
      have hbl0 := hbl
      have hgc0 := hgc
      have hgl0 := hgl
      have b0 := cell_lo hb hbl b0
      have b1 := cell_lo hb hbl b1
      have b2 := cell_lo hb hbl b2
      have c0 := cell_lo hb hgc c0
      have c1 := cell_lo hb hgc c1
      have c2 := cell_lo hb hgc c2
      have c3 := cell_lo hb hgc c3
      have c4 := cell_lo hb hgc c4
      have y1 := cell_lo hb hgl y1
      have y0 := cell_lo hb hgl y0
      have d0 := cell_lo hb hgc d0
      have d1 := cell_lo hb hgc d1
      have d2 := cell_lo hb hgc d2
      have d3 := cell_lo hb hgc d3
      have d4 := cell_lo hb hgc d4
      have f0 := (hb.frozen (p := ⟨g, 0, none⟩) hgl).trans f0
      have HM := Lib.hid (HM.out.below hb)
      have HT := Lib.hid (HT.out.below hb)
      have hbl := Nat.lt_of_lt_of_le hbl hb.size
      have hgc := Nat.lt_of_lt_of_le hgc hb.size
      have hgl := Nat.lt_of_lt_of_le hgl hb.size
      clear hbl0 hgc0 hgl0 hb
      go_wp2
      go_quiet (first | (go_at_call 34; refine Calls.quiet_of_same (isjump_q HJ.out _)))
      have b0 := dcell b0 nq
      have b1 := dcell b1 nq
      have b2 := dcell b2 nq
      have c0 := dcell c0 nq
      have c1 := dcell c1 nq
      have c2 := dcell c2 nq
      have c3 := dcell c3 nq
      have c4 := dcell c4 nq
      have y1 := dcell y1 nq
      have y0 := dcell y0 nq
      have d0 := dcell d0 nq
      have d1 := dcell d1 nq
      have d2 := dcell d2 nq
      have d3 := dcell d3 nq
      have d4 := dcell d4 nq
      have f0 := dfroz f0 nq
      have HM := Lib.hid (HM.out.drewN nq)
      have HT := Lib.hid (HT.out.drewN nq)
      have hbl : w.heap.size < (w2.drewN nq).heap.size := hbl
      have hgc : gc < (w2.drewN nq).heap.size := hgc
      have hgl : g < (w2.drewN nq).heap.size := hgl
      generalize w2.drewN nq = w3 at *
      go_wp2_with fail
      refine (behind_any (k : Int) dir _ (by omega) (by omega)).mono ?_
      rintro e w4 ⟨rfl, rfl⟩
      go_wp2
      go_ret
      obtain rfl := HDIR.out
      exact exec_done (HM.out.pc _) (HT.out.of_set (.inl HM.out.own) _ _) rfl
    | true =>
      rw [hh] at HHX
      rw [if_neg (by decide)]
      clear hh
      cases hqd : (q == decide (0 < dir)) with
      | false =>
        rw [Bool.false_and, if_neg (by decide)]
        go_enter Tryd.func36, Tryd.ntmps36
        go_wp2_with fail
        rw [← HB.out]
        refine HPA.out.mono ?_
        rintro e w1 ⟨he, hb⟩
        obtain rfl : e = .returned (.tuple #[.int .i64 (j : Int), .bool true]) := he
        have hbl0 := hbl
        have hgc0 := hgc
        have hgl0 := hgl
        have b0 := cell_lo hb hbl b0
        have b1 := cell_lo hb hbl b1
        have b2 := cell_lo hb hbl b2
        have c0 := cell_lo hb hgc c0
        have c1 := cell_lo hb hgc c1
        have c2 := cell_lo hb hgc c2
        have c3 := cell_lo hb hgc c3
        have c4 := cell_lo hb hgc c4
        have y1 := cell_lo hb hgl y1
        have y0 := cell_lo hb hgl y0
        have d0 := cell_lo hb hgc d0
        have d1 := cell_lo hb hgc d1
        have d2 := cell_lo hb hgc d2
        have d3 := cell_lo hb hgc d3
        have d4 := cell_lo hb hgc d4
        have f0 := (hb.frozen (p := ⟨g, 0, none⟩) hgl).trans f0
        have HM := Lib.hid (HM.out.below hb)
        have HT := Lib.hid (HT.out.below hb)
        have hbl := Nat.lt_of_lt_of_le hbl hb.size
        have hgc := Nat.lt_of_lt_of_le hgc hb.size
        have hgl := Nat.lt_of_lt_of_le hgl hb.size
        clear hbl0 hgc0 hgl0 hb
        go_wp2_with fail
        refine (HHX.out _ _ HM.out).mono ?_
        rintro e w2 ⟨rfl, hb⟩
        have hbl0 := hbl
        have hgc0 := hgc
        have hgl0 := hgl
        have b0 := cell_lo hb hbl b0
        have b1 := cell_lo hb hbl b1
        have b2 := cell_lo hb hbl b2
        have c0 := cell_lo hb hgc c0
        have c1 := cell_lo hb hgc c1
        have c2 := cell_lo hb hgc c2
        have c3 := cell_lo hb hgc c3
        have c4 := cell_lo hb hgc c4
        have y1 := cell_lo hb hgl y1
        have y0 := cell_lo hb hgl y0
        have d0 := cell_lo hb hgc d0
        have d1 := cell_lo hb hgc d1
        have d2 := cell_lo hb hgc d2
        have d3 := cell_lo hb hgc d3
        have d4 := cell_lo hb hgc d4
        have f0 := (hb.frozen (p := ⟨g, 0, none⟩) hgl).trans f0
        have HM := Lib.hid (HM.out.below hb)
        have HT := Lib.hid (HT.out.below hb)
        have hbl := Nat.lt_of_lt_of_le hbl hb.size
        have hgc := Nat.lt_of_lt_of_le hgc hb.size
        have hgl := Nat.lt_of_lt_of_le hgl hb.size
        clear hbl0 hgc0 hgl0 hb
        go_wp2
        go_quiet (first | (go_at_call 34; refine Calls.quiet_of_same (isjump_q HJ.out _)))
        have b0 := dcell b0 nq
        have b1 := dcell b1 nq
        have b2 := dcell b2 nq
        have c0 := dcell c0 nq
        have c1 := dcell c1 nq
        have c2 := dcell c2 nq
        have c3 := dcell c3 nq
        have c4 := dcell c4 nq
        have y1 := dcell y1 nq
        have y0 := dcell y0 nq
        have d0 := dcell d0 nq
        have d1 := dcell d1 nq
        have d2 := dcell d2 nq
        have d3 := dcell d3 nq
        have d4 := dcell d4 nq
        have f0 := dfroz f0 nq
        have HM := Lib.hid (HM.out.drewN nq)
        have HT := Lib.hid (HT.out.drewN nq)
        have hbl : w.heap.size < (w2.drewN nq).heap.size := hbl
        have hgc : gc < (w2.drewN nq).heap.size := hgc
        have hgl : g < (w2.drewN nq).heap.size := hgl
        generalize w2.drewN nq = w3 at *
        go_wp2
        go_ret
        exact exec_done HM.out HT.out rfl
      | true =>
        rw [Bool.true_and]
        cases hh2 : holds m ⟨yo, ya, yb, yc, yd⟩ with
        | false =>
          rw [hh2] at HHY
          rw [if_neg (by decide)]
          clear hh2
          go_enter Tryd.func36, Tryd.ntmps36
          go_wp2_with fail
          rw [← HB.out]
          refine HPA.out.mono ?_
          rintro e w1 ⟨he, hb⟩
          obtain rfl : e = .returned (.tuple #[.int .i64 (j : Int), .bool true]) := he
          have hbl0 := hbl
          have hgc0 := hgc
          have hgl0 := hgl
          have b0 := cell_lo hb hbl b0
          have b1 := cell_lo hb hbl b1
          have b2 := cell_lo hb hbl b2
          have c0 := cell_lo hb hgc c0
          have c1 := cell_lo hb hgc c1
          have c2 := cell_lo hb hgc c2
          have c3 := cell_lo hb hgc c3
          have c4 := cell_lo hb hgc c4
          have y1 := cell_lo hb hgl y1
          have y0 := cell_lo hb hgl y0
          have d0 := cell_lo hb hgc d0
          have d1 := cell_lo hb hgc d1
          have d2 := cell_lo hb hgc d2
          have d3 := cell_lo hb hgc d3
          have d4 := cell_lo hb hgc d4
          have f0 := (hb.frozen (p := ⟨g, 0, none⟩) hgl).trans f0
          have HM := Lib.hid (HM.out.below hb)
          have HT := Lib.hid (HT.out.below hb)
          have hbl := Nat.lt_of_lt_of_le hbl hb.size
          have hgc := Nat.lt_of_lt_of_le hgc hb.size
          have hgl := Nat.lt_of_lt_of_le hgl hb.size
          clear hbl0 hgc0 hgl0 hb
          go_wp2_with fail
          refine (HHX.out _ _ HM.out).mono ?_
          rintro e w2 ⟨rfl, hb⟩
          have hbl0 := hbl
          have hgc0 := hgc
          have hgl0 := hgl
          have b0 := cell_lo hb hbl b0
          have b1 := cell_lo hb hbl b1
          have b2 := cell_lo hb hbl b2
          have c0 := cell_lo hb hgc c0
          have c1 := cell_lo hb hgc c1
          have c2 := cell_lo hb hgc c2
          have c3 := cell_lo hb hgc c3
          have c4 := cell_lo hb hgc c4
          have y1 := cell_lo hb hgl y1
          have y0 := cell_lo hb hgl y0
          have d0 := cell_lo hb hgc d0
          have d1 := cell_lo hb hgc d1
          have d2 := cell_lo hb hgc d2
          have d3 := cell_lo hb hgc d3
          have d4 := cell_lo hb hgc d4
          have f0 := (hb.frozen (p := ⟨g, 0, none⟩) hgl).trans f0
          have HM := Lib.hid (HM.out.below hb)
          have HT := Lib.hid (HT.out.below hb)
          have hbl := Nat.lt_of_lt_of_le hbl hb.size
          have hgc := Nat.lt_of_lt_of_le hgc hb.size
          have hgl := Nat.lt_of_lt_of_le hgl hb.size
          clear hbl0 hgc0 hgl0 hb
          go_wp2
          go_quiet (first | (go_at_call 34; refine Calls.quiet_of_same (isjump_q HJ.out _)))
          have b0 := dcell b0 nq
          have b1 := dcell b1 nq
          have b2 := dcell b2 nq
          have c0 := dcell c0 nq
          have c1 := dcell c1 nq
          have c2 := dcell c2 nq
          have c3 := dcell c3 nq
          have c4 := dcell c4 nq
          have y1 := dcell y1 nq
          have y0 := dcell y0 nq
          have d0 := dcell d0 nq
          have d1 := dcell d1 nq
          have d2 := dcell d2 nq
          have d3 := dcell d3 nq
          have d4 := dcell d4 nq
          have f0 := dfroz f0 nq
          have HM := Lib.hid (HM.out.drewN nq)
          have HT := Lib.hid (HT.out.drewN nq)
          have hbl : w.heap.size < (w2.drewN nq).heap.size := hbl
          have hgc : gc < (w2.drewN nq).heap.size := hgc
          have hgl : g < (w2.drewN nq).heap.size := hgl
          generalize w2.drewN nq = w3 at *
          go_wp2_with fail
          refine (HHY.out _ _ HM.out).mono ?_
          rintro e w4 ⟨rfl, hb⟩
          have hbl0 := hbl
          have hgc0 := hgc
          have hgl0 := hgl
          have b0 := cell_lo hb hbl b0
          have b1 := cell_lo hb hbl b1
          have b2 := cell_lo hb hbl b2
          have c0 := cell_lo hb hgc c0
          have c1 := cell_lo hb hgc c1
          have c2 := cell_lo hb hgc c2
          have c3 := cell_lo hb hgc c3
          have c4 := cell_lo hb hgc c4
          have y1 := cell_lo hb hgl y1
          have y0 := cell_lo hb hgl y0
          have d0 := cell_lo hb hgc d0
          have d1 := cell_lo hb hgc d1
          have d2 := cell_lo hb hgc d2
          have d3 := cell_lo hb hgc d3
          have d4 := cell_lo hb hgc d4
          have f0 := (hb.frozen (p := ⟨g, 0, none⟩) hgl).trans f0
          have HM := Lib.hid (HM.out.below hb)
          have HT := Lib.hid (HT.out.below hb)
          have hbl := Nat.lt_of_lt_of_le hbl hb.size
          have hgc := Nat.lt_of_lt_of_le hgc hb.size
          have hgl := Nat.lt_of_lt_of_le hgl hb.size
          clear hbl0 hgc0 hgl0 hb
          go_wp2
          go_ret
          exact exec_done HM.out HT.out rfl
        | true =>
          rw [hh2] at HHY
          rw [if_pos rfl]
          clear hh2
          go_enter Tryd.func36, Tryd.ntmps36
          go_wp2_with fail
          rw [← HB.out]
          refine HPA.out.mono ?_
          rintro e w1 ⟨he, hb⟩
          obtain rfl : e = .returned (.tuple #[.int .i64 (j : Int), .bool true]) := he
          have hbl0 := hbl
          have hgc0 := hgc
          have hgl0 := hgl
          have b0 := cell_lo hb hbl b0
          have b1 := cell_lo hb hbl b1
          have b2 := cell_lo hb hbl b2
          have c0 := cell_lo hb hgc c0
          have c1 := cell_lo hb hgc c1
          have c2 := cell_lo hb hgc c2
          have c3 := cell_lo hb hgc c3
          have c4 := cell_lo hb hgc c4
          have y1 := cell_lo hb hgl y1
          have y0 := cell_lo hb hgl y0
          have d0 := cell_lo hb hgc d0
          have d1 := cell_lo hb hgc d1
          have d2 := cell_lo hb hgc d2
          have d3 := cell_lo hb hgc d3
          have d4 := cell_lo hb hgc d4
          have f0 := (hb.frozen (p := ⟨g, 0, none⟩) hgl).trans f0
          have HM := Lib.hid (HM.out.below hb)
          have HT := Lib.hid (HT.out.below hb)
          have hbl := Nat.lt_of_lt_of_le hbl hb.size
          have hgc := Nat.lt_of_lt_of_le hgc hb.size
          have hgl := Nat.lt_of_lt_of_le hgl hb.size
          clear hbl0 hgc0 hgl0 hb
          go_wp2_with fail
          refine (HHX.out _ _ HM.out).mono ?_
          rintro e w2 ⟨rfl, hb⟩
          have hbl0 := hbl
          have hgc0 := hgc
          have hgl0 := hgl
          have b0 := cell_lo hb hbl b0
          have b1 := cell_lo hb hbl b1
          have b2 := cell_lo hb hbl b2
          have c0 := cell_lo hb hgc c0
          have c1 := cell_lo hb hgc c1
          have c2 := cell_lo hb hgc c2
          have c3 := cell_lo hb hgc c3
          have c4 := cell_lo hb hgc c4
          have y1 := cell_lo hb hgl y1
          have y0 := cell_lo hb hgl y0
          have d0 := cell_lo hb hgc d0
          have d1 := cell_lo hb hgc d1
          have d2 := cell_lo hb hgc d2
          have d3 := cell_lo hb hgc d3
          have d4 := cell_lo hb hgc d4
          have f0 := (hb.frozen (p := ⟨g, 0, none⟩) hgl).trans f0
          have HM := Lib.hid (HM.out.below hb)
          have HT := Lib.hid (HT.out.below hb)
          have hbl := Nat.lt_of_lt_of_le hbl hb.size
          have hgc := Nat.lt_of_lt_of_le hgc hb.size
          have hgl := Nat.lt_of_lt_of_le hgl hb.size
          clear hbl0 hgc0 hgl0 hb
          go_wp2
          go_quiet (first | (go_at_call 34; refine Calls.quiet_of_same (isjump_q HJ.out _)))
          have b0 := dcell b0 nq
          have b1 := dcell b1 nq
          have b2 := dcell b2 nq
          have c0 := dcell c0 nq
          have c1 := dcell c1 nq
          have c2 := dcell c2 nq
          have c3 := dcell c3 nq
          have c4 := dcell c4 nq
          have y1 := dcell y1 nq
          have y0 := dcell y0 nq
          have d0 := dcell d0 nq
          have d1 := dcell d1 nq
          have d2 := dcell d2 nq
          have d3 := dcell d3 nq
          have d4 := dcell d4 nq
          have f0 := dfroz f0 nq
          have HM := Lib.hid (HM.out.drewN nq)
          have HT := Lib.hid (HT.out.drewN nq)
          have hbl : w.heap.size < (w2.drewN nq).heap.size := hbl
          have hgc : gc < (w2.drewN nq).heap.size := hgc
          have hgl : g < (w2.drewN nq).heap.size := hgl
          generalize w2.drewN nq = w3 at *
          go_wp2_with fail
          refine (HHY.out _ _ HM.out).mono ?_
          rintro e w4 ⟨rfl, hb⟩
          have hbl0 := hbl
          have hgc0 := hgc
          have hgl0 := hgl
          have b0 := cell_lo hb hbl b0
          have b1 := cell_lo hb hbl b1
          have b2 := cell_lo hb hbl b2
          have c0 := cell_lo hb hgc c0
          have c1 := cell_lo hb hgc c1
          have c2 := cell_lo hb hgc c2
          have c3 := cell_lo hb hgc c3
          have c4 := cell_lo hb hgc c4
          have y1 := cell_lo hb hgl y1
          have y0 := cell_lo hb hgl y0
          have d0 := cell_lo hb hgc d0
          have d1 := cell_lo hb hgc d1
          have d2 := cell_lo hb hgc d2
          have d3 := cell_lo hb hgc d3
          have d4 := cell_lo hb hgc d4
          have f0 := (hb.frozen (p := ⟨g, 0, none⟩) hgl).trans f0
          have HM := Lib.hid (HM.out.below hb)
          have HT := Lib.hid (HT.out.below hb)
          have hbl := Nat.lt_of_lt_of_le hbl hb.size
          have hgc := Nat.lt_of_lt_of_le hgc hb.size
          have hgl := Nat.lt_of_lt_of_le hgl hb.size
          clear hbl0 hgc0 hgl0 hb
          go_wp2_with fail
          refine (behind_any (j : Int) dir _ (by omega) (by omega)).mono ?_
          rintro e w5 ⟨rfl, rfl⟩
          go_wp2
          go_ret
          obtain rfl := HDIR.out
          exact exec_done (HM.out.pc _) (HT.out.of_set (.inl HM.out.own) _ _) rfl

end Go.Proofs.YtichiccohmeecaaDoor
