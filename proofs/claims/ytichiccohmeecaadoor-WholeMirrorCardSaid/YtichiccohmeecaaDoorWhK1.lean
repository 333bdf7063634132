/- The walk of cpu.step. -/
import Derived.Test.YtichiccohmeecaaDoorWhJ3
import Derived.Test.YtichiccohmeecaaDoorWhP5
namespace Go.Proofs.YtichiccohmeecaaDoor
open Go.RowKit

structure StepH (P F : Nat → Prop) (g : Nat) (m : Mach) (V : MV) (im : Im) (vc : Value) (w : World) : Prop where
  mach : MachW F w g m V
  code : CodeIn P w vc im.code
  tab : TabAt w
  fit : Fit im m
  good : Good im.code
  mem : im.mem ≤ 16384
  stk : im.stacks ≤ 16384
  len : ∀ s ∈ m.S, s.length ≤ 1000000

theorem exec_keep (m : Mach) (i : Ins) : (exec m i).2.pc = m.pc ∧ (exec m i).2.dir = m.dir := by
  have h := exec_frame m m.pc m.dir i
  rw [show ({ m with pc := m.pc, dir := m.dir } : Mach) = m from rfl] at h
  rw [h]
  exact ⟨rfl, rfl⟩
theorem plain_is {op : Nat} (h : plainO op) : plainB op = true := by
  unfold plainO at h
  simp only [plainB, Bool.or_eq_true, decide_eq_true_eq]
  omega
theorem here_pos {m : Mach} (hd : m.dir = 1) : here m = m.pc := by unfold here; rw [hd]; rfl
theorem here_neg {m : Mach} (hd : m.dir = -1) : here m = m.pc - 1 := by unfold here; rw [hd]; rfl

set_option maxRecDepth 100000 in
set_option maxHeartbeats 4000000 in
theorem step_out {P F : Nat → Prop} {g : Nat} {m : Mach} {V : MV} {im : Im} {vc : Value} {w : World} (h : StepH P F g m V im vc w) (hr : inR im.code (here m) = false) :
    Calls Tryd.prog 17 #[imV vc im, .pointer (some ⟨g, 0, none⟩)] w (ExecR F w g (stepP im m)) := by
  have e : stepP im m = (4, m) := by unfold stepP; dsimp only; rw [if_pos hr]
  rw [e]
  have hn : ¬ (0 ≤ here m ∧ here m < im.code.length) := fun h' => by rw [inR_iff.2 h'] at hr; cases hr
  have hM := h.mach
  obtain ⟨ac, cp, rfl, hc1, hc2, hq⟩ := h.code
  have y0 : w.cell? ⟨g, 0, none⟩ = some (.int .i64 m.pc) := hM.cell (by decide)
  have y1 : w.cell? ⟨g, 1, none⟩ = some (.int .i64 m.dir) := hM.cell (by decide)
  have hgl := hM.blk.lt
  have hl := h.good.len
  have p0 := h.fit.pc0
  have p1 := h.fit.pc1
  have HMB := Lib.hid (hM.al (.cells #[.slice ac im.code.length cp, .int .i64 im.mem, .int .i64 im.stacks] 24))
  have HTB := Lib.hid ((Touch.refl F w).alloc (.cells #[.slice ac im.code.length cp, .int .i64 im.mem, .int .i64 im.stacks] 24))
  obtain ⟨ll, hll⟩ : ∃ ll, im.code.length = ll := ⟨_, rfl⟩
  have hl0 : (0 : Int) ≤ (ll : Int) := Int.natCast_nonneg _
  unfold imV
  rw [hll] at hn hl p1 HMB HTB ⊢
  obtain ⟨mm, hmm⟩ : ∃ mm, im.mem = mm := ⟨_, rfl⟩
  obtain ⟨ss, hss⟩ : ∃ ss, im.stacks = ss := ⟨_, rfl⟩
  rw [hmm, hss] at HMB HTB ⊢
  rcases h.fit.dir with hd | hd
  · rw [here_pos hd] at hn
    rw [hd] at y1
    have hp : m.pc = ll := by omega
    rw [hp] at y0
    have hl1 : (ll : Int) ≤ 65536 := by omega
    clear h hr e hn hM hc1 hc2 hq hl p0 p1 hll hmm hss hd hp
    go_enter Tryd.func17, Tryd.ntmps17
    go_wp2
    go_ret
    exact exec_done HMB.out HTB.out rfl
  · rw [here_neg hd] at hn
    rw [hd] at y1
    have hp : m.pc = 0 := by omega
    rw [hp] at y0
    clear h hr e hn hM hc1 hc2 hq hl p0 p1 hll hmm hss hd hp
    go_enter Tryd.func17, Tryd.ntmps17
    go_wp2
    go_ret
    exact exec_done HMB.out HTB.out rfl

set_option maxRecDepth 100000 in
set_option maxHeartbeats 16000000 in
theorem step_in {P F : Nat → Prop} {g : Nat} {m : Mach} {V : MV} {im : Im} {vc : Value} {w : World} (h : StepH P F g m V im vc w) (k : Nat) (hk : here m = k) (hr : k < im.code.length) :
    Calls Tryd.prog 17 #[imV vc im, .pointer (some ⟨g, 0, none⟩)] w (ExecR F w g (stepP im m)) := by
  have hiR : inR im.code k = true := inR_iff.2 ⟨by omega, by omega⟩
  have HH := Lib.hid h
  have hM := h.mach
  have hcode := h.code
  obtain ⟨ac, cp, rfl, hc1, hc2, hq⟩ := h.code
  obtain ⟨gc, o, rfl, hgc, hp, hcell⟩ := hq (by omega)
  obtain ⟨x, hx⟩ := get_lt rfl hr
  obtain ⟨c0, c1, c2, c3, c4⟩ := hcell k x hx
  have ex : cAt im.code k = x := ex2 hx
  have hval : validI x = true := by rw [← ex]; exact h.good.valid k hiR
  have y0 : w.cell? ⟨g, 0, none⟩ = some (.int .i64 m.pc) := hM.cell (by decide)
  have y1 : w.cell? ⟨g, 1, none⟩ = some (.int .i64 m.dir) := hM.cell (by decide)
  have hgl := hM.blk.lt
  have hl := h.good.len
  have p0 := h.fit.pc0
  have p1 := h.fit.pc1
  obtain ⟨ll, hll⟩ : ∃ ll, im.code.length = ll := ⟨_, rfl⟩
  have HLL := Lib.hid hll
  have hl0 : (0 : Int) ≤ (ll : Int) := Int.natCast_nonneg _
  unfold imV
  rw [hll] at hc1 hl p1 hr hcode ⊢
  obtain ⟨mm, hmm⟩ : ∃ mm, im.mem = mm := ⟨_, rfl⟩
  obtain ⟨ss, hss⟩ : ∃ ss, im.stacks = ss := ⟨_, rfl⟩
  have HMM := Lib.hid hmm
  have HSS := Lib.hid hss
  rw [hmm, hss]
  have hk0 : (0 : Int) ≤ (k : Int) := Int.natCast_nonneg _
  have hkn : (k : Int) < (ll : Int) := by omega
  have hl1 : (ll : Int) ≤ 65536 := by omega
  have hn63 : ll ≤ 9223372036854775807 := by omega
  have HK := Lib.hid hk
  have HIR := Lib.hid hiR
  have HX := Lib.hid ex
  have HVX := Lib.hid hval
  have HCW := Lib.hid hcode
  obtain ⟨xo, xa, xb, xc, xd⟩ := x
  dsimp only at c0 c1 c2 c3 c4
  obtain ⟨pc, hpc⟩ : ∃ pc, m.pc = pc := ⟨_, rfl⟩
  have HPC := Lib.hid hpc
  rw [hpc] at y0 p0 p1
  have hd := h.fit.dir
  by_cases h34 : xo = 34
  · subst h34
    have e : stepP im m = (4, m) := by
      unfold stepP
      rw [hk]
      dsimp only
      rw [if_neg (by rw [hiR]; decide), if_pos (by rw [ex])]
    rw [e]
    have HMB := Lib.hid (hM.al (.cells #[.slice (some ⟨gc, o, none⟩) ll cp, .int .i64 mm, .int .i64 ss] 24))
    have HTB := Lib.hid ((Touch.refl F w).alloc (.cells #[.slice (some ⟨gc, o, none⟩) ll cp, .int .i64 mm, .int .i64 ss] 24))
    have c0 : w.cell? ⟨gc, o + k * 5, none⟩ = some (.int .u8 34) := c0
    rcases hd with hd | hd
    · have : pc = (k : Int) := by rw [← hpc, ← here_pos hd]; exact hk
      subst this
      rw [hd] at y1
      clear e h hk hr hiR hM hcode hc1 hc2 hq hcell hx ex hval hl p0 p1 hll hmm hss hpc hd hp
      go_enter Tryd.func17, Tryd.ntmps17
      go_wp2
      go_ret
      exact exec_done HMB.out HTB.out rfl
    · have ek : pc - 1 = (k : Int) := by rw [← hpc, ← here_neg hd]; exact hk
      rw [hd] at y1
      clear e h hk hr hiR hM hcode hc1 hc2 hq hcell hx ex hval hl hll hmm hss hpc hd hp
      go_enter Tryd.func17, Tryd.ntmps17
      go_wp2
      go_ret
      exact exec_done HMB.out HTB.out rfl
  have n34 : ((xo : Int) == 34) = false := by simp; omega
  have es := step_of hk hiR (by rw [ex]; exact h34)
  rw [ex] at es
  dsimp only at es
  obtain ⟨X, hX⟩ : ∃ X, X = (w.alloc (.cells #[.slice (some ⟨gc, o, none⟩) ll cp, .int .i64 mm, .int .i64 ss] 24)).alloc (.cells #[.int .u8 xo, .int .i64 xa, .int .i64 xb, .int .i64 xc, .int .i64 xd] 45) := ⟨_, rfl⟩
  have hbx : Below w.heap.size w X := by rw [hX]; exact ((Below.refl _ _).alloc (Nat.le_refl _) _).alloc (by simp) _
  have b0 : X.cell? ⟨w.heap.size, 0, none⟩ = some (.slice (some ⟨gc, o, none⟩) ll cp) := by rw [hX]; exact cell_lo (below_alloc _ _) (by simp) ((Blk.new w 24 #[.slice (some ⟨gc, o, none⟩) ll cp, .int .i64 mm, .int .i64 ss]).cell 0)
  have b1 : X.cell? ⟨w.heap.size, 1, none⟩ = some (.int .i64 mm) := by rw [hX]; exact cell_lo (below_alloc _ _) (by simp) ((Blk.new w 24 #[.slice (some ⟨gc, o, none⟩) ll cp, .int .i64 mm, .int .i64 ss]).cell 1)
  have b2 : X.cell? ⟨w.heap.size, 2, none⟩ = some (.int .i64 ss) := by rw [hX]; exact cell_lo (below_alloc _ _) (by simp) ((Blk.new w 24 #[.slice (some ⟨gc, o, none⟩) ll cp, .int .i64 mm, .int .i64 ss]).cell 2)
  have hs5 : Blk X (w.heap.size + 1) 45 #[.int .u8 xo, .int .i64 xa, .int .i64 xb, .int .i64 xc, .int .i64 xd] := by
    have := Blk.new (w.alloc (.cells #[.slice (some ⟨gc, o, none⟩) ll cp, .int .i64 mm, .int .i64 ss] 24)) 45 #[.int .u8 xo, .int .i64 xa, .int .i64 xb, .int .i64 xc, .int .i64 xd]
    rw [hX]
    simpa using this
  have HS5 := Lib.hid hs5
  have HBX := Lib.hid hbx
  have HTX := Lib.hid (h.tab.below hbx)
  have hbl : w.heap.size < X.heap.size := by rw [hX]; simp; omega
  have hbl1 : w.heap.size + 1 < X.heap.size := by rw [hX]; simp
  have HX5 := Lib.hid hX
  have Y1 := cell_lo hbx hgl y1
  clear h hk hr hiR hM hcode hc1 hc2 hq hcell hx ex hval hl hll hmm hss hpc hp h34 hX hs5 hbx
  have HES := Lib.hid es
  obtain ⟨R, hR⟩ : ∃ R, stepP im m = R := ⟨_, rfl⟩
  rw [hR]
  have HSR := Lib.hid hR
  clear es hR
  rcases hd with hd | hd
  · have HD := Lib.hid hd
    have : pc = (k : Int) := by rw [← HPC.out, ← here_pos hd]; exact HK.out
    subst this
    rw [hd] at y1 Y1
    clear hd p0 p1
    go_enter Tryd.func17, Tryd.ntmps17
    go_wp2_with fail
    rw [← HX5.out]
    refine (valid_any ⟨xo, xa, xb, xc, xd⟩ X HTX.out).mono ?_
    rintro e w1 ⟨rfl, hb⟩
    rw [HVX.out]
    have b0 := cell_lo hb hbl b0
    have b1 := cell_lo hb hbl b1
    have b2 := cell_lo hb hbl b2
    have S5 := Lib.hid (HS5.out.next hb)
    have s0 : w1.cell? ⟨w.heap.size + 1, 0, none⟩ = some (.int .u8 xo) := S5.out.cell 0
    have s1 : w1.cell? ⟨w.heap.size + 1, 1, none⟩ = some (.int .i64 xa) := S5.out.cell 1
    have s2 : w1.cell? ⟨w.heap.size + 1, 2, none⟩ = some (.int .i64 xb) := S5.out.cell 2
    have s3 : w1.cell? ⟨w.heap.size + 1, 3, none⟩ = some (.int .i64 xc) := S5.out.cell 3
    have s4 : w1.cell? ⟨w.heap.size + 1, 4, none⟩ = some (.int .i64 xd) := S5.out.cell 4
    have HB1 := Lib.hid (HBX.out.trans (hb.mono HBX.out.size))
    have y1 := cell_lo hb (Nat.lt_of_lt_of_le hgl HBX.out.size) Y1
    have hgl1 := Nat.lt_of_lt_of_le hgl HB1.out.size
    have hbl2 := Nat.lt_of_lt_of_le hbl1 hb.size
    have HM1 := Lib.hid (HH.out.mach.below HB1.out)
    have HC1 := Lib.hid (HCW.out.below HB1.out)
    have HT1 := Lib.hid (HH.out.tab.below HB1.out)
    have HF1 : Hid (Touch F w w1) := Lib.hid (Touch.of_below HB1.out)
    clear hb c0 c1 c2 c3 c4 y0 Y1
    by_cases ho : xo = 30 ∨ xo = 31
    · rcases ho with rfl | rfl
      · have e1 : stepP im m = enterP im m k := by rw [HES.out, if_pos (.inl rfl)]
        have HC : Hid (Calls Tryd.prog 32 #[.agg #[.slice (some ⟨gc, o, none⟩) ll cp, .int .i64 mm, .int .i64 ss], .pointer (some ⟨g, 0, none⟩), .int .i64 (k : Int)] w1 (ExecR F w1 g (enterP im m k))) := Lib.hid (by
          have hx := HX.out
          have := enter_any F g m V im (.slice (some ⟨gc, o, none⟩) ll cp) w1 HM1.out HC1.out HT1.out k (by rw [HLL.out]; omega) (by rw [HLL.out]; omega) HH.out.fit.dir (by rw [hx]; exact .inl rfl) HH.out.fit.calls
          unfold imV at this
          rw [HMM.out, HSS.out] at this
          exact this)
        generalize enterP im m k = r at *
        have HE1 := Lib.hid e1
        clear e1
        have s0 : w1.cell? ⟨w.heap.size + 1, 0, none⟩ = some (.int .u8 30) := s0
        go_wp2_with fail
        refine HC.out.mono ?_
        rintro e w5 ⟨V', rfl, ht, hm⟩
        have HR := Lib.hid (ExecR.of (e := .returned (.int .i64 r.1)) ⟨V', rfl, ht, hm⟩ HF1.out)
        clear ht hm
        go_wp2
        go_ret
        rw [show R = r from HSR.out.symm.trans HE1.out]
        exact HR.out
      · have e1 : stepP im m = enterP im m k := by rw [HES.out, if_pos (.inr rfl)]
        have HC : Hid (Calls Tryd.prog 32 #[.agg #[.slice (some ⟨gc, o, none⟩) ll cp, .int .i64 mm, .int .i64 ss], .pointer (some ⟨g, 0, none⟩), .int .i64 (k : Int)] w1 (ExecR F w1 g (enterP im m k))) := Lib.hid (by
          have hx := HX.out
          have := enter_any F g m V im (.slice (some ⟨gc, o, none⟩) ll cp) w1 HM1.out HC1.out HT1.out k (by rw [HLL.out]; omega) (by rw [HLL.out]; omega) HH.out.fit.dir (by rw [hx]; exact .inr rfl) HH.out.fit.calls
          unfold imV at this
          rw [HMM.out, HSS.out] at this
          exact this)
        generalize enterP im m k = r at *
        have HE1 := Lib.hid e1
        clear e1
        have s0 : w1.cell? ⟨w.heap.size + 1, 0, none⟩ = some (.int .u8 31) := s0
        go_wp2_with fail
        refine HC.out.mono ?_
        rintro e w5 ⟨V', rfl, ht, hm⟩
        have HR := Lib.hid (ExecR.of (e := .returned (.int .i64 r.1)) ⟨V', rfl, ht, hm⟩ HF1.out)
        clear ht hm
        go_wp2
        go_ret
        rw [show R = r from HSR.out.symm.trans HE1.out]
        exact HR.out
    by_cases hp : xo = 32 ∨ xo = 33
    · rcases hp with rfl | rfl
      · have e1 : stepP im m = leaveP im m k := by rw [HES.out, if_neg ho, if_pos (.inl rfl)]
        have HC : Hid (Calls Tryd.prog 33 #[.agg #[.slice (some ⟨gc, o, none⟩) ll cp, .int .i64 mm, .int .i64 ss], .pointer (some ⟨g, 0, none⟩), .int .i64 (k : Int)] w1 (ExecR F w1 g (leaveP im m k))) := Lib.hid (by
          have hx := HX.out
          have := leave_any F g m V im (.slice (some ⟨gc, o, none⟩) ll cp) w1 HM1.out HC1.out k (by rw [HLL.out]; omega) (by rw [HLL.out]; omega) HH.out.fit.dir (by rw [hx]; exact .inl rfl) HH.out.fit.calls HH.out.fit.site
          unfold imV at this
          rw [HMM.out, HSS.out] at this
          exact this)
        generalize leaveP im m k = r at *
        have HE1 := Lib.hid e1
        clear e1
        have s0 : w1.cell? ⟨w.heap.size + 1, 0, none⟩ = some (.int .u8 32) := s0
        go_wp2_with fail
        refine HC.out.mono ?_
        rintro e w5 ⟨V', rfl, ht, hm⟩
        have HR := Lib.hid (ExecR.of (e := .returned (.int .i64 r.1)) ⟨V', rfl, ht, hm⟩ HF1.out)
        clear ht hm
        go_wp2
        go_ret
        rw [show R = r from HSR.out.symm.trans HE1.out]
        exact HR.out
      · have e1 : stepP im m = leaveP im m k := by rw [HES.out, if_neg ho, if_pos (.inr rfl)]
        have HC : Hid (Calls Tryd.prog 33 #[.agg #[.slice (some ⟨gc, o, none⟩) ll cp, .int .i64 mm, .int .i64 ss], .pointer (some ⟨g, 0, none⟩), .int .i64 (k : Int)] w1 (ExecR F w1 g (leaveP im m k))) := Lib.hid (by
          have hx := HX.out
          have := leave_any F g m V im (.slice (some ⟨gc, o, none⟩) ll cp) w1 HM1.out HC1.out k (by rw [HLL.out]; omega) (by rw [HLL.out]; omega) HH.out.fit.dir (by rw [hx]; exact .inr rfl) HH.out.fit.calls HH.out.fit.site
          unfold imV at this
          rw [HMM.out, HSS.out] at this
          exact this)
        generalize leaveP im m k = r at *
        have HE1 := Lib.hid e1
        clear e1
        have s0 : w1.cell? ⟨w.heap.size + 1, 0, none⟩ = some (.int .u8 33) := s0
        go_wp2_with fail
        refine HC.out.mono ?_
        rintro e w5 ⟨V', rfl, ht, hm⟩
        have HR := Lib.hid (ExecR.of (e := .returned (.int .i64 r.1)) ⟨V', rfl, ht, hm⟩ HF1.out)
        clear ht hm
        go_wp2
        go_ret
        rw [show R = r from HSR.out.symm.trans HE1.out]
        exact HR.out
    have n30 : ((xo : Int) == 30) = false := by simp; omega
    have n31 : ((xo : Int) == 31) = false := by simp; omega
    have n32 : ((xo : Int) == 32) = false := by simp; omega
    have n33 : ((xo : Int) == 33) = false := by simp; omega
    cases hj : jumpB xo with
    | true =>
      have HJ := Lib.hid hj
      have e1 : stepP im m = jumpP im m k := by rw [HES.out, if_neg ho, if_neg hp, if_pos (by rw [HJ.out]; rfl)]
      have HC : Hid (Calls Tryd.prog 36 #[.agg #[.slice (some ⟨gc, o, none⟩) ll cp, .int .i64 mm, .int .i64 ss], .pointer (some ⟨g, 0, none⟩), .int .i64 (k : Int)] w1 (ExecR F w1 g (jumpP im m k))) := Lib.hid (by
        have hx := HX.out
        have := jump_any F g m V im (.slice (some ⟨gc, o, none⟩) ll cp) w1 HM1.out HC1.out HT1.out k (by rw [HLL.out]; omega) (by rw [HLL.out]; omega)
        unfold imV at this
        rw [HMM.out, HSS.out] at this
        exact this)
      generalize jumpP im m k = r at *
      have HE1 := Lib.hid e1
      clear e1
      clear hj
      go_wp2_with fail
      refine (isjump_q HJ.out _).mono ?_
      rintro e w1x ⟨rfl, rfl⟩
      go_wp2_with fail
      refine HC.out.mono ?_
      rintro e w5 ⟨V', rfl, ht, hm⟩
      have HR := Lib.hid (ExecR.of (e := .returned (.int .i64 r.1)) ⟨V', rfl, ht, hm⟩ HF1.out)
      clear ht hm
      go_wp2
      go_ret
      rw [show R = r from HSR.out.symm.trans HE1.out]
      exact HR.out
    | false =>
      cases hl : landB xo with
      | true =>
        have HJ := Lib.hid hj
        have HL := Lib.hid hl
        have e1 : stepP im m = jumpP im m k := by rw [HES.out, if_neg ho, if_neg hp, if_pos (by rw [HJ.out, HL.out]; rfl)]
        have HC : Hid (Calls Tryd.prog 36 #[.agg #[.slice (some ⟨gc, o, none⟩) ll cp, .int .i64 mm, .int .i64 ss], .pointer (some ⟨g, 0, none⟩), .int .i64 (k : Int)] w1 (ExecR F w1 g (jumpP im m k))) := Lib.hid (by
          have hx := HX.out
          have := jump_any F g m V im (.slice (some ⟨gc, o, none⟩) ll cp) w1 HM1.out HC1.out HT1.out k (by rw [HLL.out]; omega) (by rw [HLL.out]; omega)
          unfold imV at this
          rw [HMM.out, HSS.out] at this
          exact this)
        generalize jumpP im m k = r at *
        have HE1 := Lib.hid e1
        clear e1
        clear hj hl
        go_wp2_with fail
        refine (isjump_q HJ.out _).mono ?_
        rintro e w2 ⟨rfl, rfl⟩
        go_wp2_with fail
        refine (island_q HL.out _).mono ?_
        rintro e w2 ⟨rfl, rfl⟩
        go_wp2_with fail
        refine HC.out.mono ?_
        rintro e w5 ⟨V', rfl, ht, hm⟩
        have HR := Lib.hid (ExecR.of (e := .returned (.int .i64 r.1)) ⟨V', rfl, ht, hm⟩ HF1.out)
        clear ht hm
        go_wp2
        go_ret
        rw [show R = r from HSR.out.symm.trans HE1.out]
        exact HR.out
      | false =>
        have HJ := Lib.hid hj
        have HL := Lib.hid hl
        have hpo := plain_of (valid_op HVX.out) (fun e => by rw [show xo = 34 from e] at n34; cases n34) ho hp (by rw [HJ.out, HL.out]; decide)
        have HPO := Lib.hid hpo
        have e1 := HES.out
        rw [if_neg ho, if_neg hp, if_neg (by rw [HJ.out, HL.out]; decide), HD.out] at e1
        rw [show wayI (1) ⟨xo, xa, xb, xc, xd⟩ = ⟨xo, xa, xb, xc, xd⟩ from rfl] at e1
        clear hj hl hpo
        obtain ⟨hkp, hkd⟩ := exec_keep m ⟨xo, xa, xb, xc, xd⟩
        obtain ⟨⟨e1v, m1⟩, hrr⟩ : ∃ r, exec m ⟨xo, xa, xb, xc, xd⟩ = r := ⟨_, rfl⟩
        rw [hrr] at e1 hkp hkd
        dsimp only at e1 hkp hkd
        have HE1 := Lib.hid e1
        clear e1
        have HC : Hid (Calls Tryd.prog 37 #[.pointer (some ⟨g, 0, none⟩), .agg #[.int .u8 xo, .int .i64 xa, .int .i64 xb, .int .i64 xc, .int .i64 xd]] w1 (ExecR F w1 g (e1v, m1))) := Lib.hid (by
          have := exec_any F g m V w1 HM1.out ⟨xo, xa, xb, xc, xd⟩ HVX.out (plain_is HPO.out) HH.out.fit.fp0 (by have := HH.out.fit.fp1; have := HH.out.mem; omega) HH.out.fit.sb0 (by have := HH.out.fit.sb1; have := HH.out.stk; omega) (by have := HH.out.fit.stk; have := HH.out.stk; omega) HH.out.len HH.out.fit.inp HH.out.fit.out
          rw [hrr] at this
          exact this)
        clear hrr
        rw [HPC.out] at hkp
        rw [HD.out] at hkd
        by_cases h0 : e1v = 0
        · subst h0
          have HE2 := Lib.hid (HE1.out.trans (if_pos rfl))
          clear HE1
          go_wp2_with fail
          refine (isjump_q HJ.out _).mono ?_
          rintro e w2 ⟨rfl, rfl⟩
          go_wp2_with fail
          refine (island_q HL.out _).mono ?_
          rintro e w2 ⟨rfl, rfl⟩
          go_wp2_with fail
          refine HC.out.mono ?_
          rintro e w5 ⟨V', rfl, ht, hm⟩
          have HF5 := Lib.hid (HF1.out.trans ht (fun _ _ h => h))
          have hs15 := HB1.out.size
          have HM5 : Hid (MachW (grow F w w5) w5 g m1 V') := Lib.hid (hm.mono (fun j hj => by unfold grow at hj ⊢; rcases hj with hj | hj; exact .inl hj; exact .inr ⟨by omega, hj.2⟩))
          clear ht hm
          have z0 : w5.cell? ⟨g, 0, none⟩ = some (.int .i64 ((k : Int))) := by rw [← hkp]; exact HM5.out.cell (j := 0) (by decide)
          have z1 : w5.cell? ⟨g, 1, none⟩ = some (.int .i64 (1)) := by rw [← hkd]; exact HM5.out.cell (j := 1) (by decide)
          have zf := HM5.out.blk.free 0
          have hpd : m1.pc + m1.dir = (k : Int) + 1 := by rw [hkp, hkd]
          go_wp2
          go_region
          all_goals go_wp2
          all_goals go_ret
          all_goals rw [← HSR.out, HE2.out, show m1.pc + m1.dir = (k : Int) + 1 from hpd]
          all_goals exact exec_end (HM5.out.pc _).drew (HF5.out.of_set (.inl HM1.out.own) _ _).drew (by simp [World.setCell, World.drew]) rfl
        · have b0e : (e1v == 0) = false := by simpa using h0
          have HE2 := Lib.hid (HE1.out.trans (if_neg h0))
          clear HE1
          go_wp2_with fail
          refine (isjump_q HJ.out _).mono ?_
          rintro e w2 ⟨rfl, rfl⟩
          go_wp2_with fail
          refine (island_q HL.out _).mono ?_
          rintro e w2 ⟨rfl, rfl⟩
          go_wp2_with fail
          refine HC.out.mono ?_
          rintro e w5 ⟨V', rfl, ht, hm⟩
          have HF5 := Lib.hid (HF1.out.trans ht (fun _ _ h => h))
          have hs15 := HB1.out.size
          have HM5 : Hid (MachW (grow F w w5) w5 g m1 V') := Lib.hid (hm.mono (fun j hj => by unfold grow at hj ⊢; rcases hj with hj | hj; exact .inl hj; exact .inr ⟨by omega, hj.2⟩))
          clear ht hm
          go_wp2
          go_ret
          rw [← HSR.out, HE2.out]
          exact exec_end HM5.out HF5.out rfl rfl
  · have HD := Lib.hid hd
    have ek : pc - 1 = (k : Int) := by rw [← HPC.out, ← here_neg hd]; exact HK.out
    rw [hd] at y1 Y1
    clear hd
    go_enter Tryd.func17, Tryd.ntmps17
    go_wp2_with fail
    rw [← HX5.out]
    refine (valid_any ⟨xo, xa, xb, xc, xd⟩ X HTX.out).mono ?_
    rintro e w1 ⟨rfl, hb⟩
    rw [HVX.out]
    have b0 := cell_lo hb hbl b0
    have b1 := cell_lo hb hbl b1
    have b2 := cell_lo hb hbl b2
    have S5 := Lib.hid (HS5.out.next hb)
    have s0 : w1.cell? ⟨w.heap.size + 1, 0, none⟩ = some (.int .u8 xo) := S5.out.cell 0
    have s1 : w1.cell? ⟨w.heap.size + 1, 1, none⟩ = some (.int .i64 xa) := S5.out.cell 1
    have s2 : w1.cell? ⟨w.heap.size + 1, 2, none⟩ = some (.int .i64 xb) := S5.out.cell 2
    have s3 : w1.cell? ⟨w.heap.size + 1, 3, none⟩ = some (.int .i64 xc) := S5.out.cell 3
    have s4 : w1.cell? ⟨w.heap.size + 1, 4, none⟩ = some (.int .i64 xd) := S5.out.cell 4
    have HB1 := Lib.hid (HBX.out.trans (hb.mono HBX.out.size))
    have y1 := cell_lo hb (Nat.lt_of_lt_of_le hgl HBX.out.size) Y1
    have hgl1 := Nat.lt_of_lt_of_le hgl HB1.out.size
    have hbl2 := Nat.lt_of_lt_of_le hbl1 hb.size
    have HM1 := Lib.hid (HH.out.mach.below HB1.out)
    have HC1 := Lib.hid (HCW.out.below HB1.out)
    have HT1 := Lib.hid (HH.out.tab.below HB1.out)
    have HF1 : Hid (Touch F w w1) := Lib.hid (Touch.of_below HB1.out)
    clear hb c0 c1 c2 c3 c4 y0 Y1
    by_cases ho : xo = 30 ∨ xo = 31
    · rcases ho with rfl | rfl
      · have e1 : stepP im m = enterP im m k := by rw [HES.out, if_pos (.inl rfl)]
        have HC : Hid (Calls Tryd.prog 32 #[.agg #[.slice (some ⟨gc, o, none⟩) ll cp, .int .i64 mm, .int .i64 ss], .pointer (some ⟨g, 0, none⟩), .int .i64 (k : Int)] w1 (ExecR F w1 g (enterP im m k))) := Lib.hid (by
          have hx := HX.out
          have := enter_any F g m V im (.slice (some ⟨gc, o, none⟩) ll cp) w1 HM1.out HC1.out HT1.out k (by rw [HLL.out]; omega) (by rw [HLL.out]; omega) HH.out.fit.dir (by rw [hx]; exact .inl rfl) HH.out.fit.calls
          unfold imV at this
          rw [HMM.out, HSS.out] at this
          exact this)
        generalize enterP im m k = r at *
        have HE1 := Lib.hid e1
        clear e1
        have s0 : w1.cell? ⟨w.heap.size + 1, 0, none⟩ = some (.int .u8 30) := s0
        go_wp2_with fail
        refine HC.out.mono ?_
        rintro e w5 ⟨V', rfl, ht, hm⟩
        have HR := Lib.hid (ExecR.of (e := .returned (.int .i64 r.1)) ⟨V', rfl, ht, hm⟩ HF1.out)
        clear ht hm
        go_wp2
        go_ret
        rw [show R = r from HSR.out.symm.trans HE1.out]
        exact HR.out
      · have e1 : stepP im m = enterP im m k := by rw [HES.out, if_pos (.inr rfl)]
        have HC : Hid (Calls Tryd.prog 32 #[.agg #[.slice (some ⟨gc, o, none⟩) ll cp, .int .i64 mm, .int .i64 ss], .pointer (some ⟨g, 0, none⟩), .int .i64 (k : Int)] w1 (ExecR F w1 g (enterP im m k))) := Lib.hid (by
          have hx := HX.out
          have := enter_any F g m V im (.slice (some ⟨gc, o, none⟩) ll cp) w1 HM1.out HC1.out HT1.out k (by rw [HLL.out]; omega) (by rw [HLL.out]; omega) HH.out.fit.dir (by rw [hx]; exact .inr rfl) HH.out.fit.calls
          unfold imV at this
          rw [HMM.out, HSS.out] at this
          exact this)
        generalize enterP im m k = r at *
        have HE1 := Lib.hid e1
        clear e1
        have s0 : w1.cell? ⟨w.heap.size + 1, 0, none⟩ = some (.int .u8 31) := s0
        go_wp2_with fail
        refine HC.out.mono ?_
        rintro e w5 ⟨V', rfl, ht, hm⟩
        have HR := Lib.hid (ExecR.of (e := .returned (.int .i64 r.1)) ⟨V', rfl, ht, hm⟩ HF1.out)
        clear ht hm
        go_wp2
        go_ret
        rw [show R = r from HSR.out.symm.trans HE1.out]
        exact HR.out
    by_cases hp : xo = 32 ∨ xo = 33
    · rcases hp with rfl | rfl
      · have e1 : stepP im m = leaveP im m k := by rw [HES.out, if_neg ho, if_pos (.inl rfl)]
        have HC : Hid (Calls Tryd.prog 33 #[.agg #[.slice (some ⟨gc, o, none⟩) ll cp, .int .i64 mm, .int .i64 ss], .pointer (some ⟨g, 0, none⟩), .int .i64 (k : Int)] w1 (ExecR F w1 g (leaveP im m k))) := Lib.hid (by
          have hx := HX.out
          have := leave_any F g m V im (.slice (some ⟨gc, o, none⟩) ll cp) w1 HM1.out HC1.out k (by rw [HLL.out]; omega) (by rw [HLL.out]; omega) HH.out.fit.dir (by rw [hx]; exact .inl rfl) HH.out.fit.calls HH.out.fit.site
          unfold imV at this
          rw [HMM.out, HSS.out] at this
          exact this)
        generalize leaveP im m k = r at *
        have HE1 := Lib.hid e1
        clear e1
        have s0 : w1.cell? ⟨w.heap.size + 1, 0, none⟩ = some (.int .u8 32) := s0
        go_wp2_with fail
        refine HC.out.mono ?_
        rintro e w5 ⟨V', rfl, ht, hm⟩
        have HR := Lib.hid (ExecR.of (e := .returned (.int .i64 r.1)) ⟨V', rfl, ht, hm⟩ HF1.out)
        clear ht hm
        go_wp2
        go_ret
        rw [show R = r from HSR.out.symm.trans HE1.out]
        exact HR.out
      · have e1 : stepP im m = leaveP im m k := by rw [HES.out, if_neg ho, if_pos (.inr rfl)]
        have HC : Hid (Calls Tryd.prog 33 #[.agg #[.slice (some ⟨gc, o, none⟩) ll cp, .int .i64 mm, .int .i64 ss], .pointer (some ⟨g, 0, none⟩), .int .i64 (k : Int)] w1 (ExecR F w1 g (leaveP im m k))) := Lib.hid (by
          have hx := HX.out
          have := leave_any F g m V im (.slice (some ⟨gc, o, none⟩) ll cp) w1 HM1.out HC1.out k (by rw [HLL.out]; omega) (by rw [HLL.out]; omega) HH.out.fit.dir (by rw [hx]; exact .inr rfl) HH.out.fit.calls HH.out.fit.site
          unfold imV at this
          rw [HMM.out, HSS.out] at this
          exact this)
        generalize leaveP im m k = r at *
        have HE1 := Lib.hid e1
        clear e1
        have s0 : w1.cell? ⟨w.heap.size + 1, 0, none⟩ = some (.int .u8 33) := s0
        go_wp2_with fail
        refine HC.out.mono ?_
        rintro e w5 ⟨V', rfl, ht, hm⟩
        have HR := Lib.hid (ExecR.of (e := .returned (.int .i64 r.1)) ⟨V', rfl, ht, hm⟩ HF1.out)
        clear ht hm
        go_wp2
        go_ret
        rw [show R = r from HSR.out.symm.trans HE1.out]
        exact HR.out
    have n30 : ((xo : Int) == 30) = false := by simp; omega
    have n31 : ((xo : Int) == 31) = false := by simp; omega
    have n32 : ((xo : Int) == 32) = false := by simp; omega
    have n33 : ((xo : Int) == 33) = false := by simp; omega
    cases hj : jumpB xo with
    | true =>
      have HJ := Lib.hid hj
      have e1 : stepP im m = jumpP im m k := by rw [HES.out, if_neg ho, if_neg hp, if_pos (by rw [HJ.out]; rfl)]
      have HC : Hid (Calls Tryd.prog 36 #[.agg #[.slice (some ⟨gc, o, none⟩) ll cp, .int .i64 mm, .int .i64 ss], .pointer (some ⟨g, 0, none⟩), .int .i64 (k : Int)] w1 (ExecR F w1 g (jumpP im m k))) := Lib.hid (by
        have hx := HX.out
        have := jump_any F g m V im (.slice (some ⟨gc, o, none⟩) ll cp) w1 HM1.out HC1.out HT1.out k (by rw [HLL.out]; omega) (by rw [HLL.out]; omega)
        unfold imV at this
        rw [HMM.out, HSS.out] at this
        exact this)
      generalize jumpP im m k = r at *
      have HE1 := Lib.hid e1
      clear e1
      clear hj
      go_wp2_with fail
      refine (isjump_q HJ.out _).mono ?_
      rintro e w1x ⟨rfl, rfl⟩
      go_wp2_with fail
      refine HC.out.mono ?_
      rintro e w5 ⟨V', rfl, ht, hm⟩
      have HR := Lib.hid (ExecR.of (e := .returned (.int .i64 r.1)) ⟨V', rfl, ht, hm⟩ HF1.out)
      clear ht hm
      go_wp2
      go_ret
      rw [show R = r from HSR.out.symm.trans HE1.out]
      exact HR.out
    | false =>
      cases hl : landB xo with
      | true =>
        have HJ := Lib.hid hj
        have HL := Lib.hid hl
        have e1 : stepP im m = jumpP im m k := by rw [HES.out, if_neg ho, if_neg hp, if_pos (by rw [HJ.out, HL.out]; rfl)]
        have HC : Hid (Calls Tryd.prog 36 #[.agg #[.slice (some ⟨gc, o, none⟩) ll cp, .int .i64 mm, .int .i64 ss], .pointer (some ⟨g, 0, none⟩), .int .i64 (k : Int)] w1 (ExecR F w1 g (jumpP im m k))) := Lib.hid (by
          have hx := HX.out
          have := jump_any F g m V im (.slice (some ⟨gc, o, none⟩) ll cp) w1 HM1.out HC1.out HT1.out k (by rw [HLL.out]; omega) (by rw [HLL.out]; omega)
          unfold imV at this
          rw [HMM.out, HSS.out] at this
          exact this)
        generalize jumpP im m k = r at *
        have HE1 := Lib.hid e1
        clear e1
        clear hj hl
        go_wp2_with fail
        refine (isjump_q HJ.out _).mono ?_
        rintro e w2 ⟨rfl, rfl⟩
        go_wp2_with fail
        refine (island_q HL.out _).mono ?_
        rintro e w2 ⟨rfl, rfl⟩
        go_wp2_with fail
        refine HC.out.mono ?_
        rintro e w5 ⟨V', rfl, ht, hm⟩
        have HR := Lib.hid (ExecR.of (e := .returned (.int .i64 r.1)) ⟨V', rfl, ht, hm⟩ HF1.out)
        clear ht hm
        go_wp2
        go_ret
        rw [show R = r from HSR.out.symm.trans HE1.out]
        exact HR.out
      | false =>
        have HJ := Lib.hid hj
        have HL := Lib.hid hl
        have hpo := plain_of (valid_op HVX.out) (fun e => by rw [show xo = 34 from e] at n34; cases n34) ho hp (by rw [HJ.out, HL.out]; decide)
        have HPO := Lib.hid hpo
        have e1 := HES.out
        rw [if_neg ho, if_neg hp, if_neg (by rw [HJ.out, HL.out]; decide), HD.out] at e1
        rw [show wayI (-1) ⟨xo, xa, xb, xc, xd⟩ = invI ⟨xo, xa, xb, xc, xd⟩ from rfl] at e1
        clear hj hl hpo
        obtain ⟨hkp, hkd⟩ := exec_keep m (invI ⟨xo, xa, xb, xc, xd⟩)
        obtain ⟨⟨e1v, m1⟩, hrr⟩ : ∃ r, exec m (invI ⟨xo, xa, xb, xc, xd⟩) = r := ⟨_, rfl⟩
        rw [hrr] at e1 hkp hkd
        dsimp only at e1 hkp hkd
        have HE1 := Lib.hid e1
        clear e1
        have HC : Hid (∀ w3, MachW F w3 g m V → Calls Tryd.prog 37 #[.pointer (some ⟨g, 0, none⟩), insV (invI ⟨xo, xa, xb, xc, xd⟩)] w3 (ExecR F w3 g (e1v, m1))) := Lib.hid (fun w3 hw3 => by
          have := exec_any F g m V w3 hw3 (invI ⟨xo, xa, xb, xc, xd⟩) (valid_inv HVX.out) (plain_is (plain_inv HPO.out)) HH.out.fit.fp0 (by have := HH.out.fit.fp1; have := HH.out.mem; omega) HH.out.fit.sb0 (by have := HH.out.fit.sb1; have := HH.out.stk; omega) (by have := HH.out.fit.stk; have := HH.out.stk; omega) HH.out.len HH.out.fit.inp HH.out.fit.out
          rw [hrr] at this
          exact this)
        clear hrr
        obtain ⟨⟨yo, ya, yb, yc, yd⟩, hy⟩ : ∃ y, invI ⟨xo, xa, xb, xc, xd⟩ = y := ⟨_, rfl⟩
        have HY := Lib.hid hy
        rw [hy] at HC
        clear hy
        unfold insV at HC
        dsimp only at HC
        rw [HPC.out] at hkp
        rw [HD.out] at hkd
        by_cases h0 : e1v = 0
        · subst h0
          have HE2 := Lib.hid (HE1.out.trans (if_pos rfl))
          clear HE1
          go_wp2_with fail
          refine (isjump_q HJ.out _).mono ?_
          rintro e w2 ⟨rfl, rfl⟩
          go_wp2_with fail
          refine (island_q HL.out _).mono ?_
          rintro e w2 ⟨rfl, rfl⟩
          go_wp2_with fail
          refine (inverse_ins ⟨xo, xa, xb, xc, xd⟩ _ (valid_op HVX.out)).mono ?_
          rintro e w4 ⟨rfl, hb⟩
          rw [HY.out]
          unfold insV
          dsimp only
          have S6 := Lib.hid (S5.out.next hb)
          have s0 : w4.cell? ⟨w.heap.size + 1, 0, none⟩ = some (.int .u8 xo) := S6.out.cell 0
          have s1 : w4.cell? ⟨w.heap.size + 1, 1, none⟩ = some (.int .i64 xa) := S6.out.cell 1
          have s2 : w4.cell? ⟨w.heap.size + 1, 2, none⟩ = some (.int .i64 xb) := S6.out.cell 2
          have s3 : w4.cell? ⟨w.heap.size + 1, 3, none⟩ = some (.int .i64 xc) := S6.out.cell 3
          have s4 : w4.cell? ⟨w.heap.size + 1, 4, none⟩ = some (.int .i64 xd) := S6.out.cell 4
          have t0 : w4.frozen? ⟨w.heap.size + 1, 0, none⟩ = false := S6.out.free 0
          have t1 : w4.frozen? ⟨w.heap.size + 1, 1, none⟩ = false := S6.out.free 1
          have t2 : w4.frozen? ⟨w.heap.size + 1, 2, none⟩ = false := S6.out.free 2
          have t3 : w4.frozen? ⟨w.heap.size + 1, 3, none⟩ = false := S6.out.free 3
          have t4 : w4.frozen? ⟨w.heap.size + 1, 4, none⟩ = false := S6.out.free 4
          have HB4 := Lib.hid (HB1.out.trans (hb.mono HB1.out.size))
          have y1 := cell_lo hb hgl1 y1
          clear hb
          go_wp2_with fail
          obtain ⟨w3, hw3⟩ : ∃ w3, w3 = (((((w4.setCell ⟨w.heap.size + 1, 0, none⟩ (.int .u8 yo)).setCell ⟨w.heap.size + 1, 1, none⟩ (.int .i64 ya)).setCell ⟨w.heap.size + 1, 2, none⟩ (.int .i64 yb)).setCell ⟨w.heap.size + 1, 3, none⟩ (.int .i64 yc)).setCell ⟨w.heap.size + 1, 4, none⟩ (.int .i64 yd)) := ⟨_, rfl⟩
          rw [← hw3]
          have hB3 : Below w.heap.size w w3 := by rw [hw3]; exact ((((HB4.out.setCell (p := ⟨w.heap.size + 1, 0, none⟩) (by dsimp only; omega) _).setCell (p := ⟨w.heap.size + 1, 1, none⟩) (by dsimp only; omega) _).setCell (p := ⟨w.heap.size + 1, 2, none⟩) (by dsimp only; omega) _).setCell (p := ⟨w.heap.size + 1, 3, none⟩) (by dsimp only; omega) _).setCell (p := ⟨w.heap.size + 1, 4, none⟩) (by dsimp only; omega) _
          clear hw3
          have HF3 : Hid (Touch F w w3) := Lib.hid (Touch.of_below hB3)
          have hs35 := hB3.size
          refine (HC.out w3 (HH.out.mach.below hB3)).mono ?_
          rintro e w5 ⟨V', rfl, ht, hm⟩
          have HF5 := Lib.hid (HF3.out.trans ht (fun _ _ h => h))
          have HM5 : Hid (MachW (grow F w w5) w5 g m1 V') := Lib.hid (hm.mono (fun j hj => by unfold grow at hj ⊢; rcases hj with hj | hj; exact .inl hj; exact .inr ⟨by omega, hj.2⟩))
          clear ht hm
          have z0 : w5.cell? ⟨g, 0, none⟩ = some (.int .i64 (pc)) := by rw [← hkp]; exact HM5.out.cell (j := 0) (by decide)
          have z1 : w5.cell? ⟨g, 1, none⟩ = some (.int .i64 (-1)) := by rw [← hkd]; exact HM5.out.cell (j := 1) (by decide)
          have zf := HM5.out.blk.free 0
          have hpd : m1.pc + m1.dir = pc + -1 := by rw [hkp, hkd]
          go_wp2
          go_region
          all_goals go_wp2
          all_goals go_ret
          all_goals rw [← HSR.out, HE2.out, show m1.pc + m1.dir = pc + -1 from hpd]
          all_goals exact exec_end (HM5.out.pc _).drew (HF5.out.of_set (.inl HM1.out.own) _ _).drew (by simp [World.setCell, World.drew]) rfl
        · have b0e : (e1v == 0) = false := by simpa using h0
          have HE2 := Lib.hid (HE1.out.trans (if_neg h0))
          clear HE1
          go_wp2_with fail
          refine (isjump_q HJ.out _).mono ?_
          rintro e w2 ⟨rfl, rfl⟩
          go_wp2_with fail
          refine (island_q HL.out _).mono ?_
          rintro e w2 ⟨rfl, rfl⟩
          go_wp2_with fail
          refine (inverse_ins ⟨xo, xa, xb, xc, xd⟩ _ (valid_op HVX.out)).mono ?_
          rintro e w4 ⟨rfl, hb⟩
          rw [HY.out]
          unfold insV
          dsimp only
          have S6 := Lib.hid (S5.out.next hb)
          have s0 : w4.cell? ⟨w.heap.size + 1, 0, none⟩ = some (.int .u8 xo) := S6.out.cell 0
          have s1 : w4.cell? ⟨w.heap.size + 1, 1, none⟩ = some (.int .i64 xa) := S6.out.cell 1
          have s2 : w4.cell? ⟨w.heap.size + 1, 2, none⟩ = some (.int .i64 xb) := S6.out.cell 2
          have s3 : w4.cell? ⟨w.heap.size + 1, 3, none⟩ = some (.int .i64 xc) := S6.out.cell 3
          have s4 : w4.cell? ⟨w.heap.size + 1, 4, none⟩ = some (.int .i64 xd) := S6.out.cell 4
          have t0 : w4.frozen? ⟨w.heap.size + 1, 0, none⟩ = false := S6.out.free 0
          have t1 : w4.frozen? ⟨w.heap.size + 1, 1, none⟩ = false := S6.out.free 1
          have t2 : w4.frozen? ⟨w.heap.size + 1, 2, none⟩ = false := S6.out.free 2
          have t3 : w4.frozen? ⟨w.heap.size + 1, 3, none⟩ = false := S6.out.free 3
          have t4 : w4.frozen? ⟨w.heap.size + 1, 4, none⟩ = false := S6.out.free 4
          have HB4 := Lib.hid (HB1.out.trans (hb.mono HB1.out.size))
          have y1 := cell_lo hb hgl1 y1
          clear hb
          go_wp2_with fail
          obtain ⟨w3, hw3⟩ : ∃ w3, w3 = (((((w4.setCell ⟨w.heap.size + 1, 0, none⟩ (.int .u8 yo)).setCell ⟨w.heap.size + 1, 1, none⟩ (.int .i64 ya)).setCell ⟨w.heap.size + 1, 2, none⟩ (.int .i64 yb)).setCell ⟨w.heap.size + 1, 3, none⟩ (.int .i64 yc)).setCell ⟨w.heap.size + 1, 4, none⟩ (.int .i64 yd)) := ⟨_, rfl⟩
          rw [← hw3]
          have hB3 : Below w.heap.size w w3 := by rw [hw3]; exact ((((HB4.out.setCell (p := ⟨w.heap.size + 1, 0, none⟩) (by dsimp only; omega) _).setCell (p := ⟨w.heap.size + 1, 1, none⟩) (by dsimp only; omega) _).setCell (p := ⟨w.heap.size + 1, 2, none⟩) (by dsimp only; omega) _).setCell (p := ⟨w.heap.size + 1, 3, none⟩) (by dsimp only; omega) _).setCell (p := ⟨w.heap.size + 1, 4, none⟩) (by dsimp only; omega) _
          clear hw3
          have HF3 : Hid (Touch F w w3) := Lib.hid (Touch.of_below hB3)
          have hs35 := hB3.size
          refine (HC.out w3 (HH.out.mach.below hB3)).mono ?_
          rintro e w5 ⟨V', rfl, ht, hm⟩
          have HF5 := Lib.hid (HF3.out.trans ht (fun _ _ h => h))
          have HM5 : Hid (MachW (grow F w w5) w5 g m1 V') := Lib.hid (hm.mono (fun j hj => by unfold grow at hj ⊢; rcases hj with hj | hj; exact .inl hj; exact .inr ⟨by omega, hj.2⟩))
          clear ht hm
          go_wp2
          go_ret
          rw [← HSR.out, HE2.out]
          exact exec_end HM5.out HF5.out rfl rfl

end Go.Proofs.YtichiccohmeecaaDoor
