/- The walk of fits. -/
import Derived.Test.YtichiccohmeecaaDoorWhG3
import Derived.Test.YtichiccohmeecaaDoorWhS
namespace Go.Proofs.YtichiccohmeecaaDoor
open Go.RowKit

def fitA (n : Nat) (m : Mach) : Bool := (m.dir == 1 || m.dir == -1) && decide (0 ≤ m.pc) && decide (m.pc ≤ n)
def fitBB (im : Im) (m : Mach) : Bool := decide ((m.M.length : Int) = im.mem) && decide ((m.S.length : Int) = im.stacks) && decide (1 ≤ m.S.length)
def fitE (im : Im) (m : Mach) : Bool := decide (m.calls.length ≤ 100) && decide (m.inp.length ≤ 4096) && decide (m.out.length ≤ 4096) && decide (0 ≤ m.fp) && decide (m.fp ≤ im.mem) && decide (0 ≤ m.sb) && decide (m.sb ≤ im.stacks)
theorem fits_eq (im : Im) (m : Mach) : fitsP im m = (fitA im.code.length m && (fitBB im m && ((m.S.drop 1).all (fun s => decide (s.length ≤ 1000)) && (m.calls.all (fun a => inR im.code a.1) && fitE im m)))) := by
  unfold fitsP fitA fitBB fitE
  simp only [Bool.and_assoc]

def FitsR (b : Bool) (w : World) (e : Ending) (w' : World) : Prop := e = .returned (.bool b) ∧ Below w.heap.size w w'

/-! THE WALK -/
set_option maxRecDepth 100000 in
set_option maxHeartbeats 16000000 in
theorem fits_any {P Q : Nat → Prop} (im : Im) (vc : Value) (g : Nat) (m : Mach) (V : MV) (w : World) (hC : CodeIn P w vc im.code) (h : MachR Q w g m V) :
    Calls Tryd.prog 16 #[imV vc im, .pointer (some ⟨g, 0, none⟩)] w (FitsR (fitsP im m) w) := by
  rw [fits_eq]
  obtain ⟨ac, cc, rfl, hcn, hcm, -⟩ := hC
  obtain ⟨⟨aM, cM, hvM, -, -, -⟩, -⟩ := id h.rows.mem
  obtain ⟨aS, cS, hvS, hS1, hS2, hS3⟩ := id h.rows.stk
  obtain ⟨⟨aA, cA, hvA, hA1, hA2, hA3⟩, -⟩ := id h.rows.acts
  obtain ⟨⟨aI, cI, hvI, -, -, -⟩, -⟩ := id h.rows.inp
  obtain ⟨⟨aO, cO, hvO, -, -, -⟩, -⟩ := id h.rows.out
  obtain ⟨C, mem, stacks⟩ := im
  unfold imV
  dsimp only at hcn ⊢
  obtain ⟨n, hn⟩ : ∃ n, C.length = n := ⟨_, rfl⟩
  obtain ⟨WB, hWB⟩ : ∃ WB, WB = w.alloc (.cells #[.slice ac C.length cc, .int .i64 mem, .int .i64 stacks] 24) := ⟨_, rfl⟩
  have hbx : Blk WB w.heap.size 24 #[.slice ac C.length cc, .int .i64 mem, .int .i64 stacks] := by rw [hWB]; exact Blk.new _ _ _
  have hB : Below w.heap.size w WB := by rw [hWB]; exact below_alloc _ _
  have hR : MachR Q WB g m V := h.below hB
  have HBX := Lib.hid hbx
  have HB := Lib.hid hB
  have HR := Lib.hid hR
  have HWB := Lib.hid hWB
  have b0 := hbx.cell 0
  have b1 := hbx.cell 1
  have b2 := hbx.cell 2
  simp only [List.getElem?_toArray, List.getElem?_cons_succ, List.getElem?_cons_zero] at b0 b1 b2
  have y0 : WB.cell? ⟨g, 0, none⟩ = some (.int .i64 m.pc) := hR.cell (by decide)
  have y1 : WB.cell? ⟨g, 1, none⟩ = some (.int .i64 m.dir) := hR.cell (by decide)
  have y18 : WB.cell? ⟨g, 18, none⟩ = some V.vM := hR.cell (by decide)
  have y19 : WB.cell? ⟨g, 19, none⟩ = some V.vS := hR.cell (by decide)
  have y20 : WB.cell? ⟨g, 20, none⟩ = some V.vC := hR.cell (by decide)
  have y21 : WB.cell? ⟨g, 21, none⟩ = some (.int .i64 m.fp) := hR.cell (by decide)
  have y22 : WB.cell? ⟨g, 22, none⟩ = some (.int .i64 m.sb) := hR.cell (by decide)
  have y23 : WB.cell? ⟨g, 23, none⟩ = some V.vI := hR.cell (by decide)
  have y24 : WB.cell? ⟨g, 24, none⟩ = some V.vO := hR.cell (by decide)
  rw [hvM] at y18
  rw [hvS] at y19
  rw [hvA] at y20
  rw [hvI] at y23
  rw [hvO] at y24
  rw [hn] at b0 HBX HWB ⊢
  obtain ⟨pc, hpc⟩ : ∃ pc, m.pc = pc := ⟨_, rfl⟩
  obtain ⟨dir, hdir⟩ : ∃ dir, m.dir = dir := ⟨_, rfl⟩
  obtain ⟨lM, hlM⟩ : ∃ lM, m.M.length = lM := ⟨_, rfl⟩
  obtain ⟨lS, hlS⟩ : ∃ lS, m.S.length = lS := ⟨_, rfl⟩
  have n0 : (0 : Int) ≤ (n : Int) := Int.natCast_nonneg _
  have HC := Lib.hid hn
  rw [hpc] at y0
  rw [hdir] at y1
  rw [hlM] at y18
  rw [hlS] at y19
  have HPC := Lib.hid hpc
  have HDIR := Lib.hid hdir
  have HLM := Lib.hid hlM
  have HLS := Lib.hid hlS
  have hz := hbx.lt
  have HS3 := Lib.hid hS3
  have HA3 := Lib.hid hA3
  clear hcn hcm hvM hvS hvA hvI hvO hWB hbx hB hR hn hpc hdir hlM hlS h hS3 hA3
  by_cases hA : dir ≠ 1 ∧ dir ≠ -1
  · have d1 : (dir != 1) = true := by simpa using hA.1
    have d2 : (dir != -1) = true := by simpa using hA.2
    have hb : fitA n m = false := by unfold fitA; rw [HPC.out, HDIR.out]; simp; omega
    rw [hb, Bool.false_and]
    clear hb
    clear HPC HDIR hA
    go_enter Tryd.func16, Tryd.ntmps16
    go_wp2
    rw [← HWB.out]
    go_quiet (fail)
    go_wp2
    go_ret
    exact ⟨rfl, drewN_below HB.out _⟩
  have hd : dir = 1 ∨ dir = -1 := by omega
  clear hA
  by_cases hA : pc < 0
  · have p1 : decide (pc < 0) = true := decide_eq_true hA
    rcases hd with rfl | rfl
    · skip
      have hb : fitA n m = false := by unfold fitA; rw [HPC.out, HDIR.out]; simp; omega
      rw [hb, Bool.false_and]
      clear hb
      clear HPC HDIR
      go_enter Tryd.func16, Tryd.ntmps16
      go_wp2
      rw [← HWB.out]
      go_quiet (fail)
      go_wp2
      go_ret
      exact ⟨rfl, drewN_below HB.out _⟩
    · skip
      have hb : fitA n m = false := by unfold fitA; rw [HPC.out, HDIR.out]; simp; omega
      rw [hb, Bool.false_and]
      clear hb
      clear HPC HDIR
      go_enter Tryd.func16, Tryd.ntmps16
      go_wp2
      rw [← HWB.out]
      go_quiet (fail)
      go_wp2
      go_ret
      exact ⟨rfl, drewN_below HB.out _⟩
  have p1 : decide (pc < 0) = false := decide_eq_false hA
  by_cases hA' : (n : Int) < pc
  · have p2 : decide ((n : Int) < pc) = true := decide_eq_true hA'
    rcases hd with rfl | rfl
    · skip
      have hb : fitA n m = false := by unfold fitA; rw [HPC.out, HDIR.out]; simp; omega
      rw [hb, Bool.false_and]
      clear hb
      clear HPC HDIR
      go_enter Tryd.func16, Tryd.ntmps16
      go_wp2
      rw [← HWB.out]
      go_quiet (fail)
      go_wp2
      go_ret
      exact ⟨rfl, drewN_below HB.out _⟩
    · skip
      have hb : fitA n m = false := by unfold fitA; rw [HPC.out, HDIR.out]; simp; omega
      rw [hb, Bool.false_and]
      clear hb
      clear HPC HDIR
      go_enter Tryd.func16, Tryd.ntmps16
      go_wp2
      rw [← HWB.out]
      go_quiet (fail)
      go_wp2
      go_ret
      exact ⟨rfl, drewN_below HB.out _⟩
  have hb : fitA n m = true := by unfold fitA; rw [HPC.out, HDIR.out]; simp; omega
  rw [hb, Bool.true_and]
  have hp0 : 0 ≤ pc := by omega
  have hp1 : pc ≤ n := by omega
  have p2 : decide ((n : Int) < pc) = false := decide_eq_false hA'
  clear hb hA hA'
  clear HPC HDIR
  rcases hd with rfl | rfl
  · skip
    by_cases hM : (lM : Int) = mem
    rotate_left
    · have e1 : ((lM : Int) != mem) = true := by simpa using hM
      have hb : fitBB ⟨C, mem, stacks⟩ m = false := by unfold fitBB; rw [HLM.out, HLS.out]; simp; omega
      rw [hb, Bool.false_and]
      clear hb HLM HLS
      go_enter Tryd.func16, Tryd.ntmps16
      go_wp2
      rw [← HWB.out]
      go_quiet (fail)
      have b0 : (WB.drewN nq).cell? ⟨w.heap.size, 0, none⟩ = some (.slice ac n cc) := b0
      have b1 : (WB.drewN nq).cell? ⟨w.heap.size, 1, none⟩ = some (.int .i64 mem) := b1
      have b2 : (WB.drewN nq).cell? ⟨w.heap.size, 2, none⟩ = some (.int .i64 stacks) := b2
      have y18 : (WB.drewN nq).cell? ⟨g, 18, none⟩ = some (.slice aM lM cM) := y18
      have y19 : (WB.drewN nq).cell? ⟨g, 19, none⟩ = some (.slice aS lS cS) := y19
      have y20 : (WB.drewN nq).cell? ⟨g, 20, none⟩ = some (.slice aA m.calls.length cA) := y20
      have y21 : (WB.drewN nq).cell? ⟨g, 21, none⟩ = some (.int .i64 m.fp) := y21
      have y22 : (WB.drewN nq).cell? ⟨g, 22, none⟩ = some (.int .i64 m.sb) := y22
      have y23 : (WB.drewN nq).cell? ⟨g, 23, none⟩ = some (.slice aI m.inp.length cI) := y23
      have y24 : (WB.drewN nq).cell? ⟨g, 24, none⟩ = some (.slice aO m.out.length cO) := y24
      have HB : Hid (Below w.heap.size w (WB.drewN nq)) := Lib.hid (drewN_below HB.out _)
      have HR : Hid (MachR Q (WB.drewN nq) g m V) := Lib.hid (HR.out.below ⟨rfl, rfl, rfl, Nat.le_refl _, fun _ _ => rfl⟩)
      have hz : w.heap.size < (WB.drewN nq).heap.size := hz
      generalize WB.drewN nq = W1 at *
      go_wp2
      go_quiet (fail)
      go_wp2
      go_ret
      exact ⟨rfl, drewN_below HB.out _⟩
    by_cases hS : (lS : Int) = stacks
    rotate_left
    · have e1 : ((lS : Int) != stacks) = true := by simpa using hS
      have e2 : ((lM : Int) != mem) = false := by simpa using hM
      have hb : fitBB ⟨C, mem, stacks⟩ m = false := by unfold fitBB; rw [HLM.out, HLS.out]; simp; omega
      rw [hb, Bool.false_and]
      clear hb HLM HLS
      clear hM
      go_enter Tryd.func16, Tryd.ntmps16
      go_wp2
      rw [← HWB.out]
      go_quiet (fail)
      have b0 : (WB.drewN nq).cell? ⟨w.heap.size, 0, none⟩ = some (.slice ac n cc) := b0
      have b1 : (WB.drewN nq).cell? ⟨w.heap.size, 1, none⟩ = some (.int .i64 mem) := b1
      have b2 : (WB.drewN nq).cell? ⟨w.heap.size, 2, none⟩ = some (.int .i64 stacks) := b2
      have y18 : (WB.drewN nq).cell? ⟨g, 18, none⟩ = some (.slice aM lM cM) := y18
      have y19 : (WB.drewN nq).cell? ⟨g, 19, none⟩ = some (.slice aS lS cS) := y19
      have y20 : (WB.drewN nq).cell? ⟨g, 20, none⟩ = some (.slice aA m.calls.length cA) := y20
      have y21 : (WB.drewN nq).cell? ⟨g, 21, none⟩ = some (.int .i64 m.fp) := y21
      have y22 : (WB.drewN nq).cell? ⟨g, 22, none⟩ = some (.int .i64 m.sb) := y22
      have y23 : (WB.drewN nq).cell? ⟨g, 23, none⟩ = some (.slice aI m.inp.length cI) := y23
      have y24 : (WB.drewN nq).cell? ⟨g, 24, none⟩ = some (.slice aO m.out.length cO) := y24
      have HB : Hid (Below w.heap.size w (WB.drewN nq)) := Lib.hid (drewN_below HB.out _)
      have HR : Hid (MachR Q (WB.drewN nq) g m V) := Lib.hid (HR.out.below ⟨rfl, rfl, rfl, Nat.le_refl _, fun _ _ => rfl⟩)
      have hz : w.heap.size < (WB.drewN nq).heap.size := hz
      generalize WB.drewN nq = W1 at *
      go_wp2
      go_quiet (fail)
      go_wp2
      go_ret
      exact ⟨rfl, drewN_below HB.out _⟩
    have e1 : ((lS : Int) != stacks) = false := by simpa using hS
    have e2 : ((lM : Int) != mem) = false := by simpa using hM
    by_cases hl : lS = 0
    · have HSTK := Lib.hid hS
      have hb : fitBB ⟨C, mem, stacks⟩ m = false := by unfold fitBB; rw [HLM.out, HLS.out]; simp; omega
      rw [hb, Bool.false_and]
      have e3 : decide ((lS : Int) < 1) = true := by simp; omega
      clear hb HLM HLS hM hS hl
      go_enter Tryd.func16, Tryd.ntmps16
      go_wp2
      rw [← HWB.out]
      go_quiet (fail)
      have b0 : (WB.drewN nq).cell? ⟨w.heap.size, 0, none⟩ = some (.slice ac n cc) := b0
      have b1 : (WB.drewN nq).cell? ⟨w.heap.size, 1, none⟩ = some (.int .i64 mem) := b1
      have b2 : (WB.drewN nq).cell? ⟨w.heap.size, 2, none⟩ = some (.int .i64 stacks) := b2
      have y18 : (WB.drewN nq).cell? ⟨g, 18, none⟩ = some (.slice aM lM cM) := y18
      have y19 : (WB.drewN nq).cell? ⟨g, 19, none⟩ = some (.slice aS lS cS) := y19
      have y20 : (WB.drewN nq).cell? ⟨g, 20, none⟩ = some (.slice aA m.calls.length cA) := y20
      have y21 : (WB.drewN nq).cell? ⟨g, 21, none⟩ = some (.int .i64 m.fp) := y21
      have y22 : (WB.drewN nq).cell? ⟨g, 22, none⟩ = some (.int .i64 m.sb) := y22
      have y23 : (WB.drewN nq).cell? ⟨g, 23, none⟩ = some (.slice aI m.inp.length cI) := y23
      have y24 : (WB.drewN nq).cell? ⟨g, 24, none⟩ = some (.slice aO m.out.length cO) := y24
      have HB : Hid (Below w.heap.size w (WB.drewN nq)) := Lib.hid (drewN_below HB.out _)
      have HR : Hid (MachR Q (WB.drewN nq) g m V) := Lib.hid (HR.out.below ⟨rfl, rfl, rfl, Nat.le_refl _, fun _ _ => rfl⟩)
      have hz : w.heap.size < (WB.drewN nq).heap.size := hz
      generalize WB.drewN nq = W1 at *
      go_wp2
      go_quiet (fail)
      go_wp2
      go_ret
      exact ⟨rfl, drewN_below HB.out _⟩
    have hb : fitBB ⟨C, mem, stacks⟩ m = true := by unfold fitBB; rw [HLM.out, HLS.out]; simp; omega
    rw [hb, Bool.true_and]
    obtain ⟨R, hR⟩ : ∃ R, ((m.S.drop 1).all (fun s => decide (s.length ≤ 1000)) && (m.calls.all (fun a => inR C a.1) && fitE ⟨C, mem, stacks⟩ m)) = R := ⟨_, rfl⟩
    rw [hR]
    have HRR := Lib.hid hR
    clear hR
    have e3 : decide ((lS : Int) < 1) = false := by simp; omega
    have hl1 : 1 ≤ lS := by omega
    have HMM := Lib.hid hM
    have HSS := Lib.hid hS
    have hl63 : lS ≤ 9223372036854775807 := by rw [HLS.out] at hS1; unfold maxLen at hS2; omega
    have hl1' : (1 : Int) ≤ (lS : Int) := by omega
    have hS1' : lS ≤ cS := by rw [← HLS.out]; exact hS1
    obtain ⟨gS, oS, haS, hgS, -, hSc⟩ := HS3.out (by rw [HLS.out]; exact hl1)
    subst haS
    obtain ⟨ad, had, hsl⟩ := tail_rows gS oS lS cS hl1 hS1'
    obtain ⟨l1, hl1e⟩ : ∃ l1, l1 = lS - 1 := ⟨_, rfl⟩
    rw [← hl1e] at hsl
    have l10 : (0 : Int) ≤ (l1 : Int) := Int.natCast_nonneg _
    have hl163 : l1 ≤ 9223372036854775807 := by omega
    have HL1 := Lib.hid hl1e
    have HAD := Lib.hid had
    have HSC := Lib.hid hSc
    have hA63 : m.calls.length ≤ 9223372036854775807 := by unfold maxLen at hA2; omega
    clear hb hM hS hl hl1e had hSc hS1 hS2
    go_enter Tryd.func16, Tryd.ntmps16
    go_wp2
    rw [← HWB.out]
    go_quiet (fail)
    have b0 : (WB.drewN nq).cell? ⟨w.heap.size, 0, none⟩ = some (.slice ac n cc) := b0
    have b1 : (WB.drewN nq).cell? ⟨w.heap.size, 1, none⟩ = some (.int .i64 mem) := b1
    have b2 : (WB.drewN nq).cell? ⟨w.heap.size, 2, none⟩ = some (.int .i64 stacks) := b2
    have y18 : (WB.drewN nq).cell? ⟨g, 18, none⟩ = some (.slice aM lM cM) := y18
    have y19 : (WB.drewN nq).cell? ⟨g, 19, none⟩ = some (.slice (some ⟨gS, oS, none⟩) lS cS) := y19
    have y20 : (WB.drewN nq).cell? ⟨g, 20, none⟩ = some (.slice aA m.calls.length cA) := y20
    have y21 : (WB.drewN nq).cell? ⟨g, 21, none⟩ = some (.int .i64 m.fp) := y21
    have y22 : (WB.drewN nq).cell? ⟨g, 22, none⟩ = some (.int .i64 m.sb) := y22
    have y23 : (WB.drewN nq).cell? ⟨g, 23, none⟩ = some (.slice aI m.inp.length cI) := y23
    have y24 : (WB.drewN nq).cell? ⟨g, 24, none⟩ = some (.slice aO m.out.length cO) := y24
    have HB : Hid (Below w.heap.size w (WB.drewN nq)) := Lib.hid (drewN_below HB.out _)
    have HR : Hid (MachR Q (WB.drewN nq) g m V) := Lib.hid (HR.out.below ⟨rfl, rfl, rfl, Nat.le_refl _, fun _ _ => rfl⟩)
    have hz : w.heap.size < (WB.drewN nq).heap.size := hz
    generalize WB.drewN nq = W1 at *
    go_wp2
    go_quiet (fail)
    have b0 : (W1.drewN nq).cell? ⟨w.heap.size, 0, none⟩ = some (.slice ac n cc) := b0
    have b1 : (W1.drewN nq).cell? ⟨w.heap.size, 1, none⟩ = some (.int .i64 mem) := b1
    have b2 : (W1.drewN nq).cell? ⟨w.heap.size, 2, none⟩ = some (.int .i64 stacks) := b2
    have y18 : (W1.drewN nq).cell? ⟨g, 18, none⟩ = some (.slice aM lM cM) := y18
    have y19 : (W1.drewN nq).cell? ⟨g, 19, none⟩ = some (.slice (some ⟨gS, oS, none⟩) lS cS) := y19
    have y20 : (W1.drewN nq).cell? ⟨g, 20, none⟩ = some (.slice aA m.calls.length cA) := y20
    have y21 : (W1.drewN nq).cell? ⟨g, 21, none⟩ = some (.int .i64 m.fp) := y21
    have y22 : (W1.drewN nq).cell? ⟨g, 22, none⟩ = some (.int .i64 m.sb) := y22
    have y23 : (W1.drewN nq).cell? ⟨g, 23, none⟩ = some (.slice aI m.inp.length cI) := y23
    have y24 : (W1.drewN nq).cell? ⟨g, 24, none⟩ = some (.slice aO m.out.length cO) := y24
    have HB : Hid (Below w.heap.size w (W1.drewN nq)) := Lib.hid (drewN_below HB.out _)
    have HR : Hid (MachR Q (W1.drewN nq) g m V) := Lib.hid (HR.out.below ⟨rfl, rfl, rfl, Nat.le_refl _, fun _ _ => rfl⟩)
    have hz : w.heap.size < (W1.drewN nq).heap.size := hz
    generalize W1.drewN nq = W2 at *
    have HB2 := Lib.hid HB.out
    go_wp2
    go_loopg [70] l1 (fun q i wr => ∃ k : Nat, k + q = l1 ∧ i = .int .i64 k ∧ wr = W2 ∧ ∀ j, j < k → ∀ s, m.S[j + 1]? = some s → s.length ≤ 1000)
    case atStart => exact ⟨0, by omega, rfl, rfl, fun j hj => absurd hj (by omega)⟩
    case round =>
      obtain ⟨k, hk, rfl, hw, hok⟩ := hrel
      obtain rfl := hw.symm
      have Hk := Lib.hid hk
      have HOK := Lib.hid hok
      have hkn : k ≤ l1 := by omega
      clear hk hok
      by_cases hlt : k < l1
      · have hlt' : (k : Int) < (l1 : Int) := by omega
        have hk0 : (0 : Int) ≤ (k : Int) := Int.natCast_nonneg _
        obtain ⟨s, hs⟩ := get_lt HLS.out.symm (show k + 1 < lS by have := HL1.out; omega)
        obtain ⟨u, hu, ⟨⟨au, cu, rfl, hsc1, hsc2, -⟩, -⟩⟩ := HSC.out (k + 1) s hs
        have had : ad = ⟨gS, oS + 1, none⟩ := by
          rcases HAD.out with h | h
          · have := HL1.out; omega
          · exact h
        subst had
        have yu := cell_lo HB.out hgS hu
        rw [show oS + (k + 1) = oS + 1 + k by omega] at yu
        have hs63 : s.length ≤ 9223372036854775807 := by unfold maxLen at hsc2; omega
        have HSK := Lib.hid hs
        obtain ⟨ls, hls⟩ : ∃ ls, s.length = ls := ⟨_, rfl⟩
        rw [hls] at yu hs63
        have HLK := Lib.hid hls
        clear hu hs hsc1 hsc2 hls
        by_cases hbig : 1000 < ls
        · have hall : (m.S.drop 1).all (fun s => decide (s.length ≤ 1000)) = false := by
            cases hq : (m.S.drop 1).all (fun s => decide (s.length ≤ 1000)) with
            | false => rfl
            | true =>
              rw [List.all_eq_true] at hq
              have hmem : s ∈ m.S.drop 1 := List.mem_of_getElem? (by rw [List.getElem?_drop, Nat.add_comm]; exact HSK.out)
              have := hq s hmem
              rw [decide_eq_true_eq, HLK.out] at this
              omega
          have hR : R = false := by rw [← HRR.out, hall, Bool.false_and]
          subst hR
          have hbig' : (1000 : Int) < (ls : Int) := by omega
          clear hall
          go_wp2
          go_ret
          exact ⟨rfl, HB.out⟩
        · have hbig' : (ls : Int) ≤ 1000 := by omega
          go_wp2
          have hk := Hk.out
          go_roundg (l1 - (k + 1))
          case measure => omega
          case rel => exact ⟨k + 1, by omega, by go_num, rfl, fun j hj s' hs' => by
            rcases Nat.lt_or_ge j k with h | h
            · exact HOK.out j h s' hs'
            · obtain rfl : j = k := by omega
              obtain rfl := Option.some.inj (HSK.out.symm.trans hs')
              rw [HLK.out]; omega⟩
      · have hge : ¬ (k : Int) < (l1 : Int) := by omega
        have hkl : k = l1 := by omega
        have hall : (m.S.drop 1).all (fun s => decide (s.length ≤ 1000)) = true := by
          rw [List.all_eq_true]
          intro s hs
          obtain ⟨j, hj⟩ := List.getElem?_of_mem hs
          rw [List.getElem?_drop, Nat.add_comm] at hj
          have hjl := (List.getElem?_eq_some_iff.1 hj).1
          rw [decide_eq_true_eq]
          exact HOK.out j (by have := HL1.out; rw [HLS.out] at hjl; omega) s hj
        have hR : (m.calls.all (fun a => inR C a.1) && fitE ⟨C, mem, stacks⟩ m) = R := by rw [← HRR.out, hall, Bool.true_and]
        have HRR := Lib.hid hR
        clear hall hR
        have HHA := HA3.out
        obtain ⟨nA, hnA⟩ : ∃ nA, m.calls.length = nA := ⟨_, rfl⟩
        rw [hnA] at y20 HHA hA63
        have HNA := Lib.hid hnA
        have nA0 : (0 : Int) ≤ (nA : Int) := Int.natCast_nonneg _
        clear hnA
        have HBX2 : Hid (∀ wr, Below W2.heap.size W2 wr → (wr.cell? ⟨w.heap.size, 0, none⟩ = some (.slice ac n cc)) ∧ wr.cell? ⟨w.heap.size, 1, none⟩ = some (.int .i64 mem) ∧ wr.cell? ⟨w.heap.size, 2, none⟩ = some (.int .i64 stacks)) := Lib.hid (fun wr hb => ⟨cell_lo hb hz b0, cell_lo hb hz b1, cell_lo hb hz b2⟩)
        have hgl : g < W2.heap.size := World.block_lt_of_cell? W2 _ y20
        have HBY2 : Hid (∀ wr, Below W2.heap.size W2 wr → wr.cell? ⟨g, 20, none⟩ = some (.slice aA nA cA) ∧ wr.cell? ⟨g, 21, none⟩ = some (.int .i64 m.fp) ∧ wr.cell? ⟨g, 22, none⟩ = some (.int .i64 m.sb) ∧ wr.cell? ⟨g, 23, none⟩ = some (.slice aI m.inp.length cI) ∧ wr.cell? ⟨g, 24, none⟩ = some (.slice aO m.out.length cO)) := Lib.hid (fun wr hb => ⟨cell_lo hb hgl y20, cell_lo hb hgl y21, cell_lo hb hgl y22, cell_lo hb hgl y23, cell_lo hb hgl y24⟩)
        have HHA := Lib.hid HHA
        go_wp2
        clear b0 b1 b2 y18 y19 y20 y21 y22 y23 y24
        go_loopg [83] nA (fun q i wx => ∃ k : Nat, k + q = nA ∧ i = .int .i64 k ∧ Below W2.heap.size W2 wx ∧ ∀ j, j < k → ∀ x, m.calls[j]? = some x → inR C x.1 = true)
        case atStart => exact ⟨0, by omega, rfl, Below.refl _ _, fun j hj => absurd hj (by omega)⟩
        case round =>
          obtain ⟨k, hk, rfl, hbk, hok⟩ := hrel
          have Hk := Lib.hid hk
          have HOK := Lib.hid hok
          have hkn : k ≤ nA := by omega
          obtain ⟨b0, b1, b2⟩ := HBX2.out _ hbk
          obtain ⟨y20, y21, y22, y23, y24⟩ := HBY2.out _ hbk
          have HBK := Lib.hid (HB2.out.trans (hbk.mono HB2.out.size))
          clear hk hok
          by_cases hlt : k < nA
          · have hlt' : (k : Int) < (nA : Int) := by omega
            have hk0 : (0 : Int) ≤ (k : Int) := Int.natCast_nonneg _
            obtain ⟨x, hx⟩ := get_lt HNA.out.symm hlt
            obtain ⟨gA, oA, haA, hgA, _, hAc⟩ := HHA.out (by omega)
            subst haA
            obtain ⟨q1, q2⟩ := hAc k x hx
            have q1 := cell_lo HBK.out hgA q1
            have q2 := cell_lo HBK.out hgA q2
            obtain ⟨xs, xb⟩ := x
            dsimp only at q1 q2
            have HXK := Lib.hid hx
            clear hAc hx
            have hz' : w.heap.size < wr.heap.size := World.block_lt_of_cell? wr _ b0
            have n0' : (wr.alloc (.cells #[.int .i64 xs, .bool xb] 53)).cell? ⟨w.heap.size, 0, none⟩ = some (.slice ac n cc) := cell_lo (below_alloc wr _) hz' b0
            have HBA : Hid (∀ o, Below w.heap.size w (wr.alloc o)) := Lib.hid (fun o => HBK.out.trans ((below_alloc wr o).mono HBK.out.size))
            have HBB : Hid (∀ o, Below W2.heap.size W2 (wr.alloc o)) := Lib.hid (fun o => hbk.trans ((below_alloc wr o).mono hbk.size))
            clear b0 b1 b2 y20 y21 y22 y23 y24
            by_cases hin : inR C xs = true
            rotate_left
            · have hall : (m.calls.all (fun a => inR C a.1)) = false := by
                cases hq : m.calls.all (fun a => inR C a.1) with
                | false => rfl
                | true =>
                  rw [List.all_eq_true] at hq
                  exact absurd (hq _ (List.mem_of_getElem? HXK.out)) hin
              have hR : R = false := by rw [← HRR.out, hall, Bool.false_and]
              subst hR
              clear hall
              by_cases hneg : xs < 0
              · clear hin
                go_wp2
                go_ret
                exact ⟨rfl, HBA.out _⟩
              · have hbig : (n : Int) ≤ xs := by
                  unfold inR at hin
                  rw [HC.out] at hin
                  simp only [Bool.and_eq_true, decide_eq_true_eq] at hin
                  omega
                have hneg' : ¬ xs < 0 := hneg
                clear hin
                go_wp2
                go_ret
                exact ⟨rfl, HBA.out _⟩
            · have hi2 : 0 ≤ xs ∧ xs < n := by
                unfold inR at hin
                rw [HC.out] at hin
                simpa using hin
              obtain ⟨hi3, hi4⟩ := hi2
              have hi5 : ¬ xs < 0 := by omega
              have hi6 : ¬ (n : Int) ≤ xs := by omega
              have HIN := Lib.hid hin
              clear hin
              go_wp2
              have hk := Hk.out
              go_roundg (nA - (k + 1))
              case measure => omega
              case rel => exact ⟨k + 1, by omega, by go_num, HBB.out _, fun j hj x' hx' => by
                rcases Nat.lt_or_ge j k with h | h
                · exact HOK.out j h x' hx'
                · obtain rfl : j = k := by omega
                  obtain rfl := Option.some.inj (HXK.out.symm.trans hx')
                  exact HIN.out⟩
          · have hge : ¬ (k : Int) < (nA : Int) := by omega
            have hkl : k = nA := by omega
            have hall : m.calls.all (fun a => inR C a.1) = true := by
              rw [List.all_eq_true]
              intro x hx
              obtain ⟨j, hj⟩ := List.getElem?_of_mem hx
              have hjl := (List.getElem?_eq_some_iff.1 hj).1
              exact HOK.out j (by rw [hkl, ← HNA.out]; exact hjl) x hj
            have hR : fitE ⟨C, mem, stacks⟩ m = R := by rw [← HRR.out, hall, Bool.true_and]
            unfold fitE at hR
            dsimp only at hR
            rw [HNA.out] at hR
            clear hall
            obtain ⟨li, hli⟩ : ∃ li, m.inp.length = li := ⟨_, rfl⟩
            obtain ⟨lo, hlo⟩ : ∃ lo, m.out.length = lo := ⟨_, rfl⟩
            obtain ⟨fp, hfp⟩ : ∃ fp, m.fp = fp := ⟨_, rfl⟩
            obtain ⟨sb, hsb⟩ : ∃ sb, m.sb = sb := ⟨_, rfl⟩
            rw [hli] at y23 hR
            rw [hlo] at y24 hR
            rw [hfp] at y21 hR
            rw [hsb] at y22 hR
            clear hli hlo hfp hsb
            have li0 : (0 : Int) ≤ (li : Int) := Int.natCast_nonneg _
            have lo0 : (0 : Int) ≤ (lo : Int) := Int.natCast_nonneg _
            have HBX3 := HBX2
            have HBY3 := HBY2
            clear hkl
            by_cases c0 : nA ≤ 100
            rotate_left
            · have hF : R = false := by rw [← hR]; simp; omega
              subst hF
              have t0 : decide ((nA : Int) ≤ 100) = false := decide_eq_false (by omega)
              clear hR c0
              go_wp2
              go_quiet (fail)
              go_wp2
              go_ret
              exact ⟨by first | rfl | (go_outline), drewN_below HBK.out _⟩
            have t0 : decide ((nA : Int) ≤ 100) = true := decide_eq_true (by omega)
            by_cases c1 : li ≤ 4096
            rotate_left
            · have hF : R = false := by rw [← hR]; simp; omega
              subst hF
              have t1 : decide ((li : Int) ≤ 4096) = false := decide_eq_false (by omega)
              clear hR c1
              go_wp2
              go_quiet (fail)
              go_wp2
              go_ret
              exact ⟨by first | rfl | (go_outline), drewN_below HBK.out _⟩
            have t1 : decide ((li : Int) ≤ 4096) = true := decide_eq_true (by omega)
            by_cases c2 : lo ≤ 4096
            rotate_left
            · have hF : R = false := by rw [← hR]; simp; omega
              subst hF
              have t2 : decide ((lo : Int) ≤ 4096) = false := decide_eq_false (by omega)
              clear hR c2
              go_wp2
              go_quiet (fail)
              go_wp2
              go_ret
              exact ⟨by first | rfl | (go_outline), drewN_below HBK.out _⟩
            have t2 : decide ((lo : Int) ≤ 4096) = true := decide_eq_true (by omega)
            by_cases c3 : 0 ≤ fp
            rotate_left
            · have hF : R = false := by rw [← hR]; simp; omega
              subst hF
              have t3 : decide (0 ≤ fp) = false := decide_eq_false (by omega)
              clear hR c3
              go_wp2
              go_quiet (fail)
              go_wp2
              go_ret
              exact ⟨by first | rfl | (go_outline), drewN_below HBK.out _⟩
            have t3 : decide (0 ≤ fp) = true := decide_eq_true (by omega)
            by_cases c4 : fp ≤ mem
            rotate_left
            · have hF : R = false := by rw [← hR]; simp; omega
              subst hF
              have t4 : decide (fp ≤ mem) = false := decide_eq_false (by omega)
              clear hR c4
              go_wp2
              go_quiet (fail)
              go_wp2
              go_ret
              exact ⟨by first | rfl | (go_outline), drewN_below HBK.out _⟩
            have t4 : decide (fp ≤ mem) = true := decide_eq_true (by omega)
            by_cases c5 : 0 ≤ sb
            rotate_left
            · have hF : R = false := by rw [← hR]; simp; omega
              subst hF
              have t5 : decide (0 ≤ sb) = false := decide_eq_false (by omega)
              clear hR c5
              go_wp2
              go_quiet (fail)
              go_wp2
              go_ret
              exact ⟨by first | rfl | (go_outline), drewN_below HBK.out _⟩
            have t5 : decide (0 ≤ sb) = true := decide_eq_true (by omega)
            by_cases c6 : sb ≤ stacks
            rotate_left
            · have hF : R = false := by rw [← hR]; simp; omega
              subst hF
              have t6 : decide (sb ≤ stacks) = false := decide_eq_false (by omega)
              clear hR c6
              go_wp2
              go_quiet (fail)
              go_wp2
              go_ret
              exact ⟨by first | rfl | (go_outline), drewN_below HBK.out _⟩
            have t6 : decide (sb ≤ stacks) = true := decide_eq_true (by omega)
            have hF : R = true := by rw [← hR]; simp; omega
            subst hF
            clear hR c0 c1 c2 c3 c4 c5 c6
            go_wp2
            go_quiet (fail)
            go_wp2
            go_ret
            exact ⟨by first | rfl | (go_outline), drewN_below HBK.out _⟩
  · skip
    by_cases hM : (lM : Int) = mem
    rotate_left
    · have e1 : ((lM : Int) != mem) = true := by simpa using hM
      have hb : fitBB ⟨C, mem, stacks⟩ m = false := by unfold fitBB; rw [HLM.out, HLS.out]; simp; omega
      rw [hb, Bool.false_and]
      clear hb HLM HLS
      go_enter Tryd.func16, Tryd.ntmps16
      go_wp2
      rw [← HWB.out]
      go_quiet (fail)
      have b0 : (WB.drewN nq).cell? ⟨w.heap.size, 0, none⟩ = some (.slice ac n cc) := b0
      have b1 : (WB.drewN nq).cell? ⟨w.heap.size, 1, none⟩ = some (.int .i64 mem) := b1
      have b2 : (WB.drewN nq).cell? ⟨w.heap.size, 2, none⟩ = some (.int .i64 stacks) := b2
      have y18 : (WB.drewN nq).cell? ⟨g, 18, none⟩ = some (.slice aM lM cM) := y18
      have y19 : (WB.drewN nq).cell? ⟨g, 19, none⟩ = some (.slice aS lS cS) := y19
      have y20 : (WB.drewN nq).cell? ⟨g, 20, none⟩ = some (.slice aA m.calls.length cA) := y20
      have y21 : (WB.drewN nq).cell? ⟨g, 21, none⟩ = some (.int .i64 m.fp) := y21
      have y22 : (WB.drewN nq).cell? ⟨g, 22, none⟩ = some (.int .i64 m.sb) := y22
      have y23 : (WB.drewN nq).cell? ⟨g, 23, none⟩ = some (.slice aI m.inp.length cI) := y23
      have y24 : (WB.drewN nq).cell? ⟨g, 24, none⟩ = some (.slice aO m.out.length cO) := y24
      have HB : Hid (Below w.heap.size w (WB.drewN nq)) := Lib.hid (drewN_below HB.out _)
      have HR : Hid (MachR Q (WB.drewN nq) g m V) := Lib.hid (HR.out.below ⟨rfl, rfl, rfl, Nat.le_refl _, fun _ _ => rfl⟩)
      have hz : w.heap.size < (WB.drewN nq).heap.size := hz
      generalize WB.drewN nq = W1 at *
      go_wp2
      go_quiet (fail)
      go_wp2
      go_ret
      exact ⟨rfl, drewN_below HB.out _⟩
    by_cases hS : (lS : Int) = stacks
    rotate_left
    · have e1 : ((lS : Int) != stacks) = true := by simpa using hS
      have e2 : ((lM : Int) != mem) = false := by simpa using hM
      have hb : fitBB ⟨C, mem, stacks⟩ m = false := by unfold fitBB; rw [HLM.out, HLS.out]; simp; omega
      rw [hb, Bool.false_and]
      clear hb HLM HLS
      clear hM
      go_enter Tryd.func16, Tryd.ntmps16
      go_wp2
      rw [← HWB.out]
      go_quiet (fail)
      have b0 : (WB.drewN nq).cell? ⟨w.heap.size, 0, none⟩ = some (.slice ac n cc) := b0
      have b1 : (WB.drewN nq).cell? ⟨w.heap.size, 1, none⟩ = some (.int .i64 mem) := b1
      have b2 : (WB.drewN nq).cell? ⟨w.heap.size, 2, none⟩ = some (.int .i64 stacks) := b2
      have y18 : (WB.drewN nq).cell? ⟨g, 18, none⟩ = some (.slice aM lM cM) := y18
      have y19 : (WB.drewN nq).cell? ⟨g, 19, none⟩ = some (.slice aS lS cS) := y19
      have y20 : (WB.drewN nq).cell? ⟨g, 20, none⟩ = some (.slice aA m.calls.length cA) := y20
      have y21 : (WB.drewN nq).cell? ⟨g, 21, none⟩ = some (.int .i64 m.fp) := y21
      have y22 : (WB.drewN nq).cell? ⟨g, 22, none⟩ = some (.int .i64 m.sb) := y22
      have y23 : (WB.drewN nq).cell? ⟨g, 23, none⟩ = some (.slice aI m.inp.length cI) := y23
      have y24 : (WB.drewN nq).cell? ⟨g, 24, none⟩ = some (.slice aO m.out.length cO) := y24
      have HB : Hid (Below w.heap.size w (WB.drewN nq)) := Lib.hid (drewN_below HB.out _)
      have HR : Hid (MachR Q (WB.drewN nq) g m V) := Lib.hid (HR.out.below ⟨rfl, rfl, rfl, Nat.le_refl _, fun _ _ => rfl⟩)
      have hz : w.heap.size < (WB.drewN nq).heap.size := hz
      generalize WB.drewN nq = W1 at *
      go_wp2
      go_quiet (fail)
      go_wp2
      go_ret
      exact ⟨rfl, drewN_below HB.out _⟩
    have e1 : ((lS : Int) != stacks) = false := by simpa using hS
    have e2 : ((lM : Int) != mem) = false := by simpa using hM
    by_cases hl : lS = 0
    · have HSTK := Lib.hid hS
      have hb : fitBB ⟨C, mem, stacks⟩ m = false := by unfold fitBB; rw [HLM.out, HLS.out]; simp; omega
      rw [hb, Bool.false_and]
      have e3 : decide ((lS : Int) < 1) = true := by simp; omega
      clear hb HLM HLS hM hS hl
      go_enter Tryd.func16, Tryd.ntmps16
      go_wp2
      rw [← HWB.out]
      go_quiet (fail)
      have b0 : (WB.drewN nq).cell? ⟨w.heap.size, 0, none⟩ = some (.slice ac n cc) := b0
      have b1 : (WB.drewN nq).cell? ⟨w.heap.size, 1, none⟩ = some (.int .i64 mem) := b1
      have b2 : (WB.drewN nq).cell? ⟨w.heap.size, 2, none⟩ = some (.int .i64 stacks) := b2
      have y18 : (WB.drewN nq).cell? ⟨g, 18, none⟩ = some (.slice aM lM cM) := y18
      have y19 : (WB.drewN nq).cell? ⟨g, 19, none⟩ = some (.slice aS lS cS) := y19
      have y20 : (WB.drewN nq).cell? ⟨g, 20, none⟩ = some (.slice aA m.calls.length cA) := y20
      have y21 : (WB.drewN nq).cell? ⟨g, 21, none⟩ = some (.int .i64 m.fp) := y21
      have y22 : (WB.drewN nq).cell? ⟨g, 22, none⟩ = some (.int .i64 m.sb) := y22
      have y23 : (WB.drewN nq).cell? ⟨g, 23, none⟩ = some (.slice aI m.inp.length cI) := y23
      have y24 : (WB.drewN nq).cell? ⟨g, 24, none⟩ = some (.slice aO m.out.length cO) := y24
      have HB : Hid (Below w.heap.size w (WB.drewN nq)) := Lib.hid (drewN_below HB.out _)
      have HR : Hid (MachR Q (WB.drewN nq) g m V) := Lib.hid (HR.out.below ⟨rfl, rfl, rfl, Nat.le_refl _, fun _ _ => rfl⟩)
      have hz : w.heap.size < (WB.drewN nq).heap.size := hz
      generalize WB.drewN nq = W1 at *
      go_wp2
      go_quiet (fail)
      go_wp2
      go_ret
      exact ⟨rfl, drewN_below HB.out _⟩
    have hb : fitBB ⟨C, mem, stacks⟩ m = true := by unfold fitBB; rw [HLM.out, HLS.out]; simp; omega
    rw [hb, Bool.true_and]
    obtain ⟨R, hR⟩ : ∃ R, ((m.S.drop 1).all (fun s => decide (s.length ≤ 1000)) && (m.calls.all (fun a => inR C a.1) && fitE ⟨C, mem, stacks⟩ m)) = R := ⟨_, rfl⟩
    rw [hR]
    have HRR := Lib.hid hR
    clear hR
    have e3 : decide ((lS : Int) < 1) = false := by simp; omega
    have hl1 : 1 ≤ lS := by omega
    have HMM := Lib.hid hM
    have HSS := Lib.hid hS
    have hl63 : lS ≤ 9223372036854775807 := by rw [HLS.out] at hS1; unfold maxLen at hS2; omega
    have hl1' : (1 : Int) ≤ (lS : Int) := by omega
    have hS1' : lS ≤ cS := by rw [← HLS.out]; exact hS1
    obtain ⟨gS, oS, haS, hgS, -, hSc⟩ := HS3.out (by rw [HLS.out]; exact hl1)
    subst haS
    obtain ⟨ad, had, hsl⟩ := tail_rows gS oS lS cS hl1 hS1'
    obtain ⟨l1, hl1e⟩ : ∃ l1, l1 = lS - 1 := ⟨_, rfl⟩
    rw [← hl1e] at hsl
    have l10 : (0 : Int) ≤ (l1 : Int) := Int.natCast_nonneg _
    have hl163 : l1 ≤ 9223372036854775807 := by omega
    have HL1 := Lib.hid hl1e
    have HAD := Lib.hid had
    have HSC := Lib.hid hSc
    have hA63 : m.calls.length ≤ 9223372036854775807 := by unfold maxLen at hA2; omega
    clear hb hM hS hl hl1e had hSc hS1 hS2
    go_enter Tryd.func16, Tryd.ntmps16
    go_wp2
    rw [← HWB.out]
    go_quiet (fail)
    have b0 : (WB.drewN nq).cell? ⟨w.heap.size, 0, none⟩ = some (.slice ac n cc) := b0
    have b1 : (WB.drewN nq).cell? ⟨w.heap.size, 1, none⟩ = some (.int .i64 mem) := b1
    have b2 : (WB.drewN nq).cell? ⟨w.heap.size, 2, none⟩ = some (.int .i64 stacks) := b2
    have y18 : (WB.drewN nq).cell? ⟨g, 18, none⟩ = some (.slice aM lM cM) := y18
    have y19 : (WB.drewN nq).cell? ⟨g, 19, none⟩ = some (.slice (some ⟨gS, oS, none⟩) lS cS) := y19
    have y20 : (WB.drewN nq).cell? ⟨g, 20, none⟩ = some (.slice aA m.calls.length cA) := y20
    have y21 : (WB.drewN nq).cell? ⟨g, 21, none⟩ = some (.int .i64 m.fp) := y21
    have y22 : (WB.drewN nq).cell? ⟨g, 22, none⟩ = some (.int .i64 m.sb) := y22
    have y23 : (WB.drewN nq).cell? ⟨g, 23, none⟩ = some (.slice aI m.inp.length cI) := y23
    have y24 : (WB.drewN nq).cell? ⟨g, 24, none⟩ = some (.slice aO m.out.length cO) := y24
    have HB : Hid (Below w.heap.size w (WB.drewN nq)) := Lib.hid (drewN_below HB.out _)
    have HR : Hid (MachR Q (WB.drewN nq) g m V) := Lib.hid (HR.out.below ⟨rfl, rfl, rfl, Nat.le_refl _, fun _ _ => rfl⟩)
    have hz : w.heap.size < (WB.drewN nq).heap.size := hz
    generalize WB.drewN nq = W1 at *
    go_wp2
    go_quiet (fail)
    have b0 : (W1.drewN nq).cell? ⟨w.heap.size, 0, none⟩ = some (.slice ac n cc) := b0
    have b1 : (W1.drewN nq).cell? ⟨w.heap.size, 1, none⟩ = some (.int .i64 mem) := b1
    have b2 : (W1.drewN nq).cell? ⟨w.heap.size, 2, none⟩ = some (.int .i64 stacks) := b2
    have y18 : (W1.drewN nq).cell? ⟨g, 18, none⟩ = some (.slice aM lM cM) := y18
    have y19 : (W1.drewN nq).cell? ⟨g, 19, none⟩ = some (.slice (some ⟨gS, oS, none⟩) lS cS) := y19
    have y20 : (W1.drewN nq).cell? ⟨g, 20, none⟩ = some (.slice aA m.calls.length cA) := y20
    have y21 : (W1.drewN nq).cell? ⟨g, 21, none⟩ = some (.int .i64 m.fp) := y21
    have y22 : (W1.drewN nq).cell? ⟨g, 22, none⟩ = some (.int .i64 m.sb) := y22
    have y23 : (W1.drewN nq).cell? ⟨g, 23, none⟩ = some (.slice aI m.inp.length cI) := y23
    have y24 : (W1.drewN nq).cell? ⟨g, 24, none⟩ = some (.slice aO m.out.length cO) := y24
    have HB : Hid (Below w.heap.size w (W1.drewN nq)) := Lib.hid (drewN_below HB.out _)
    have HR : Hid (MachR Q (W1.drewN nq) g m V) := Lib.hid (HR.out.below ⟨rfl, rfl, rfl, Nat.le_refl _, fun _ _ => rfl⟩)
    have hz : w.heap.size < (W1.drewN nq).heap.size := hz
    generalize W1.drewN nq = W2 at *
    have HB2 := Lib.hid HB.out
    go_wp2
    go_loopg [70] l1 (fun q i wr => ∃ k : Nat, k + q = l1 ∧ i = .int .i64 k ∧ wr = W2 ∧ ∀ j, j < k → ∀ s, m.S[j + 1]? = some s → s.length ≤ 1000)
    case atStart => exact ⟨0, by omega, rfl, rfl, fun j hj => absurd hj (by omega)⟩
    case round =>
      obtain ⟨k, hk, rfl, hw, hok⟩ := hrel
      obtain rfl := hw.symm
      have Hk := Lib.hid hk
      have HOK := Lib.hid hok
      have hkn : k ≤ l1 := by omega
      clear hk hok
      by_cases hlt : k < l1
      · have hlt' : (k : Int) < (l1 : Int) := by omega
        have hk0 : (0 : Int) ≤ (k : Int) := Int.natCast_nonneg _
        obtain ⟨s, hs⟩ := get_lt HLS.out.symm (show k + 1 < lS by have := HL1.out; omega)
        obtain ⟨u, hu, ⟨⟨au, cu, rfl, hsc1, hsc2, -⟩, -⟩⟩ := HSC.out (k + 1) s hs
        have had : ad = ⟨gS, oS + 1, none⟩ := by
          rcases HAD.out with h | h
          · have := HL1.out; omega
          · exact h
        subst had
        have yu := cell_lo HB.out hgS hu
        rw [show oS + (k + 1) = oS + 1 + k by omega] at yu
        have hs63 : s.length ≤ 9223372036854775807 := by unfold maxLen at hsc2; omega
        have HSK := Lib.hid hs
        obtain ⟨ls, hls⟩ : ∃ ls, s.length = ls := ⟨_, rfl⟩
        rw [hls] at yu hs63
        have HLK := Lib.hid hls
        clear hu hs hsc1 hsc2 hls
        by_cases hbig : 1000 < ls
        · have hall : (m.S.drop 1).all (fun s => decide (s.length ≤ 1000)) = false := by
            cases hq : (m.S.drop 1).all (fun s => decide (s.length ≤ 1000)) with
            | false => rfl
            | true =>
              rw [List.all_eq_true] at hq
              have hmem : s ∈ m.S.drop 1 := List.mem_of_getElem? (by rw [List.getElem?_drop, Nat.add_comm]; exact HSK.out)
              have := hq s hmem
              rw [decide_eq_true_eq, HLK.out] at this
              omega
          have hR : R = false := by rw [← HRR.out, hall, Bool.false_and]
          subst hR
          have hbig' : (1000 : Int) < (ls : Int) := by omega
          clear hall
          go_wp2
          go_ret
          exact ⟨rfl, HB.out⟩
        · have hbig' : (ls : Int) ≤ 1000 := by omega
          go_wp2
          have hk := Hk.out
          go_roundg (l1 - (k + 1))
          case measure => omega
          case rel => exact ⟨k + 1, by omega, by go_num, rfl, fun j hj s' hs' => by
            rcases Nat.lt_or_ge j k with h | h
            · exact HOK.out j h s' hs'
            · obtain rfl : j = k := by omega
              obtain rfl := Option.some.inj (HSK.out.symm.trans hs')
              rw [HLK.out]; omega⟩
      · have hge : ¬ (k : Int) < (l1 : Int) := by omega
        have hkl : k = l1 := by omega
        have hall : (m.S.drop 1).all (fun s => decide (s.length ≤ 1000)) = true := by
          rw [List.all_eq_true]
          intro s hs
          obtain ⟨j, hj⟩ := List.getElem?_of_mem hs
          rw [List.getElem?_drop, Nat.add_comm] at hj
          have hjl := (List.getElem?_eq_some_iff.1 hj).1
          rw [decide_eq_true_eq]
          exact HOK.out j (by have := HL1.out; rw [HLS.out] at hjl; omega) s hj
        have hR : (m.calls.all (fun a => inR C a.1) && fitE ⟨C, mem, stacks⟩ m) = R := by rw [← HRR.out, hall, Bool.true_and]
        have HRR := Lib.hid hR
        clear hall hR
        have HHA := HA3.out
        obtain ⟨nA, hnA⟩ : ∃ nA, m.calls.length = nA := ⟨_, rfl⟩
        rw [hnA] at y20 HHA hA63
        have HNA := Lib.hid hnA
        have nA0 : (0 : Int) ≤ (nA : Int) := Int.natCast_nonneg _
        clear hnA
        have HBX2 : Hid (∀ wr, Below W2.heap.size W2 wr → (wr.cell? ⟨w.heap.size, 0, none⟩ = some (.slice ac n cc)) ∧ wr.cell? ⟨w.heap.size, 1, none⟩ = some (.int .i64 mem) ∧ wr.cell? ⟨w.heap.size, 2, none⟩ = some (.int .i64 stacks)) := Lib.hid (fun wr hb => ⟨cell_lo hb hz b0, cell_lo hb hz b1, cell_lo hb hz b2⟩)
        have hgl : g < W2.heap.size := World.block_lt_of_cell? W2 _ y20
        have HBY2 : Hid (∀ wr, Below W2.heap.size W2 wr → wr.cell? ⟨g, 20, none⟩ = some (.slice aA nA cA) ∧ wr.cell? ⟨g, 21, none⟩ = some (.int .i64 m.fp) ∧ wr.cell? ⟨g, 22, none⟩ = some (.int .i64 m.sb) ∧ wr.cell? ⟨g, 23, none⟩ = some (.slice aI m.inp.length cI) ∧ wr.cell? ⟨g, 24, none⟩ = some (.slice aO m.out.length cO)) := Lib.hid (fun wr hb => ⟨cell_lo hb hgl y20, cell_lo hb hgl y21, cell_lo hb hgl y22, cell_lo hb hgl y23, cell_lo hb hgl y24⟩)
        have HHA := Lib.hid HHA
        go_wp2
        clear b0 b1 b2 y18 y19 y20 y21 y22 y23 y24
        go_loopg [83] nA (fun q i wx => ∃ k : Nat, k + q = nA ∧ i = .int .i64 k ∧ Below W2.heap.size W2 wx ∧ ∀ j, j < k → ∀ x, m.calls[j]? = some x → inR C x.1 = true)
        case atStart => exact ⟨0, by omega, rfl, Below.refl _ _, fun j hj => absurd hj (by omega)⟩
        case round =>
          obtain ⟨k, hk, rfl, hbk, hok⟩ := hrel
          have Hk := Lib.hid hk
          have HOK := Lib.hid hok
          have hkn : k ≤ nA := by omega
          obtain ⟨b0, b1, b2⟩ := HBX2.out _ hbk
          obtain ⟨y20, y21, y22, y23, y24⟩ := HBY2.out _ hbk
          have HBK := Lib.hid (HB2.out.trans (hbk.mono HB2.out.size))
          clear hk hok
          by_cases hlt : k < nA
          · have hlt' : (k : Int) < (nA : Int) := by omega
            have hk0 : (0 : Int) ≤ (k : Int) := Int.natCast_nonneg _
            obtain ⟨x, hx⟩ := get_lt HNA.out.symm hlt
            obtain ⟨gA, oA, haA, hgA, _, hAc⟩ := HHA.out (by omega)
            subst haA
            obtain ⟨q1, q2⟩ := hAc k x hx
            have q1 := cell_lo HBK.out hgA q1
            have q2 := cell_lo HBK.out hgA q2
            obtain ⟨xs, xb⟩ := x
            dsimp only at q1 q2
            have HXK := Lib.hid hx
            clear hAc hx
            have hz' : w.heap.size < wr.heap.size := World.block_lt_of_cell? wr _ b0
            have n0' : (wr.alloc (.cells #[.int .i64 xs, .bool xb] 53)).cell? ⟨w.heap.size, 0, none⟩ = some (.slice ac n cc) := cell_lo (below_alloc wr _) hz' b0
            have HBA : Hid (∀ o, Below w.heap.size w (wr.alloc o)) := Lib.hid (fun o => HBK.out.trans ((below_alloc wr o).mono HBK.out.size))
            have HBB : Hid (∀ o, Below W2.heap.size W2 (wr.alloc o)) := Lib.hid (fun o => hbk.trans ((below_alloc wr o).mono hbk.size))
            clear b0 b1 b2 y20 y21 y22 y23 y24
            by_cases hin : inR C xs = true
            rotate_left
            · have hall : (m.calls.all (fun a => inR C a.1)) = false := by
                cases hq : m.calls.all (fun a => inR C a.1) with
                | false => rfl
                | true =>
                  rw [List.all_eq_true] at hq
                  exact absurd (hq _ (List.mem_of_getElem? HXK.out)) hin
              have hR : R = false := by rw [← HRR.out, hall, Bool.false_and]
              subst hR
              clear hall
              by_cases hneg : xs < 0
              · clear hin
                go_wp2
                go_ret
                exact ⟨rfl, HBA.out _⟩
              · have hbig : (n : Int) ≤ xs := by
                  unfold inR at hin
                  rw [HC.out] at hin
                  simp only [Bool.and_eq_true, decide_eq_true_eq] at hin
                  omega
                have hneg' : ¬ xs < 0 := hneg
                clear hin
                go_wp2
                go_ret
                exact ⟨rfl, HBA.out _⟩
            · have hi2 : 0 ≤ xs ∧ xs < n := by
                unfold inR at hin
                rw [HC.out] at hin
                simpa using hin
              obtain ⟨hi3, hi4⟩ := hi2
              have hi5 : ¬ xs < 0 := by omega
              have hi6 : ¬ (n : Int) ≤ xs := by omega
              have HIN := Lib.hid hin
              clear hin
              go_wp2
              have hk := Hk.out
              go_roundg (nA - (k + 1))
              case measure => omega
              case rel => exact ⟨k + 1, by omega, by go_num, HBB.out _, fun j hj x' hx' => by
                rcases Nat.lt_or_ge j k with h | h
                · exact HOK.out j h x' hx'
                · obtain rfl : j = k := by omega
                  obtain rfl := Option.some.inj (HXK.out.symm.trans hx')
                  exact HIN.out⟩
          · have hge : ¬ (k : Int) < (nA : Int) := by omega
            have hkl : k = nA := by omega
            have hall : m.calls.all (fun a => inR C a.1) = true := by
              rw [List.all_eq_true]
              intro x hx
              obtain ⟨j, hj⟩ := List.getElem?_of_mem hx
              have hjl := (List.getElem?_eq_some_iff.1 hj).1
              exact HOK.out j (by rw [hkl, ← HNA.out]; exact hjl) x hj
            have hR : fitE ⟨C, mem, stacks⟩ m = R := by rw [← HRR.out, hall, Bool.true_and]
            unfold fitE at hR
            dsimp only at hR
            rw [HNA.out] at hR
            clear hall
            obtain ⟨li, hli⟩ : ∃ li, m.inp.length = li := ⟨_, rfl⟩
            obtain ⟨lo, hlo⟩ : ∃ lo, m.out.length = lo := ⟨_, rfl⟩
            obtain ⟨fp, hfp⟩ : ∃ fp, m.fp = fp := ⟨_, rfl⟩
            obtain ⟨sb, hsb⟩ : ∃ sb, m.sb = sb := ⟨_, rfl⟩
            rw [hli] at y23 hR
            rw [hlo] at y24 hR
            rw [hfp] at y21 hR
            rw [hsb] at y22 hR
            clear hli hlo hfp hsb
            have li0 : (0 : Int) ≤ (li : Int) := Int.natCast_nonneg _
            have lo0 : (0 : Int) ≤ (lo : Int) := Int.natCast_nonneg _
            have HBX3 := HBX2
            have HBY3 := HBY2
            clear hkl
            by_cases c0 : nA ≤ 100
            rotate_left
            · have hF : R = false := by rw [← hR]; simp; omega
              subst hF
              have t0 : decide ((nA : Int) ≤ 100) = false := decide_eq_false (by omega)
              clear hR c0
              go_wp2
              go_quiet (fail)
              go_wp2
              go_ret
              exact ⟨by first | rfl | (go_outline), drewN_below HBK.out _⟩
            have t0 : decide ((nA : Int) ≤ 100) = true := decide_eq_true (by omega)
            by_cases c1 : li ≤ 4096
            rotate_left
            · have hF : R = false := by rw [← hR]; simp; omega
              subst hF
              have t1 : decide ((li : Int) ≤ 4096) = false := decide_eq_false (by omega)
              clear hR c1
              go_wp2
              go_quiet (fail)
              go_wp2
              go_ret
              exact ⟨by first | rfl | (go_outline), drewN_below HBK.out _⟩
            have t1 : decide ((li : Int) ≤ 4096) = true := decide_eq_true (by omega)
            by_cases c2 : lo ≤ 4096
            rotate_left
            · have hF : R = false := by rw [← hR]; simp; omega
              subst hF
              have t2 : decide ((lo : Int) ≤ 4096) = false := decide_eq_false (by omega)
              clear hR c2
              go_wp2
              go_quiet (fail)
              go_wp2
              go_ret
              exact ⟨by first | rfl | (go_outline), drewN_below HBK.out _⟩
            have t2 : decide ((lo : Int) ≤ 4096) = true := decide_eq_true (by omega)
            by_cases c3 : 0 ≤ fp
            rotate_left
            · have hF : R = false := by rw [← hR]; simp; omega
              subst hF
              have t3 : decide (0 ≤ fp) = false := decide_eq_false (by omega)
              clear hR c3
              go_wp2
              go_quiet (fail)
              go_wp2
              go_ret
              exact ⟨by first | rfl | (go_outline), drewN_below HBK.out _⟩
            have t3 : decide (0 ≤ fp) = true := decide_eq_true (by omega)
            by_cases c4 : fp ≤ mem
            rotate_left
            · have hF : R = false := by rw [← hR]; simp; omega
              subst hF
              have t4 : decide (fp ≤ mem) = false := decide_eq_false (by omega)
              clear hR c4
              go_wp2
              go_quiet (fail)
              go_wp2
              go_ret
              exact ⟨by first | rfl | (go_outline), drewN_below HBK.out _⟩
            have t4 : decide (fp ≤ mem) = true := decide_eq_true (by omega)
            by_cases c5 : 0 ≤ sb
            rotate_left
            · have hF : R = false := by rw [← hR]; simp; omega
              subst hF
              have t5 : decide (0 ≤ sb) = false := decide_eq_false (by omega)
              clear hR c5
              go_wp2
              go_quiet (fail)
              go_wp2
              go_ret
              exact ⟨by first | rfl | (go_outline), drewN_below HBK.out _⟩
            have t5 : decide (0 ≤ sb) = true := decide_eq_true (by omega)
            by_cases c6 : sb ≤ stacks
            rotate_left
            · have hF : R = false := by rw [← hR]; simp; omega
              subst hF
              have t6 : decide (sb ≤ stacks) = false := decide_eq_false (by omega)
              clear hR c6
              go_wp2
              go_quiet (fail)
              go_wp2
              go_ret
              exact ⟨by first | rfl | (go_outline), drewN_below HBK.out _⟩
            have t6 : decide (sb ≤ stacks) = true := decide_eq_true (by omega)
            have hF : R = true := by rw [← hR]; simp; omega
            subst hF
            clear hR c0 c1 c2 c3 c4 c5 c6
            go_wp2
            go_quiet (fail)
            go_wp2
            go_ret
            exact ⟨by first | rfl | (go_outline), drewN_below HBK.out _⟩

end Go.Proofs.YtichiccohmeecaaDoor
