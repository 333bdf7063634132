/- The walks of cpu.Step, cpu.Back and cpu.Fits at a machine that fits. -/
import Derived.Test.YtichiccohmeecaaDoorWhK1
import Derived.Test.YtichiccohmeecaaDoorWhF1
namespace Go.Proofs.YtichiccohmeecaaDoor
open Go.RowKit

theorem step_any {P F : Nat → Prop} {g : Nat} {m : Mach} {V : MV} {im : Im} {vc : Value} {w : World} (h : StepH P F g m V im vc w) :
    Calls Tryd.prog 17 #[imV vc im, .pointer (some ⟨g, 0, none⟩)] w (ExecR F w g (stepP im m)) := by
  by_cases hr : inR im.code (here m) = true
  · obtain ⟨h0, h1⟩ := inR_iff.1 hr
    obtain ⟨k, hk⟩ := Int.eq_ofNat_of_zero_le h0
    exact step_in h k hk (by omega)
  · exact step_out h (by cases hb : inR im.code (here m) with | true => exact absurd hb hr | false => rfl)

/-- a machine on the way, beside the program's own blocks -/
structure GoH (P F : Nat → Prop) (g : Nat) (m : Mach) (V : MV) (im : Im) (vc : Value) (w : World) : Prop extends StepH P F g m V im vc w where
  big : m.Big
  sep : ∀ j, P j → ¬ F j
  zero : ¬ F 0
  low : ∀ j, P j → j < w.heap.size

theorem StepH.below {P F : Nat → Prop} {g : Nat} {m : Mach} {V : MV} {im : Im} {vc : Value} {w w' : World} (h : StepH P F g m V im vc w) (hb : Below w.heap.size w w') : StepH P F g m V im vc w' :=
  ⟨h.mach.below hb, h.code.below hb, h.tab.below hb, h.fit, h.good, h.mem, h.stk, h.len⟩
theorem GoH.below {P F : Nat → Prop} {g : Nat} {m : Mach} {V : MV} {im : Im} {vc : Value} {w w' : World} (h : GoH P F g m V im vc w) (hb : Below w.heap.size w w') : GoH P F g m V im vc w' :=
  ⟨h.toStepH.below hb, h.big, h.sep, h.zero, fun j hj => Nat.lt_of_lt_of_le (h.low j hj) hb.size⟩
/-- what a call that writes within F (and makes new blocks) leaves: all but the machine's own part -/
theorem GoH.after {P F : Nat → Prop} {g : Nat} {m m' : Mach} {V V' : MV} {im : Im} {vc : Value} {w w' : World} (h : GoH P F g m V im vc w) (ht : Touch F w w') (hm : MachW (grow F w w') w' g m' V')
    (hf : Fit im m') (hb : m'.Big) (hl : ∀ s ∈ m'.S, s.length ≤ 1000000) (h0 : 0 < w.heap.size) : GoH P (grow F w w') g m' V' im vc w' := by
  have hk : Keep P w w' := Keep.of_touch ht h.sep
  refine ⟨⟨hm, h.code.keep hk (fun _ h => h), ?_, hf, h.good, h.mem, h.stk, hl⟩, hb, ?_, ?_, fun j hj => Nat.lt_of_lt_of_le (h.low j hj) ht.size⟩
  · exact h.tab.keep (P := fun j => j = 0) (Keep.of_touch ht (fun j hj => by rw [hj]; exact h.zero)) rfl
  · rintro j hj (hF | ⟨h1, _⟩)
    · exact h.sep j hj hF
    · have := h.low j hj; omega
  · rintro (hF | ⟨h1, _⟩)
    · exact h.zero hF
    · omega

theorem step_dir {im : Im} {m : Mach} (hg : Good im.code) (hf : Fit im m) (hb : m.Big) : (stepP im m).2.dir = 1 ∨ (stepP im m).2.dir = -1 := by
  by_cases h0 : (stepP im m).1 = 0
  · exact (step_back hg hf hb (show stepP im m = (0, (stepP im m).2) by rw [← h0])).1.dir
  · rw [step_fail (show stepP im m = ((stepP im m).1, (stepP im m).2) from rfl) h0]
    exact hf.dir

set_option maxRecDepth 100000 in
set_option maxHeartbeats 4000000 in
theorem Step_any {P F : Nat → Prop} {g : Nat} {m : Mach} {V : MV} {im : Im} {vc : Value} {w : World} (h : StepH P F g m V im vc w) :
    Calls Tryd.prog 7 #[imV vc im, .pointer (some ⟨g, 0, none⟩)] w (ExecR F w g (stepP im m)) := by
  have HH := Lib.hid h
  obtain ⟨B, hB⟩ : ∃ B, B = w.alloc (.cells #[vc, .int .i64 im.mem, .int .i64 im.stacks] 24) := ⟨_, rfl⟩
  have hbel : Below w.heap.size w B := by rw [hB]; exact below_alloc _ _
  have hbx : Blk B w.heap.size 24 #[vc, .int .i64 im.mem, .int .i64 im.stacks] := by rw [hB]; exact Blk.new _ _ _
  have b0 := hbx.cell 0
  have b1 := hbx.cell 1
  have b2 := hbx.cell 2
  have hbl : w.heap.size < B.heap.size := by rw [hB]; simp
  have HFB : Hid (Calls Tryd.prog 16 #[imV vc im, .pointer (some ⟨g, 0, none⟩)] B (FitsR true B)) := Lib.hid (by
    have := fits_any im vc g m V B (h.code.below hbel) (h.mach.below hbel).toR
    rw [fits_iff.2 h.fit] at this
    exact this)
  have HSB : Hid (∀ w', Below w.heap.size w w' → Calls Tryd.prog 17 #[imV vc im, .pointer (some ⟨g, 0, none⟩)] w' (ExecR F w' g (stepP im m))) := Lib.hid (fun w' hb => step_any (HH.out.below hb))
  obtain ⟨ac, cp, rfl, -, -, -⟩ := h.code
  have HB := Lib.hid hB
  have HBE := Lib.hid hbel
  generalize stepP im m = r at *
  unfold imV at *
  clear h hB hbel hbx
  go_enter Tryd.func7, Tryd.ntmps7
  go_wp2_with fail
  rw [← HB.out]
  refine HFB.out.mono ?_
  rintro e w1 ⟨rfl, hb⟩
  have b0 := cell_lo hb hbl b0
  have b1 := cell_lo hb hbl b1
  have b2 := cell_lo hb hbl b2
  have HB1 := Lib.hid (HBE.out.trans (hb.mono HBE.out.size))
  have HF1 : Hid (Touch F w w1) := Lib.hid (Touch.of_below HB1.out)
  clear hb
  go_wp2_with fail
  refine (HSB.out w1 HB1.out).mono ?_
  rintro e w5 ⟨V', rfl, ht, hm⟩
  have HR := Lib.hid (ExecR.of (e := .returned (.int .i64 r.1)) ⟨V', rfl, ht, hm⟩ HF1.out)
  clear ht hm
  go_wp2
  go_ret
  exact HR.out

set_option maxRecDepth 100000 in
set_option maxHeartbeats 4000000 in
theorem Back_any {P F : Nat → Prop} {g : Nat} {m : Mach} {V : MV} {im : Im} {vc : Value} {w : World} (h : GoH P F g m V im vc w) :
    Calls Tryd.prog 8 #[imV vc im, .pointer (some ⟨g, 0, none⟩)] w (ExecR F w g (backP im m)) := by
  have HH := Lib.hid h
  obtain ⟨B, hB⟩ : ∃ B, B = w.alloc (.cells #[vc, .int .i64 im.mem, .int .i64 im.stacks] 24) := ⟨_, rfl⟩
  have hbel : Below w.heap.size w B := by rw [hB]; exact below_alloc _ _
  have hbx : Blk B w.heap.size 24 #[vc, .int .i64 im.mem, .int .i64 im.stacks] := by rw [hB]; exact Blk.new _ _ _
  have b0 := hbx.cell 0
  have b1 := hbx.cell 1
  have b2 := hbx.cell 2
  have hbl : w.heap.size < B.heap.size := by rw [hB]; simp
  have HFB : Hid (Calls Tryd.prog 16 #[imV vc im, .pointer (some ⟨g, 0, none⟩)] B (FitsR true B)) := Lib.hid (by
    have := fits_any im vc g m V B (h.code.below hbel) (h.mach.below hbel).toR
    rw [fits_iff.2 h.fit] at this
    exact this)
  have hgw : g ≠ w.heap.size := by have := h.mach.blk.lt; omega
  have hgw2 := Ne.symm hgw
  have HSB : Hid (∀ w', Below w.heap.size w w' → Calls Tryd.prog 17 #[imV vc im, .pointer (some ⟨g, 0, none⟩)] (w'.setCell ⟨g, 1, none⟩ (.int .i64 (-m.dir))) (ExecR F (w'.setCell ⟨g, 1, none⟩ (.int .i64 (-m.dir))) g (stepP im (turn m)))) := Lib.hid (fun w' hb => by
    have h1 := HH.out.below hb
    have hT : Touch F w' (w'.setCell ⟨g, 1, none⟩ (.int .i64 (-m.dir))) := (Touch.refl F w').of_set (.inl h1.mach.own) _ _
    have hk : Keep P w' (w'.setCell ⟨g, 1, none⟩ (.int .i64 (-m.dir))) := Keep.of_touch hT h1.sep
    exact step_any ⟨h1.mach.dir _, h1.code.keep hk (fun _ h => h), h1.tab.keep (P := fun j => j = 0) (Keep.of_touch hT (fun j hj => by rw [hj]; exact h1.zero)) rfl, turn_fit h1.fit, h1.good, h1.mem, h1.stk, h1.len⟩)
  have HTB : Hid (∀ w', Below w.heap.size w w' → Calls Tryd.prog 18 #[.pointer (some ⟨g, 0, none⟩)] w' fun e w'' => e = .returned (.tuple #[]) ∧ w'' = w'.setCell ⟨g, 1, none⟩ (.int .i64 (-m.dir))) := Lib.hid (fun w' hb => turn_any F g m V w' (HH.out.mach.below hb) HH.out.fit.dir)
  have HSD := Lib.hid (step_dir h.good (turn_fit h.fit) (turn_big h.big))
  obtain ⟨R, hR⟩ : ∃ R, backP im m = R := ⟨_, rfl⟩
  rw [hR]
  unfold backP at hR
  have HRR := Lib.hid hR
  obtain ⟨ac, cp, rfl, -, -, -⟩ := h.code
  have HB := Lib.hid hB
  have HBE := Lib.hid hbel
  generalize stepP im (turn m) = r at *
  unfold imV at *
  obtain ⟨nd, hnd⟩ : ∃ nd, -m.dir = nd := ⟨_, rfl⟩
  rw [hnd] at HSB HTB
  clear h hB hbel hbx hR hnd
  go_enter Tryd.func8, Tryd.ntmps8
  go_wp2_with fail
  rw [← HB.out]
  refine HFB.out.mono ?_
  rintro e w1 ⟨rfl, hb⟩
  have b0 := cell_lo hb hbl b0
  have b1 := cell_lo hb hbl b1
  have b2 := cell_lo hb hbl b2
  have HB1 := Lib.hid (HBE.out.trans (hb.mono HBE.out.size))
  clear hb
  go_wp2_with fail
  refine (HTB.out w1 HB1.out).mono ?_
  rintro e w2 ⟨rfl, rfl⟩
  go_wp2_with fail
  refine (HSB.out w1 HB1.out).mono ?_
  rintro e w5 ⟨V', rfl, ht, hm⟩
  have HT5 : Hid (Touch F w w5) := Lib.hid (((Touch.of_below HB1.out).of_set (.inl HH.out.mach.own) 1 (.int .i64 nd)).trans ht (fun _ _ h => h))
  have hs1 := HB1.out.size
  have HM5 : Hid (MachW (grow F w w5) w5 g r.2 V') := Lib.hid (hm.mono (fun j hj => by
    have hj : F j ∨ ((w1.setCell ⟨g, 1, none⟩ (.int .i64 nd)).heap.size ≤ j ∧ j < w5.heap.size) := hj
    have hz : (w1.setCell ⟨g, 1, none⟩ (.int .i64 nd)).heap.size = w1.heap.size := by simp [World.setCell]
    rw [hz] at hj
    rcases hj with hj | hj
    · exact .inl hj
    · exact .inr ⟨by omega, hj.2⟩))
  clear ht hm
  go_wp2_with fail
  refine (turn_any _ g _ _ _ HM5.out HSD.out).mono ?_
  rintro e w6 ⟨rfl, rfl⟩
  go_wp2
  go_ret
  rw [← HRR.out]
  exact exec_end (HM5.out.dir _) (HT5.out.of_set (.inl HH.out.mach.own) _ _) (by simp [World.setCell]) rfl

set_option maxRecDepth 100000 in
set_option maxHeartbeats 4000000 in
theorem Fits_any {P F : Nat → Prop} {g : Nat} {m : Mach} {V : MV} (im : Im) (vc : Value) (w : World) (hC : CodeIn P w vc im.code) (hT : TabAt w) (hl : im.code.length ≤ 1000) (hM : MachR F w g m V) :
    Calls Tryd.prog 10 #[imV vc im, .pointer (some ⟨g, 0, none⟩)] w (FitsR (checkB im && fitsP im m) w) := by
  obtain ⟨B, hB⟩ : ∃ B, B = w.alloc (.cells #[vc, .int .i64 im.mem, .int .i64 im.stacks] 24) := ⟨_, rfl⟩
  have hbel : Below w.heap.size w B := by rw [hB]; exact below_alloc _ _
  have hbx : Blk B w.heap.size 24 #[vc, .int .i64 im.mem, .int .i64 im.stacks] := by rw [hB]; exact Blk.new _ _ _
  have b0 := hbx.cell 0
  have b1 := hbx.cell 1
  have b2 := hbx.cell 2
  have hbl : w.heap.size < B.heap.size := by rw [hB]; simp
  have HVB : Hid (Calls Tryd.prog 21 #[imV vc im] B (ValidR im B)) := Lib.hid (image_valid im vc B (hC.below hbel) (hT.below hbel) hl)
  have HFB : Hid (∀ w', Below w.heap.size w w' → Calls Tryd.prog 16 #[imV vc im, .pointer (some ⟨g, 0, none⟩)] w' (FitsR (fitsP im m) w')) := Lib.hid (fun w' hb => fits_any im vc g m V w' (hC.below hb) (hM.below hb))
  obtain ⟨ac, cp, rfl, -, -, -⟩ := hC
  have HB := Lib.hid hB
  have HBE := Lib.hid hbel
  unfold ValidR at HVB
  generalize fitsP im m = f at *
  cases hv : checkB im with
  | false =>
    rw [hv] at HVB
    rw [Bool.false_and]
    unfold imV at *
    clear hM hT hB hbel hbx
    go_enter Tryd.func10, Tryd.ntmps10
    go_wp2_with fail
    rw [← HB.out]
    refine HVB.out.mono ?_
    rintro e w1 ⟨rfl, hb⟩
    have HB1 := Lib.hid (HBE.out.trans (hb.mono HBE.out.size))
    clear hb
    go_wp2
    go_ret
    exact ⟨rfl, HB1.out⟩
  | true =>
    rw [hv] at HVB
    rw [Bool.true_and]
    unfold imV at *
    clear hM hT hB hbel hbx
    go_enter Tryd.func10, Tryd.ntmps10
    go_wp2_with fail
    rw [← HB.out]
    refine HVB.out.mono ?_
    rintro e w1 ⟨rfl, hb⟩
    have b0 := cell_lo hb hbl b0
    have b1 := cell_lo hb hbl b1
    have b2 := cell_lo hb hbl b2
    have HB1 := Lib.hid (HBE.out.trans (hb.mono HBE.out.size))
    clear hb
    go_wp2_with fail
    refine (HFB.out w1 HB1.out).mono ?_
    rintro e w2 ⟨rfl, hb⟩
    have HB2 := Lib.hid (HB1.out.trans (hb.mono HB1.out.size))
    clear hb
    go_wp2
    go_ret
    exact ⟨rfl, HB2.out⟩

end Go.Proofs.YtichiccohmeecaaDoor
