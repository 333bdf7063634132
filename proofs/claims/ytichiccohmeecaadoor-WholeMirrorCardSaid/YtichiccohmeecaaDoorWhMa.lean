/- awakeCPU: the processor steps forward and back. -/
import Derived.Test.YtichiccohmeecaaDoorWhL9
import Derived.Test.YtichiccohmeecaaDoorWhP9
import Derived.Test.YtichiccohmeecaaDoorWhL6
namespace Go.Proofs.YtichiccohmeecaaDoor
open Go.RowKit

theorem im0_good : Good im0.code := code_good (by decide) (by decide +kernel)
theorem im0_fit : Fit im0 m0 := fits_iff.1 (by decide +kernel)
theorem m0_big : m0.Big := by
  refine ⟨fun _ => zero_big, fun x hx => ?_, fun s hs x hx => ?_, fun x hx => ?_, fun x hx => ?_⟩
  · simp only [m0, List.mem_cons, List.not_mem_nil, or_false] at hx; rw [hx]; exact zero_big
  · simp only [m0, List.mem_cons, List.not_mem_nil, or_false] at hs; subst hs; cases hx
  · cases hx
  · cases hx
theorem step_m0 : (stepP im0 m0).1 = 0 ∧ (stepP im0 m0).2.R 1 = 5 := by decide +kernel
theorem back_m0 : (backP im0 (stepP im0 m0).2).1 = 0 ∧ (backP im0 (stepP im0 m0).2).2.R 1 = 0 ∧ (backP im0 (stepP im0 m0).2).2.pc = 0 := by decide +kernel
theorem step_len0 : ∀ s ∈ (stepP im0 m0).2.S, s.length ≤ 1000000 := by
  have := step_lens (L := 0) (im := im0) (m := m0) (by intro s hs; simp only [m0, List.mem_cons, List.not_mem_nil, or_false] at hs; rw [hs]; exact Nat.le_refl _)
  exact fun s hs => Nat.le_trans (this s hs) (by decide)
/-- the new machine's blocks -/
def FN (B : Nat) (w : World) (j : Nat) : Prop := B ≤ j ∧ j < w.heap.size
theorem new_mach {B gM gS : Nat} {w1 : World} (hB : B ≤ w1.heap.size) (hM : B ≤ gM) (hS : B ≤ gS) (kM : Blk w1 gM 3 #[.int .i64 0]) (kS : Blk w1 gS 26 #[.slice none 0 0]) :
    MachW (FN B (w1.alloc (.cells (mcs m0 (V0 gM gS)) 30))) (w1.alloc (.cells (mcs m0 (V0 gM gS)) 30)) w1.heap.size m0 (V0 gM gS) := by
  have lM := (kM.al (.cells (mcs m0 (V0 gM gS)) 30)).lt
  have lS := (kS.al (.cells (mcs m0 (V0 gM gS)) 30)).lt
  have lG : w1.heap.size < (w1.alloc (.cells (mcs m0 (V0 gM gS)) 30)).heap.size := by simp
  refine ⟨⟨hB, lG⟩, Blk.new _ _ _, ⟨rfl, .inr ⟨gM, 1, _, rfl, Nat.zero_le _, kM.al _, Nat.le_refl _, by decide, rfl, rfl⟩⟩, fun j hj => ?_, ⟨rfl, .inr ⟨gS, 1, _, rfl, Nat.zero_le _, kS.al _, Nat.le_refl _, by decide, rfl, rfl⟩⟩, fun j hj => ?_, fun k l hl => ?_, ?_, ?_, ?_⟩
  · have : gM = j := by injection hj
    subst this; exact ⟨hM, lM⟩
  · have : gS = j := by injection hj
    subst this; exact ⟨hS, lS⟩
  · match k, hl with
    | 0, hl =>
      obtain rfl : l = [] := (Option.some.inj hl).symm
      exact ⟨_, rfl, ⟨none, 0, rfl, Nat.le_refl _, by decide, fun h => absurd h (by decide)⟩, fun n c hv => by injection hv with _ _ h; exact h.symm⟩
  · exact ⟨⟨none, 0, rfl, Nat.le_refl _, by decide, fun h => absurd h (by decide)⟩, fun n c hv => by injection hv with _ _ h; exact h.symm⟩
  · exact ⟨⟨none, 0, rfl, Nat.le_refl _, by decide, fun h => absurd h (by decide)⟩, fun n c hv => by injection hv with _ _ h; exact h.symm⟩
  · exact ⟨⟨none, 0, rfl, Nat.le_refl _, by decide, fun h => absurd h (by decide)⟩, fun n c hv => by injection hv with _ _ h; exact h.symm⟩

theorem code_im0 {W : World} {b : Nat} (hb : Blk W b 45 #[.int .u8 4, .int .i64 1, .int .i64 5, .int .i64 0, .int .i64 0]) : CodeIn (fun j => j = b) W (.slice (some ⟨b, 0, none⟩) 1 1) im0.code :=
  ⟨_, 1, rfl, Nat.le_refl _, by decide, fun _ => ⟨b, 0, rfl, hb.lt, rfl, fun i x hx => by
    match i, hx with
    | 0, hx =>
      obtain rfl : x = ⟨4, 1, 5, 0, 0⟩ := (Option.some.inj hx).symm
      exact ⟨hb.cell 0, hb.cell 1, hb.cell 2, hb.cell 3, hb.cell 4⟩⟩⟩

set_option maxRecDepth 100000 in
set_option maxHeartbeats 16000000 in
theorem awake_any (w : World) (hT : TabAt w) : Calls Tryd.prog 5 #[] w (FitsR true w) := by
  obtain ⟨b, hb⟩ : ∃ b, w.heap.size = b := ⟨_, rfl⟩
  obtain ⟨W0, hW0⟩ : ∃ W0, W0 = (w.alloc (.cells #[.int .u8 4, .int .i64 1, .int .i64 5, .int .i64 0, .int .i64 0] 45)).alloc (.cells #[.slice (some ⟨b, 0, none⟩) 1 1, .int .i64 1, .int .i64 1] 24) := ⟨_, rfl⟩
  have hB0 : Below w.heap.size w W0 := by rw [hW0]; exact below_al (below_alloc _ _) (Nat.le_refl _) _
  have kc : Blk W0 b 45 #[.int .u8 4, .int .i64 1, .int .i64 5, .int .i64 0, .int .i64 0] := by rw [hW0]; exact (Blk.new' hb).al _
  have ki : Blk W0 (b + 1) 24 #[.slice (some ⟨b, 0, none⟩) 1 1, .int .i64 1, .int .i64 1] := by rw [hW0]; exact Blk.new' (by rw [← hb]; simp)
  have hs0 : W0.heap.size = b + 2 := by rw [hW0, ← hb]; simp
  have HN := Lib.hid (New_any _ W0 (code_im0 kc) (hT.below hB0))
  have HW0 := Lib.hid hW0
  have HB0 := Lib.hid hB0
  have HKC := Lib.hid kc
  have HKI := Lib.hid ki
  have HT := Lib.hid (hT.below hB0)
  have HBB := Lib.hid hb
  have b0 := ki.cell 0
  have b1 := ki.cell 1
  have b2 := ki.cell 2
  rw [show imV (.slice (some ⟨b, 0, none⟩) 1 1) im0 = .agg #[.slice (some ⟨b, 0, none⟩) 1 1, .int .i64 1, .int .i64 1] from rfl] at HN
  clear hW0 hB0 kc ki hT hb
  go_enter Tryd.func5, Tryd.ntmps5
  go_wp2_with fail
  rw [HBB.out, ← HW0.out]
  refine HN.out.mono ?_
  rintro e w1 ⟨gM, gS, rfl, hb1, hgM, hgS, kM, kS⟩
  obtain ⟨W2, hW2⟩ : ∃ W2, W2 = w1.alloc (.cells (mcs m0 (V0 gM gS)) 30) := ⟨_, rfl⟩
  have hs1 := hb1.size
  have hb2 : Below W0.heap.size W0 W2 := by rw [hW2]; exact below_al hb1 (Nat.le_refl _) _
  have hm2 := new_mach hs1 hgM hgS kM kS
  rw [← hW2] at hm2
  have hg2 : GoH (fun j => j = b) (FN W0.heap.size W2) w1.heap.size m0 (V0 gM gS) im0 (.slice (some ⟨b, 0, none⟩) 1 1) W2 :=
    ⟨⟨hm2, code_im0 (HKC.out.next hb2), HT.out.below hb2, im0_fit, im0_good, by decide, by decide, fun s hs => by
      simp only [m0, List.mem_cons, List.not_mem_nil, or_false] at hs; rw [hs]; exact Nat.zero_le _⟩, m0_big, fun j hj hF => by have := hF.1; omega, fun hF => by have := hF.1; omega, fun j hj => by have := hb2.size; omega⟩
  have hK2 := HKI.out.next hb2
  have b0 := hK2.cell 0
  have b1 := hK2.cell 1
  have b2 := hK2.cell 2
  have HG2 := Lib.hid hg2
  have HK2 := Lib.hid hK2
  have HW2 := Lib.hid hW2
  have HB2 := Lib.hid hb2
  obtain ⟨G, hG⟩ : ∃ G, w1.heap.size = G := ⟨_, rfl⟩
  have HGG := Lib.hid hG
  rw [hG] at HG2
  clear hb1 hgM hgS kM kS hs1 hb2 hm2 hg2 hK2 hW2 hG
  go_wp2_with (first
    | (refine wpList_alloc_store rfl rfl 30 _ _ rfl rfl _ 25 machZero rfl (mcs m0 (V0 gM gS)) (mcs_size _ _) (mcs_one ⟨rfl, rfl, rfl, rfl, rfl⟩) rfl rfl ?_; rw [← HW2.out, HGG.out])
    | fail)
  have HS3 := Lib.hid (Step_any HG2.out.toStepH)
  obtain ⟨R, hR⟩ : ∃ R, stepP im0 m0 = R := ⟨_, rfl⟩
  have h1 := step_m0
  have h2 := back_m0
  have h3 := step_len0
  have hbk := step_back im0_good im0_fit m0_big (show stepP im0 m0 = (0, (stepP im0 m0).2) from Prod.ext h1.1 rfl)
  rw [hR] at HS3 h1 h2 h3 hbk
  obtain ⟨r1, m1⟩ := R
  dsimp only at h1 h2 h3 hbk
  obtain ⟨rfl, h1⟩ := h1
  have HR := Lib.hid hR
  have H2 := Lib.hid h2
  clear hR h2
  refine HS3.out.mono ?_
  rintro e w3 ⟨V3, rfl, ht3, hm3⟩
  have hg3 := HG2.out.after ht3 hm3 hbk.1 hbk.2.1 h3 (by have := HB2.out.size; omega)
  have hK3 : Blk w3 (b + 1) 24 #[.slice (some ⟨b, 0, none⟩) 1 1, .int .i64 1, .int .i64 1] := (ht3.block (b + 1) HK2.out.lt (fun hF => by have := hF.1; omega)).trans HK2.out
  have b0 := hK3.cell 0
  have b1 := hK3.cell 1
  have b2 := hK3.cell 2
  have y3 : w3.cell? ⟨G, 3, none⟩ = some (.int .i64 (m1.R 1)) := hm3.cell (by decide)
  rw [h1] at y3
  have HG3 := Lib.hid hg3
  have HT3 := Lib.hid ht3
  have HK3 := Lib.hid hK3
  clear hg3 hK3 ht3 hm3 hbk h3 HS3
  go_wp2_with fail
  refine (Back_any HG3.out).mono ?_
  rintro e w4 ⟨V4, rfl, ht4, hm4⟩
  obtain ⟨R, hR⟩ : ∃ R, backP im0 m1 = R := ⟨_, rfl⟩
  have h2 := H2.out
  rw [hR] at h2 hm4 ⊢
  obtain ⟨r2, m2⟩ := R
  dsimp only at h2 hm4 ⊢
  obtain ⟨rfl, h2, h4⟩ := h2
  have z3 : w4.cell? ⟨G, 3, none⟩ = some (.int .i64 (m2.R 1)) := hm4.cell (by decide)
  have z0 : w4.cell? ⟨G, 0, none⟩ = some (.int .i64 m2.pc) := hm4.cell (by decide)
  rw [h2] at z3
  rw [h4] at z0
  have HT4 := Lib.hid ht4
  clear ht4 hm4 hR h2 h4 y3 h1
  go_wp2
  go_ret
  refine ⟨rfl, ?_⟩
  have hz0 := HB0.out.size
  have hz2 := HB2.out.size
  have a1 := below_next HB0.out (Nat.le_refl _) HB2.out
  have a2 := HT3.out.to_below a1 (Nat.le_refl _) (fun j hF => by have := hF.1; omega)
  have hz3 := HT3.out.size
  exact HT4.out.to_below a2 (Nat.le_refl _) (fun j hF => by
    rcases hF with hF | hF
    · have := hF.1; omega
    · omega)

end Go.Proofs.YtichiccohmeecaaDoor

/- fitting: the image is valid, the machine fits it, both are small. -/
namespace Go.Proofs.YtichiccohmeecaaDoor
open Go.RowKit

def FittingR (im : Im) (m : Mach) (w : World) (e : Ending) (w' : World) : Prop := ∃ B, e = .returned (.bool B) ∧ (B = true → Small im m ∧ checkB im = true ∧ fitsP im m = true) ∧ Below w.heap.size w w'

set_option maxRecDepth 100000 in
set_option maxHeartbeats 16000000 in
theorem fitting_any {P : Nat → Prop} (im : Im) (vc : Value) (m : Mach) (V : MV) (w : World) (hC : CodeIn P w vc im.code) (h : RowsR P w m V) (hT : TabAt w) :
    Calls Tryd.prog 6 #[imV vc im, .agg (mcs m V)] w (FittingR im m w) := by
  obtain ⟨b, hb⟩ : ∃ b, w.heap.size = b := ⟨_, rfl⟩
  obtain ⟨W0, hW0⟩ : ∃ W0, W0 = (w.alloc (.cells #[vc, .int .i64 im.mem, .int .i64 im.stacks] 24)).alloc (.cells (mcs m V) 30) := ⟨_, rfl⟩
  have hB0 : Below w.heap.size w W0 := by rw [hW0]; exact below_al (below_alloc _ _) (Nat.le_refl _) _
  have ki : Blk W0 b 24 #[vc, .int .i64 im.mem, .int .i64 im.stacks] := by rw [hW0]; exact (Blk.new' hb).al _
  have km : Blk W0 (b + 1) 30 (mcs m V) := by rw [hW0]; exact Blk.new' (by rw [← hb]; simp)
  have HG : Hid (Calls Tryd.prog 15 #[imV vc im, .agg (mcs m V)] W0 (GreatR im m W0)) := Lib.hid (great_any im vc m V W0 (hC.below hB0) (h.below hB0))
  have HF : Hid (∀ w', Below W0.heap.size W0 w' → Small im m → Calls Tryd.prog 10 #[imV vc im, .pointer (some ⟨b + 1, 0, none⟩)] w' (FitsR (checkB im && fitsP im m) w')) := Lib.hid (fun w' hb' hs =>
    Fits_any (F := P) im vc w' ((hC.below hB0).below hb') ((hT.below hB0).below hb') (by have := hs.code; omega) ⟨km.next hb', (h.below hB0).below hb'⟩)
  obtain ⟨ac, cp, rfl, -, -, -⟩ := hC
  have HW0 := Lib.hid hW0
  have HB0 := Lib.hid hB0
  have HKI := Lib.hid ki
  have HKM : Hid (W0.heap[w.heap.size + 1]? = some (.cells (mcs m V) 30 (0, 0))) := Lib.hid (by rw [hb]; exact km)
  have HSZ : Hid ((mcs m V).size = 25) := Lib.hid (mcs_size m V)
  have HBB := Lib.hid hb
  have hlt := ki.lt
  have b0 := ki.cell 0
  have b1 := ki.cell 1
  have b2 := ki.cell 2
  unfold imV at *
  obtain ⟨C, hC⟩ : ∃ C, mcs m V = C := ⟨_, rfl⟩
  rw [hC] at HG HW0 HKM HSZ ⊢
  clear hW0 hB0 ki km hT hb h hC
  go_enter Tryd.func6, Tryd.ntmps6
  go_wp2_with (first
    | (refine wpList_load_row rfl 30 _ rfl (w.heap.size + 1) rfl 30 C (0, 0) _ (by rw [← HW0.out]; exact HKM.out) Tryd.underlying30 rfl (by rw [HSZ.out]; exact machSize) ?_)
    | fail)
  rw [← HW0.out, HBB.out]
  refine HG.out.mono ?_
  rintro e w1 ⟨k, rfl, hk, hb1⟩
  have HB1 := Lib.hid (below_next HB0.out (Nat.le_refl _) hb1)
  have b0 := cell_lo hb1 (by omega) b0
  have b1 := cell_lo hb1 (by omega) b1
  have b2 := cell_lo hb1 (by omega) b2
  by_cases h0 : k = 0
  · have HS := Lib.hid (hk h0)
    have HF1 := Lib.hid (HF.out w1 hb1 HS.out)
    subst h0
    clear hk hb1
    go_wp2_with fail
    refine HF1.out.mono ?_
    rintro e w2 ⟨rfl, hb2⟩
    have HB2 := Lib.hid (below_next HB1.out (Nat.le_refl _) hb2)
    clear hb2
    go_wp2
    go_ret
    exact ⟨_, rfl, fun h => ⟨HS.out, by simpa using h⟩, HB2.out⟩
  · have h1 : (k == 0) = false := by simpa using h0
    clear hk hb1
    go_wp2
    go_ret
    exact ⟨_, rfl, fun h => absurd h (by decide), HB1.out⟩

end Go.Proofs.YtichiccohmeecaaDoor

/- A machine on its way there and home, in memory. -/
namespace Go.Proofs.YtichiccohmeecaaDoor
open Go.RowKit

/-- what the law knows of the image and the machine it starts from -/
structure TopH (im : Im) (m : Mach) : Prop where
  good : Good im.code
  fit : Fit im m
  big : m.Big
  len : LenS 20 m.S
  mem : im.mem ≤ 16384
  stk : im.stacks ≤ 16384
  code : im.code.length ≤ 1000
  check : checkB im = true
theorem top_of {im : Im} {m : Mach} (hs : Small im m) (hc : checkB im = true) (hf : fitsP im m = true) (hb : m.Big) : TopH im m := by
  have hc' := hc
  unfold checkB at hc'
  rw [Bool.and_eq_true] at hc'
  have h1 := hs.code
  have h2 := hs.mem
  have h3 := hs.stacks
  exact ⟨code_good (by omega) hc'.2, fits_iff.1 hf, hb, hs.rows, by omega, by omega, by omega, hc⟩

structure RunS (b : Bool) (im : Im) (vc : Value) (m : Mach) (B0 B : Nat) (w0 : World) (G j : Nat) (w : World) (m' : Mach) (V' : MV) (F : Nat → Prop) : Prop where
  trail : Trail b im m j m'
  go : GoH (fun x => x < B0) F G m' V' im vc w
  far : ∀ x, F x → B ≤ x
  below : Below B w0 w
theorem RunS.move {b : Bool} {im : Im} {vc : Value} {m : Mach} {B0 B : Nat} {w0 : World} {G j k : Nat} {w w' : World} {m' m2 : Mach} {V' V2 : MV} {F : Nat → Prop} (h : RunS b im vc m B0 B w0 G j w m' V' F) (hT : TopH im m)
    (ht : Touch F w w') (hm : MachW (grow F w w') w' G m2 V2) (htr : Trail b im m k m2) (hk : k ≤ 100) (hB : B ≤ w0.heap.size) (h0 : 0 < B) : RunS b im vc m B0 B w0 G k w' m2 V2 (grow F w w') := by
  obtain ⟨f1, f2⟩ := trail_fit hT.good hT.fit hT.big k m2 htr
  have hl := trail_lens hT.len k m2 htr
  have hs := h.below.size
  refine ⟨htr, h.go.after ht hm f1 f2 (fun s hs => Nat.le_trans (hl s hs) (by omega)) (by omega), ?_, ht.to_below h.below hB h.far⟩
  rintro x (hx | hx)
  · exact h.far x hx
  · omega
def fid (b : Bool) : FuncId := if b then 8 else 7
theorem RunS.call {b : Bool} {im : Im} {vc : Value} {m : Mach} {B0 B : Nat} {w0 : World} {G j : Nat} {w : World} {m' : Mach} {V' : MV} {F : Nat → Prop} (h : RunS b im vc m B0 B w0 G j w m' V' F) :
    ∀ c, Calls Tryd.prog (fid c) #[imV vc im, .pointer (some ⟨G, 0, none⟩)] w (ExecR F w G (goP c im m'))
  | false => Step_any h.go.toStepH
  | true => Back_any h.go
theorem RunS.fits {b : Bool} {im : Im} {vc : Value} {m : Mach} {B0 B : Nat} {w0 : World} {G j : Nat} {w : World} {m' : Mach} {V' : MV} {F : Nat → Prop} (h : RunS b im vc m B0 B w0 G j w m' V' F) (hT : TopH im m) :
    Calls Tryd.prog 10 #[imV vc im, .pointer (some ⟨G, 0, none⟩)] w (FitsR true w) := by
  have := Fits_any (F := F) im vc w h.go.code h.go.tab hT.code h.go.mach.toR
  rw [hT.check, fits_iff.2 h.go.fit] at this
  exact this
theorem RunS.next {b : Bool} {im : Im} {vc : Value} {m : Mach} {B0 B : Nat} {w0 : World} {G j : Nat} {w w' : World} {m' : Mach} {V' : MV} {F : Nat → Prop} (h : RunS b im vc m B0 B w0 G j w m' V' F) (hb : Below w.heap.size w w') (hB : B ≤ w0.heap.size) : RunS b im vc m B0 B w0 G j w' m' V' F :=
  ⟨h.trail, h.go.below hb, h.far, below_next h.below hB hb⟩
/-- a step there: it went, or it left the machine as it was -/
theorem RunS.there {b : Bool} {im : Im} {vc : Value} {m : Mach} {B0 B : Nat} {w0 : World} {G j : Nat} {w w' : World} {m' : Mach} {V' V2 : MV} {F : Nat → Prop} (h : RunS b im vc m B0 B w0 G j w m' V' F) (hT : TopH im m)
    (ht : Touch F w w') (hm : MachW (grow F w w') w' G (goP b im m').2 V2) (hj : j < 100) (hB : B ≤ w0.heap.size) (h0 : 0 < B) :
    if (goP b im m').1 = 0 then ∃ m2, RunS b im vc m B0 B w0 G (j + 1) w' m2 V2 (grow F w w') else RunS b im vc m B0 B w0 G j w' m' V2 (grow F w w') := by
  split
  · rename_i he
    exact ⟨_, h.move hT ht hm ⟨m', h.trail, Prod.ext he rfl⟩ (by omega) hB h0⟩
  · rename_i he
    have e := go_fail (show goP b im m' = ((goP b im m').1, (goP b im m').2) from rfl) he
    rw [e] at hm
    exact h.move hT ht hm h.trail (by omega) hB h0
theorem RunS.home {b : Bool} {im : Im} {vc : Value} {m : Mach} {B0 B : Nat} {w0 : World} {G j : Nat} {w w' : World} {m' : Mach} {V' V2 : MV} {F : Nat → Prop} (h : RunS b im vc m B0 B w0 G (j + 1) w m' V' F) (hT : TopH im m)
    (ht : Touch F w w') (hm : MachW (grow F w w') w' G (goP (!b) im m').2 V2) (hj : j < 100) (hB : B ≤ w0.heap.size) (h0 : 0 < B) :
    (goP (!b) im m').1 = 0 ∧ ∃ m2, RunS b im vc m B0 B w0 G j w' m2 V2 (grow F w w') := by
  obtain ⟨n, h1, h2⟩ := trail_home hT.good hT.fit hT.big h.trail
  rw [h2] at hm ⊢
  exact ⟨rfl, n, h.move hT ht hm h1 (by omega) hB h0⟩
theorem RunS.start {P : Nat → Prop} {b : Bool} {im : Im} {vc : Value} {m : Mach} {B0 : Nat} {w0 w : World} {G : Nat} {V' : MV} (hT : TopH im m) (hC : CodeIn P w0 vc im.code) (hP : ∀ j, P j → j < B0) (hB0 : B0 ≤ w0.heap.size) (h0 : 0 < B0) (htab : TabAt w0)
    (hb : Below w0.heap.size w0 w) (hm : MachW (fun j => w0.heap.size ≤ j ∧ j < w.heap.size) w G m V') : RunS b im vc m B0 w0.heap.size w0 G 0 w m V' (fun j => w0.heap.size ≤ j ∧ j < w.heap.size) :=
  ⟨rfl, ⟨⟨hm, hC.keep (Keep.of_below hb) hP, htab.below hb, hT.fit, hT.good, hT.mem, hT.stk, fun s hs => Nat.le_trans (hT.len s hs) (by decide)⟩, hT.big, fun j hj hF => by omega, fun hF => by omega, fun j hj => by have := hb.size; omega⟩, fun x hx => hx.1, hb⟩

theorem wpList_load_guard {P : Program} {ops : Array Oper} {rest : List Oper} {o : Oper} {a : Act} {w : World} {Q : Exit → Act → World → Prop} (hw : Region.wanted o (yielded ops a.tmps) = true) (ty : TypeId) (x : Operand) (ho : o.op = .load ty x)
    (g : Nat) (hx : a.eval x = .pointer (some ⟨g, 0, none⟩)) (t : TypeId) (cs : Array Value) (fr : Nat × Nat) (d : TypeDesc) (hg : w.heap[g]? = some (.cells cs t fr))
    (hu : P.underlying ty = some d) (hd : (match d with | .struct _ | .array _ _ => true | _ => false) = true) (hi : (P.info? ty).map (·.size) = some cs.size)
    (h : wpList P ops Q rest (a.put o.dst (.agg cs)) w) : wpList P ops Q (o :: rest) a w :=
  BigFrame.wpList_want hw fun _ hK => wp_load_row ty x ho g hx t cs fr d hg hu hd hi (hK _ _ h)

end Go.Proofs.YtichiccohmeecaaDoor
