/- Two machines side by side in memory: one on an image, its mirror image on the inverse image. -/
import Derived.Test.YtichiccohmeecaaDoorWhN3
namespace Go.Proofs.YtichiccohmeecaaDoor
open Go.RowKit

theorem CodeIn.lt {P : Nat → Prop} {w : World} {v : Value} {C : List Ins} (h : CodeIn P w v C) : CodeIn (fun j => j < w.heap.size) w v C := by
  obtain ⟨a, c, rfl, h1, h2, h3⟩ := h
  refine ⟨a, c, rfl, h1, h2, fun hn => ?_⟩
  obtain ⟨g, o, e, q1, _, q3⟩ := h3 hn
  exact ⟨g, o, e, q1, q1, q3⟩
theorem step_fit {im : Im} {m : Mach} (hg : Good im.code) (hf : Fit im m) (hb : m.Big) : Fit im (stepP im m).2 ∧ (stepP im m).2.Big := by
  by_cases h0 : (stepP im m).1 = 0
  · obtain ⟨h1, h2, _⟩ := step_back hg hf hb (show stepP im m = (0, (stepP im m).2) from Prod.ext h0 rfl)
    exact ⟨h1, h2⟩
  · rw [step_fail (show stepP im m = ((stepP im m).1, (stepP im m).2) from rfl) h0]
    exact ⟨hf, hb⟩
theorem GoH.other {P F F2 : Nat → Prop} {g : Nat} {m : Mach} {V : MV} {im : Im} {vc : Value} {w w' : World} (h : GoH P F g m V im vc w) (ht : Touch F2 w w') (hd : ∀ j, F j → ¬ F2 j) (hP : ∀ j, P j → ¬ F2 j) (h0 : ¬ F2 0) : GoH P F g m V im vc w' :=
  ⟨⟨h.mach.keep (Keep.of_touch ht hd) (fun _ h => h), h.code.keep (Keep.of_touch ht hP) (fun _ h => h), h.tab.keep (P := fun j => j = 0) (Keep.of_touch ht (fun j hj => by rw [hj]; exact h0)) rfl, h.fit, h.good, h.mem, h.stk, h.len⟩,
    h.big, h.sep, h.zero, fun j hj => Nat.lt_of_lt_of_le (h.low j hj) ht.size⟩
structure Two (P Fa : Nat → Prop) (Ga : Nat) (ma : Mach) (Va : MV) (ia : Im) (va : Value) (Fb : Nat → Prop) (Gb : Nat) (mb : Mach) (Vb : MV) (ib : Im) (vb : Value) (w : World) : Prop where
  a : GoH P Fa Ga ma Va ia va w
  b : GoH P Fb Gb mb Vb ib vb w
  sep : ∀ j, Fa j → ¬ Fb j
  lta : ∀ j, Fa j → j < w.heap.size
  ltb : ∀ j, Fb j → j < w.heap.size
theorem Two.swap {P Fa : Nat → Prop} {Ga : Nat} {ma : Mach} {Va : MV} {ia : Im} {va : Value} {Fb : Nat → Prop} {Gb : Nat} {mb : Mach} {Vb : MV} {ib : Im} {vb : Value} {w : World} (h : Two P Fa Ga ma Va ia va Fb Gb mb Vb ib vb w) :
    Two P Fb Gb mb Vb ib vb Fa Ga ma Va ia va w := ⟨h.b, h.a, fun j hb ha => h.sep j ha hb, h.ltb, h.lta⟩
theorem Two.below {P Fa : Nat → Prop} {Ga : Nat} {ma : Mach} {Va : MV} {ia : Im} {va : Value} {Fb : Nat → Prop} {Gb : Nat} {mb : Mach} {Vb : MV} {ib : Im} {vb : Value} {w w' : World} (h : Two P Fa Ga ma Va ia va Fb Gb mb Vb ib vb w) (hb : Below w.heap.size w w') :
    Two P Fa Ga ma Va ia va Fb Gb mb Vb ib vb w' := ⟨h.a.below hb, h.b.below hb, h.sep, fun j hj => Nat.lt_of_lt_of_le (h.lta j hj) hb.size, fun j hj => Nat.lt_of_lt_of_le (h.ltb j hj) hb.size⟩
theorem Two.move {P Fa : Nat → Prop} {Ga : Nat} {ma ma' : Mach} {Va Va' : MV} {ia : Im} {va : Value} {Fb : Nat → Prop} {Gb : Nat} {mb : Mach} {Vb : MV} {ib : Im} {vb : Value} {w w' : World} (h : Two P Fa Ga ma Va ia va Fb Gb mb Vb ib vb w)
    (ht : Touch Fa w w') (hm : MachW (grow Fa w w') w' Ga ma' Va') (hf : Fit ia ma') (hb : ma'.Big) (hl : ∀ s ∈ ma'.S, s.length ≤ 1000000) (h0 : 0 < w.heap.size) : Two P (grow Fa w w') Ga ma' Va' ia va Fb Gb mb Vb ib vb w' := by
  refine ⟨h.a.after ht hm hf hb hl h0, h.b.other ht (fun j hb ha => h.sep j ha hb) h.a.sep h.a.zero, ?_, ?_, fun j hj => Nat.lt_of_lt_of_le (h.ltb j hj) ht.size⟩
  · rintro j (hj | hj) hb
    · exact h.sep j hj hb
    · have := h.ltb j hb; omega
  · rintro j (hj | hj)
    · exact Nat.lt_of_lt_of_le (h.lta j hj) ht.size
    · exact hj.2

/-- the machine after j steps, and its mirror image -/
structure PairS (im : Im) (vc vi : Value) (m : Mach) (B0 : Nat) (w0 : World) (Gx Gy j : Nat) (w : World) (mj : Mach) (Vx Vy : MV) (Fx Fy : Nat → Prop) : Prop where
  trail : Trail false im m j mj
  two : Two (fun x => x < B0) Fx Gx mj Vx im vc Fy Gy (mir im.code.length mj) Vy (invIm im) vi w
  below : Below B0 w0 w

/-- what the pair is once both have stepped -/
structure Both (im : Im) (vc vi : Value) (B0 : Nat) (w0 : World) (Gx Gy : Nat) (w : World) (m' : Mach) (Vx Vy : MV) (Fx Fy : Nat → Prop) : Prop where
  two : Two (fun x => x < B0) Fx Gx m' Vx im vc Fy Gy (mir im.code.length m') Vy (invIm im) vi w
  below : Below B0 w0 w
theorem PairS.facts {im : Im} {vc vi : Value} {m : Mach} {B0 : Nat} {w0 : World} {Gx Gy j : Nat} {w : World} {mj : Mach} {Vx Vy : MV} {Fx Fy : Nat → Prop} (h : PairS im vc vi m B0 w0 Gx Gy j w mj Vx Vy Fx Fy) (hT : TopH im m) (hj : j ≤ 100) :
    Fit im (stepP im mj).2 ∧ (stepP im mj).2.Big ∧ (∀ s ∈ (stepP im mj).2.S, s.length ≤ 1000000) ∧ stepP (invIm im) (mir im.code.length mj) = ((stepP im mj).1, mir im.code.length (stepP im mj).2) := by
  obtain ⟨f1, f2⟩ := trail_fit hT.good hT.fit hT.big j mj h.trail
  obtain ⟨g1, g2⟩ := step_fit hT.good f1 f2
  have hl := step_lens (im := im) (trail_lens hT.len j mj h.trail)
  exact ⟨g1, g2, fun s hs => Nat.le_trans (hl s hs) (by omega), mir_step hT.good f1⟩
theorem mir_big {n : Int} {m : Mach} (h : m.Big) : (mir n m).Big := h
/-- x first, then y -/
theorem PairS.xy {im : Im} {vc vi : Value} {m : Mach} {B0 : Nat} {w0 : World} {Gx Gy j : Nat} {w w5 w6 : World} {mj : Mach} {Vx Vy Vx2 Vy2 : MV} {Fx Fy : Nat → Prop} (h : PairS im vc vi m B0 w0 Gx Gy j w mj Vx Vy Fx Fy) (hT : TopH im m) (hj : j ≤ 100) (h0 : 0 < B0) (hB : B0 ≤ w0.heap.size)
    (ht : Touch Fx w w5) (hm : MachW (grow Fx w w5) w5 Gx (stepP im mj).2 Vx2) (ht2 : Touch Fy w5 w6) (hm2 : MachW (grow Fy w5 w6) w6 Gy (mir im.code.length (stepP im mj).2) Vy2) :
    Both im vc vi B0 w0 Gx Gy w6 (stepP im mj).2 Vx2 Vy2 (grow Fx w w5) (grow Fy w5 w6) := by
  obtain ⟨f1, f2, f3, _⟩ := h.facts hT hj
  have hs := h.below.size
  have hs5 := ht.size
  have t1 := h.two.move ht hm f1 f2 f3 (by omega)
  have t2 := t1.swap.move ht2 hm2 (mir_fit f1) (mir_big f2) f3 (by omega)
  refine ⟨t2.swap, ?_⟩
  have b1 := ht.to_below h.below hB (fun j hj => Nat.le_of_not_lt (fun hl => h.two.a.sep j hl hj))
  exact ht2.to_below b1 hB (fun j hj => Nat.le_of_not_lt (fun hl => h.two.b.sep j hl hj))
/-- y first, then x -/
theorem PairS.yx {im : Im} {vc vi : Value} {m : Mach} {B0 : Nat} {w0 : World} {Gx Gy j : Nat} {w w5 w6 : World} {mj : Mach} {Vx Vy Vx2 Vy2 : MV} {Fx Fy : Nat → Prop} (h : PairS im vc vi m B0 w0 Gx Gy j w mj Vx Vy Fx Fy) (hT : TopH im m) (hj : j ≤ 100) (h0 : 0 < B0) (hB : B0 ≤ w0.heap.size)
    (ht : Touch Fy w w5) (hm : MachW (grow Fy w w5) w5 Gy (mir im.code.length (stepP im mj).2) Vy2) (ht2 : Touch Fx w5 w6) (hm2 : MachW (grow Fx w5 w6) w6 Gx (stepP im mj).2 Vx2) :
    Both im vc vi B0 w0 Gx Gy w6 (stepP im mj).2 Vx2 Vy2 (grow Fx w5 w6) (grow Fy w w5) := by
  obtain ⟨f1, f2, f3, _⟩ := h.facts hT hj
  have hs := h.below.size
  have hs5 := ht.size
  have t1 := h.two.swap.move ht hm (mir_fit f1) (mir_big f2) f3 (by omega)
  have t2 := t1.swap.move ht2 hm2 f1 f2 f3 (by omega)
  refine ⟨t2, ?_⟩
  have b1 := ht.to_below h.below hB (fun j hj => Nat.le_of_not_lt (fun hl => h.two.b.sep j hl hj))
  exact ht2.to_below b1 hB (fun j hj => Nat.le_of_not_lt (fun hl => h.two.a.sep j hl hj))
theorem Both.next {im : Im} {vc vi : Value} {m : Mach} {B0 : Nat} {w0 : World} {Gx Gy j : Nat} {w w2 : World} {mj : Mach} {Vx Vy : MV} {Fx Fy : Nat → Prop} (h : Both im vc vi B0 w0 Gx Gy w (stepP im mj).2 Vx Vy Fx Fy) (ht : Trail false im m j mj) (he : (stepP im mj).1 = 0) (hb : Below w.heap.size w w2) (hB : B0 ≤ w0.heap.size) :
    PairS im vc vi m B0 w0 Gx Gy (j + 1) w2 (stepP im mj).2 Vx Vy Fx Fy :=
  ⟨⟨mj, ht, Prod.ext he rfl⟩, h.two.below hb, below_next h.below hB hb⟩
/-- a step of x, wherever only y has moved meanwhile; and the other way round -/
theorem PairS.stepX {im : Im} {vc vi : Value} {m : Mach} {B0 : Nat} {w0 : World} {Gx Gy j : Nat} {w w' : World} {mj : Mach} {Vx Vy : MV} {Fx Fy : Nat → Prop} (h : PairS im vc vi m B0 w0 Gx Gy j w mj Vx Vy Fx Fy) (ht : Touch Fy w w') :
    Calls Tryd.prog 7 #[imV vc im, .pointer (some ⟨Gx, 0, none⟩)] w' (ExecR Fx w' Gx (stepP im mj)) := Step_any (h.two.a.other ht h.two.sep h.two.b.sep h.two.b.zero).toStepH
theorem PairS.stepY {im : Im} {vc vi : Value} {m : Mach} {B0 : Nat} {w0 : World} {Gx Gy j : Nat} {w w' : World} {mj : Mach} {Vx Vy : MV} {Fx Fy : Nat → Prop} (h : PairS im vc vi m B0 w0 Gx Gy j w mj Vx Vy Fx Fy) (hT : TopH im m) (hj : j ≤ 100) (ht : Touch Fx w w') :
    Calls Tryd.prog 7 #[imV vi (invIm im), .pointer (some ⟨Gy, 0, none⟩)] w' (ExecR Fy w' Gy ((stepP im mj).1, mir im.code.length (stepP im mj).2)) := by
  have := Step_any (h.two.b.other ht (fun j hb ha => h.two.sep j ha hb) h.two.a.sep h.two.a.zero).toStepH
  rw [(h.facts hT hj).2.2.2] at this
  exact this
theorem PairS.later {im : Im} {vc vi : Value} {m : Mach} {B0 : Nat} {w0 : World} {Gx Gy j : Nat} {w w2 : World} {mj : Mach} {Vx Vy : MV} {Fx Fy : Nat → Prop} (h : PairS im vc vi m B0 w0 Gx Gy j w mj Vx Vy Fx Fy) (hb : Below w.heap.size w w2) (hB : B0 ≤ w0.heap.size) :
    PairS im vc vi m B0 w0 Gx Gy j w2 mj Vx Vy Fx Fy := ⟨h.trail, h.two.below hb, below_next h.below hB hb⟩
theorem Touch.undrew {S : Nat → Prop} {a b : World} (h : Touch S a.drew b) : Touch S a b := ⟨h.os, h.tape, h.output, h.size, h.block⟩
theorem pair_start {P : Nat → Prop} {im : Im} {vc vi : Value} {m : Mach} {w0 w5 w6 : World} {Gx Gy : Nat} {Vx Vy : MV} (hT : TopH im m) (hC : CodeIn P w0 vc im.code) (hP : ∀ j, P j → j < w0.heap.size) (hci : CodeIn (fun j => j < w0.heap.size) w0 vi (invC im.code)) (htab : TabAt w0) (h0 : 0 < w0.heap.size)
    (hb5 : Below w0.heap.size w0 w5) (hm5 : MachW (fun j => w0.heap.size ≤ j ∧ j < w5.heap.size) w5 Gx m Vx) (hb6 : Below w5.heap.size w5 w6) (hm6 : MachW (fun j => w5.heap.size ≤ j ∧ j < w6.heap.size) w6 Gy (mir im.code.length m) Vy) :
    PairS im vc vi m w0.heap.size w0 Gx Gy 0 w6 m Vx Vy (fun j => w0.heap.size ≤ j ∧ j < w5.heap.size) (fun j => w5.heap.size ≤ j ∧ j < w6.heap.size) := by
  have hb := below_next hb5 (Nat.le_refl _) hb6
  have hs5 := hb5.size
  have hs6 := hb6.size
  have hl : ∀ s ∈ m.S, s.length ≤ 1000000 := fun s hs => Nat.le_trans (hT.len s hs) (by decide)
  exact ⟨rfl, ⟨⟨⟨hm5.below hb6, hC.keep (Keep.of_below hb) hP, htab.below hb, hT.fit, hT.good, hT.mem, hT.stk, hl⟩, hT.big, fun j hj hF => by omega, fun hF => by omega, fun j hj => by omega⟩,
    ⟨⟨hm6, hci.keep (Keep.of_below hb) (fun _ h => h), htab.below hb, mir_fit hT.fit, inv_good hT.good, hT.mem, hT.stk, hl⟩, mir_big hT.big, fun j hj hF => by omega, fun hF => by omega, fun j hj => by omega⟩,
    fun j h1 h2 => by omega, fun j h1 => by omega, fun j h2 => h2.2⟩, hb⟩
theorem PairS.fits {im : Im} {vc vi : Value} {m : Mach} {B0 : Nat} {w0 : World} {Gx Gy j : Nat} {w : World} {mj : Mach} {Vx Vy : MV} {Fx Fy : Nat → Prop} (h : PairS im vc vi m B0 w0 Gx Gy j w mj Vx Vy Fx Fy) (hT : TopH im m) :
    Calls Tryd.prog 10 #[imV vi (invIm im), .pointer (some ⟨Gy, 0, none⟩)] w (FitsR true w) := by
  have := Fits_any (F := Fy) (invIm im) vi w h.two.b.code h.two.b.tab (by show (invC im.code).length ≤ 1000; rw [inv_len]; exact hT.code) h.two.b.mach.toR
  rw [inv_check hT.check, fits_iff.2 h.two.b.fit] at this
  exact this
theorem Both.mirror {im : Im} {vc vi : Value} {B0 : Nat} {w0 : World} {Gx Gy : Nat} {w : World} {m' : Mach} {Vx Vy : MV} {Fx Fy : Nat → Prop} (h : Both im vc vi B0 w0 Gx Gy w m' Vx Vy Fx Fy) (hl : im.code.length ≤ 1000) :
    Calls Tryd.prog 13 #[.pointer (some ⟨Gx, 0, none⟩), .int .i64 im.code.length] w (MirR im.code.length m' w) := by
  have f := h.two.a.fit
  have f1 := f.mem
  have f2 := f.stk
  have f3 := f.calls
  have f4 := f.inp
  have f5 := f.out
  have t1 := h.two.a.mem
  have t2 := h.two.a.stk
  exact mirror_any Gx m' Vx im.code.length w h.two.a.mach.toR (by omega) (by omega) (by omega) (by omega) (by omega) h.two.a.len hl f.pc0 f.pc1 f.dir (fun a ha => inR_iff.1 (f.site a ha))
theorem Both.equal {im : Im} {vc vi : Value} {B0 : Nat} {w0 : World} {Gx Gy Gz : Nat} {w w' : World} {m' : Mach} {Vx Vy Vz : MV} {Fx Fy Fz : Nat → Prop} (h : Both im vc vi B0 w0 Gx Gy w m' Vx Vy Fx Fy) (hb : Below w.heap.size w w') (hz : MachW Fz w' Gz (mir im.code.length m') Vz) :
    Calls Tryd.prog 11 #[.pointer (some ⟨Gz, 0, none⟩), .pointer (some ⟨Gy, 0, none⟩)] w' (TrueR w') := Equal_any hz.toR (h.two.b.below hb).mach.toR

end Go.Proofs.YtichiccohmeecaaDoor
