/- The walk of All, of a box that is valid. -/
import Derived.Test.YtklbaocgjegdfaaEnA4
import Derived.Test.YtklbaocgjegdfaaEnQ3
namespace Go.Proofs.Ytklbaocgjegdfaa
open Go.RowKit Go.Shelf

/-- an iterator over the states of a box -/
def AllOut (L : List St) (w : World) (e : Ending) (w' : World) : Prop :=
  ∃ lb O, e = .returned (.func (.func 32) #[] lb) ∧ Below w.heap.size w w' ∧ (∀ b, O b → w.heap.size ≤ b ∧ b < w'.heap.size) ∧
    ∀ n, SeqMem Fence.wide n Try.prog 32 lb ArgAt L O w'

theorem fixed_le {d : Decl} (h : validD d = true) : 0 ≤ fixedZ d ∧ fixedZ d ≤ 16 := fixed_bounds h
theorem lens_cond {D : List Decl} {v le inp : Int} (hval : validB D = true) (hv : Small1000 v) (hl : Small1000 le) (hi : Small1000 inp) : Cond (2 * v + 1) (lensP D le inp) := by
  have hvb : D.length ≤ 32 ∧ ∀ d ∈ D, validD d = true := by
    unfold validB at hval
    rw [Bool.and_eq_true, decide_eq_true_eq, List.all_eq_true] at hval
    exact hval
  obtain ⟨v1, v2⟩ := hv
  obtain ⟨l1, l2⟩ := hl
  obtain ⟨i1, i2⟩ := hi
  refine ⟨by omega, by omega, by rw [lensP_len]; omega, fun b hb => ?_⟩
  unfold lensP at hb
  rcases List.mem_append.1 hb with hb | hb
  · obtain ⟨d, hd, rfl⟩ := List.mem_map.1 hb
    have := fixed_bounds (hvb.2 d hd)
    unfold lenD
    split
    · exact ⟨by simp, by simp, l1, l2⟩
    · simp only; omega
  · rw [List.mem_singleton] at hb
    subst hb
    exact ⟨by simp, by simp, i1, i2⟩
theorem Cond.lo {h : Int} {B : List Bd} (hc : Cond h B) : ∀ b ∈ B, 0 ≤ b.lo := fun b hb => (hc.b b hb).1

set_option maxRecDepth 100000 in
set_option maxHeartbeats 4000000 in
theorem all_any (D : List Decl) (u : Value) (v le inp : Int) (w : World) (h1 : DeclsAt w u D) (hval : validB D = true) (hv : Small1000 v) (hl : Small1000 le) (hi : Small1000 inp) :
    Calls Try.prog 14 #[u, .agg #[.int .i64 v, .int .i64 le, .int .i64 inp]] w (AllOut ((allP (2 * v + 1) (lensP D le inp)).map mkSt) w) := by
  have hcond := lens_cond hval hv hl hi
  obtain ⟨⟨ad, cd, rfl, -, -, -⟩, -⟩ := id h1
  obtain ⟨W, hW⟩ : ∃ W, W = w.alloc (.cells #[.int .i64 v, .int .i64 le, .int .i64 inp] 24) := ⟨_, rfl⟩
  have hB0 : Below w.heap.size w W := by rw [hW]; exact below_alloc _ _
  have hBK : Blk W w.heap.size 24 #[.int .i64 v, .int .i64 le, .int .i64 inp] := by rw [hW]; exact Blk.new _ _ _
  have HLEN := Lib.hid (lengths_any D _ v le inp W (h1.below hB0 (Nat.le_refl _)) hval hv hl hi)
  have HCOND := Lib.hid hcond
  have y0 := hBK.cell 0
  have y1 := hBK.cell 1
  have y2 := hBK.cell 2
  simp only [List.getElem?_toArray, List.getElem?_cons_zero, List.getElem?_cons_succ] at y0 y1 y2
  have hbox := hBK.lt
  have HW := Lib.hid hW
  have HB0 := Lib.hid hB0
  have HBK := Lib.hid hBK
  have hBn : 0 < (lensP D le inp).length := by rw [lensP_len]; omega
  have HBN := Lib.hid hBn
  obtain ⟨B, hB⟩ : ∃ B, lensP D le inp = B := ⟨_, rfl⟩
  rw [hB] at HLEN HCOND HBN ⊢
  clear hW hB0 hBK h1 hval hcond hB hBn
  generalize D.length = n at *
  go_enter Try.func14, Try.ntmps14
  go_upto_region 1 with (fail)
  rw [← HW.out]
  go_wp2_with fail
  refine HLEN.out.mono ?_
  rintro e w1 ⟨Ll, cl, rfl, hl1, hl2, hb1, hcells⟩
  obtain ⟨nb, hnb⟩ : ∃ nb, B.length = nb := ⟨_, rfl⟩
  have HNB := Lib.hid hnb
  rw [hnb]
  have HBK1 := Lib.hid (HBK.out.next hb1)
  have HB1 := Lib.hid (below_next HB0.out (Nat.le_refl _) hb1)
  have HC1 := Lib.hid hcells
  have hs1 := hb1.size
  clear hnb hb1 hcells y0 y1 y2
  go_wp2
  go_ret
  refine ⟨_, fun j => j = Ll ∨ j = w1.heap.size, rfl, ?_, fun j hj => ?_, fun m => ?_⟩
  · exact (HB1.out.alloc HB1.out.size _).alloc (by have := HB1.out.size; simp; omega) _
  · simp
    rcases hj with rfl | rfl
    · omega
    · omega
  · have hbA : Below w1.heap.size w1 ((w1.alloc (.cells #[.slice (some ⟨Ll, 0, none⟩) nb cl] 57)).alloc (.cells #[.bool true] 4)) := below_next (below_alloc _ _) (Nat.le_refl _) (below_alloc _ _)
    refine all_seq HCOND.out HBN.out (weights_any HCOND.out) v rfl (w1.heap.size + 1) w.heap.size w1.heap.size Ll cl (.int .i64 le) (.int .i64 inp) _ _ ?_ (HBK1.out.next hbA) ?_ (fun i b hb => ?_) ⟨.inl rfl, .inr rfl⟩ (fun j hj => ?_) m
    · exact blk_at (by simp) _ _
    · rw [HNB.out]; exact blk_nx (blk_at rfl _ _) _
    · obtain ⟨c1, c2⟩ := HC1.out i b hb
      exact ⟨cell_below hbA hl2 c1, cell_below hbA hl2 c2⟩
    · simp
      rcases hj with rfl | rfl
      · omega
      · omega
end Go.Proofs.Ytklbaocgjegdfaa
