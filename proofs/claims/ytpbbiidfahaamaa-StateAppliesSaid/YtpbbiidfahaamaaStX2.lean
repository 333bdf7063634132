/- The walk of Reverse. -/
import Derived.Test.YtpbbiidfahaamaaStX1
import Derived.Test.YtpbbiidfahaamaaStP2
namespace Go.Proofs.Ytpbbiidfahaamaa
open Go.RowKit Go.Shelf

attribute [local go_sem] Oper.semAt_some

def revOf (pre : List (Nat × Chg)) : List Chg := pre.map (fun x => swapC x.2)
theorem revOf_snoc (pre : List (Nat × Chg)) (x : Nat × Chg) : revOf (pre ++ [x]) = revOf pre ++ [swapC x.2] := by simp [revOf]
theorem revOf_len (pre : List (Nat × Chg)) : (revOf pre).length = pre.length := by simp [revOf]
theorem revOf_back (C : List Chg) : revOf (back C C.length) = reverseP C := by
  apply List.ext_getElem
  · simp [revOf, back, reverseP]
  · intro i h1 h2
    have hi : i < C.length := by simpa [revOf, back] using h1
    simp only [revOf, back, reverseP, List.map_map, List.getElem_map, List.getElem_range, Function.comp, List.getElem_reverse, List.length_map]
    rw [List.getD_eq_getElem?_getD, List.getElem?_eq_getElem (by omega)]
    rfl

/-- between two rounds: what has been collected -/
def RevI (w : World) (sv : Value) (pre : List (Nat × Chg)) (W : World) : Prop :=
  (∃ v, Boxed W w.heap.size 30 v ∧ W.ownsRow w.heap.size 61 4 v pre.length (chgsV (revOf pre))) ∧ Boxed W (w.heap.size + 1) 30 sv ∧ Below w.heap.size w W

theorem revI_own (w : World) (sv : Value) (D : Nat) (hD : w.heap.size ≤ D) : OwnFrom D (RevI w sv) := by
  rintro pre A B row ⟨⟨v, h1, h2⟩, h3, h4⟩ hg hr
  have hcells : ∀ (b : Nat) (cs : Array Value) (t : TypeId), A.heap[b]? = some (.cells cs t (0, 0)) → some b ≠ row := by
    intro b cs t hb he
    obtain ⟨_, o, ho, hc⟩ := hr b he.symm
    rw [hb] at ho
    injection ho with ho
    subst ho
    cases hc
  refine ⟨⟨v, h1.kept hg (hcells _ _ _ h1), h2.kept hg ?_⟩, h3.kept hg (hcells _ _ _ h3), h4.grown hg h4.size (fun k e => by have := (hr k e).1; omega)⟩
  rcases h2.2 with ⟨rfl, _⟩ | ⟨g, cap, cur, rfl, _, hh, _⟩
  · exact .inl rfl
  · exact .inr (hcells _ _ _ hh)

set_option maxRecDepth 100000 in
set_option maxHeartbeats 4000000 in
theorem Reverse_in (F : Fence) (n : Nat) (hf1 : F.fn 33) (hf2 : F.fn 54) (hf3 : F.fn 59) (hro : F.round = none) (hn : 3 ≤ n) (C : List Chg) (hC : C.length ≤ 1000000) (sv : Value) (w : World) (hI : ChgsAt w sv C) :
    CallsIn F n Try.prog 33 #[sv] w fun e W' => ∃ r, e = .returned r ∧ W'.ownsRow w.heap.size 61 4 r C.length (chgsV (reverseP C)) ∧ Below w.heap.size w W' := by
  have h1 : 1 ≤ n := by omega
  obtain ⟨i0, hi, hz0, hz1, hz2⟩ := info_parts chgInfo
  have hI0 := hI
  obtain ⟨⟨a, cap, rfl, -, -, -⟩, -⟩ := hI
  refine callsIn_of_wp_marks Try.func33 rfl hf1 ?_ hro
  simp only [Try.ntmps33, List.size_toArray, List.length_cons, List.length_nil, Nat.reduceAdd, Nat.reduceSub, Array.replicate_succ, Array.replicate_zero, List.push_toArray, List.append_toArray, List.nil_append, List.cons_append]
  gi_wp2_with (gi_at_call 54; refine (backward_in F (n - 1) hf2 hro _ _ _ _).mono ?_; rintro e w' ⟨rfl, rfl⟩)
  have bR := (Boxed.new w 30 (.slice none 0 0)).alloc (.cells #[.slice a C.length cap] 30)
  have bA := Boxed.new (w.alloc (.cells #[.slice none 0 0] 30)) 30 (.slice a C.length cap)
  simp only [World.size_alloc] at bA
  have hB0 : Below w.heap.size w ((w.alloc (.cells #[.slice none 0 0] 30)).alloc (.cells #[.slice a C.length cap] 30)) := ((Below.refl _ w).alloc (Nat.le_refl _) _).alloc (by simp) _
  have hsz : ((w.alloc (.cells #[.slice none 0 0] 30)).alloc (.cells #[.slice a C.length cap] 30)).heap.size = w.heap.size + 2 := by simp
  obtain ⟨W0, hW0⟩ : ∃ W0, (w.alloc (.cells #[.slice none 0 0] 30)).alloc (.cells #[.slice a C.length cap] 30) = W0 := ⟨_, rfl⟩
  rw [hW0] at bR bA hB0 hsz ⊢
  clear hW0
  have hstop := backward_stops F (n - 1) hf3 hro (by omega) (w.heap.size + 1) w.heap.size a cap C hC w W0 (by omega) bA.cell hI0 hB0 (Nat.le_refl _)
  refine wpIn_rangeFunc_ownH hro h1 (gf := 59) (lb := #[.pointer (some ⟨w.heap.size + 1, 0, none⟩)]) rfl hf3 (enters_of Try.func59 (by kernel_rfl) rfl)
    hstop (fun h k => h.trans k) (fun W l o o' hl ho hoc how => ⟨belowK_b (w := W0) (by omega) W l o o' hl ho hoc how, ?kb⟩) (Below.refl _ _) (fun _ => rfl)
    (RevI w (.slice a C.length cap))
    (fun _ _ _ => False)
    (revI_own w _ _ (by omega))
    (fun _ _ _ _ _ hs _ _ => hs)
    ⟨⟨_, bR, World.ownsRow_nil _ _ _ _⟩, bA, hB0⟩
    (fun x a' W => ∃ Bx, w.heap.size + 1 < Bx ∧ Blk W Bx 61 #[.int .i64 x.2.cell, .int .i64 x.2.pos, .int .i64 x.2.old, .int .i64 x.2.new] ∧ a' = { tmps := #[.slice a C.length cap, undef, .slice none 0 0, .pointer (some ⟨w.heap.size, 0, none⟩), undef, .pointer (some ⟨Bx, 0, none⟩), .slice a C.length cap, .func (.func 59) #[] #[.pointer (some ⟨w.heap.size + 1, 0, none⟩)], .int .i64 (x.1 : Int), .agg #[.int .i64 x.2.cell, .int .i64 x.2.pos, .int .i64 x.2.old, .int .i64 x.2.new], undef, undef, undef, undef, undef, undef, undef, undef, undef, undef, undef, undef, undef], defers := [] })
    (fun x a' _ X Y row hs hg hr => by
      obtain ⟨Bx, h1, h2, h3⟩ := hs
      refine ⟨Bx, h1, h2.grown hg ?_, h3⟩
      intro he
      obtain ⟨_, o, ho, hc⟩ := hr Bx he.symm
      unfold Blk at h2
      rw [h2] at ho
      injection ho with ho
      subst ho
      cases hc)
    ?assign ?body ?done ?stop
  case kb =>
    show (W.putObj l o').heap[w.heap.size + 1]? = W.heap[w.heap.size + 1]?
    have hg := grownBy_putObj' W l o'
    rcases Nat.lt_or_ge (w.heap.size + 1) W.heap.size with hlt | hge
    · exact hg.block _ hlt (by simp; omega)
    · have := (Array.getElem?_eq_some_iff.1 ho).1
      omega
  case assign =>
    rintro l pre ⟨i, ⟨x0, x1, x2, x3⟩⟩ W K ⟨⟨v, hv, hown⟩, hbs, hB⟩ hK
    simp only [encC]
    gi_wp2
    refine hK _ _ ((KeepsOthers.alloc _ _).from _) ⟨(Below.refl _ W).alloc hB.size _, Below.heap_alloc W _ _ hbs.lt⟩ ⟨⟨v, hv.alloc _, hown.alloc _⟩, hbs.alloc _, hB.alloc hB.size _⟩ ⟨W.heap.size, hbs.lt, Blk.new _ _ _, rfl⟩
  case body =>
    rintro l pre ⟨i, ⟨x0, x1, x2, x3⟩⟩ a' W hl ⟨r, hr⟩ ⟨⟨v, hv, hown⟩, hbs, hB⟩ ⟨Bx, hBx, bX, rfl⟩ hlt
    have hc := hv.cell
    have m0 := bX.cell 0
    have m1 := bX.cell 1
    have m2 := bX.cell 2
    have m3 := bX.cell 3
    simp only [List.getElem?_toArray, List.getElem?_cons_succ, List.getElem?_cons_zero] at m0 m1 m2 m3
    have hbsz := hB.size
    have hpl : pre.length + 1 ≤ C.length := hlt
    gi_wp2_with (gi_at_builtin; refine wpListIn_append_own _ rfl (.tmp 10) (.tmp 20) 30 rfl w.heap.size 61 i0 (.agg #[.int .i64 0, .int .i64 0, .int .i64 0, .int .i64 0]) 4 32 Try.underlying30 hi hz0 hz1 hz2 rfl (by decide) _ _ _ rfl (hown.alloc _) ⟨W.heap.size, 0, none⟩ 1 1 [.int .i64 x0, .int .i64 x1, .int .i64 x3, .int .i64 x2] rfl rfl (cell_four_new _ _ _ _ _ _) (ints4_one _ _ _ _) (by unfold maxLen; omega) (by omega) (by simp; omega) ?_; intro v' w1 hown' hgrow _; obtain ⟨g', cap', rfl⟩ := ownsRow_succ hown'; obtain ⟨hv1, hv2, hr2, hk2, hb2⟩ := hv.appended (by decide) hown hB.size (Nat.le_refl _) hown' hgrow; have hc1 := hv1.cell; have hf1 := hv1.frozen)
    have hbs2 := ((hbs.alloc _).kept hgrow (hbs.not_row (by decide) hown)).other (B' := w.heap.size) (by omega) (.slice (some ⟨g', 0, none⟩) (pre.length + 1) cap')
    have e1 : (pre ++ [(i, (⟨x0, x1, x2, x3⟩ : Chg))]).length = pre.length + 1 := by simp
    have e2 : chgsV (revOf (pre ++ [(i, (⟨x0, x1, x2, x3⟩ : Chg))])) = chgsV (revOf pre) ++ [.int .i64 x0, .int .i64 x1, .int .i64 x3, .int .i64 x2] := by rw [revOf_snoc, chgsV_app, chgsV_one]; rfl
    exact ⟨hk2.from _, ⟨hb2, hbs2.trans hbs.symm⟩, ⟨_, hv2, by rw [e1, e2]; exact hr2⟩, hbs2, hB.trans hb2⟩
  case done =>
    rintro D zs W hD rfl ⟨⟨v, hv, hown⟩, hbs, hB⟩ hK
    have hc := hv.cell
    gi_wp2
    refine ⟨by simp, .inl ⟨_, _, rfl, run_takeDeferred hK, ?_⟩⟩
    rw [revOf_back, back_len] at hown
    exact ⟨_, results_tmp rfl _ _ _, v, rfl, ownsRow_putObj hown _ hK rfl, hB.trans (belowK_b (w := w) (Nat.le_refl _) W D _ _ (by omega) hK rfl rfl)⟩
  case stop =>
    rintro D c pre W _ _ h _
    exact h.elim

theorem revc_any (C : List Chg) (hC : C.length ≤ 1000000) (sv : Value) (w : World) (hI : ChgsAt w sv C) :
    Calls Try.prog 33 #[sv] w fun e w' => ∃ r, e = .returned r ∧ w'.ownsRow w.heap.size 61 4 r C.length (chgsV (reverseP C)) ∧ Below w.heap.size w w' :=
  callsIn_wide.1 (Reverse_in Fence.wide 3 trivial trivial trivial rfl (Nat.le_refl _) C hC sv w hI)

end Go.Proofs.Ytpbbiidfahaamaa
