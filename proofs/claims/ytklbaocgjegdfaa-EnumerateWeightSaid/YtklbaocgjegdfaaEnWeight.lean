/- The law EnumerateWeight: its walk. -/
import Derived.Test.YtklbaocgjegdfaaEnK
import Derived.Test.YtklbaocgjegdfaaEnSz
import Derived.Lib.QuietBelow
namespace Go.Proofs.Ytklbaocgjegdfaa
open Go.RowKit Go.ChangeShapes Go.WideShapes

set_option maxRecDepth 100000 in
set_option maxHeartbeats 8000000 in
theorem weightlaw (s : St) (v : Value) (w : World) (h : StAt w v s) (hn : (s.cells.length + 2) * 24 ≤ 140737488355328) :
    Calls Try.prog 5 #[v] w fun e w' => e = .returned (.bool true) ∧ Below w.heap.size w w' := by
  have HA : Hid (∀ w, Calls Try.prog 11 #[] w fun e w' => e = .returned (.bool true) ∧ Below w.heap.size w w') := awake_any
  obtain ⟨c, i, o, rfl, hc, hi, ho⟩ := id h
  obtain ⟨ac, cc, rfl, -, -, -⟩ := id hc
  obtain ⟨⟨ai, ci, rfl, -, -, -⟩, -⟩ := id hi
  obtain ⟨⟨ao, co, rfl, -, -, -⟩, -⟩ := id ho
  obtain ⟨W, hW⟩ : ∃ W, W = w.alloc (.cells #[.slice ac s.cells.length cc, .slice ai s.inp.length ci, .slice ao s.out.length co] 35) := ⟨_, rfl⟩
  have hB0 : Below w.heap.size w W := by rw [hW]; exact below_alloc _ _
  have hBK : Blk W w.heap.size 35 #[.slice ac s.cells.length cc, .slice ai s.inp.length ci, .slice ao s.out.length co] := by rw [hW]; exact Blk.new _ _ _
  have HST : Hid (∀ w', Below W.heap.size W w' → StAt w' (.agg #[.slice ac s.cells.length cc, .slice ai s.inp.length ci, .slice ao s.out.length co]) s) := fun w' hb => (h.below hB0 (Nat.le_refl _)).below hb (Nat.le_refl _)
  have HF : Hid (∀ w', Below W.heap.size W w' → Calls Try.prog 19 #[.agg #[.slice ac s.cells.length cc, .slice ai s.inp.length ci, .slice ao s.out.length co]] w' (FitPost s w')) := fun w' hb => rfitsr_any s _ w' (HST.out w' hb) hn
  have HWT : Hid (MidS s → ∀ w', Below W.heap.size W w' → Calls Try.prog 20 #[.agg #[.slice ac s.cells.length cc, .slice ai s.inp.length ci, .slice ao s.out.length co]] w' fun e w'' => e = .returned (.int .i64 (IntKind.i64.wrap (wtsP (listsS s)))) ∧ Below w'.heap.size w' w'') := fun hm w' hb => weight_any s _ w' (HST.out w' hb) hm
  have HRW : Hid (MidS s → ∀ w', Below W.heap.size W w' → Calls Try.prog 21 #[.agg #[.slice ac s.cells.length cc, .slice ai s.inp.length ci, .slice ao s.out.length co]] w' fun e w'' => e = .returned (.int .i64 (IntKind.i64.wrap (wtsP (listsS s)))) ∧ Below w'.heap.size w' w'') := fun hm w' hb => rweight_any s _ w' (HST.out w' hb) hn hm
  obtain ⟨wt, hwt⟩ : ∃ x, IntKind.i64.wrap (wtsP (listsS s)) = x := ⟨_, rfl⟩
  rw [hwt] at HWT HRW
  have HBK := Lib.hid hBK
  have HB0 := Lib.hid hB0
  have HW := Lib.hid hW
  generalize s.cells.length = n0 at *
  generalize s.inp.length = n1 at *
  generalize s.out.length = n2 at *
  have ht : (wt == wt) = true := by simp
  clear h hc hi ho hBK hB0 hW hn hwt
  go_enter Try.func5, Try.ntmps5
  go_upto_region 1 with (fail)
  rw [← HW.out]
  clear HW
  go_wp2_with fail
  refine (HA.out _).mono ?_
  rintro e w1 ⟨rfl, hb1⟩
  have y0 := (HBK.out.next hb1).cell 0
  have y1 := (HBK.out.next hb1).cell 1
  have y2 := (HBK.out.next hb1).cell 2
  simp only [List.getElem?_toArray, List.getElem?_cons_zero, List.getElem?_cons_succ] at y0 y1 y2
  have HB1 := Lib.hid hb1
  clear hb1
  go_wp2_with fail
  refine (HF.out _ HB1.out).mono ?_
  rintro e w2 ⟨b, rfl, hiff, hb2⟩
  have HB2 := Lib.hid (below_next HB1.out (Nat.le_refl _) hb2)
  have HIF := Lib.hid hiff
  clear hb2 hiff y0 y1 y2
  cases b with
  | false =>
    go_wp2_with fail
    refine (HA.out _).mono ?_
    rintro e w3 ⟨rfl, hb3⟩
    have HB3 := Lib.hid (below_next HB2.out (Nat.le_refl _) hb3)
    clear hb3
    go_wp2
    go_ret
    exact ⟨rfl, HB0.out.trans (HB3.out.mono HB0.out.size)⟩
  | true =>
    have HM : Hid (MidS s) := (HIF.out.1 rfl).1
    have HC1 : Hid (∀ d os, Calls Try.prog 20 #[.agg #[.slice ac n0 cc, .slice ai n1 ci, .slice ao n2 co]] (Go.Sort.grow (redrawn w2 d) os) fun e w'' => e = .returned (.int .i64 wt) ∧ Below (Go.Sort.grow (redrawn w2 d) os).heap.size (Go.Sort.grow (redrawn w2 d) os) w'') := fun d os => HWT.out HM.out _ (below_next HB2.out (Nat.le_refl _) (below_regrown w2 d os))
    have HC2 : Hid (∀ d os, Calls Try.prog 21 #[.agg #[.slice ac n0 cc, .slice ai n1 ci, .slice ao n2 co]] (Go.Sort.grow (redrawn w2 d) os) fun e w'' => e = .returned (.int .i64 wt) ∧ Below (Go.Sort.grow (redrawn w2 d) os).heap.size (Go.Sort.grow (redrawn w2 d) os) w'') := fun d os => HRW.out HM.out _ (below_next HB2.out (Nat.le_refl _) (below_regrown w2 d os))
    have z0 : ∀ d os, (Go.Sort.grow (redrawn w2 d) os).cell? ⟨w.heap.size, 0, none⟩ = some (.slice ac n0 cc) := cell_regrown ((HBK.out.next HB2.out).cell 0)
    have z1 : ∀ d os, (Go.Sort.grow (redrawn w2 d) os).cell? ⟨w.heap.size, 1, none⟩ = some (.slice ai n1 ci) := cell_regrown ((HBK.out.next HB2.out).cell 1)
    have z2 : ∀ d os, (Go.Sort.grow (redrawn w2 d) os).cell? ⟨w.heap.size, 2, none⟩ = some (.slice ao n2 co) := cell_regrown ((HBK.out.next HB2.out).cell 2)
    go_wp2
    refine wp_region_quiet_below (by kernel_rfl) (by kernel_rfl) ?_
    repeat (quiet_step (first | (go_at_call 20; exact Calls.regrown_of (HC1.out _ _)) | (go_at_call 21; exact Calls.regrown_of (HC2.out _ _))))
    refine wpQuiet_nil ?_
    intro _ hw'
    obtain ⟨⟨dq, osq⟩, hw''⟩ := hw'
    subst hw''
    have HBF : Hid (Below W.heap.size W (Go.Sort.grow (redrawn w2 dq) osq)) := below_next HB2.out (Nat.le_refl _) (below_regrown w2 dq osq)
    go_wp2
    go_ret
    exact ⟨rfl, HB0.out.trans (HBF.out.mono HB0.out.size)⟩

theorem weightlaw_top {H : Type} {enc : TypeId × Value → H} {r : Reach} {b0 : Nat} {w : World} {base : Nat} {sp : Nat → Bool} {held : Bool} (v0 : Value) (d0 : DataW H) (p0 : List MemPlace) (h0 : Value.okWide Try.prog w r b0 35 v0) (t0 : DataW.Trod enc Try.prog w base sp held 35 v0 d0 p0) (z0 : ∀ n ∈ DataW.weights Try.prog 35 d0, n ≤ reachBytes) (w' : World) (hw : w' = w := by rfl) :
    Calls Try.prog 5 #[v0] w' fun e w'' => e = .returned (.bool true) ∧ Below w'.heap.size w' w'' := by
  subst hw
  obtain ⟨s, hs, hn⟩ := st_sized h0 t0 z0
  exact weightlaw s v0 w' hs hn
end Go.Proofs.Ytklbaocgjegdfaa
