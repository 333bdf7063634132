/- The law EnumerateLess: its walk. -/
import Derived.Test.YtklbaocgjegdfaaEnK
import Derived.Test.YtklbaocgjegdfaaEnBk
import Derived.Test.YtklbaocgjegdfaaEnX5
import Derived.Lib.QuietBelow
namespace Go.Proofs.Ytklbaocgjegdfaa
open Go.RowKit Go.ChangeShapes Go.WideShapes

theorem StAt.form2 {w : World} {v : Value} {s : St} (h : StAt w v s) : ∃ ac cc ai ci ao co, v = .agg #[.slice ac s.cells.length cc, .slice ai s.inp.length ci, .slice ao s.out.length co] := by
  obtain ⟨c, i, o, rfl, hc, hi, ho⟩ := h
  obtain ⟨ac, cc, rfl, -, -, -⟩ := hc
  obtain ⟨⟨ai, ci, rfl, -, -, -⟩, -⟩ := hi
  obtain ⟨⟨ao, co, rfl, -, -, -⟩, -⟩ := ho
  exact ⟨_, _, _, _, _, _, rfl⟩

set_option maxRecDepth 100000 in
set_option maxHeartbeats 16000000 in
theorem lesslaw (a b : St) (va vb : Value) (w : World) (h1 : StAt w va a) (h2 : StAt w vb b) (n1 : (a.cells.length + 2) * 24 ≤ 140737488355328) (n2 : (b.cells.length + 2) * 24 ≤ 140737488355328) (hsum : sumN (listsS a) ≤ 1099511627776) :
    Calls Try.prog 8 #[va, vb] w fun e w' => e = .returned (.bool true) ∧ Below w.heap.size w w' := by
  have HA : Hid (∀ w, Calls Try.prog 11 #[] w fun e w' => e = .returned (.bool true) ∧ Below w.heap.size w w') := awake_any
  obtain ⟨aa, ca, ab, cb, ac, cc, rfl⟩ := h1.form2
  obtain ⟨ba, da, bb, db, bc, dc, rfl⟩ := h2.form2
  obtain ⟨a0, e0⟩ : ∃ n, a.cells.length = n := ⟨_, rfl⟩
  obtain ⟨a1, e1⟩ : ∃ n, a.inp.length = n := ⟨_, rfl⟩
  obtain ⟨a2, e2⟩ : ∃ n, a.out.length = n := ⟨_, rfl⟩
  obtain ⟨b0, e3⟩ : ∃ n, b.cells.length = n := ⟨_, rfl⟩
  obtain ⟨b1, e4⟩ : ∃ n, b.inp.length = n := ⟨_, rfl⟩
  obtain ⟨b2, e5⟩ : ∃ n, b.out.length = n := ⟨_, rfl⟩
  rw [e0, e1, e2] at h1 ⊢
  rw [e3, e4, e5] at h2 ⊢
  clear e0 e1 e2 e3 e4 e5
  obtain ⟨W, hW⟩ : ∃ W, W = (w.alloc (.cells #[.slice aa a0 ca, .slice ab a1 cb, .slice ac a2 cc] 35)).alloc (.cells #[.slice ba b0 da, .slice bb b1 db, .slice bc b2 dc] 35) := ⟨_, rfl⟩
  have hB0 : Below w.heap.size w W := by rw [hW]; exact below_next (below_alloc _ _) (Nat.le_refl _) (below_alloc _ _)
  have hKA : Blk W w.heap.size 35 #[.slice aa a0 ca, .slice ab a1 cb, .slice ac a2 cc] := by rw [hW]; exact blk_nx (blk_at rfl _ _) _
  have hKB : Blk W (w.heap.size + 1) 35 #[.slice ba b0 da, .slice bb b1 db, .slice bc b2 dc] := by rw [hW]; exact blk_at (by simp) _ _
  have HCELL : Hid (∀ w', Below W.heap.size W w' → w'.cell? ⟨w.heap.size, 0, none⟩ = some (.slice aa a0 ca) ∧ w'.cell? ⟨w.heap.size, 1, none⟩ = some (.slice ab a1 cb) ∧ w'.cell? ⟨w.heap.size, 2, none⟩ = some (.slice ac a2 cc) ∧ w'.cell? ⟨w.heap.size + 1, 0, none⟩ = some (.slice ba b0 da) ∧ w'.cell? ⟨w.heap.size + 1, 1, none⟩ = some (.slice bb b1 db) ∧ w'.cell? ⟨w.heap.size + 1, 2, none⟩ = some (.slice bc b2 dc)) :=
    fun w' hb => ⟨(hKA.next hb).cell 0, (hKA.next hb).cell 1, (hKA.next hb).cell 2, (hKB.next hb).cell 0, (hKB.next hb).cell 1, (hKB.next hb).cell 2⟩
  have HSA : Hid (∀ w', Below W.heap.size W w' → StAt w' (.agg #[.slice aa a0 ca, .slice ab a1 cb, .slice ac a2 cc]) a) := fun w' hb => (h1.below hB0 (Nat.le_refl _)).below hb (Nat.le_refl _)
  have HSB : Hid (∀ w', Below W.heap.size W w' → StAt w' (.agg #[.slice ba b0 da, .slice bb b1 db, .slice bc b2 dc]) b) := fun w' hb => (h2.below hB0 (Nat.le_refl _)).below hb (Nat.le_refl _)
  have HFA : Hid (∀ w', Below W.heap.size W w' → Calls Try.prog 19 #[.agg #[.slice aa a0 ca, .slice ab a1 cb, .slice ac a2 cc]] w' (FitPost a w')) := fun w' hb => rfitsr_any a _ w' (HSA.out w' hb) n1
  have HFB : Hid (∀ w', Below W.heap.size W w' → Calls Try.prog 19 #[.agg #[.slice ba b0 da, .slice bb b1 db, .slice bc b2 dc]] w' (FitPost b w')) := fun w' hb => rfitsr_any b _ w' (HSB.out w' hb) n2
  obtain ⟨c, hc⟩ : ∃ c, cmpP a b = c := ⟨_, rfl⟩
  have HL : Hid (MidS a → MidS b → ∀ w', Below W.heap.size W w' → Calls Try.prog 24 #[.agg #[.slice aa a0 ca, .slice ab a1 cb, .slice ac a2 cc], .agg #[.slice ba b0 da, .slice bb b1 db, .slice bc b2 dc]] w' fun e w'' => e = .returned (.bool (decide (c < 0))) ∧ Below w'.heap.size w' w'') := fun hm hm' w' hb => by
    rw [← hc]
    exact less_any a b _ _ w' (HSA.out w' hb) (HSB.out w' hb) hm hm'
  have HR : Hid (MidS a → MidS b → ∀ w', Below W.heap.size W w' → Calls Try.prog 15 #[.agg #[.slice aa a0 ca, .slice ab a1 cb, .slice ac a2 cc], .agg #[.slice ba b0 da, .slice bb b1 db, .slice bc b2 dc]] w' fun e w'' => e = .returned (.int .i64 c) ∧ Below w'.heap.size w' w'') := fun hm hm' w' hb => by
    rw [← hc]
    exact rcompare_any a b _ _ w' (HSA.out w' hb) (HSB.out w' hb) n1 n2 hm hm' hsum
  have HB0 := Lib.hid hB0
  have HW := Lib.hid hW
  clear h1 h2 hKA hKB hB0 hW n1 n2 hc hsum
  go_enter Try.func8, Try.ntmps8
  go_upto_region 1 with (fail)
  rw [← HW.out]
  clear HW
  go_wp2_with fail
  refine (HA.out _).mono ?_
  rintro e w1 ⟨rfl, hb1⟩
  have H1 := Lib.hid hb1
  clear hb1
  obtain ⟨m0, m1, m2, m3, m4, m5⟩ := HCELL.out _ H1.out
  go_wp2_with fail
  refine (HFA.out _ H1.out).mono ?_
  rintro e w2 ⟨ba, rfl, hia, hb⟩
  have H2 := Lib.hid (below_next H1.out (Nat.le_refl _) hb)
  have HIa := Lib.hid hia
  clear hb hia
  clear m0 m1 m2 m3 m4 m5
  obtain ⟨m0, m1, m2, m3, m4, m5⟩ := HCELL.out _ H2.out
  cases ba with
  | false =>
    go_wp2_with fail
    refine (HA.out _).mono ?_
    rintro e wf ⟨rfl, hb⟩
    have HF := Lib.hid (below_next H2.out (Nat.le_refl _) hb)
    clear hb
    go_wp2
    go_ret
    exact ⟨rfl, HB0.out.trans (HF.out.mono HB0.out.size)⟩
  | true =>
  have HMa : Hid (MidS a) := (HIa.out.1 rfl).1
  go_wp2_with fail
  refine (HFB.out _ H2.out).mono ?_
  rintro e w3 ⟨bb, rfl, hib, hb⟩
  have H3 := Lib.hid (below_next H2.out (Nat.le_refl _) hb)
  have HIb := Lib.hid hib
  clear hb hib
  clear m0 m1 m2 m3 m4 m5
  obtain ⟨m0, m1, m2, m3, m4, m5⟩ := HCELL.out _ H3.out
  cases bb with
  | false =>
    go_wp2_with fail
    refine (HA.out _).mono ?_
    rintro e wf ⟨rfl, hb⟩
    have HF := Lib.hid (below_next H3.out (Nat.le_refl _) hb)
    clear hb
    go_wp2
    go_ret
    exact ⟨rfl, HB0.out.trans (HF.out.mono HB0.out.size)⟩
  | true =>
  have HMb : Hid (MidS b) := (HIb.out.1 rfl).1
  have C1 : Hid (∀ d os, Calls Try.prog 24 #[.agg #[.slice aa a0 ca, .slice ab a1 cb, .slice ac a2 cc], .agg #[.slice ba b0 da, .slice bb b1 db, .slice bc b2 dc]] (Go.Sort.grow (redrawn w3 d) os) fun e w'' => e = .returned (.bool (decide (c < 0))) ∧ Below (Go.Sort.grow (redrawn w3 d) os).heap.size (Go.Sort.grow (redrawn w3 d) os) w'') := fun d os => HL.out HMa.out HMb.out _ (below_next H3.out (Nat.le_refl _) (below_regrown w3 d os))
  have C2 : Hid (∀ d os, Calls Try.prog 15 #[.agg #[.slice aa a0 ca, .slice ab a1 cb, .slice ac a2 cc], .agg #[.slice ba b0 da, .slice bb b1 db, .slice bc b2 dc]] (Go.Sort.grow (redrawn w3 d) os) fun e w'' => e = .returned (.int .i64 c) ∧ Below (Go.Sort.grow (redrawn w3 d) os).heap.size (Go.Sort.grow (redrawn w3 d) os) w'') := fun d os => HR.out HMa.out HMb.out _ (below_next H3.out (Nat.le_refl _) (below_regrown w3 d os))
  have z0 : ∀ d os, (Go.Sort.grow (redrawn w3 d) os).cell? ⟨w.heap.size, 0, none⟩ = some (.slice aa a0 ca) := cell_regrown m0
  have z1 : ∀ d os, (Go.Sort.grow (redrawn w3 d) os).cell? ⟨w.heap.size, 1, none⟩ = some (.slice ab a1 cb) := cell_regrown m1
  have z2 : ∀ d os, (Go.Sort.grow (redrawn w3 d) os).cell? ⟨w.heap.size, 2, none⟩ = some (.slice ac a2 cc) := cell_regrown m2
  have z3 : ∀ d os, (Go.Sort.grow (redrawn w3 d) os).cell? ⟨w.heap.size + 1, 0, none⟩ = some (.slice ba b0 da) := cell_regrown m3
  have z4 : ∀ d os, (Go.Sort.grow (redrawn w3 d) os).cell? ⟨w.heap.size + 1, 1, none⟩ = some (.slice bb b1 db) := cell_regrown m4
  have z5 : ∀ d os, (Go.Sort.grow (redrawn w3 d) os).cell? ⟨w.heap.size + 1, 2, none⟩ = some (.slice bc b2 dc) := cell_regrown m5
  go_wp2
  refine wp_region_quiet_below (by kernel_rfl) (by kernel_rfl) ?_
  repeat (quiet_step (first | (go_at_call 24; exact Calls.regrown_of (C1.out _ _)) | (go_at_call 15; exact Calls.regrown_of (C2.out _ _))))
  refine wpQuiet_nil ?_
  intro _ hw'
  obtain ⟨⟨dq, osq⟩, hw''⟩ := hw'
  subst hw''
  have H5 : Hid (Below W.heap.size W (Go.Sort.grow (redrawn w3 dq) osq)) := below_next H3.out (Nat.le_refl _) (below_regrown w3 dq osq)
  go_wp2
  go_ret
  exact ⟨by simp, HB0.out.trans (H5.out.mono HB0.out.size)⟩

theorem lesslaw_top {H : Type} {enc : TypeId × Value → H} {r : Reach} {b0 : Nat} {w : World} {base : Nat} {sp : Nat → Bool} {held : Bool}
    (v0 : Value) (d0 : DataW H) (p0 : List MemPlace) (h0 : Value.okWide Try.prog w r b0 35 v0) (t0 : DataW.Trod enc Try.prog w base sp held 35 v0 d0 p0) (z0 : Rows.uptoBulk d0 ≤ 1048576)
    (v1 : Value) (d1 : DataW H) (p1 : List MemPlace) (h1 : Value.okWide Try.prog w r b0 35 v1) (t1 : DataW.Trod enc Try.prog w base sp held 35 v1 d1 p1) (z1 : Rows.uptoBulk d1 ≤ 1048576) (w' : World) (hw : w' = w := by rfl) :
    Calls Try.prog 8 #[v0, v1] w' fun e w'' => e = .returned (.bool true) ∧ Below w'.heap.size w' w'' := by
  subst hw
  obtain ⟨a, ha, n1, hsum⟩ := st_bulk h0 t0 z0
  obtain ⟨b, hb, n2, -⟩ := st_bulk h1 t1 z1
  exact lesslaw a b v0 v1 w' ha hb n1 n2 hsum
end Go.Proofs.Ytklbaocgjegdfaa
