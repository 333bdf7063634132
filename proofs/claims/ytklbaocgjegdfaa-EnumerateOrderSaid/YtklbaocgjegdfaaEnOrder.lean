/- The law EnumerateOrder: its walk. -/
import Derived.Test.YtklbaocgjegdfaaEnK
import Derived.Test.YtklbaocgjegdfaaEnSz
import Derived.Test.YtklbaocgjegdfaaEnX5
import Derived.Lib.QuietBelow
namespace Go.Proofs.Ytklbaocgjegdfaa
open Go.RowKit Go.ChangeShapes Go.WideShapes

theorem StAt.form {w : World} {v : Value} {s : St} (h : StAt w v s) : ∃ ac cc ai ci ao co, v = .agg #[.slice ac s.cells.length cc, .slice ai s.inp.length ci, .slice ao s.out.length co] := by
  obtain ⟨c, i, o, rfl, hc, hi, ho⟩ := h
  obtain ⟨ac, cc, rfl, -, -, -⟩ := hc
  obtain ⟨⟨ai, ci, rfl, -, -, -⟩, -⟩ := hi
  obtain ⟨⟨ao, co, rfl, -, -, -⟩, -⟩ := ho
  exact ⟨_, _, _, _, _, _, rfl⟩

/-- what the law's tests are -/
theorem order_facts (a b c : St) : ∃ x y z u t : Bool, x = decide (cmpP a b < 0) ∧ y = decide (cmpP b a < 0) ∧ z = decide (a = b) ∧ u = decide (cmpP b c < 0) ∧ t = decide (cmpP a c < 0) ∧
    ((x = true ∧ y = false ∧ z = false ∧ u = true ∧ t = true) ∨ (x = true ∧ y = false ∧ z = false ∧ u = false) ∨ (x = false ∧ y = true ∧ z = false) ∨ (x = false ∧ y = false ∧ z = true)) := by
  refine ⟨_, _, _, _, _, rfl, rfl, rfl, rfl, rfl, ?_⟩
  have ha := cmpP_anti a b
  have hz : a = b → cmpP a b = 0 := fun h => by subst h; exact cmpP_self a
  rcases Int.lt_trichotomy (cmpP a b) 0 with h | h | h
  · have hne : ¬ a = b := fun e => by have := hz e; omega
    by_cases hu : cmpP b c < 0
    · exact .inl ⟨decide_eq_true h, decide_eq_false (by omega), decide_eq_false hne, decide_eq_true hu, decide_eq_true (cmpP_trans h hu)⟩
    · exact .inr (.inl ⟨decide_eq_true h, decide_eq_false (by omega), decide_eq_false hne, decide_eq_false hu⟩)
  · exact .inr (.inr (.inr ⟨decide_eq_false (by omega), decide_eq_false (by omega), decide_eq_true (cmpP_zero h)⟩))
  · have hne : ¬ a = b := fun e => by have := hz e; omega
    exact .inr (.inr (.inl ⟨decide_eq_false (by omega), decide_eq_true (by omega), decide_eq_false hne⟩))

set_option maxRecDepth 100000 in
set_option maxHeartbeats 16000000 in
theorem orderlaw (a b c : St) (va vb vc : Value) (w : World) (h1 : StAt w va a) (h2 : StAt w vb b) (h3 : StAt w vc c) (n1 : (a.cells.length + 2) * 24 ≤ 140737488355328) (n2 : (b.cells.length + 2) * 24 ≤ 140737488355328) (n3 : (c.cells.length + 2) * 24 ≤ 140737488355328) :
    Calls Try.prog 9 #[va, vb, vc] w fun e w' => e = .returned (.bool true) ∧ Below w.heap.size w w' := by
  have HA : Hid (∀ w, Calls Try.prog 11 #[] w fun e w' => e = .returned (.bool true) ∧ Below w.heap.size w w') := awake_any
  obtain ⟨aa, ca, ab, cb, ac, cc, rfl⟩ := h1.form
  obtain ⟨ba, da, bb, db, bc, dc, rfl⟩ := h2.form
  obtain ⟨ea, fa, eb, fb, ec, fc, rfl⟩ := h3.form
  obtain ⟨a0, e0⟩ : ∃ n, a.cells.length = n := ⟨_, rfl⟩
  obtain ⟨a1, e1⟩ : ∃ n, a.inp.length = n := ⟨_, rfl⟩
  obtain ⟨a2, e2⟩ : ∃ n, a.out.length = n := ⟨_, rfl⟩
  obtain ⟨b0, e3⟩ : ∃ n, b.cells.length = n := ⟨_, rfl⟩
  obtain ⟨b1, e4⟩ : ∃ n, b.inp.length = n := ⟨_, rfl⟩
  obtain ⟨b2, e5⟩ : ∃ n, b.out.length = n := ⟨_, rfl⟩
  obtain ⟨c0, e6⟩ : ∃ n, c.cells.length = n := ⟨_, rfl⟩
  obtain ⟨c1, e7⟩ : ∃ n, c.inp.length = n := ⟨_, rfl⟩
  obtain ⟨c2, e8⟩ : ∃ n, c.out.length = n := ⟨_, rfl⟩
  rw [e0, e1, e2] at h1 ⊢
  rw [e3, e4, e5] at h2 ⊢
  rw [e6, e7, e8] at h3 ⊢
  clear e0 e1 e2 e3 e4 e5 e6 e7 e8
  obtain ⟨W, hW⟩ : ∃ W, W = ((w.alloc (.cells #[.slice aa a0 ca, .slice ab a1 cb, .slice ac a2 cc] 35)).alloc (.cells #[.slice ba b0 da, .slice bb b1 db, .slice bc b2 dc] 35)).alloc (.cells #[.slice ea c0 fa, .slice eb c1 fb, .slice ec c2 fc] 35) := ⟨_, rfl⟩
  have hB0 : Below w.heap.size w W := by rw [hW]; exact below_next (below_next (below_alloc _ _) (Nat.le_refl _) (below_alloc _ _)) (Nat.le_refl _) (below_alloc _ _)
  have hKA : Blk W w.heap.size 35 #[.slice aa a0 ca, .slice ab a1 cb, .slice ac a2 cc] := by rw [hW]; exact blk_nx (blk_nx (blk_at rfl _ _) _) _
  have hKB : Blk W (w.heap.size + 1) 35 #[.slice ba b0 da, .slice bb b1 db, .slice bc b2 dc] := by rw [hW]; exact blk_nx (blk_at (by simp) _ _) _
  have hKC : Blk W (w.heap.size + 2) 35 #[.slice ea c0 fa, .slice eb c1 fb, .slice ec c2 fc] := by rw [hW]; exact blk_at (by simp) _ _
  have HCELL : Hid (∀ w', Below W.heap.size W w' → w'.cell? ⟨w.heap.size, 0, none⟩ = some (.slice aa a0 ca) ∧ w'.cell? ⟨w.heap.size, 1, none⟩ = some (.slice ab a1 cb) ∧ w'.cell? ⟨w.heap.size, 2, none⟩ = some (.slice ac a2 cc) ∧ w'.cell? ⟨w.heap.size + 1, 0, none⟩ = some (.slice ba b0 da) ∧ w'.cell? ⟨w.heap.size + 1, 1, none⟩ = some (.slice bb b1 db) ∧ w'.cell? ⟨w.heap.size + 1, 2, none⟩ = some (.slice bc b2 dc) ∧ w'.cell? ⟨w.heap.size + 2, 0, none⟩ = some (.slice ea c0 fa) ∧ w'.cell? ⟨w.heap.size + 2, 1, none⟩ = some (.slice eb c1 fb) ∧ w'.cell? ⟨w.heap.size + 2, 2, none⟩ = some (.slice ec c2 fc)) :=
    fun w' hb => ⟨(hKA.next hb).cell 0, (hKA.next hb).cell 1, (hKA.next hb).cell 2, (hKB.next hb).cell 0, (hKB.next hb).cell 1, (hKB.next hb).cell 2, (hKC.next hb).cell 0, (hKC.next hb).cell 1, (hKC.next hb).cell 2⟩
  have HSA : Hid (∀ w', Below W.heap.size W w' → StAt w' (.agg #[.slice aa a0 ca, .slice ab a1 cb, .slice ac a2 cc]) a) := fun w' hb => (h1.below hB0 (Nat.le_refl _)).below hb (Nat.le_refl _)
  have HSB : Hid (∀ w', Below W.heap.size W w' → StAt w' (.agg #[.slice ba b0 da, .slice bb b1 db, .slice bc b2 dc]) b) := fun w' hb => (h2.below hB0 (Nat.le_refl _)).below hb (Nat.le_refl _)
  have HSC : Hid (∀ w', Below W.heap.size W w' → StAt w' (.agg #[.slice ea c0 fa, .slice eb c1 fb, .slice ec c2 fc]) c) := fun w' hb => (h3.below hB0 (Nat.le_refl _)).below hb (Nat.le_refl _)
  have HFA : Hid (∀ w', Below W.heap.size W w' → Calls Try.prog 19 #[.agg #[.slice aa a0 ca, .slice ab a1 cb, .slice ac a2 cc]] w' (FitPost a w')) := fun w' hb => rfitsr_any a _ w' (HSA.out w' hb) n1
  have HFB : Hid (∀ w', Below W.heap.size W w' → Calls Try.prog 19 #[.agg #[.slice ba b0 da, .slice bb b1 db, .slice bc b2 dc]] w' (FitPost b w')) := fun w' hb => rfitsr_any b _ w' (HSB.out w' hb) n2
  have HFC : Hid (∀ w', Below W.heap.size W w' → Calls Try.prog 19 #[.agg #[.slice ea c0 fa, .slice eb c1 fb, .slice ec c2 fc]] w' (FitPost c w')) := fun w' hb => rfitsr_any c _ w' (HSC.out w' hb) n3
  obtain ⟨x, y, z, u, t, hx, hy, hz, hu, ht, hcase⟩ := order_facts a b c
  have HLAB : Hid (MidS a → MidS b → ∀ w', Below W.heap.size W w' → Calls Try.prog 24 #[.agg #[.slice aa a0 ca, .slice ab a1 cb, .slice ac a2 cc], .agg #[.slice ba b0 da, .slice bb b1 db, .slice bc b2 dc]] w' fun e w'' => e = .returned (.bool x) ∧ Below w'.heap.size w' w'') := fun hm hm' w' hb => by
    rw [hx]
    exact less_any a b _ _ w' (HSA.out w' hb) (HSB.out w' hb) hm hm'
  have HLBA : Hid (MidS b → MidS a → ∀ w', Below W.heap.size W w' → Calls Try.prog 24 #[.agg #[.slice ba b0 da, .slice bb b1 db, .slice bc b2 dc], .agg #[.slice aa a0 ca, .slice ab a1 cb, .slice ac a2 cc]] w' fun e w'' => e = .returned (.bool y) ∧ Below w'.heap.size w' w'') := fun hm hm' w' hb => by
    rw [hy]
    exact less_any b a _ _ w' (HSB.out w' hb) (HSA.out w' hb) hm hm'
  have HLBC : Hid (MidS b → MidS c → ∀ w', Below W.heap.size W w' → Calls Try.prog 24 #[.agg #[.slice ba b0 da, .slice bb b1 db, .slice bc b2 dc], .agg #[.slice ea c0 fa, .slice eb c1 fb, .slice ec c2 fc]] w' fun e w'' => e = .returned (.bool u) ∧ Below w'.heap.size w' w'') := fun hm hm' w' hb => by
    rw [hu]
    exact less_any b c _ _ w' (HSB.out w' hb) (HSC.out w' hb) hm hm'
  have HLAC : Hid (MidS a → MidS c → ∀ w', Below W.heap.size W w' → Calls Try.prog 24 #[.agg #[.slice aa a0 ca, .slice ab a1 cb, .slice ac a2 cc], .agg #[.slice ea c0 fa, .slice eb c1 fb, .slice ec c2 fc]] w' fun e w'' => e = .returned (.bool t) ∧ Below w'.heap.size w' w'') := fun hm hm' w' hb => by
    rw [ht]
    exact less_any a c _ _ w' (HSA.out w' hb) (HSC.out w' hb) hm hm'
  have HLAA : Hid (MidS a → ∀ w', Below W.heap.size W w' → Calls Try.prog 24 #[.agg #[.slice aa a0 ca, .slice ab a1 cb, .slice ac a2 cc], .agg #[.slice aa a0 ca, .slice ab a1 cb, .slice ac a2 cc]] w' fun e w'' => e = .returned (.bool false) ∧ Below w'.heap.size w' w'') := fun hm w' hb => by
    have := less_any a a _ _ w' (HSA.out w' hb) (HSA.out w' hb) hm hm
    rw [cmpP_self] at this
    exact this
  have HEQ : Hid (∀ w', Below W.heap.size W w' → Calls Try.prog 23 #[.agg #[.slice aa a0 ca, .slice ab a1 cb, .slice ac a2 cc], .agg #[.slice ba b0 da, .slice bb b1 db, .slice bc b2 dc]] w' fun e w'' => e = .returned (.bool z) ∧ Below w'.heap.size w' w'') := fun w' hb => by
    rw [hz]
    exact equal_any a b _ _ w' (HSA.out w' hb) (HSB.out w' hb)
  have HB0 := Lib.hid hB0
  have HW := Lib.hid hW
  clear h1 h2 h3 hKA hKB hKC hB0 hW n1 n2 n3 hx hy hz hu ht
  go_enter Try.func9, Try.ntmps9
  go_upto_region 1 with (fail)
  rw [show w.heap.size + 1 + 1 = w.heap.size + 2 by omega, ← HW.out]
  clear HW
  go_wp2_with fail
  refine (HA.out _).mono ?_
  rintro e w1 ⟨rfl, hb1⟩
  have H1 := Lib.hid hb1
  clear hb1
  obtain ⟨m0, m1, m2, m3, m4, m5, m6, m7, m8⟩ := HCELL.out _ H1.out
  go_wp2_with fail
  refine (HFA.out _ H1.out).mono ?_
  rintro e w2 ⟨ba, rfl, hia, hb⟩
  have H2 := Lib.hid (below_next H1.out (Nat.le_refl _) hb)
  have HIa := Lib.hid hia
  clear hb hia
  clear m0 m1 m2 m3 m4 m5 m6 m7 m8
  obtain ⟨m0, m1, m2, m3, m4, m5, m6, m7, m8⟩ := HCELL.out _ H2.out
  cases ba with
  | false =>
    go_wp2_with fail
    refine (HA.out _).mono ?_
    rintro e wf ⟨rfl, hb⟩
    have HF := Lib.hid (below_next H2.out (Nat.le_refl _) hb)
    clear hb
    go_wp2
    go_ret
    exact ⟨rfl, HB0.out.trans (HF.out.mono HB0.out.size)⟩
  | true =>
  have HMa : Hid (MidS a) := (HIa.out.1 rfl).1
  go_wp2_with fail
  refine (HFB.out _ H2.out).mono ?_
  rintro e w3 ⟨bb, rfl, hib, hb⟩
  have H3 := Lib.hid (below_next H2.out (Nat.le_refl _) hb)
  have HIb := Lib.hid hib
  clear hb hib
  clear m0 m1 m2 m3 m4 m5 m6 m7 m8
  obtain ⟨m0, m1, m2, m3, m4, m5, m6, m7, m8⟩ := HCELL.out _ H3.out
  cases bb with
  | false =>
    go_wp2_with fail
    refine (HA.out _).mono ?_
    rintro e wf ⟨rfl, hb⟩
    have HF := Lib.hid (below_next H3.out (Nat.le_refl _) hb)
    clear hb
    go_wp2
    go_ret
    exact ⟨rfl, HB0.out.trans (HF.out.mono HB0.out.size)⟩
  | true =>
  have HMb : Hid (MidS b) := (HIb.out.1 rfl).1
  go_wp2_with fail
  refine (HFC.out _ H3.out).mono ?_
  rintro e w4 ⟨bc, rfl, hic, hb⟩
  have H4 := Lib.hid (below_next H3.out (Nat.le_refl _) hb)
  have HIc := Lib.hid hic
  clear hb hic
  clear m0 m1 m2 m3 m4 m5 m6 m7 m8
  obtain ⟨m0, m1, m2, m3, m4, m5, m6, m7, m8⟩ := HCELL.out _ H4.out
  cases bc with
  | false =>
    go_wp2_with fail
    refine (HA.out _).mono ?_
    rintro e wf ⟨rfl, hb⟩
    have HF := Lib.hid (below_next H4.out (Nat.le_refl _) hb)
    clear hb
    go_wp2
    go_ret
    exact ⟨rfl, HB0.out.trans (HF.out.mono HB0.out.size)⟩
  | true =>
  have HMc : Hid (MidS c) := (HIc.out.1 rfl).1
  have C1 : Hid (∀ d os, Calls Try.prog 24 #[.agg #[.slice aa a0 ca, .slice ab a1 cb, .slice ac a2 cc], .agg #[.slice ba b0 da, .slice bb b1 db, .slice bc b2 dc]] (Go.Sort.grow (redrawn w4 d) os) fun e w'' => e = .returned (.bool x) ∧ Below (Go.Sort.grow (redrawn w4 d) os).heap.size (Go.Sort.grow (redrawn w4 d) os) w'') := fun d os => HLAB.out HMa.out HMb.out _ (below_next H4.out (Nat.le_refl _) (below_regrown w4 d os))
  have C2 : Hid (∀ d os, Calls Try.prog 24 #[.agg #[.slice ba b0 da, .slice bb b1 db, .slice bc b2 dc], .agg #[.slice aa a0 ca, .slice ab a1 cb, .slice ac a2 cc]] (Go.Sort.grow (redrawn w4 d) os) fun e w'' => e = .returned (.bool y) ∧ Below (Go.Sort.grow (redrawn w4 d) os).heap.size (Go.Sort.grow (redrawn w4 d) os) w'') := fun d os => HLBA.out HMb.out HMa.out _ (below_next H4.out (Nat.le_refl _) (below_regrown w4 d os))
  have z0 : ∀ d os, (Go.Sort.grow (redrawn w4 d) os).cell? ⟨w.heap.size, 0, none⟩ = some (.slice aa a0 ca) := cell_regrown m0
  have z1 : ∀ d os, (Go.Sort.grow (redrawn w4 d) os).cell? ⟨w.heap.size, 1, none⟩ = some (.slice ab a1 cb) := cell_regrown m1
  have z2 : ∀ d os, (Go.Sort.grow (redrawn w4 d) os).cell? ⟨w.heap.size, 2, none⟩ = some (.slice ac a2 cc) := cell_regrown m2
  have z3 : ∀ d os, (Go.Sort.grow (redrawn w4 d) os).cell? ⟨w.heap.size + 1, 0, none⟩ = some (.slice ba b0 da) := cell_regrown m3
  have z4 : ∀ d os, (Go.Sort.grow (redrawn w4 d) os).cell? ⟨w.heap.size + 1, 1, none⟩ = some (.slice bb b1 db) := cell_regrown m4
  have z5 : ∀ d os, (Go.Sort.grow (redrawn w4 d) os).cell? ⟨w.heap.size + 1, 2, none⟩ = some (.slice bc b2 dc) := cell_regrown m5
  have z6 : ∀ d os, (Go.Sort.grow (redrawn w4 d) os).cell? ⟨w.heap.size + 2, 0, none⟩ = some (.slice ea c0 fa) := cell_regrown m6
  have z7 : ∀ d os, (Go.Sort.grow (redrawn w4 d) os).cell? ⟨w.heap.size + 2, 1, none⟩ = some (.slice eb c1 fb) := cell_regrown m7
  have z8 : ∀ d os, (Go.Sort.grow (redrawn w4 d) os).cell? ⟨w.heap.size + 2, 2, none⟩ = some (.slice ec c2 fc) := cell_regrown m8
  go_wp2
  refine wp_region_quiet_below (by kernel_rfl) (by kernel_rfl) ?_
  repeat (quiet_step ((go_at_call 24; first | (with_reducible exact Calls.regrown_of (C1.out _ _)) | (with_reducible exact Calls.regrown_of (C2.out _ _)))))
  refine wpQuiet_nil ?_
  intro _ hw'
  obtain ⟨⟨dq, osq⟩, hw''⟩ := hw'
  subst hw''
  have H5 : Hid (Below W.heap.size W (Go.Sort.grow (redrawn w4 dq) osq)) := below_next H4.out (Nat.le_refl _) (below_regrown w4 dq osq)
  generalize Go.Sort.grow (redrawn w4 dq) osq = w5 at *
  clear C1 C2 z0 z1 z2 z3 z4 z5 z6 z7 z8
  clear m0 m1 m2 m3 m4 m5 m6 m7 m8
  obtain ⟨m0, m1, m2, m3, m4, m5, m6, m7, m8⟩ := HCELL.out _ H5.out
  rcases hcase with ⟨rfl, rfl, rfl, rfl, rfl⟩ | ⟨rfl, rfl, rfl, rfl⟩ | ⟨rfl, rfl, rfl⟩ | ⟨rfl, rfl, rfl⟩
  · go_wp2_with fail
    refine (HLAA.out HMa.out _ H5.out).mono ?_
    rintro e w6 ⟨rfl, hb⟩
    have H6 := Lib.hid (below_next H5.out (Nat.le_refl _) hb)
    clear hb
    clear m0 m1 m2 m3 m4 m5 m6 m7 m8
    obtain ⟨m0, m1, m2, m3, m4, m5, m6, m7, m8⟩ := HCELL.out _ H6.out
    go_wp2_with fail
    refine (HEQ.out _ H6.out).mono ?_
    rintro e w7 ⟨rfl, hb⟩
    have H7 := Lib.hid (below_next H6.out (Nat.le_refl _) hb)
    clear hb
    clear m0 m1 m2 m3 m4 m5 m6 m7 m8
    obtain ⟨m0, m1, m2, m3, m4, m5, m6, m7, m8⟩ := HCELL.out _ H7.out
    go_wp2_with fail
    refine (HLBC.out HMb.out HMc.out _ H7.out).mono ?_
    rintro e w8 ⟨rfl, hb⟩
    have H8 := Lib.hid (below_next H7.out (Nat.le_refl _) hb)
    clear hb
    clear m0 m1 m2 m3 m4 m5 m6 m7 m8
    obtain ⟨m0, m1, m2, m3, m4, m5, m6, m7, m8⟩ := HCELL.out _ H8.out
    go_wp2_with fail
    refine (HLAC.out HMa.out HMc.out _ H8.out).mono ?_
    rintro e w9 ⟨rfl, hb⟩
    have H9 := Lib.hid (below_next H8.out (Nat.le_refl _) hb)
    clear hb
    clear m0 m1 m2 m3 m4 m5 m6 m7 m8
    obtain ⟨m0, m1, m2, m3, m4, m5, m6, m7, m8⟩ := HCELL.out _ H9.out
    go_wp2
    go_ret
    exact ⟨rfl, HB0.out.trans (H9.out.mono HB0.out.size)⟩
  · go_wp2_with fail
    refine (HLAA.out HMa.out _ H5.out).mono ?_
    rintro e w6 ⟨rfl, hb⟩
    have H6 := Lib.hid (below_next H5.out (Nat.le_refl _) hb)
    clear hb
    clear m0 m1 m2 m3 m4 m5 m6 m7 m8
    obtain ⟨m0, m1, m2, m3, m4, m5, m6, m7, m8⟩ := HCELL.out _ H6.out
    go_wp2_with fail
    refine (HEQ.out _ H6.out).mono ?_
    rintro e w7 ⟨rfl, hb⟩
    have H7 := Lib.hid (below_next H6.out (Nat.le_refl _) hb)
    clear hb
    clear m0 m1 m2 m3 m4 m5 m6 m7 m8
    obtain ⟨m0, m1, m2, m3, m4, m5, m6, m7, m8⟩ := HCELL.out _ H7.out
    go_wp2_with fail
    refine (HLBC.out HMb.out HMc.out _ H7.out).mono ?_
    rintro e w8 ⟨rfl, hb⟩
    have H8 := Lib.hid (below_next H7.out (Nat.le_refl _) hb)
    clear hb
    clear m0 m1 m2 m3 m4 m5 m6 m7 m8
    obtain ⟨m0, m1, m2, m3, m4, m5, m6, m7, m8⟩ := HCELL.out _ H8.out
    go_wp2
    go_ret
    exact ⟨rfl, HB0.out.trans (H8.out.mono HB0.out.size)⟩
  · go_wp2_with fail
    refine (HLAA.out HMa.out _ H5.out).mono ?_
    rintro e w6 ⟨rfl, hb⟩
    have H6 := Lib.hid (below_next H5.out (Nat.le_refl _) hb)
    clear hb
    clear m0 m1 m2 m3 m4 m5 m6 m7 m8
    obtain ⟨m0, m1, m2, m3, m4, m5, m6, m7, m8⟩ := HCELL.out _ H6.out
    go_wp2_with fail
    refine (HEQ.out _ H6.out).mono ?_
    rintro e w7 ⟨rfl, hb⟩
    have H7 := Lib.hid (below_next H6.out (Nat.le_refl _) hb)
    clear hb
    clear m0 m1 m2 m3 m4 m5 m6 m7 m8
    obtain ⟨m0, m1, m2, m3, m4, m5, m6, m7, m8⟩ := HCELL.out _ H7.out
    go_wp2
    go_ret
    exact ⟨rfl, HB0.out.trans (H7.out.mono HB0.out.size)⟩
  · go_wp2_with fail
    refine (HLAA.out HMa.out _ H5.out).mono ?_
    rintro e w6 ⟨rfl, hb⟩
    have H6 := Lib.hid (below_next H5.out (Nat.le_refl _) hb)
    clear hb
    clear m0 m1 m2 m3 m4 m5 m6 m7 m8
    obtain ⟨m0, m1, m2, m3, m4, m5, m6, m7, m8⟩ := HCELL.out _ H6.out
    go_wp2_with fail
    refine (HEQ.out _ H6.out).mono ?_
    rintro e w7 ⟨rfl, hb⟩
    have H7 := Lib.hid (below_next H6.out (Nat.le_refl _) hb)
    clear hb
    clear m0 m1 m2 m3 m4 m5 m6 m7 m8
    obtain ⟨m0, m1, m2, m3, m4, m5, m6, m7, m8⟩ := HCELL.out _ H7.out
    go_wp2
    go_ret
    exact ⟨rfl, HB0.out.trans (H7.out.mono HB0.out.size)⟩

theorem orderlaw_top {H : Type} {enc : TypeId × Value → H} {r : Reach} {b0 : Nat} {w : World} {base : Nat} {sp : Nat → Bool} {held : Bool}
    (v0 : Value) (d0 : DataW H) (p0 : List MemPlace) (h0 : Value.okWide Try.prog w r b0 35 v0) (t0 : DataW.Trod enc Try.prog w base sp held 35 v0 d0 p0) (z0 : ∀ n ∈ DataW.weights Try.prog 35 d0, n ≤ reachBytes)
    (v1 : Value) (d1 : DataW H) (p1 : List MemPlace) (h1 : Value.okWide Try.prog w r b0 35 v1) (t1 : DataW.Trod enc Try.prog w base sp held 35 v1 d1 p1) (z1 : ∀ n ∈ DataW.weights Try.prog 35 d1, n ≤ reachBytes)
    (v2 : Value) (d2 : DataW H) (p2 : List MemPlace) (h2 : Value.okWide Try.prog w r b0 35 v2) (t2 : DataW.Trod enc Try.prog w base sp held 35 v2 d2 p2) (z2 : ∀ n ∈ DataW.weights Try.prog 35 d2, n ≤ reachBytes) (w' : World) (hw : w' = w := by rfl) :
    Calls Try.prog 9 #[v0, v1, v2] w' fun e w'' => e = .returned (.bool true) ∧ Below w'.heap.size w' w'' := by
  subst hw
  obtain ⟨a, ha, n1⟩ := st_sized h0 t0 z0
  obtain ⟨b, hb, n2⟩ := st_sized h1 t1 z1
  obtain ⟨c, hc, n3⟩ := st_sized h2 t2 z2
  exact orderlaw a b c v0 v1 v2 w' ha hb hc n1 n2 n3
end Go.Proofs.Ytklbaocgjegdfaa
