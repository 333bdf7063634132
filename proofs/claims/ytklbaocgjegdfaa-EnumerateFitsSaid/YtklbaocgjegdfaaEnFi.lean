/- The law EnumerateFits: its walk. -/
import Derived.Test.YtklbaocgjegdfaaEnK
import Derived.Test.YtklbaocgjegdfaaEnFr
import Derived.Test.YtklbaocgjegdfaaEnFp
import Derived.Test.YtklbaocgjegdfaaEnSz
import Derived.Deep.CutRange
import Derived.Deep.RegionHeld3
namespace Go.Proofs.Ytklbaocgjegdfaa
open Go.RowKit Go.Shelf Go.ChangeShapes

attribute [local go_sem] Oper.semAt_some

/-- between two rounds of the loop over the box's states -/
structure FiI (Wd : World) (s : St) (L : List St) (pre : List St) (O : Nat → Prop) (W : World) : Prop where
  found : ∃ b : Bool, Blk W Wd.heap.size 4 #[.bool b] ∧ (b = true ↔ s ∈ pre)
  many : Blk W (Wd.heap.size + 1) 3 #[.int .i64 (pre.length : Int)]
  last : ∃ c1 c2 c3, Blk W (Wd.heap.size + 2) 35 #[c1, c2, c3] ∧ (∀ x, pre.getLast? = some x → StOff (Wd.heap.size + 3) O W (.agg #[c1, c2, c3]) x)
  take : pre = L.take pre.length
  old : ∀ j, O j → Wd.heap.size + 3 ≤ j ∧ j < W.heap.size
  bel : Below Wd.heap.size Wd W
theorem FiI.own {Wd : World} {s : St} {L : List St} {B : Nat} (hB : Wd.heap.size + 3 ≤ B) (O : Nat → Prop) : OwnFrom B (fun p W => FiI Wd s L p O W) := by
  rintro pre A A' row ⟨⟨b, h1, h2⟩, h3, ⟨c1, c2, c3, h4, h5⟩, h6, h7, h8⟩ hg hr
  exact ⟨⟨b, h1.row hg hr, h2⟩, h3.row hg hr, ⟨c1, c2, c3, h4.row hg hr, fun x hx => (h5 x hx).row hg hr⟩, h6, fun j hj => ⟨(h7 j hj).1, Nat.lt_of_lt_of_le (h7 j hj).2 hg.size⟩, below_row h8 (by omega) hg hr h8.size⟩
theorem FiI.bides (Wd : World) (s : St) (L : List St) : Bides (FiI Wd s L) := by
  rintro pre O O' A A' ⟨⟨b, h1, h2⟩, h3, ⟨c1, c2, c3, h4, h5⟩, h6, h7, h8⟩ hgr
  obtain ⟨ht, hn⟩ := id hgr
  have hlt := h8.size
  have hlg := h4.lt
  refine ⟨⟨b, h1.touch ht (fun h => by have := (h7 _ h).1; omega), h2⟩, h3.touch ht (fun h => by have := (h7 _ h).1; omega), ⟨c1, c2, c3, h4.touch ht (fun h => by have := (h7 _ h).1; omega), fun x hx => (h5 x hx).grows hgr⟩, h6, fun j hj => ?_, ?_⟩
  · rcases hn j hj with h | h
    · exact ⟨(h7 j h).1, Nat.lt_of_lt_of_le (h7 j h).2 ht.size⟩
    · omega
  · exact ⟨ht.os.trans h8.os, ht.tape.trans h8.tape, ht.output.trans h8.output, Nat.le_trans h8.size ht.size, fun j hj => (ht.block j (by omega) (fun ho => by have := (h7 j ho).1; omega)).trans (h8.block j hj)⟩

/-- what a round stores -/
def fiPut (n : Nat) (b : Bool) (k : Nat) (d1 d2 d3 : Value) (G : World) : World :=
  ((((G.setCell ⟨n, 0, none⟩ (.bool b)).setCell ⟨n + 2, 0, none⟩ d1).setCell ⟨n + 2, 1, none⟩ d2).setCell ⟨n + 2, 2, none⟩ d3).setCell ⟨n + 1, 0, none⟩ (.int .i64 ((k : Int) + 1))
theorem fiPut_size (n : Nat) (b : Bool) (k : Nat) (d1 d2 d3 : Value) (G : World) : (fiPut n b k d1 d2 d3 G).heap.size = G.heap.size := by simp [fiPut, World.setCell]
theorem FiI.put {Wd A G : World} {s q : St} {L pre : List St} {O : Nat → Prop} {b : Bool} {d1 d2 d3 : Value} (h : FiI Wd s L pre O A) (hb : Below A.heap.size A G) (hst : StOff (Wd.heap.size + 3) O A (.agg #[d1, d2, d3]) q) (hf : b = true ↔ s ∈ pre ++ [q]) (ht : pre ++ [q] = L.take (pre ++ [q]).length) (B : Nat) :
    KeepsFrom B A (fiPut Wd.heap.size b pre.length d1 d2 d3 G) ∧ Leaves O A (fiPut Wd.heap.size b pre.length d1 d2 d3 G) ∧ FiI Wd s L (pre ++ [q]) O (fiPut Wd.heap.size b pre.length d1 d2 d3 G) := by
  obtain ⟨⟨b0, h1, -⟩, h2, ⟨c1, c2, c3, h3, -⟩, -, h6, h7⟩ := h
  have hO : ∀ g, g < Wd.heap.size + 3 → ¬ O g := fun g hg ho => by have := (h6 g ho).1; omega
  have k1 := h1.next hb
  have k2 := h2.next hb
  have k3 := h3.next hb
  refine ⟨?_, ?_, ⟨b, ?_, hf⟩, ?_, ⟨d1, d2, d3, ?_, fun x hx => ?_⟩, ht, fun j hj => ?_, ?_⟩
  · exact (((((keeps_below hb B).trans (keeps_set _ _ _ _ _)).trans (keeps_set _ _ _ _ _)).trans (keeps_set _ _ _ _ _)).trans (keeps_set _ _ _ _ _)).trans (keeps_set _ _ _ _ _)
  · exact (((((leaves_below hb (fun j hj => (h6 j hj).2)).trans (leaves_set _ _ _ (hO _ (by omega)))).trans (leaves_set _ _ _ (hO _ (by omega)))).trans (leaves_set _ _ _ (hO _ (by omega)))).trans (leaves_set _ _ _ (hO _ (by omega)))).trans (leaves_set _ _ _ (hO _ (by omega)))
  · exact blk_st (blk_st (blk_st (blk_st (k1.set 0 (.bool b)) (by omega)) (by omega)) (by omega)) (by omega)
  · have e : ((pre ++ [q]).length : Int) = (pre.length : Int) + 1 := by simp
    rw [e]
    exact (blk_st (blk_st (blk_st (blk_st k2 (by omega)) (by omega)) (by omega)) (by omega)).set 0 _
  · exact blk_st ((((blk_st k3 (by omega)).set 0 d1).set 1 d2).set 2 d3) (by omega)
  · have e : x = q := by simpa using hx.symm
    subst e
    exact (((((hst.next hb).set (by omega) 0 _).set (by omega) 0 _).set (by omega) 1 _).set (by omega) 2 _).set (by omega) 0 _
  · rw [fiPut_size]
    exact ⟨(h6 j hj).1, Nat.lt_of_lt_of_le (h6 j hj).2 hb.size⟩
  · have h8 := below_next h7 (Nat.le_refl _) hb
    exact ((((h8.setCell (p := ⟨Wd.heap.size, 0, none⟩) (Nat.le_refl _) _).setCell (p := ⟨Wd.heap.size + 2, 0, none⟩) (by show Wd.heap.size ≤ Wd.heap.size + 2; omega) _).setCell (p := ⟨Wd.heap.size + 2, 1, none⟩) (by show Wd.heap.size ≤ Wd.heap.size + 2; omega) _).setCell (p := ⟨Wd.heap.size + 2, 2, none⟩) (by show Wd.heap.size ≤ Wd.heap.size + 2; omega) _).setCell (p := ⟨Wd.heap.size + 1, 0, none⟩) (by show Wd.heap.size ≤ Wd.heap.size + 1; omega) _

/-- what the other slots hold is not looked at -/
theorem junk {T : Array Value} {P : (Nat → Value) → Array Value} (h : P (fun i => T.getD i undef) = T) : ∃ J : Nat → Value, ({ tmps := T, defers := [] } : Act) = { tmps := P J, defers := [] } := ⟨fun i => T.getD i undef, by rw [h]⟩

theorem StAt.form' {w : World} {v : Value} {s : St} (h : StAt w v s) : ∃ ac cc ai ci ao co, v = .agg #[.slice ac s.cells.length cc, .slice ai s.inp.length ci, .slice ao s.out.length co] := by
  obtain ⟨c, i, o, rfl, hc, hi, ho⟩ := h
  obtain ⟨ac, cc, rfl, -, -, -⟩ := hc
  obtain ⟨⟨ai, ci, rfl, -, -, -⟩, -⟩ := hi
  obtain ⟨⟨ao, co, rfl, -, -, -⟩, -⟩ := ho
  exact ⟨_, _, _, _, _, _, rfl⟩

set_option maxRecDepth 100000 in
set_option maxHeartbeats 16000000 in
theorem fitsenumlaw (D : List Decl) (s : St) (u vs : Value) (v le inp : Int) (w : World) (h1 : DeclsAt w u D) (h2 : StAt w vs s) (hn : (s.cells.length + 2) * 24 ≤ 140737488355328) :
    Calls Try.prog 10 #[u, .agg #[.int .i64 v, .int .i64 le, .int .i64 inp], vs] w fun e w' => e = .returned (.bool true) ∧ Below w.heap.size w w' := by
  have HA : Hid (∀ w, Calls Try.prog 11 #[] w fun e w' => e = .returned (.bool true) ∧ Below w.heap.size w w') := awake_any
  obtain ⟨⟨ad, cd, rfl, -, -, -⟩, -⟩ := id h1
  obtain ⟨ac, cc, ai, ci, ao, co, rfl⟩ := h2.form'
  obtain ⟨nc, hnc⟩ : ∃ n, s.cells.length = n := ⟨_, rfl⟩
  obtain ⟨ni, hni⟩ : ∃ n, s.inp.length = n := ⟨_, rfl⟩
  obtain ⟨no, hno⟩ : ∃ n, s.out.length = n := ⟨_, rfl⟩
  obtain ⟨nd, hnd⟩ : ∃ n, D.length = n := ⟨_, rfl⟩
  rw [hnc, hni, hno] at h2 ⊢
  rw [hnd] at h1 ⊢
  rw [hnc] at hn
  obtain ⟨W0, hW0⟩ : ∃ W0, W0 = (((w.alloc (.cells #[.slice ad nd cd] 22)).alloc (.cells #[.int .i64 v, .int .i64 le, .int .i64 inp] 24)).alloc (.cells #[.slice ac nc cc, .slice ai ni ci, .slice ao no co] 35)).alloc (.cells #[.bool false] 4) := ⟨_, rfl⟩
  have hs0 : W0.heap.size = w.heap.size + 4 := by rw [hW0]; simp
  have hB0 : Below w.heap.size w W0 := by rw [hW0]; exact below_next (below_next (below_next (below_alloc _ _) (Nat.le_refl _) (below_alloc _ _)) (Nat.le_refl _) (below_alloc _ _)) (Nat.le_refl _) (below_alloc _ _)
  have hk0 : Blk W0 w.heap.size 22 #[.slice ad nd cd] := by rw [hW0]; exact blk_nx (blk_nx (blk_nx (Blk.new _ _ _) _) _) _
  have hk1 : Blk W0 (w.heap.size + 1) 24 #[.int .i64 v, .int .i64 le, .int .i64 inp] := by rw [hW0]; exact blk_nx (blk_nx (blk_at (by simp) _ _) _) _
  have hk2 : Blk W0 (w.heap.size + 2) 35 #[.slice ac nc cc, .slice ai ni ci, .slice ao no co] := by rw [hW0]; exact blk_nx (blk_at (by simp) _ _) _
  have hk3 : Blk W0 (w.heap.size + 3) 4 #[.bool false] := by rw [hW0]; exact blk_at (by simp) _ _
  have HK3 : Hid (∀ w', Below W0.heap.size W0 w' → Blk w' (w.heap.size + 3) 4 #[.bool false]) := fun w' hb => hk3.next hb
  have HC : Hid (∀ w', Below W0.heap.size W0 w' → (w'.cell? ⟨w.heap.size, 0, none⟩ = some (.slice ad nd cd)) ∧ (w'.cell? ⟨w.heap.size + 1, 0, none⟩ = some (.int .i64 v) ∧ w'.cell? ⟨w.heap.size + 1, 1, none⟩ = some (.int .i64 le) ∧ w'.cell? ⟨w.heap.size + 1, 2, none⟩ = some (.int .i64 inp)) ∧
      w'.cell? ⟨w.heap.size + 2, 0, none⟩ = some (.slice ac nc cc) ∧ w'.cell? ⟨w.heap.size + 2, 1, none⟩ = some (.slice ai ni ci) ∧ w'.cell? ⟨w.heap.size + 2, 2, none⟩ = some (.slice ao no co)) :=
    fun w' hb => ⟨(hk0.next hb).cell 0, ⟨(hk1.next hb).cell 0, (hk1.next hb).cell 1, (hk1.next hb).cell 2⟩, (hk2.next hb).cell 0, (hk2.next hb).cell 1, (hk2.next hb).cell 2⟩
  have HD : Hid (∀ w', Below W0.heap.size W0 w' → DeclsAt w' (.slice ad nd cd) D) := fun w' hb => (h1.below hB0 (Nat.le_refl _)).below hb (Nat.le_refl _)
  have HS : Hid (∀ w', Below W0.heap.size W0 w' → StAt w' (.agg #[.slice ac nc cc, .slice ai ni ci, .slice ao no co]) s) := fun w' hb => (h2.below hB0 (Nat.le_refl _)).below hb (Nat.le_refl _)
  have HB0 := Lib.hid hB0
  have HS0 := Lib.hid hs0
  have HW0 := Lib.hid hW0
  have HNC := Lib.hid hnc
  have HNI := Lib.hid hni
  have HNO := Lib.hid hno
  have HND := Lib.hid hnd
  clear hk0 hk1 hk2 hk3 hB0 hs0 h1 h2 hW0 hnc hni hno hnd
  refine (callsIn_wide (n := 3)).1 ?_
  refine callsIn_of_wp_marks Try.func10 rfl trivial ?_ rfl
  refine wpIn_wide.2 ?_
  simp only [Try.ntmps10, List.size_toArray, List.length_nil, List.length_cons, Nat.reduceSub, Nat.reduceAdd, Array.replicate_succ, Array.replicate_zero, List.push_toArray, List.append_toArray, List.nil_append, List.cons_append]
  go_upto_region 1 with (fail)
  rw [← HW0.out]
  go_wp2_with fail
  refine (HA.out _).mono ?_
  rintro e w1 ⟨rfl, hb1⟩
  have H1 := Lib.hid hb1
  obtain ⟨x0, ⟨x1, x2, x3⟩, x4, x5, x6⟩ := HC.out w1 hb1
  clear hb1
  go_wp2_with fail
  have hsm := small_any2 D _ v le inp w1 (HD.out w1 H1.out)
  refine hsm.mono ?_
  rintro e w2 ⟨b, rfl, hb, hb2⟩
  have H2 := Lib.hid (below_next H1.out (Nat.le_refl _) hb2)
  have HSM := Lib.hid hb
  clear hsm hb hb2 x0 x1 x2 x3 x4 x5 x6
  obtain ⟨x0, ⟨x1, x2, x3⟩, x4, x5, x6⟩ := HC.out w2 H2.out
  cases b with
  | false =>
    go_wp2_with fail
    refine (HA.out _).mono ?_
    rintro e w3 ⟨rfl, hb3⟩
    have H3 := Lib.hid (below_next H2.out (Nat.le_refl _) hb3)
    have y0 := (HK3.out _ H3.out).cell 0
    have y1 := (HK3.out _ H3.out).free 0
    clear hb3 x0 x1 x2 x3 x4 x5 x6
    simp only [List.getElem?_toArray, List.getElem?_cons_zero] at y0
    go_wp2
    exact ⟨_, results_boolcell rfl _ _ _ _ rfl ((HK3.out _ H3.out).set 0 _), rfl, (below_next HB0.out (Nat.le_refl _) H3.out).setCell (p := ⟨w.heap.size + 3, 0, none⟩) (by show w.heap.size ≤ w.heap.size + 3; omega) _⟩
  | true =>
  obtain ⟨v', le', inp', rfl, rfl, rfl, hsb⟩ := HSM.out rfl
  have HSB := Lib.hid hsb
  clear HSM hsb
  -- CUT1
  go_upto_region 3 with (fail)
  go_cut [7] from 26 to 43 (fun b wx => ∃ c : Bool, b = .bool c ∧ (c = true ↔ base0 D inp' s) ∧ Below W0.heap.size W0 wx)
  case first =>
    by_cases ho : no = 0
    · by_cases hi : ni ≤ inp'
      · have e1 : ((no : Int) == 0) = true := by simp [ho]
        have e2 : (ni : Int) ≤ (inp' : Int) := by omega
        have HBI : Hid (base0 D inp' s ↔ fitsB D s = true) := ⟨fun h => h.2.2, fun h => ⟨by rw [HNO.out]; exact ho, by rw [HNI.out]; exact hi, h⟩⟩
        obtain ⟨bf, hbf⟩ : ∃ b, fitsB D s = b := ⟨_, rfl⟩
        have hfc := fits_any D s _ _ w2 (HD.out w2 H2.out) (HS.out w2 H2.out)
        rw [hbf] at hfc
        have HFC := Lib.hid hfc
        have HBF := Lib.hid hbf
        clear hfc hbf ho hi
        go_wp2_with fail
        refine HFC.out.mono ?_
        rintro e w3 ⟨rfl, hb3⟩
        have H3 := Lib.hid (below_next H2.out (Nat.le_refl _) hb3)
        clear hb3 HFC
        go_wp2_with fail
        go_meet
        exact ⟨bf, rfl, by rw [HBI.out, HBF.out], H3.out⟩
      · have e1 : ((no : Int) == 0) = true := by simp [ho]
        have e2 : ¬ (ni : Int) ≤ (inp' : Int) := by omega
        have HBI : Hid (¬ base0 D inp' s) := fun h => hi (by rw [← HNI.out]; exact h.2.1)
        clear ho hi
        go_wp2_with fail
        go_meet
        exact ⟨false, rfl, ⟨(fun h => by cases h), fun h => absurd h HBI.out⟩, H2.out⟩
    · have e1 : ((no : Int) == 0) = false := by simp; omega
      have HBI : Hid (¬ base0 D inp' s) := fun h => ho (by rw [← HNO.out]; exact h.1)
      clear ho
      go_wp2_with fail
      go_meet
      exact ⟨false, rfl, ⟨(fun h => by cases h), fun h => absurd h HBI.out⟩, H2.out⟩
  case rest =>
  obtain ⟨ins, rfl, hins, hbx⟩ := hcut
  have HINS := Lib.hid hins
  have HX := Lib.hid hbx
  clear hins hbx x0 x1 x2 x3 x4 x5 x6
  go_upto_region 4 with (fail)
  go_cut [51, 52, 53] from 44 to 53 (fun r n i wx => n = .int .i64 ((nc + 1 : Nat) : Int) ∧ i = .int .i64 0 ∧ RowsAt wx r (s.cells ++ [s.inp]) ∧ Below W0.heap.size W0 wx)
  case first =>
    have HSS : Hid (∀ w', Below W0.heap.size W0 w' → w'.cell? ⟨w.heap.size + 2, 0, none⟩ = some (.slice ac nc cc) ∧ w'.cell? ⟨w.heap.size + 2, 1, none⟩ = some (.slice ai ni ci)) := fun w' hb => ⟨(HC.out w' hb).2.2.1, (HC.out w' hb).2.2.2.1⟩
    have HCL : Hid (RowsAt W0 (.slice ac nc cc) s.cells) := by
      obtain ⟨c, i, o, e, h, -, -⟩ := HS.out W0 (Below.refl _ _)
      injection e with e
      simp only [Array.mk.injEq, List.cons.injEq, and_true] at e
      obtain ⟨rfl, -, -⟩ := e
      exact h
    have HIN : Hid (IntsAt W0 (.slice ai ni ci) s.inp) := by
      obtain ⟨c, i, o, e, -, h, -⟩ := HS.out W0 (Below.refl _ _)
      injection e with e
      simp only [Array.mk.injEq, List.cons.injEq, and_true] at e
      obtain ⟨-, rfl, -⟩ := e
      exact h
    obtain ⟨i0, hi, hz0, hz1, hz2⟩ := info_parts rowInfo
    have HXD : Hid (Below W0.heap.size W0 wc.drew) := below_drew HX.out
    refine region_held (fun w' => w'.cell? ⟨w.heap.size + 2, 0, none⟩ = some (.slice ac nc cc) ∧ w'.cell? ⟨w.heap.size + 2, 1, none⟩ = some (.slice ai ni ci)) (by kernel_rfl) (HSS.out _ HXD.out) (fun hS => ?_)
    refine wpAnyH_take (i := 1) (v := .pointer (some ⟨w.heap.size + 2, 0, none⟩)) rfl (by kernel_rfl) (by kernel_rfl) (by kernel_rfl) (fun _ _ _ h => h) (Or.inl ⟨by rfl, fun w0 hw0 => by obtain ⟨s0, s1⟩ := hw0; go_simp⟩) hS ?_
    go_simp
    refine wpAnyH_take (i := 2) (v := .slice ac nc cc) rfl (by kernel_rfl) (by kernel_rfl) (by kernel_rfl) (fun _ _ _ h => h) (Or.inl ⟨by rfl, fun w0 hw0 => by obtain ⟨s0, s1⟩ := hw0; go_simp⟩) hS ?_
    go_simp
    refine wpAnyH_take (i := 4) (v := .pointer (some ⟨w.heap.size + 2, 1, none⟩)) rfl (by kernel_rfl) (by kernel_rfl) (by kernel_rfl) (fun _ _ _ h => h) (Or.inl ⟨by rfl, fun w0 hw0 => by obtain ⟨s0, s1⟩ := hw0; go_simp⟩) hS ?_
    go_simp
    refine wpAnyH_take (i := 5) (v := .slice ai ni ci) rfl (by kernel_rfl) (by kernel_rfl) (by kernel_rfl) (fun _ _ _ h => h) (Or.inl ⟨by rfl, fun w0 hw0 => by obtain ⟨s0, s1⟩ := hw0; go_simp⟩) hS ?_
    go_simp
    refine wpAnyH_take (i := 9) (v := .int .i64 0) rfl (by kernel_rfl) (by kernel_rfl) (by kernel_rfl) (fun _ _ _ h => h) (Or.inl ⟨by rfl, fun w0 hw0 => by obtain ⟨s0, s1⟩ := hw0; go_simp⟩) hS ?_
    go_simp
    refine wpAnyH_ready (rs := [0, 6]) (by kernel_rfl) (by simp) ?_
    refine AllReadyH.cons rfl (fun K hK => ?_) (AllReadyH.cons rfl (fun K hK => ?_) AllReadyH.nil)
    · go_simp
      refine hK.out _ _ (HSS.out _ (below_next HXD.out (Nat.le_refl _) (below_alloc _ _))) (fun hS => ?_)
      clear hK K
      have HXA : Hid (Below W0.heap.size W0 (wc.drew.alloc (.cells #[] 33))) := below_next HXD.out (Nat.le_refl _) (below_alloc _ _)
      have HOW : Hid ((wc.drew.alloc (.cells #[] 33)).ownsRow W0.heap.size 33 1 (.slice (some ⟨wc.heap.size, 0, none⟩) 0 0) 0 []) := World.ownsRow_made wc.drew #[] 0 HXD.out.size (by decide) rfl
      refine wpAnyH_ready (rs := [3, 6]) (by kernel_rfl) (by simp) ?_
      refine AllReadyH.cons rfl (fun K hK => ?_) (AllReadyH.cons rfl (fun K hK => ?_) AllReadyH.nil)
      · refine step_append_rows (wc.drew.alloc (.cells #[] 33)) rfl (.tmp 44) (.tmp 46) rfl W0.heap.size (.slice (some ⟨wc.heap.size, 0, none⟩) 0 0) 0 [] rfl HOW.out (.slice ac nc cc) s.cells rfl W0 HCL.out HXA.out (by rw [HNC.out]; omega) HXA.out.size ?_
        intro us v4 w4 hus hown4 hgr4
        rw [HNC.out, Nat.zero_add, List.nil_append] at hown4
        have HUS := Lib.hid hus
        have HOWN4 := Lib.hid hown4
        have HGR4 := Lib.hid hgr4
        have HX4 : Hid (Below W0.heap.size W0 w4) := HXA.out.grown hgr4 HXA.out.size (fun j e => by injection e with e; have := (HOW.out.lt j (by rw [← e]; rfl)).1; omega)
        obtain ⟨a4, k4, rfl⟩ := own_form hown4
        clear hus hown4 hgr4
        go_simp
        refine hK.out _ _ (HSS.out _ HX4.out) (fun hS => ?_)
        clear hK K
        refine wpAnyH_ready (rs := [6]) (by kernel_rfl) (by simp) ?_
        refine AllReadyH.cons rfl (fun K hK => ?_) AllReadyH.nil
        go_simp
        refine hK.out _ _ (HSS.out _ (below_next HX4.out (Nat.le_refl _) (below_alloc _ _))) (fun hS => ?_)
        clear hK K
        have HXB : Hid (Below W0.heap.size W0 (w4.alloc (.cells #[.slice ai ni ci] 33))) := below_next HX4.out (Nat.le_refl _) (below_alloc _ _)
        have HOWB : Hid ((w4.alloc (.cells #[.slice ai ni ci] 33)).ownsRow W0.heap.size 33 1 (.slice a4 nc k4) nc us) := HOWN4.out.alloc _
        have HCB : Hid ((w4.alloc (.cells #[.slice ai ni ci] 33)).cell? ⟨w4.heap.size, 0, none⟩ = some (.slice ai ni ci)) := (Blk.new _ _ _).cell 0
        refine wpAnyH_ready (rs := [7]) (by kernel_rfl) (by simp) ?_
        refine AllReadyH.cons rfl (fun K hK => ?_) AllReadyH.nil
        refine step_append_own2 (w4.alloc (.cells #[.slice ai ni ci] 33)) rfl (.tmp 47) (.tmp 50) 32 rfl W0.heap.size 33 i0 (.slice none 0 0) 1 24 Try.underlying32 hi hz0 hz1 hz2 rfl (by decide) (.slice a4 nc k4) nc us rfl HOWB.out ⟨w4.heap.size, 0, none⟩ 1 1 [.slice ai ni ci] rfl rfl (cell_one HCB.out) (by intro u hu; simp only [List.mem_cons, List.not_mem_nil, or_false] at hu; rcases hu with rfl; rfl) (by decide) (by unfold maxLen; omega) (by omega) HXB.out.size ?_
        intro v5 w5 hown5 hgr5 hpos5
        have HX5 : Hid (Below W0.heap.size W0 w5) := HXB.out.grown hgr5 HXB.out.size (fun j e => (HOWB.out.lt j e).1)
        have hrow : RowsAt w5 v5 (s.cells ++ [s.inp]) := own_rows (us := us ++ [.slice ai ni ci]) (by rw [List.length_append, HNC.out]; exact hown5) ((rowsIn_snoc HUS.out HIN.out).below HX5.out)
        have HROW := Lib.hid hrow
        obtain ⟨a5, c5, rfl⟩ := own_form hown5
        clear hown5 hgr5 hpos5 hrow
        go_simp
        refine hK.out _ _ (HSS.out _ HX5.out) (fun hS => ?_)
        clear hK K
        refine wpAnyH_ready (rs := [8]) (by kernel_rfl) (by simp) ?_
        refine AllReadyH.cons rfl (fun K hK => ?_) AllReadyH.nil
        go_simp
        refine hK.out _ _ (HSS.out _ HX5.out) (fun hS => ?_)
        clear hK K
        refine wpAnyH_done (by kernel_rfl) ?_ _
        simp only [NormalOnly]
        go_wp2_with fail
        go_meet
        exact ⟨rfl, rfl, HROW.out, HX5.out⟩
      · go_simp
        refine hK.out _ _ (HSS.out _ (below_next HXA.out (Nat.le_refl _) (below_alloc _ _))) (fun hS => ?_)
        clear hK K
        have HCB0 : Hid (((wc.drew.alloc (.cells #[] 33)).alloc (.cells #[.slice ai ni ci] 33)).cell? ⟨wc.heap.size + 1, 0, none⟩ = some (.slice ai ni ci)) := (blk_at (by simp) _ _ : Blk _ (wc.heap.size + 1) _ _).cell 0
        have HXA2 : Hid (Below W0.heap.size W0 ((wc.drew.alloc (.cells #[] 33)).alloc (.cells #[.slice ai ni ci] 33))) := below_next HXA.out (Nat.le_refl _) (below_alloc _ _)
        have HOW2 : Hid (((wc.drew.alloc (.cells #[] 33)).alloc (.cells #[.slice ai ni ci] 33)).ownsRow W0.heap.size 33 1 (.slice (some ⟨wc.heap.size, 0, none⟩) 0 0) 0 []) := HOW.out.alloc _
        clear HXA HOW
        have HXA := HXA2
        have HOW := HOW2
        clear HXA2 HOW2
        refine wpAnyH_ready (rs := [3]) (by kernel_rfl) (by simp) ?_
        refine AllReadyH.cons rfl (fun K hK => ?_) AllReadyH.nil
        refine step_append_rows ((wc.drew.alloc (.cells #[] 33)).alloc (.cells #[.slice ai ni ci] 33)) rfl (.tmp 44) (.tmp 46) rfl W0.heap.size (.slice (some ⟨wc.heap.size, 0, none⟩) 0 0) 0 [] rfl HOW.out (.slice ac nc cc) s.cells rfl W0 HCL.out HXA.out (by rw [HNC.out]; omega) HXA.out.size ?_
        intro us v4 w4 hus hown4 hgr4
        rw [HNC.out, Nat.zero_add, List.nil_append] at hown4
        have HUS := Lib.hid hus
        have HOWN4 := Lib.hid hown4
        have HGR4 := Lib.hid hgr4
        have HX4 : Hid (Below W0.heap.size W0 w4) := HXA.out.grown hgr4 HXA.out.size (fun j e => by injection e with e; have := (HOW.out.lt j (by rw [← e]; rfl)).1; omega)
        obtain ⟨a4, k4, rfl⟩ := own_form hown4
        clear hus hown4 hgr4
        go_simp
        refine hK.out _ _ (HSS.out _ HX4.out) (fun hS => ?_)
        clear hK K
        have HXB : Hid (Below W0.heap.size W0 w4) := HX4.out
        have HOWB : Hid (w4.ownsRow W0.heap.size 33 1 (.slice a4 nc k4) nc us) := HOWN4.out
        have HCB : Hid (w4.cell? ⟨wc.heap.size + 1, 0, none⟩ = some (.slice ai ni ci)) := HGR4.out.cell HCB0.out (by simp [Value.ownBlock])
        refine wpAnyH_ready (rs := [7]) (by kernel_rfl) (by simp) ?_
        refine AllReadyH.cons rfl (fun K hK => ?_) AllReadyH.nil
        refine step_append_own2 (w4) rfl (.tmp 47) (.tmp 50) 32 rfl W0.heap.size 33 i0 (.slice none 0 0) 1 24 Try.underlying32 hi hz0 hz1 hz2 rfl (by decide) (.slice a4 nc k4) nc us rfl HOWB.out ⟨wc.heap.size + 1, 0, none⟩ 1 1 [.slice ai ni ci] rfl rfl (cell_one HCB.out) (by intro u hu; simp only [List.mem_cons, List.not_mem_nil, or_false] at hu; rcases hu with rfl; rfl) (by decide) (by unfold maxLen; omega) (by omega) HXB.out.size ?_
        intro v5 w5 hown5 hgr5 hpos5
        have HX5 : Hid (Below W0.heap.size W0 w5) := HXB.out.grown hgr5 HXB.out.size (fun j e => (HOWB.out.lt j e).1)
        have hrow : RowsAt w5 v5 (s.cells ++ [s.inp]) := own_rows (us := us ++ [.slice ai ni ci]) (by rw [List.length_append, HNC.out]; exact hown5) ((rowsIn_snoc HUS.out HIN.out).below HX5.out)
        have HROW := Lib.hid hrow
        obtain ⟨a5, c5, rfl⟩ := own_form hown5
        clear hown5 hgr5 hpos5 hrow
        go_simp
        refine hK.out _ _ (HSS.out _ HX5.out) (fun hS => ?_)
        clear hK K
        refine wpAnyH_ready (rs := [8]) (by kernel_rfl) (by simp) ?_
        refine AllReadyH.cons rfl (fun K hK => ?_) AllReadyH.nil
        go_simp
        refine hK.out _ _ (HSS.out _ HX5.out) (fun hS => ?_)
        clear hK K
        refine wpAnyH_done (by kernel_rfl) ?_ _
        simp only [NormalOnly]
        go_wp2_with fail
        go_meet
        exact ⟨rfl, rfl, HROW.out, HX5.out⟩
    · go_simp
      refine hK.out _ _ (HSS.out _ (below_next HXD.out (Nat.le_refl _) (below_alloc _ _))) (fun hS => ?_)
      clear hK K
      have HXA1 : Hid (Below W0.heap.size W0 (wc.drew.alloc (.cells #[.slice ai ni ci] 33))) := below_next HXD.out (Nat.le_refl _) (below_alloc _ _)
      refine wpAnyH_ready (rs := [0]) (by kernel_rfl) (by simp) ?_
      refine AllReadyH.cons rfl (fun K hK => ?_) AllReadyH.nil
      go_simp
      refine hK.out _ _ (HSS.out _ (below_next HXA1.out (Nat.le_refl _) (below_alloc _ _))) (fun hS => ?_)
      clear hK K
      have HXA : Hid (Below W0.heap.size W0 ((wc.drew.alloc (.cells #[.slice ai ni ci] 33)).alloc (.cells #[] 33))) := below_next HXA1.out (Nat.le_refl _) (below_alloc _ _)
      have HOW : Hid (((wc.drew.alloc (.cells #[.slice ai ni ci] 33)).alloc (.cells #[] 33)).ownsRow W0.heap.size 33 1 (.slice (some ⟨wc.heap.size + 1, 0, none⟩) 0 0) 0 []) := by have := World.ownsRow_made (e := 33) (size := 1) (wc.drew.alloc (.cells #[.slice ai ni ci] 33)) #[] 0 HXA1.out.size (by decide) rfl; unfold Hid; simpa using this
      have HCB0 : Hid (((wc.drew.alloc (.cells #[.slice ai ni ci] 33)).alloc (.cells #[] 33)).cell? ⟨wc.heap.size, 0, none⟩ = some (.slice ai ni ci)) := (blk_nx (Blk.new _ _ _) _ : Blk _ wc.heap.size _ _).cell 0
      refine wpAnyH_ready (rs := [3]) (by kernel_rfl) (by simp) ?_
      refine AllReadyH.cons rfl (fun K hK => ?_) AllReadyH.nil
      refine step_append_rows ((wc.drew.alloc (.cells #[.slice ai ni ci] 33)).alloc (.cells #[] 33)) rfl (.tmp 44) (.tmp 46) rfl W0.heap.size (.slice (some ⟨wc.heap.size + 1, 0, none⟩) 0 0) 0 [] rfl HOW.out (.slice ac nc cc) s.cells rfl W0 HCL.out HXA.out (by rw [HNC.out]; omega) HXA.out.size ?_
      intro us v4 w4 hus hown4 hgr4
      rw [HNC.out, Nat.zero_add, List.nil_append] at hown4
      have HUS := Lib.hid hus
      have HOWN4 := Lib.hid hown4
      have HGR4 := Lib.hid hgr4
      have HX4 : Hid (Below W0.heap.size W0 w4) := HXA.out.grown hgr4 HXA.out.size (fun j e => by injection e with e; have := (HOW.out.lt j (by rw [← e]; rfl)).1; omega)
      obtain ⟨a4, k4, rfl⟩ := own_form hown4
      clear hus hown4 hgr4
      go_simp
      refine hK.out _ _ (HSS.out _ HX4.out) (fun hS => ?_)
      clear hK K
      have HXB : Hid (Below W0.heap.size W0 w4) := HX4.out
      have HOWB : Hid (w4.ownsRow W0.heap.size 33 1 (.slice a4 nc k4) nc us) := HOWN4.out
      have HCB : Hid (w4.cell? ⟨wc.heap.size, 0, none⟩ = some (.slice ai ni ci)) := HGR4.out.cell HCB0.out (by simp [Value.ownBlock])
      refine wpAnyH_ready (rs := [7]) (by kernel_rfl) (by simp) ?_
      refine AllReadyH.cons rfl (fun K hK => ?_) AllReadyH.nil
      refine step_append_own2 (w4) rfl (.tmp 47) (.tmp 50) 32 rfl W0.heap.size 33 i0 (.slice none 0 0) 1 24 Try.underlying32 hi hz0 hz1 hz2 rfl (by decide) (.slice a4 nc k4) nc us rfl HOWB.out ⟨wc.heap.size, 0, none⟩ 1 1 [.slice ai ni ci] rfl rfl (cell_one HCB.out) (by intro u hu; simp only [List.mem_cons, List.not_mem_nil, or_false] at hu; rcases hu with rfl; rfl) (by decide) (by unfold maxLen; omega) (by omega) HXB.out.size ?_
      intro v5 w5 hown5 hgr5 hpos5
      have HX5 : Hid (Below W0.heap.size W0 w5) := HXB.out.grown hgr5 HXB.out.size (fun j e => (HOWB.out.lt j e).1)
      have hrow : RowsAt w5 v5 (s.cells ++ [s.inp]) := own_rows (us := us ++ [.slice ai ni ci]) (by rw [List.length_append, HNC.out]; exact hown5) ((rowsIn_snoc HUS.out HIN.out).below HX5.out)
      have HROW := Lib.hid hrow
      obtain ⟨a5, c5, rfl⟩ := own_form hown5
      clear hown5 hgr5 hpos5 hrow
      go_simp
      refine hK.out _ _ (HSS.out _ HX5.out) (fun hS => ?_)
      clear hK K
      refine wpAnyH_ready (rs := [8]) (by kernel_rfl) (by simp) ?_
      refine AllReadyH.cons rfl (fun K hK => ?_) AllReadyH.nil
      go_simp
      refine hK.out _ _ (HSS.out _ HX5.out) (fun hS => ?_)
      clear hK K
      refine wpAnyH_done (by kernel_rfl) ?_ _
      simp only [NormalOnly]
      go_wp2_with fail
      go_meet
      exact ⟨rfl, rfl, HROW.out, HX5.out⟩
  case rest =>
  obtain ⟨rfl, rfl, hrow, hbx⟩ := hcut
  clear HX
  have HX := Lib.hid hbx
  obtain ⟨R, hR⟩ : ∃ R, s.cells ++ [s.inp] = R := ⟨_, rfl⟩
  have hRl : R.length = nc + 1 := by rw [← hR, List.length_append, HNC.out]; rfl
  rw [hR] at hrow
  obtain ⟨ar, cr, rfl, -, -, hrq⟩ := hrow
  obtain ⟨n1, hn1⟩ : ∃ n, nc + 1 = n := ⟨_, rfl⟩
  rw [hn1] at hRl
  rw [hRl] at hrq ⊢
  rw [hn1]
  have HRQ := Lib.hid hrq
  have HR := Lib.hid hR
  have HRL := Lib.hid hRl
  have hv1000 := HSB.out.v1000
  have hnd6 := HSB.out.six
  rw [HND.out] at hnd6
  have hn63 : (n1 : Int) ≤ 5864062014805 := by omega
  have u3 : IntKind.i64.wrap (-(v' : Int)) = -(v' : Int) := IntWalk.i64_in _ (by omega)
  clear hbx hR hRl hrq hn1 hn
  go_wp2_with fail
  go_loopg [7, 53] (n1) (fun q b i wr => ∃ (k : Nat) (c : Bool), k + q = n1 ∧ b = .bool c ∧ i = .int .i64 k ∧ (c = true ↔ base0 D inp' s ∧ ∀ i, i < k → ∀ l, R[i]? = some l → rowOk D v' le' i l) ∧ wc = wr)
  case atStart => exact ⟨0, ins, by omega, rfl, rfl, ⟨fun h => ⟨HINS.out.1 h, fun i hi => absurd hi (by omega)⟩, fun h => HINS.out.2 h.1⟩, rfl⟩
  case round =>
    obtain ⟨k, c, hk, rfl, rfl, hc, rfl⟩ := hrel
    have Hk := Lib.hid hk
    have HCC := Lib.hid hc
    have hkn : k ≤ n1 := by omega
    clear hk hc
    by_cases hlt : k < n1
    · have hlt' : (k : Int) < (n1 : Int) := by omega
      obtain ⟨g, o, rfl, hg, hq⟩ := HRQ.out (by omega)
      obtain ⟨l, hl⟩ : ∃ l, R[k]? = some l := ⟨_, List.getElem?_eq_getElem (by rw [HRL.out]; exact hlt)⟩
      obtain ⟨ul, hu0, hui⟩ := hq k l hl
      obtain ⟨⟨al, cl, rfl, hll1, hll2, hlq⟩, -⟩ := hui
      obtain ⟨nl, hnl⟩ : ∃ n, l.length = n := ⟨_, rfl⟩
      rw [hnl] at hu0 hlq hll1
      have HLQ := Lib.hid hlq
      have HL := Lib.hid hl
      have HNL := Lib.hid hnl
      have hnl63 : (nl : Int) ≤ 9223372036854775807 := by unfold maxLen at hll2; omega
      have u1 : IntKind.i64.wrap ((k : Int) + 1) = (k : Int) + 1 := IntWalk.i64_in _ (by omega)
      clear hq hl hlq hll1 hll2 hnl
      go_wp2_with fail
      go_loopg [7, 60] nl (fun q b j wr => ∃ (jn : Nat) (c' : Bool), jn + q = nl ∧ b = .bool c' ∧ j = .int .i64 jn ∧ (c' = true ↔ c = true ∧ ∀ x ∈ l.take jn, -(v' : Int) ≤ x ∧ x ≤ v') ∧ wc = wr)
      case atStart => exact ⟨0, c, by omega, rfl, rfl, by simp, rfl⟩
      case round =>
        obtain ⟨jn, c', hj, rfl, rfl, hc', rfl⟩ := hrel
        have Hj := Lib.hid hj
        have HC' := Lib.hid hc'
        have hjn : jn ≤ nl := by omega
        clear hj hc'
        by_cases hjl : jn < nl
        · have hjl' : (jn : Int) < (nl : Int) := by omega
          obtain ⟨gl, ol, rfl, hgl, hql⟩ := HLQ.out (by omega)
          obtain ⟨xx, hxx⟩ : ∃ x, l[jn]? = some x := ⟨_, List.getElem?_eq_getElem (by rw [HNL.out]; exact hjl)⟩
          have hx0 := hql jn xx hxx
          have u2 : IntKind.i64.wrap ((jn : Int) + 1) = (jn : Int) + 1 := IntWalk.i64_in _ (by omega)
          have HST : Hid (∀ c2 : Bool, (c2 = true ↔ c' = true ∧ (-(v' : Int) ≤ xx ∧ xx ≤ v')) → (c2 = true ↔ c = true ∧ ∀ x ∈ l.take (jn + 1), -(v' : Int) ≤ x ∧ x ≤ v')) := fun c2 h => by
            rw [h, HC'.out, List.take_add_one, hxx]
            constructor
            · rintro ⟨⟨h1, h2⟩, h3⟩
              refine ⟨h1, fun z hz => ?_⟩
              rcases List.mem_append.1 hz with hz | hz
              · exact h2 z hz
              · simp at hz; subst hz; exact h3
            · rintro ⟨h1, h2⟩
              exact ⟨⟨h1, fun z hz => h2 z (List.mem_append.2 (.inl hz))⟩, h2 xx (List.mem_append.2 (.inr (by simp)))⟩
          obtain ⟨x0, ⟨x1, x2, x3⟩, x4, x5, x6⟩ := HC.out _ HX.out
          clear hql hxx
          cases c' with
          | false =>
            go_wp2
            have hj := Hj.out
            go_roundg (nl - (jn + 1))
            case measure => omega
            case rel => exact ⟨jn + 1, false, by omega, rfl, by go_num, HST.out false (by simp), rfl⟩
          | true =>
            by_cases g1 : -(v' : Int) ≤ xx
            · by_cases g2 : xx ≤ (v' : Int)
              · have g3 : xx ≥ -(v' : Int) := g1
                go_wp2
                have hj := Hj.out
                go_roundg (nl - (jn + 1))
                case measure => omega
                case rel => exact ⟨jn + 1, true, by omega, rfl, by go_num, HST.out true (by simp [g1, g2]), rfl⟩
              · have g3 : xx ≥ -(v' : Int) := g1
                go_wp2
                have hj := Hj.out
                go_roundg (nl - (jn + 1))
                case measure => omega
                case rel => exact ⟨jn + 1, false, by omega, rfl, by go_num, HST.out false (by simp; omega), rfl⟩
            · have g3 : ¬ xx ≥ -(v' : Int) := g1
              go_wp2
              have hj := Hj.out
              go_roundg (nl - (jn + 1))
              case measure => omega
              case rel => exact ⟨jn + 1, false, by omega, rfl, by go_num, HST.out false (by simp; omega), rfl⟩
        · have hge : ¬ (jn : Int) < (nl : Int) := by omega
          have HALL : Hid (∀ c2 : Bool, (c2 = true ↔ c' = true ∧ (D.length ≤ k ∨ (∀ d, D[k]? = some d → d.kind ≠ 3) ∨ nl ≤ le')) → (c2 = true ↔ base0 D inp' s ∧ ∀ i, i < k + 1 → ∀ l, R[i]? = some l → rowOk D v' le' i l)) := fun c2 h => by
            rw [h, HC'.out, HCC.out, List.take_of_length_le (by rw [HNL.out]; omega)]
            constructor
            · rintro ⟨⟨⟨h1, h2⟩, h3⟩, h4⟩
              refine ⟨h1, fun i hi l' hl' => ?_⟩
              rcases Nat.lt_or_ge i k with hik | hik
              · exact h2 i hik l' hl'
              · have e : i = k := by omega
                subst e
                rw [HL.out] at hl'
                injection hl' with e
                subst e
                exact ⟨h3, by rw [HNL.out]; exact h4⟩
            · rintro ⟨h1, h2⟩
              have h5 := h2 k (by omega) l HL.out
              exact ⟨⟨⟨h1, fun i hi => h2 i (by omega)⟩, h5.1⟩, by have := h5.2; rw [HNL.out] at this; exact this⟩
          obtain ⟨x0, ⟨x1, x2, x3⟩, x4, x5, x6⟩ := HC.out _ HX.out
          cases c' with
          | false =>
            go_wp2
            have hk := Hk.out
            go_roundg (n1 - (k + 1))
            case measure => omega
            case rel => exact ⟨k + 1, false, by omega, rfl, by go_num, HALL.out false (by simp), rfl⟩
          | true =>
            by_cases gd : nd ≤ k
            · have gd' : (k : Int) ≥ (nd : Int) := by omega
              go_wp2
              have hk := Hk.out
              go_roundg (n1 - (k + 1))
              case measure => omega
              case rel => exact ⟨k + 1, true, by omega, rfl, by go_num, HALL.out true (by simp; left; rw [HND.out]; exact gd), rfl⟩
            · have gd' : ¬ (k : Int) ≥ (nd : Int) := by omega
              have gdl : (k : Int) < (nd : Int) := by omega
              obtain ⟨gg, oo, hgo, hgg, hqd⟩ := (HD.out _ HX.out).1.get (by omega)
              subst hgo
              obtain ⟨d, hd⟩ : ∃ d, D[k]? = some d := ⟨_, List.getElem?_eq_getElem (by rw [HND.out]; omega)⟩
              obtain ⟨-, q1, -⟩ := hqd k d hd
              have HDD := Lib.hid hd
              clear hqd hd
              by_cases gk : d.kind = 3
              · have gk' : ((d.kind : Int) != 3) = false := by simp; omega
                by_cases gl' : nl ≤ le'
                · have gl2 : (nl : Int) ≤ (le' : Int) := by omega
                  go_wp2
                  have hk := Hk.out
                  go_roundg (n1 - (k + 1))
                  case measure => omega
                  case rel => exact ⟨k + 1, true, by omega, rfl, by go_num, HALL.out true (by simp; right; right; exact gl'), rfl⟩
                · have gl2 : ¬ (nl : Int) ≤ (le' : Int) := by omega
                  have HNO' : Hid (¬ (D.length ≤ k ∨ (∀ d, D[k]? = some d → d.kind ≠ 3) ∨ nl ≤ le')) := by
                    rintro (h | h | h)
                    · rw [HND.out] at h; omega
                    · exact h d HDD.out gk
                    · exact gl' h
                  go_wp2
                  have hk := Hk.out
                  go_roundg (n1 - (k + 1))
                  case measure => omega
                  case rel => exact ⟨k + 1, false, by omega, rfl, by go_num, HALL.out false ⟨(fun h => by cases h), fun h => absurd h.2 HNO'.out⟩, rfl⟩
              · have gk' : ((d.kind : Int) != 3) = true := by simp; omega
                have HYE : Hid (∀ d', D[k]? = some d' → d'.kind ≠ 3) := fun d' hd' => by rw [HDD.out] at hd'; injection hd' with e; subst e; exact gk
                go_wp2
                have hk := Hk.out
                go_roundg (n1 - (k + 1))
                case measure => omega
                case rel => exact ⟨k + 1, true, by omega, rfl, by go_num, HALL.out true ⟨fun _ => ⟨by trivial, .inr (.inl HYE.out)⟩, fun _ => by trivial⟩, rfl⟩
    · have hge : ¬ (k : Int) < (n1 : Int) := by omega
      have HMEM : Hid (c = true ↔ s ∈ stsP D v' le' inp') := by
        unfold Hid
        rw [HCC.out, ← inside_iff HSB.out, HR.out]
        exact ⟨fun h => ⟨h.1, fun i l hl => h.2 i (by have := (List.getElem?_eq_some_iff.1 hl).1; rw [HRL.out] at this; omega) l hl⟩, fun h => ⟨h.1, fun i _ l hl => h.2 i l hl⟩⟩
      obtain ⟨nf, hnf⟩ : ∃ n, wc.heap.size = n := ⟨_, rfl⟩
      obtain ⟨WA, hWA⟩ : ∃ W, W = ((wc.alloc (.cells #[.bool false] 4)).alloc (.cells #[.int .i64 0] 3)).alloc (.cells #[.slice none 0 0, .slice none 0 0, .slice none 0 0] 35) := ⟨_, rfl⟩
      have hwa : Below wc.heap.size wc WA := by rw [hWA]; exact below_next (below_next (below_alloc _ _) (Nat.le_refl _) (below_alloc _ _)) (Nat.le_refl _) (below_alloc _ _)
      have hsa : WA.heap.size = nf + 3 := by rw [hWA]; simp; omega
      have hk1 : Blk WA nf 4 #[.bool false] := by rw [hWA, ← hnf]; exact blk_nx (blk_nx (Blk.new _ _ _) _) _
      have hk2 : Blk WA (nf + 1) 3 #[.int .i64 0] := by rw [hWA, ← hnf]; exact blk_nx (blk_at (by simp) _ _) _
      have hk3 : Blk WA (nf + 2) 35 #[.slice none 0 0, .slice none 0 0, .slice none 0 0] := by rw [hWA, ← hnf]; exact blk_at (by simp) _ _
      have HNF := Lib.hid hnf
      have HWA := Lib.hid hWA
      have H5 := Lib.hid (below_next HX.out (Nat.le_refl _) hwa)
      obtain ⟨x0, ⟨x1, x2, x3⟩, x4, x5, x6⟩ := HC.out _ H5.out
      rw [hWA] at x0 x1 x2 x3 x4 x5 x6
      clear HCC HRQ HR HRL HINS hnf hWA
      go_wp2_with fail
      rw [← HWA.out]
      rw [HNF.out]
      clear x0 x1 x2 x3 x4 x5 x6 HWA
      refine (all_any D _ v' le' inp' WA (HD.out WA H5.out) HSB.out.val ⟨by omega, by have := HSB.out.v1000; omega⟩ ⟨by omega, by have := HSB.out.le1000; omega⟩ ⟨by omega, by have := HSB.out.inp1000; omega⟩).mono ?_
      rintro e w4 ⟨lb, O, rfl, hb4, hO, hseq⟩
      have hs4 := hb4.size
      have HB4 : Hid (Below wc.heap.size wc w4) := below_next hwa (Nat.le_refl _) hb4
      have HF1 := Lib.hid (hk1.next hb4)
      have HF2 := Lib.hid (hk2.next hb4)
      have HF3 := Lib.hid (hk3.next hb4)
      have HO : Hid (∀ b, O b → nf + 3 ≤ b ∧ b < w4.heap.size) := fun b hb => by have := hO b hb; omega
      obtain ⟨L, hL⟩ : ∃ L, stsP D v' le' inp' = L := ⟨_, rfl⟩
      have hseq2 : ∀ n, SeqMem Fence.wide n Try.prog 32 lb ArgAt L O w4 := by rw [← hL]; exact hseq
      have HSEQ := Lib.hid hseq2
      have HLL := Lib.hid hL
      have H41 : Hid (nf + 3 ≤ w4.heap.size) := by show nf + 3 ≤ w4.heap.size; omega
      clear hb4 hO hseq hseq2 hL hwa hsa hs4 hk1 hk2 hk3
      go_wp2_with fail
      refine (wpIn_wide (n := 3)).1 ?_
      refine range_mem (F := Fence.wide) rfl (by decide) (gf := 32) (lb := lb) rfl trivial (enters_of Try.func32 (by kernel_rfl) rfl) (Arg := ArgAt) (HSEQ.out _) (Below.refl _ _) (fun b hb => (HO.out b hb).2)
        (FiI wc s L) (fun _ _ _ => False) (FiI.own (by rw [HNF.out]; exact H41.out)) (fun _ _ _ _ _ h _ _ => h) (FiI.bides wc s L)
        ⟨⟨false, by rw [HNF.out]; exact HF1.out, by simp⟩, by rw [HNF.out]; exact HF2.out, ⟨_, _, _, by rw [HNF.out]; exact HF3.out, fun x hx => by simp at hx⟩, rfl, by rw [HNF.out]; exact HO.out, HB4.out⟩
        (fun v q O a' W' => ∃ Bx bc kc bi ki bo ko, nf + 3 ≤ Bx ∧ StOff (nf + 3) O W' (.agg #[.slice bc q.cells.length kc, .slice bi q.inp.length ki, .slice bo q.out.length ko]) q ∧ Blk W' Bx 35 #[.slice bc q.cells.length kc, .slice bi q.inp.length ki, .slice bo q.out.length ko] ∧ ∃ J : Nat → Value, a' = { tmps := #[.slice ad nd cd, .agg #[.int .i64 (v' : Int), .int .i64 (le' : Int), .int .i64 (inp' : Int)], .agg #[.slice ac nc cc, .slice ai ni ci, .slice ao no co], .pointer (some ⟨w.heap.size, 0, none⟩), .pointer (some ⟨w.heap.size + 1, 0, none⟩), .pointer (some ⟨w.heap.size + 1 + 1, 0, none⟩), .pointer (some ⟨w.heap.size + 1 + 1 + 1, 0, none⟩), J 7, J 8, J 9, J 10, J 11, .pointer (some ⟨nf, 0, none⟩), .pointer (some ⟨nf + 1, 0, none⟩), .pointer (some ⟨nf + 2, 0, none⟩), .pointer (some ⟨Bx, 0, none⟩), J 16, J 17, J 18, J 19, J 20, J 21, J 22, J 23, J 24, J 25, J 26, J 27, J 28, J 29, J 30, J 31, J 32, J 33, J 34, J 35, J 36, J 37, J 38, J 39, J 40, J 41, J 42, J 43, J 44, J 45, J 46, J 47, J 48, J 49, J 50, J 51, J 52, J 53, J 54, J 55, J 56, J 57, J 58, J 59, J 60, J 61, J 62, J 63, J 64, J 65, J 66, J 67, J 68, J 69, J 70, J 71, J 72, J 73, J 74, J 75, J 76, J 77, J 78, J 79, J 80, J 81, J 82, J 83, J 84, J 85, J 86, J 87, J 88, J 89, J 90, J 91, J 92, J 93, J 94, J 95, J 96, J 97, J 98, J 99, J 100, J 101, J 102, J 103, J 104, .agg #[.slice bc q.cells.length kc, .slice bi q.inp.length ki, .slice bo q.out.length ko], J 106, J 107, J 108, J 109, J 110, J 111, J 112, J 113, J 114, J 115, J 116, J 117, J 118, J 119, J 120, J 121, J 122, J 123, J 124, J 125, J 126, J 127, J 128, J 129, J 130, J 131, J 132, J 133, J 134, J 135, J 136, J 137, J 138, J 139, J 140, J 141, J 142, J 143, J 144, J 145, J 146, J 147, J 148, J 149, J 150], defers := [] })
        ?ax2 ?assign2 ?body2 ?done2 ?stop2
      case ax2 =>
        rintro v q O a' ⟨⟩ W' W'' row ⟨Bx, bc, kc, bi, ki, bo, ko, h1, h3, h6, h7⟩ hg hr
        exact ⟨Bx, bc, kc, bi, ki, bo, ko, h1, h3.row hg hr, h6.row hg hr, h7⟩
      case assign2 =>
        rintro l pre v q O A W' K hIA hbA ⟨-, hOA, hst⟩ hI hK
        obtain ⟨bc, kc, bi, ki, bo, ko, rfl⟩ := hst.form
        obtain ⟨c1, c2, c3, hkl, -⟩ := hIA.last
        have hlt := hkl.lt
        have hsz := hbA.size
        rw [HNF.out] at hlt
        have hso : StOff (nf + 3) O W' (.agg #[.slice bc q.cells.length kc, .slice bi q.inp.length ki, .slice bo q.out.length ko]) q := (StOff.of_new hst hOA).same (by omega) (fun _ _ _ _ _ _ _ => rfl) (fun _ hj => .inl hj)
        have HST := Lib.hid hso
        have HI := Lib.hid hI
        have HK2 := Lib.hid hK
        clear hst hI hK hkl hIA hbA hOA hso
        gi_wp2
        exact HK2.out _ _ ((KeepsOthers.alloc _ _).from _) (leaves_below (below_alloc _ _) (fun j hj => (HI.out.old j hj).2)) ((FiI.own (Nat.le_refl _) O).alloc _ HI.out) ⟨W'.heap.size, bc, kc, bi, ki, bo, ko, by omega, HST.out.next (below_alloc _ _), Blk.new _ _ _, junk (by kernel_rfl)⟩
      case body2 =>
        rintro l pre v q O a' W' hl ⟨r, hr⟩ hI ⟨Bx, bc, kc, bi, ki, bo, ko, hBn, hst, hX, J, rfl⟩ hget
        obtain ⟨b, hfb, hfi⟩ := hI.found
        have hmany := hI.many
        obtain ⟨c1, c2, c3, hlb, hls⟩ := hI.last
        have hqm := List.mem_of_getElem? hget
        rw [← HLL.out] at hqm
        have hq1 := (HSB.out.of hqm).1
        have hfit := ((inside_iff HSB.out q).2 hqm).1.2.2
        have hmid := HSB.out.mid hqm
        have hpl : pre.length < 500 := Nat.lt_of_lt_of_le (List.getElem?_eq_some_iff.1 hget).1 (by rw [← HLL.out]; exact HSB.out.count500)
        have ht := take_more hI.take hget
        rw [HNF.out] at hfb hmany hlb hls
        have HBW : Hid (Below W0.heap.size W0 W') := HX.out.trans (hI.bel.mono HX.out.size)
        have HQ : Hid (∀ G, Below W'.heap.size W' G → StAt G (.agg #[.slice bc q.cells.length kc, .slice bi q.inp.length ki, .slice bo q.out.length ko]) q) := fun G hb => (hst.new.at_ hq1).below hb (Nat.le_refl _)
        have HFT : Hid (∀ G, Below W'.heap.size W' G → Calls Try.prog 25 #[.slice ad nd cd, .agg #[.slice bc q.cells.length kc, .slice bi q.inp.length ki, .slice bo q.out.length ko]] G fun e w' => e = .returned (.bool true) ∧ Below G.heap.size G w') := fun G hb => by
          have := fits_any D q _ _ G (HD.out G (below_next HBW.out (Nat.le_refl _) hb)) (HQ.out G hb)
          rw [hfit] at this
          exact this
        have HLS : Hid (∀ G, Below W'.heap.size W' G → 0 < pre.length → Calls Try.prog 24 #[.agg #[c1, c2, c3], .agg #[.slice bc q.cells.length kc, .slice bi q.inp.length ki, .slice bo q.out.length ko]] G fun e w' => e = .returned (.bool true) ∧ Below G.heap.size G w') := fun G hb hp => by
          obtain ⟨x, hx⟩ : ∃ x, pre.getLast? = some x := by
            rcases pre.eq_nil_or_concat with h | ⟨l', x, h⟩
            · rw [h] at hp; simp at hp
            · exact ⟨x, by rw [h]; simp⟩
          have hxm : x ∈ stsP D v' le' inp' := by
            have h1 : x ∈ pre := List.mem_of_getLast? hx
            rw [hI.take, ← HLL.out] at h1
            exact List.mem_of_mem_take h1
          have hlt : stLt x q := by
            have hsrt := HSB.out.sorted
            rw [HLL.out] at hsrt
            have hspl := take_next hI.take hget
            rw [hspl] at hsrt
            exact (List.pairwise_append.1 hsrt).2.2 x (List.mem_of_getLast? hx) q (by simp)
          have := less_any x q _ _ G (((hls x hx).new.at_ (HSB.out.of hxm).1).below hb (Nat.le_refl _)) (HQ.out G hb) (HSB.out.mid hxm) hmid
          rw [decide_eq_true (HSB.out.cmp hxm hqm hlt)] at this
          exact this
        have HEQ : Hid (∀ G, Below W'.heap.size W' G → Calls Try.prog 23 #[.agg #[.slice ac nc cc, .slice ai ni ci, .slice ao no co], .agg #[.slice bc q.cells.length kc, .slice bi q.inp.length ki, .slice bo q.out.length ko]] G fun e w' => e = .returned (.bool (decide (s = q))) ∧ Below G.heap.size G w') := fun G hb =>
          equal_any s q _ _ G (HS.out G (below_next HBW.out (Nat.le_refl _) hb)) (HQ.out G hb)
        have HPUT : Hid (∀ G b', Below W'.heap.size W' G → (b' = true ↔ b = true ∨ s = q) → KeepsFrom w4.heap.size W' (fiPut nf b' pre.length (.slice bc q.cells.length kc) (.slice bi q.inp.length ki) (.slice bo q.out.length ko) G) ∧ Leaves O W' (fiPut nf b' pre.length (.slice bc q.cells.length kc) (.slice bi q.inp.length ki) (.slice bo q.out.length ko) G) ∧ FiI wc s L (pre ++ [q]) O (fiPut nf b' pre.length (.slice bc q.cells.length kc) (.slice bi q.inp.length ki) (.slice bo q.out.length ko) G)) := fun G b' hb hbb => by
          have := hI.put (b := b') hb (by rw [HNF.out]; exact hst) (by rw [hbb, hfi, List.mem_append, List.mem_singleton]) ht w4.heap.size
          rw [HNF.out] at this
          exact this
        have HCX : Hid (∀ G, Below W'.heap.size W' G → (G.cell? ⟨Bx, 0, none⟩ = some (.slice bc q.cells.length kc) ∧ G.cell? ⟨Bx, 1, none⟩ = some (.slice bi q.inp.length ki) ∧ G.cell? ⟨Bx, 2, none⟩ = some (.slice bo q.out.length ko)) ∧
            (G.cell? ⟨nf, 0, none⟩ = some (.bool b) ∧ G.frozen? ⟨nf, 0, none⟩ = false) ∧ (G.cell? ⟨nf + 1, 0, none⟩ = some (.int .i64 (pre.length : Int)) ∧ G.frozen? ⟨nf + 1, 0, none⟩ = false) ∧
            (G.cell? ⟨nf + 2, 0, none⟩ = some c1 ∧ G.cell? ⟨nf + 2, 1, none⟩ = some c2 ∧ G.cell? ⟨nf + 2, 2, none⟩ = some c3) ∧ G.frozen? ⟨nf + 2, 0, none⟩ = false ∧ G.frozen? ⟨nf + 2, 1, none⟩ = false ∧ G.frozen? ⟨nf + 2, 2, none⟩ = false) := fun G hb =>
          ⟨⟨(hX.next hb).cell 0, (hX.next hb).cell 1, (hX.next hb).cell 2⟩, ⟨(hfb.next hb).cell 0, (hfb.next hb).free 0⟩, ⟨(hmany.next hb).cell 0, (hmany.next hb).free 0⟩, ⟨(hlb.next hb).cell 0, (hlb.next hb).cell 1, (hlb.next hb).cell 2⟩, (hlb.next hb).free 0, (hlb.next hb).free 1, (hlb.next hb).free 2⟩
        obtain ⟨np, hnp⟩ : ∃ n, pre.length = n := ⟨_, rfl⟩
        obtain ⟨mc, hmc⟩ : ∃ n, q.cells.length = n := ⟨_, rfl⟩
        obtain ⟨mi, hmi⟩ : ∃ n, q.inp.length = n := ⟨_, rfl⟩
        obtain ⟨mo, hmo⟩ : ∃ n, q.out.length = n := ⟨_, rfl⟩
        rw [hnp] at HLS HPUT HCX hpl
        rw [hmc, hmi, hmo] at HQ HFT HLS HEQ HPUT HCX ⊢
        have u9 : IntKind.i64.wrap ((np : Int) + 1) = (np : Int) + 1 := IntWalk.i64_in _ (by omega)
        have n5 : ¬ (500 : Int) < (np : Int) := by omega
        have HB' : Hid (Below W'.heap.size W' W') := Below.refl _ _
        have HBX : Hid (Bx ≠ nf ∧ Bx ≠ nf + 1 ∧ Bx ≠ nf + 2) := ⟨by omega, by omega, by omega⟩
        clear hst hX hget hfb hfi hmany hlb hls hqm hq1 hfit hmid hpl ht hI hnp hmc hmi hmo
        obtain ⟨x0, ⟨x1, x2, x3⟩, x4, x5, x6⟩ := HC.out _ HBW.out
        obtain ⟨⟨z0, z1, z2⟩, ⟨z3, z4⟩, ⟨z5, z6⟩, ⟨z7, z8, z9⟩, z10, z11, z12⟩ := HCX.out _ HB'.out
        gi_wp2_with fail
        refine ⟨trivial, (CallsIn.inRound l (callsIn_wide.2 (HFT.out _ HB'.out))).mono ?_⟩
        rintro e wA ⟨rfl, hba⟩
        have HA1 := Lib.hid hba
        clear hba x0 x1 x2 x3 x4 x5 x6 z0 z1 z2 z3 z4 z5 z6 z7 z8 z9 z10 z11 z12
        obtain ⟨x0, ⟨x1, x2, x3⟩, x4, x5, x6⟩ := HC.out _ (below_next HBW.out (Nat.le_refl _) HA1.out)
        obtain ⟨⟨z0, z1, z2⟩, ⟨z3, z4⟩, ⟨z5, z6⟩, ⟨z7, z8, z9⟩, z10, z11, z12⟩ := HCX.out _ HA1.out
        by_cases hp0 : 0 < np
        · have hp1 : (0 : Int) < (np : Int) := by omega
          gi_wp2_with fail
          refine ⟨trivial, (CallsIn.inRound l (callsIn_wide.2 (HLS.out _ HA1.out hp0))).mono ?_⟩
          rintro e wB ⟨rfl, hbb⟩
          have HA2 := Lib.hid (below_next HA1.out (Nat.le_refl _) hbb)
          clear hbb x0 x1 x2 x3 x4 x5 x6 z0 z1 z2 z3 z4 z5 z6 z7 z8 z9 z10 z11 z12
          obtain ⟨x0, ⟨x1, x2, x3⟩, x4, x5, x6⟩ := HC.out _ (below_next HBW.out (Nat.le_refl _) HA2.out)
          obtain ⟨⟨z0, z1, z2⟩, ⟨z3, z4⟩, ⟨z5, z6⟩, ⟨z7, z8, z9⟩, z10, z11, z12⟩ := HCX.out _ HA2.out
          cases b with
          | true =>
            gi_wp2_with fail
            refine ⟨trivial, ?_⟩
            gi_wp2
            exact HPUT.out _ true HA2.out (by simp)
          | false =>
            gi_wp2_with fail
            refine ⟨trivial, (CallsIn.inRound l (callsIn_wide.2 (HEQ.out _ HA2.out))).mono ?_⟩
            rintro e wC ⟨rfl, hbc⟩
            have HA3 := Lib.hid (below_next HA2.out (Nat.le_refl _) hbc)
            clear hbc x0 x1 x2 x3 x4 x5 x6 z0 z1 z2 z3 z4 z5 z6 z7 z8 z9 z10 z11 z12
            obtain ⟨x0, ⟨x1, x2, x3⟩, x4, x5, x6⟩ := HC.out _ (below_next HBW.out (Nat.le_refl _) HA3.out)
            obtain ⟨⟨z0, z1, z2⟩, ⟨z3, z4⟩, ⟨z5, z6⟩, ⟨z7, z8, z9⟩, z10, z11, z12⟩ := HCX.out _ HA3.out
            obtain ⟨bq, hbq⟩ : ∃ bq, decide (s = q) = bq := ⟨_, rfl⟩
            rw [hbq]
            have HBQ : Hid (bq = true ↔ s = q) := by unfold Hid; rw [← hbq]; exact decide_eq_true_iff
            clear hbq
            gi_wp2
            exact HPUT.out _ bq HA3.out (by simp [HBQ.out])
        · have hp1 : ¬ (0 : Int) < (np : Int) := by omega
          gi_wp2_with fail
          refine ⟨trivial, ?_⟩
          cases b with
          | true =>
            gi_wp2_with fail
            refine ⟨trivial, ?_⟩
            gi_wp2
            exact HPUT.out _ true HA1.out (by simp)
          | false =>
            gi_wp2_with fail
            refine ⟨trivial, (CallsIn.inRound l (callsIn_wide.2 (HEQ.out _ HA1.out))).mono ?_⟩
            rintro e wC ⟨rfl, hbc⟩
            have HA3 := Lib.hid (below_next HA1.out (Nat.le_refl _) hbc)
            clear hbc x0 x1 x2 x3 x4 x5 x6 z0 z1 z2 z3 z4 z5 z6 z7 z8 z9 z10 z11 z12
            obtain ⟨x0, ⟨x1, x2, x3⟩, x4, x5, x6⟩ := HC.out _ (below_next HBW.out (Nat.le_refl _) HA3.out)
            obtain ⟨⟨z0, z1, z2⟩, ⟨z3, z4⟩, ⟨z5, z6⟩, ⟨z7, z8, z9⟩, z10, z11, z12⟩ := HCX.out _ HA3.out
            obtain ⟨bq, hbq⟩ : ∃ bq, decide (s = q) = bq := ⟨_, rfl⟩
            rw [hbq]
            have HBQ : Hid (bq = true ↔ s = q) := by unfold Hid; rw [← hbq]; exact decide_eq_true_iff
            clear hbq
            gi_wp2
            exact HPUT.out _ bq HA3.out (by simp [HBQ.out])
      case done2 =>
        rintro D2 O3 W' hD2 hI2 hK2
        obtain ⟨b, hfb, hfi⟩ := hI2.found
        have hmany := hI2.many
        have hbc : b = c := by
          have h1 := HMEM.out
          rw [HLL.out] at h1
          exact Bool.eq_iff_iff.2 (hfi.trans h1.symm)
        subst hbc
        rw [HNF.out] at hfb hmany
        have hcn := HSB.out.count
        rw [HLL.out] at hcn
        have hBW : Below W0.heap.size W0 W' := HX.out.trans (hI2.bel.mono HX.out.size)
        have hct := count_any D _ v' le' inp' W' (HD.out W' hBW) HSB.out.val HSB.out.v1000 ⟨by omega, by have := HSB.out.le1000; omega⟩ ⟨by omega, by have := HSB.out.inp1000; omega⟩ (Nat.le_trans HSB.out.few (by decide))
        rw [← hcn] at hct
        obtain ⟨nm, hnm⟩ : ∃ n, L.length = n := ⟨_, rfl⟩
        rw [hnm] at hct hmany
        have HCT := Lib.hid hct
        have HBW := Lib.hid hBW
        have HK2 := Lib.hid hK2
        have HFB := Lib.hid hfb
        have HMY := Lib.hid hmany
        have hb2s := H5.out.size
        have HDL : Hid (w.heap.size + 3 < D2) := by
          have h1 := HS0.out
          have h2 := HX.out.size
          have h3 := HNF.out
          have h4 := H41.out
          show w.heap.size + 3 < D2
          omega
        clear hI2 hK2 hfb hmany hfi hcn hBW hct hnm hb2s
        obtain ⟨x0, ⟨x1, x2, x3⟩, x4, x5, x6⟩ := HC.out _ HBW.out
        go_wp2_with fail
        refine HCT.out.mono ?_
        rintro e wE ⟨rfl, hbe⟩
        have HBE := Lib.hid (below_next HBW.out (Nat.le_refl _) hbe)
        have z0 := (HFB.out.next hbe).cell 0
        have z1 := (HMY.out.next hbe).cell 0
        simp only [List.getElem?_toArray, List.getElem?_cons_zero] at z0 z1
        have hkE : wE.heap[D2]? = some (.deferred (some [])) := (hbe.block D2 (Array.getElem?_eq_some_iff.1 HK2.out).1).trans HK2.out
        have hrc := HK3.out _ HBE.out
        have z2 := hrc.cell 0
        have z3 := hrc.free 0
        simp only [List.getElem?_toArray, List.getElem?_cons_zero] at z2
        have HKE := Lib.hid hkE
        have HRC := Lib.hid hrc
        clear hbe hkE hrc x0 x1 x2 x3 x4 x5 x6
        go_wp2
        have hk3 : (wE.setCell ⟨w.heap.size + 3, 0, none⟩ (.bool true)).heap[D2]? = some (.deferred (some [])) := (Below.heap_setCell wE ⟨w.heap.size + 3, 0, none⟩ _ D2 (by show D2 ≠ w.heap.size + 3; have := HDL.out; omega)).trans HKE.out
        have hf3 := HRC.out.set 0 (.bool true)
        have hb3 := (below_next HB0.out (Nat.le_refl _) HBE.out).setCell (p := ⟨w.heap.size + 3, 0, none⟩) (by show w.heap.size ≤ w.heap.size + 3; omega) (.bool true)
        generalize wE.setCell ⟨w.heap.size + 3, 0, none⟩ (.bool true) = w9 at *
        refine ⟨by simp, .inl ⟨_, _, rfl, run_takeDeferred hk3, ?_⟩⟩
        have hg4 := grownBy_putObj' w9 D2 (.deferred none)
        have hf4 : Blk (w9.putObj D2 (.deferred none)) (w.heap.size + 3) 4 #[.bool true] := Blk.grown (row := some D2) hf3 hg4 (fun e => by injection e; have := HDL.out; omega)
        exact ⟨_, results_boolcell rfl _ _ _ _ rfl hf4, rfl, hb3.grown hg4 hb3.size (fun k e => by injection e; have := HDL.out; omega)⟩
      case stop2 =>
        rintro D c k W _ h _
        exact h.elim
end Go.Proofs.Ytklbaocgjegdfaa
