/- The law EnumerateStops: its walk. -/
import Derived.Test.YtklbaocgjegdfaaEnK
import Derived.Test.YtklbaocgjegdfaaEnFr
import Derived.Test.YtklbaocgjegdfaaStL0
import Derived.Test.YtklbaocgjegdfaaEnCk
import Derived.Sort.CutIn
import Derived.Deep.CutRange
import Derived.Deep.RegionHeld3
namespace Go.Proofs.Ytklbaocgjegdfaa
open Go.RowKit Go.Shelf Go.ChangeShapes

attribute [local go_sem] Oper.semAt_some

/-- what the other slots hold is not looked at -/
theorem junkS {T : Array Value} {P : (Nat → Value) → Array Value} (h : P (fun i => T.getD i undef) = T) : ∃ J : Nat → Value, ({ tmps := T, defers := [] } : Act) = { tmps := P J, defers := [] } := ⟨fun i => T.getD i undef, by rw [h]⟩

set_option maxRecDepth 100000 in
set_option maxHeartbeats 16000000 in
theorem stopslaw (D : List Decl) (u : Value) (v le inp x : Int) (w : World) (h1 : DeclsAt w u D) (hx : 0 ≤ x ∧ x ≤ 255) :
    Calls Try.prog 6 #[u, .agg #[.int .i64 v, .int .i64 le, .int .i64 inp], .int .u8 x] w fun e w' => e = .returned (.bool true) ∧ Below w.heap.size w w' := by
  have HA : Hid (∀ w, Calls Try.prog 11 #[] w fun e w' => e = .returned (.bool true) ∧ Below w.heap.size w w') := awake_any
  obtain ⟨⟨ad, cd, rfl, -, -, -⟩, -⟩ := id h1
  obtain ⟨nd, hnd⟩ : ∃ n, D.length = n := ⟨_, rfl⟩
  rw [hnd] at h1 ⊢
  obtain ⟨W0, hW0⟩ : ∃ W0, W0 = (w.alloc (.cells #[.int .i64 v, .int .i64 le, .int .i64 inp] 24)).alloc (.cells #[.int .u8 x] 5) := ⟨_, rfl⟩
  have hs0 : W0.heap.size = w.heap.size + 2 := by rw [hW0]; simp
  have hB0 : Below w.heap.size w W0 := by rw [hW0]; exact below_next (below_alloc _ _) (Nat.le_refl _) (below_alloc _ _)
  have hk1 : Blk W0 w.heap.size 24 #[.int .i64 v, .int .i64 le, .int .i64 inp] := by rw [hW0]; exact blk_nx (Blk.new _ _ _) _
  have hk2 : Blk W0 (w.heap.size + 1) 5 #[.int .u8 x] := by rw [hW0]; exact blk_at (by simp) _ _
  have HC : Hid (∀ w', Below W0.heap.size W0 w' → (w'.cell? ⟨w.heap.size, 0, none⟩ = some (.int .i64 v) ∧ w'.cell? ⟨w.heap.size, 1, none⟩ = some (.int .i64 le) ∧ w'.cell? ⟨w.heap.size, 2, none⟩ = some (.int .i64 inp)) ∧ w'.cell? ⟨w.heap.size + 1, 0, none⟩ = some (.int .u8 x)) :=
    fun w' hb => ⟨⟨(hk1.next hb).cell 0, (hk1.next hb).cell 1, (hk1.next hb).cell 2⟩, (hk2.next hb).cell 0⟩
  have HD : Hid (∀ w', Below W0.heap.size W0 w' → DeclsAt w' (.slice ad nd cd) D) := fun w' hb => (h1.below hB0 (Nat.le_refl _)).below hb (Nat.le_refl _)
  have HB0 := Lib.hid hB0
  have HS0 := Lib.hid hs0
  have HW0 := Lib.hid hW0
  have HND := Lib.hid hnd
  have HXX := Lib.hid hx
  clear hk1 hk2 hB0 hs0 h1 hW0 hnd hx
  refine (callsIn_wide (n := 3)).1 ?_
  refine callsIn_of_wp_marks Try.func6 rfl trivial ?_ rfl
  refine wpIn_wide.2 ?_
  simp only [Try.ntmps6, List.size_toArray, List.length_nil, List.length_cons, Nat.reduceSub, Nat.reduceAdd, Array.replicate_succ, Array.replicate_zero, List.push_toArray, List.append_toArray, List.nil_append, List.cons_append]
  go_upto_region 1 with (fail)
  rw [← HW0.out]
  go_wp2_with fail
  refine (HA.out _).mono ?_
  rintro e w1 ⟨rfl, hb1⟩
  have H1 := Lib.hid hb1
  obtain ⟨⟨x1, x2, x3⟩, x4⟩ := HC.out w1 hb1
  clear hb1
  go_wp2_with fail
  have hsm := small_any2 D _ v le inp w1 (HD.out w1 H1.out)
  refine hsm.mono ?_
  rintro e w2 ⟨b, rfl, hb, hb2⟩
  have H2 := Lib.hid (below_next H1.out (Nat.le_refl _) hb2)
  have HSM := Lib.hid hb
  clear hsm hb hb2 x1 x2 x3 x4
  cases b with
  | false =>
    go_wp2_with fail
    refine (HA.out _).mono ?_
    rintro e w3 ⟨rfl, hb3⟩
    have H3 := Lib.hid (below_next H2.out (Nat.le_refl _) hb3)
    clear hb3
    go_wp2
    exact ⟨_, results_tmp rfl _ _ _, rfl, below_next HB0.out (Nat.le_refl _) H3.out⟩
  | true =>
  obtain ⟨v', le', inp', rfl, rfl, rfl, hsb⟩ := HSM.out rfl
  have HSB := Lib.hid hsb
  clear HSM hsb
  -- R1
  obtain ⟨W3, hW3⟩ : ∃ W3, W3 = (w2.alloc (.cells #[.slice none 0 0] 27)).alloc (.cells #[.slice none 0 0] 27) := ⟨_, rfl⟩
  have hb3 : Below w2.heap.size w2 W3 := by rw [hW3]; exact below_next (below_alloc _ _) (Nat.le_refl _) (below_alloc _ _)
  obtain ⟨n8, hn8⟩ : ∃ n, w2.heap.size + 1 = n := ⟨_, rfl⟩
  have hk7 : Blk W3 w2.heap.size 27 #[.slice none 0 0] := by rw [hW3]; exact blk_nx (Blk.new _ _ _) _
  have hk8 : Blk W3 n8 27 #[.slice none 0 0] := by rw [hW3, ← hn8]; exact blk_at (by simp) _ _
  have hs3 : W3.heap.size = n8 + 1 := by rw [hW3]; simp; omega
  have H3 := Lib.hid (below_next H2.out (Nat.le_refl _) hb3)
  obtain ⟨⟨x1, x2, x3⟩, x4⟩ := HC.out _ H3.out
  rw [hW3] at x1 x2 x3 x4
  have HW3 := Lib.hid hW3
  have HN8 := Lib.hid hn8
  have hs02 := H2.out.size
  clear hW3 hb3
  go_wp2_with fail
  rw [← HW3.out]
  clear HW3 x1 x2 x3 x4 hn8
  refine (all_any D _ v' le' inp' W3 (HD.out W3 H3.out) HSB.out.val ⟨by omega, by have := HSB.out.v1000; omega⟩ ⟨by omega, by have := HSB.out.le1000; omega⟩ ⟨by omega, by have := HSB.out.inp1000; omega⟩).mono ?_
  rintro e w4 ⟨lb, O, rfl, hb4, hO, hseq⟩
  have hs4 := hb4.size
  have H4 := Lib.hid (below_next H3.out (Nat.le_refl _) hb4)
  have HK7 := Lib.hid (hk7.next hb4)
  have HK8 := Lib.hid (hk8.next hb4)
  have HO : Hid (∀ b, O b → n8 + 1 ≤ b ∧ b < w4.heap.size) := fun b hb => by have := hO b hb; omega
  obtain ⟨L, hL⟩ : ∃ L, stsP D v' le' inp' = L := ⟨_, rfl⟩
  have hseq2 : ∀ n, SeqMem Fence.wide n Try.prog 32 lb ArgAt L O w4 := by rw [← hL]; exact hseq
  have HSEQ := Lib.hid hseq2
  have HLL := Lib.hid hL
  have H41 : Hid (n8 + 1 ≤ w4.heap.size) := by show n8 + 1 ≤ w4.heap.size; omega
  have HLOK : Hid (L.length ≤ 500 ∧ ∀ x ∈ L, InSt x ∧ Sized x ∧ x.cells.length = D.length ∧ x.out = []) := by
    rw [← hL]
    exact ⟨HSB.out.count500, fun x hx => HSB.out.of hx⟩
  clear hO hseq hseq2 hb4 hk7 hk8 hs02 hs3 hs4 hL
  go_wp2_with fail
  refine (wpIn_wide (n := 3)).1 ?_
  refine range_mem (F := Fence.wide) rfl (by decide) (gf := 32) (lb := lb) rfl trivial (enters_of Try.func32 (by kernel_rfl) rfl) (Arg := ArgAt) (HSEQ.out _) (Below.refl _ _) (fun b hb => (HO.out b hb).2)
    (CoI w4 n8) (fun _ _ _ => False) (CoI.own H41.out) (fun _ _ _ _ _ h _ _ => h) (CoI.bides w4 n8)
    ⟨⟨_, HK8.out, Coll.nil _ _ _⟩, HO.out, Below.refl _ _, H41.out⟩
    (fun v q O a' W => ∃ b Bx ac cc ai ci ao co, n8 + 1 ≤ Bx ∧ (∃ vg, Blk W n8 27 #[vg] ∧ ∀ j, vg.ownBlock = some j → j < Bx) ∧ StNew b W (.agg #[.slice ac q.cells.length cc, .slice ai q.inp.length ci, .slice ao q.out.length co]) q ∧ Blk W Bx 35 #[.slice ac q.cells.length cc, .slice ai q.inp.length ci, .slice ao q.out.length co] ∧ ∃ J : Nat → Value, a' = { tmps := #[J 0, J 1, J 2, J 3, J 4, J 5, J 6, J 7, .pointer (some ⟨n8, 0, none⟩), .pointer (some ⟨Bx, 0, none⟩), J 10, J 11, J 12, J 13, J 14, J 15, J 16, J 17, J 18, J 19, J 20, J 21, J 22, J 23, J 24, J 25, J 26, .agg #[.slice ac q.cells.length cc, .slice ai q.inp.length ci, .slice ao q.out.length co], J 28, J 29, J 30, J 31, J 32, J 33, J 34, J 35, J 36, J 37, J 38, J 39, J 40, J 41, J 42, J 43, J 44, J 45, J 46, J 47, J 48, J 49, J 50, J 51, J 52, J 53, J 54, J 55, J 56, J 57, J 58, J 59, J 60, J 61, J 62, J 63, J 64, J 65, J 66, J 67, J 68, J 69, J 70, J 71, J 72, J 73, J 74, J 75, J 76, J 77, J 78, J 79, J 80, J 81, J 82, J 83, J 84, J 85, J 86, J 87, J 88, J 89, J 90, J 91, J 92, J 93], defers := [] })
    ?ax ?assign ?body ?done ?stop
  case ax =>
    rintro v q O a' ⟨⟩ W W' row ⟨b, Bx, ac, cc, ai, ci, ao, co, h1, ⟨vg, h2, h2'⟩, h3, h6, h7⟩ hg hr
    exact ⟨b, Bx, ac, cc, ai, ci, ao, co, h1, ⟨vg, h2.row hg hr, h2'⟩, h3.row hg hr, h6.row hg hr, h7⟩
  case assign =>
    rintro l pre v q O A W K hIA hbA ⟨-, -, hst⟩ hI hK
    obtain ⟨ac, cc, ai, ci, ao, co, rfl⟩ := hst.form
    have hgl := hI.got
    obtain ⟨vg, hgb, tsg, -, hgo, -, -⟩ := hgl
    have hlt := hgb.lt
    have HST := Lib.hid hst
    have HI := Lib.hid hI
    have HG : Hid (∃ vg, Blk W n8 27 #[vg] ∧ ∀ j, vg.ownBlock = some j → j < W.heap.size) := ⟨vg, hgb, fun j hj => (hgo.lt j hj).2⟩
    have HKK := Lib.hid hK
    clear hst hI hK hgb hgo hIA hbA
    gi_wp2
    refine HKK.out _ _ ((KeepsOthers.alloc _ _).from _) (leaves_below (below_alloc _ _) (fun j hj => (HI.out.old j hj).2)) ((CoI.own (Nat.le_refl _) O).alloc _ HI.out) ⟨A.heap.size, W.heap.size, ac, cc, ai, ci, ao, co, by omega, ?_, HST.out.next (below_alloc _ _), Blk.new _ _ _, junkS (by kernel_rfl)⟩
    obtain ⟨vg, h1, h2⟩ := HG.out
    exact ⟨vg, h1.next (below_alloc _ _), h2⟩
  case body =>
    rintro l pre v q O a' W hl ⟨r, hr⟩ hI ⟨b, Bx, ac, cc, ai, ci, ao, co, hBn, ⟨vg, hvg, hvgo⟩, hst, hX, J, rfl⟩ hget
    obtain ⟨hq1, hq2, hq3, -⟩ := HLOK.out.2 q (List.mem_of_getElem? hget)
    have hpl : pre.length < 500 := Nat.lt_of_lt_of_le (List.getElem?_eq_some_iff.1 hget).1 HLOK.out.1
    have hcl := sclone_any q _ W.drew ((hst.next (below_drew (Below.refl W.heap.size W))).at_ hq1) hq2 (by have := HSB.out.six; omega)
    obtain ⟨v, hgot, ts, hts, hown, hvo, htt⟩ := id hI.got
    have evg : vg = v := by
      unfold Blk at hvg hgot
      rw [hvg] at hgot
      simpa using hgot
    subst evg
    obtain ⟨ag, cg, rfl⟩ := own_form hown
    obtain ⟨np, hnp⟩ : ∃ np, pre.length = np := ⟨_, rfl⟩
    obtain ⟨nc, hnc⟩ : ∃ np, q.cells.length = np := ⟨_, rfl⟩
    obtain ⟨ni, hni⟩ : ∃ np, q.inp.length = np := ⟨_, rfl⟩
    obtain ⟨no, hno⟩ : ∃ np, q.out.length = np := ⟨_, rfl⟩
    rw [hnp] at hpl hown hgot hvo hvgo
    rw [hnc, hni, hno] at hX hcl ⊢
    have x0 := hX.cell 0
    have x0' := hX.cell 1
    have x0'' := hX.cell 2
    have x1 := hgot.cell 0
    have x2 := hgot.free 0
    simp only [List.getElem?_toArray, List.getElem?_cons_zero, List.getElem?_cons_succ] at x0 x0' x0'' x1
    have HCL := Lib.hid hcl
    have HI := Lib.hid hI
    have HTS := Lib.hid hts
    have HTT := Lib.hid htt
    have HOWN := Lib.hid hown
    have HGOT := Lib.hid hgot
    have HGL := Lib.hid hgot.lt
    have HVO := Lib.hid hvo
    have HVG := Lib.hid hvgo
    have HX := Lib.hid hX
    have HNP := Lib.hid hnp
    have HNC := Lib.hid hnc
    have HNI := Lib.hid hni
    have HNO := Lib.hid hno
    have HBN : Hid (Bx ≠ n8) := fun e => by omega
    have HSS : Hid (∀ w', Blk w' Bx 35 #[.slice ac nc cc, .slice ai ni ci, .slice ao no co] → w'.cell? ⟨Bx, 0, none⟩ = some (.slice ac nc cc) ∧ w'.cell? ⟨Bx, 1, none⟩ = some (.slice ai ni ci) ∧ w'.cell? ⟨Bx, 2, none⟩ = some (.slice ao no co)) := fun w' h => ⟨h.cell 0, h.cell 1, h.cell 2⟩
    clear hst hvg hvgo hcl hI hts htt hown hgot hvo hX hget hnp hq1 hq2 hq3 hnc hni hno
    obtain ⟨i0, hi, hz0, hz1, hz2⟩ := info_parts stateInfo
    gi_wp2
    refine round_held (fun w' => w'.cell? ⟨Bx, 0, none⟩ = some (.slice ac nc cc) ∧ w'.cell? ⟨Bx, 1, none⟩ = some (.slice ai ni ci) ∧ w'.cell? ⟨Bx, 2, none⟩ = some (.slice ao no co)) (by kernel_rfl) (by kernel_rfl) ⟨x0, x0', x0''⟩ (fun hS => ?_)
    refine wpAnyH_take (i := 1) (v := .agg #[.slice ac nc cc, .slice ai ni ci, .slice ao no co]) rfl (by kernel_rfl) (by kernel_rfl) (by kernel_rfl) (fun _ _ _ h => h) (Or.inl ⟨by rfl, fun w0 hw0 => by obtain ⟨s0, s1, s2⟩ := hw0; go_simp⟩) hS ?_
    go_simp
    refine wpAnyH_ready (rs := [0, 2]) (by kernel_rfl) (by simp) ?_
    refine AllReadyH.cons rfl (fun K hK => ?_) (AllReadyH.cons rfl (fun K hK => ?_) AllReadyH.nil)
    · go_simp
      refine hK.out _ _ hS (fun hS => ?_)
      clear hK K
      refine wpAnyH_ready (rs := [2]) (by kernel_rfl) (by simp) ?_
      refine AllReadyH.cons rfl (fun K hK => ?_) AllReadyH.nil
      go_simp
      refine HCL.out.mono ?_
      rintro e w2 ⟨r, rfl, hr2, hb2⟩
      obtain ⟨rc, kc, ri, ki, ro, ko, rfl⟩ := hr2.form
      have HR2 := Lib.hid hr2
      have HB2 := Lib.hid (below_next (below_drew (Below.refl W.heap.size W)) (Nat.le_refl _) hb2)
      have hx1 := cell_below HB2.out HGL.out x1
      have hs2 := HB2.out.size
      rw [HNC.out, HNI.out, HNO.out]
      clear hr2 hb2
      refine hK.out _ _ (HSS.out _ (HX.out.next HB2.out)) (fun hS => ?_)
      clear hK K
      refine wpAnyH_ready (rs := [3]) (by kernel_rfl) (by simp) ?_
      refine AllReadyH.cons rfl (fun K hK => ?_) AllReadyH.nil
      go_simp
      refine hK.out _ _ (HSS.out _ ((HX.out.next HB2.out).next (below_alloc _ _))) (fun hS => ?_)
      clear hK K
      have hx2 := alloc_cell hx1 (.cells #[.slice rc nc kc, .slice ri ni ki, .slice ro no ko] 35)
      refine wpAnyH_ready (rs := [4]) (by kernel_rfl) (by simp) ?_
      refine AllReadyH.cons rfl (fun K hK => ?_) AllReadyH.nil
      refine step_append_own2 (w2.alloc (.cells #[.slice rc nc kc, .slice ri ni ki, .slice ro no ko] 35)) rfl (.tmp 28) (.tmp 31) 27 rfl (n8 + 1) 35 i0 (.agg #[.slice none 0 0, .slice none 0 0, .slice none 0 0]) 3 72 Try.underlying27 hi hz0 hz1 hz2 rfl (by decide) (.slice ag np cg) np _ rfl ((own_below HOWN.out HB2.out).alloc _) ⟨w2.heap.size, 0, none⟩ 1 1 [.slice rc nc kc, .slice ri ni ki, .slice ro no ko] rfl rfl (cell_three_new w2 _ _ _ _) (by intro u hu; simp only [List.mem_cons, List.not_mem_nil, or_false] at hu; rcases hu with rfl | rfl | rfl <;> rfl) (by decide) (by unfold maxLen; omega) (by omega) (by have := HGL.out; simp; omega) ?_
      intro v5 w5 hown5 hgr5 hpos5
      have hbA : Below W.heap.size W (w2.alloc (.cells #[.slice rc nc kc, .slice ri ni ki, .slice ro no ko] 35)) := below_next HB2.out (Nat.le_refl _) (below_alloc _ _)
      obtain ⟨f1, f3, f4, f5⟩ := co_fin HI.out hbA HGOT.out HTS.out (by rw [HNP.out]; exact HOWN.out) HVO.out HTT.out (hs := by have := StNew.next HR2.out (below_alloc w2 (.cells #[.slice rc nc kc, .slice ri ni ki, .slice ro no ko] 35)); rw [HNC.out, HNI.out, HNO.out] at this; exact this) (Nat.le_refl _) (by rw [HNP.out]; exact hown5) hgr5 hpos5 w4.heap.size
      have hX5 := (HX.out.next hbA).grown hgr5 (fun e => Nat.lt_irrefl _ (HVG.out _ e.symm))
      obtain ⟨a5, c5, rfl⟩ := own_form hown5
      have g0 := f1.cell 0
      have g1 := f1.free 0
      simp only [List.getElem?_toArray, List.getElem?_cons_zero] at g0
      have F5 := Lib.hid f5
      have F3 := Lib.hid f3
      have F4 := Lib.hid f4
      have HX5 := Lib.hid hX5
      clear f1 f3 f4 f5 hown5 hgr5 hpos5 hX5 hbA
      go_simp
      refine hK.out _ _ (HSS.out _ HX5.out) (fun hS => ?_)
      clear hK K
      refine wpAnyH_ready (rs := [5]) (by kernel_rfl) (by simp) ?_
      refine AllReadyH.cons rfl (fun K hK => ?_) AllReadyH.nil
      go_simp
      refine hK.out _ _ (HSS.out _ (blk_st HX5.out HBN.out)) (fun hS => ?_)
      clear hK K
      refine wpAnyH_done (by kernel_rfl) ?_ _
      exact ⟨F3.out, F4.out, F5.out⟩
    · go_simp
      refine HCL.out.mono ?_
      rintro e w2 ⟨r, rfl, hr2, hb2⟩
      obtain ⟨rc, kc, ri, ki, ro, ko, rfl⟩ := hr2.form
      have HR2 := Lib.hid hr2
      have HB2 := Lib.hid (below_next (below_drew (Below.refl W.heap.size W)) (Nat.le_refl _) hb2)
      have hx1 := cell_below HB2.out HGL.out x1
      have hs2 := HB2.out.size
      rw [HNC.out, HNI.out, HNO.out]
      clear hr2 hb2
      refine hK.out _ _ (HSS.out _ (HX.out.next HB2.out)) (fun hS => ?_)
      clear hK K
      refine wpAnyH_ready (rs := [0, 3]) (by kernel_rfl) (by simp) ?_
      refine AllReadyH.cons rfl (fun K hK => ?_) (AllReadyH.cons rfl (fun K hK => ?_) AllReadyH.nil)
      · go_simp
        refine hK.out _ _ hS (fun hS => ?_)
        clear hK K
        refine wpAnyH_ready (rs := [3]) (by kernel_rfl) (by simp) ?_
        refine AllReadyH.cons rfl (fun K hK => ?_) AllReadyH.nil
        go_simp
        refine hK.out _ _ (HSS.out _ ((HX.out.next HB2.out).next (below_alloc _ _))) (fun hS => ?_)
        clear hK K
        have hx2 := alloc_cell hx1 (.cells #[.slice rc nc kc, .slice ri ni ki, .slice ro no ko] 35)
        refine wpAnyH_ready (rs := [4]) (by kernel_rfl) (by simp) ?_
        refine AllReadyH.cons rfl (fun K hK => ?_) AllReadyH.nil
        refine step_append_own2 (w2.alloc (.cells #[.slice rc nc kc, .slice ri ni ki, .slice ro no ko] 35)) rfl (.tmp 28) (.tmp 31) 27 rfl (n8 + 1) 35 i0 (.agg #[.slice none 0 0, .slice none 0 0, .slice none 0 0]) 3 72 Try.underlying27 hi hz0 hz1 hz2 rfl (by decide) (.slice ag np cg) np _ rfl ((own_below HOWN.out HB2.out).alloc _) ⟨w2.heap.size, 0, none⟩ 1 1 [.slice rc nc kc, .slice ri ni ki, .slice ro no ko] rfl rfl (cell_three_new w2 _ _ _ _) (by intro u hu; simp only [List.mem_cons, List.not_mem_nil, or_false] at hu; rcases hu with rfl | rfl | rfl <;> rfl) (by decide) (by unfold maxLen; omega) (by omega) (by have := HGL.out; simp; omega) ?_
        intro v5 w5 hown5 hgr5 hpos5
        have hbA : Below W.heap.size W (w2.alloc (.cells #[.slice rc nc kc, .slice ri ni ki, .slice ro no ko] 35)) := below_next HB2.out (Nat.le_refl _) (below_alloc _ _)
        obtain ⟨f1, f3, f4, f5⟩ := co_fin HI.out hbA HGOT.out HTS.out (by rw [HNP.out]; exact HOWN.out) HVO.out HTT.out (hs := by have := StNew.next HR2.out (below_alloc w2 (.cells #[.slice rc nc kc, .slice ri ni ki, .slice ro no ko] 35)); rw [HNC.out, HNI.out, HNO.out] at this; exact this) (Nat.le_refl _) (by rw [HNP.out]; exact hown5) hgr5 hpos5 w4.heap.size
        have hX5 := (HX.out.next hbA).grown hgr5 (fun e => Nat.lt_irrefl _ (HVG.out _ e.symm))
        obtain ⟨a5, c5, rfl⟩ := own_form hown5
        have g0 := f1.cell 0
        have g1 := f1.free 0
        simp only [List.getElem?_toArray, List.getElem?_cons_zero] at g0
        have F5 := Lib.hid f5
        have F3 := Lib.hid f3
        have F4 := Lib.hid f4
        have HX5 := Lib.hid hX5
        clear f1 f3 f4 f5 hown5 hgr5 hpos5 hX5 hbA
        go_simp
        refine hK.out _ _ (HSS.out _ HX5.out) (fun hS => ?_)
        clear hK K
        refine wpAnyH_ready (rs := [5]) (by kernel_rfl) (by simp) ?_
        refine AllReadyH.cons rfl (fun K hK => ?_) AllReadyH.nil
        go_simp
        refine hK.out _ _ (HSS.out _ (blk_st HX5.out HBN.out)) (fun hS => ?_)
        clear hK K
        refine wpAnyH_done (by kernel_rfl) ?_ _
        exact ⟨F3.out, F4.out, F5.out⟩
      · go_simp
        refine hK.out _ _ (HSS.out _ ((HX.out.next HB2.out).next (below_alloc _ _))) (fun hS => ?_)
        clear hK K
        have hx2 := alloc_cell hx1 (.cells #[.slice rc nc kc, .slice ri ni ki, .slice ro no ko] 35)
        refine wpAnyH_ready (rs := [0]) (by kernel_rfl) (by simp) ?_
        refine AllReadyH.cons rfl (fun K hK => ?_) AllReadyH.nil
        go_simp
        refine hK.out _ _ hS (fun hS => ?_)
        clear hK K
        refine wpAnyH_ready (rs := [4]) (by kernel_rfl) (by simp) ?_
        refine AllReadyH.cons rfl (fun K hK => ?_) AllReadyH.nil
        refine step_append_own2 (w2.alloc (.cells #[.slice rc nc kc, .slice ri ni ki, .slice ro no ko] 35)) rfl (.tmp 28) (.tmp 31) 27 rfl (n8 + 1) 35 i0 (.agg #[.slice none 0 0, .slice none 0 0, .slice none 0 0]) 3 72 Try.underlying27 hi hz0 hz1 hz2 rfl (by decide) (.slice ag np cg) np _ rfl ((own_below HOWN.out HB2.out).alloc _) ⟨w2.heap.size, 0, none⟩ 1 1 [.slice rc nc kc, .slice ri ni ki, .slice ro no ko] rfl rfl (cell_three_new w2 _ _ _ _) (by intro u hu; simp only [List.mem_cons, List.not_mem_nil, or_false] at hu; rcases hu with rfl | rfl | rfl <;> rfl) (by decide) (by unfold maxLen; omega) (by omega) (by have := HGL.out; simp; omega) ?_
        intro v5 w5 hown5 hgr5 hpos5
        have hbA : Below W.heap.size W (w2.alloc (.cells #[.slice rc nc kc, .slice ri ni ki, .slice ro no ko] 35)) := below_next HB2.out (Nat.le_refl _) (below_alloc _ _)
        obtain ⟨f1, f3, f4, f5⟩ := co_fin HI.out hbA HGOT.out HTS.out (by rw [HNP.out]; exact HOWN.out) HVO.out HTT.out (hs := by have := StNew.next HR2.out (below_alloc w2 (.cells #[.slice rc nc kc, .slice ri ni ki, .slice ro no ko] 35)); rw [HNC.out, HNI.out, HNO.out] at this; exact this) (Nat.le_refl _) (by rw [HNP.out]; exact hown5) hgr5 hpos5 w4.heap.size
        have hX5 := (HX.out.next hbA).grown hgr5 (fun e => Nat.lt_irrefl _ (HVG.out _ e.symm))
        obtain ⟨a5, c5, rfl⟩ := own_form hown5
        have g0 := f1.cell 0
        have g1 := f1.free 0
        simp only [List.getElem?_toArray, List.getElem?_cons_zero] at g0
        have F5 := Lib.hid f5
        have F3 := Lib.hid f3
        have F4 := Lib.hid f4
        have HX5 := Lib.hid hX5
        clear f1 f3 f4 f5 hown5 hgr5 hpos5 hX5 hbA
        go_simp
        refine hK.out _ _ (HSS.out _ HX5.out) (fun hS => ?_)
        clear hK K
        refine wpAnyH_ready (rs := [5]) (by kernel_rfl) (by simp) ?_
        refine AllReadyH.cons rfl (fun K hK => ?_) AllReadyH.nil
        go_simp
        refine hK.out _ _ (HSS.out _ (blk_st HX5.out HBN.out)) (fun hS => ?_)
        clear hK K
        refine wpAnyH_done (by kernel_rfl) ?_ _
        exact ⟨F3.out, F4.out, F5.out⟩
  case done =>
    rintro D1 O1 Wa hD hI1 hK1
    obtain ⟨vl, hgot, hcoll0⟩ := hI1.got
    have hcoll := hcoll0.free
    have hn8 := HN8.out
    have hw2 := H2.out.size
    have hbw : Below W0.heap.size W0 Wa := H4.out.trans (hI1.bel.mono (by omega))
    have hk7 : Blk Wa w2.heap.size 27 #[.slice none 0 0] := (hI1.bel.block _ (by omega)).trans HK7.out
    have HBW := Lib.hid hbw
    have HGOT := Lib.hid hgot
    have HCO := Lib.hid hcoll
    have HK1 := Lib.hid hK1
    have HK7' := Lib.hid hk7
    have HW2 : Hid (W0.heap.size ≤ w2.heap.size ∧ w2.heap.size + 1 = n8) := ⟨hw2, hn8⟩
    have HD1 : Hid (n8 < D1) := by have := H41.out; show n8 < D1; omega
    obtain ⟨⟨x1, x2, x3⟩, x4⟩ := HC.out _ hbw
    clear hI1 hgot hcoll hcoll0 hbw hK1 hk7 hn8 hw2 hD
    go_wp2_with fail
    refine (all_any D _ v' le' inp' Wa (HD.out Wa HBW.out) HSB.out.val ⟨by omega, by have := HSB.out.v1000; omega⟩ ⟨by omega, by have := HSB.out.le1000; omega⟩ ⟨by omega, by have := HSB.out.inp1000; omega⟩).mono ?_
    rintro e w6 ⟨lb2, O2, rfl, hb6, hO2, hseq2⟩
    obtain ⟨kk, hkk⟩ : ∃ k : Nat, x = (k : Int) := ⟨x.toNat, by have := HXX.out; omega⟩
    subst hkk
    have HKK : Hid (kk ≤ 255) := by have := HXX.out; show kk ≤ 255; omega
    obtain ⟨lv, hlv⟩ : ∃ lv, lv + 1 = Wa.heap.size := ⟨Wa.heap.size - 1, by have := HK7'.out.lt; omega⟩
    have HO2 : Hid (∀ b, O2 b → Wa.heap.size ≤ b ∧ b < w6.heap.size) := fun b hb => by have := hO2 b hb; omega
    have hseq3 : ∀ n, SeqMem Fence.wide n Try.prog 32 lb2 ArgAt L O2 w6 := by rw [← HLL.out]; exact hseq2
    have HSEQ2 := Lib.hid hseq3
    have HB6 := Lib.hid hb6
    have HLV := Lib.hid hlv
    have HS6 : Hid (Wa.heap.size ≤ w6.heap.size) := hb6.size
    clear hO2 hseq2 hseq3 hb6 hlv x1 x2 x3 x4
    go_wp2_with fail
    refine (wpIn_wide (n := 3)).1 ?_
    refine range_mem (F := Fence.wide) rfl (by decide) (gf := 32) (lb := lb2) rfl trivial (enters_of Try.func32 (by kernel_rfl) rfl) (Arg := ArgAt) (HSEQ2.out _) (Below.refl _ _) (fun b hb => (HO2.out b hb).2)
      (fun pre O W => CoJ Wa w2.heap.size lv pre O W ∧ pre = L.take pre.length ∧ pre.length ≤ kk)
      (fun c xs W => c = .exit 2 ∧ ∃ pre O, CoJ Wa w2.heap.size lv pre O W ∧ pre = L.take pre.length ∧ pre.length = kk ∧ kk < L.length)
      ?oi ?ox ?bi ?st
      (fun v q O a' W => ∃ A preA Bx ac cc ai ci ao co, CoJ Wa w2.heap.size lv preA O A ∧ preA = L.take preA.length ∧ Stays A W ∧ A.heap.size ≤ Bx ∧ StNew A.heap.size W (.agg #[.slice ac q.cells.length cc, .slice ai q.inp.length ci, .slice ao q.out.length co]) q ∧ Blk W Bx 35 #[.slice ac q.cells.length cc, .slice ai q.inp.length ci, .slice ao q.out.length co] ∧ ∃ J : Nat → Value, a' = { tmps := #[.slice ad nd cd, J 1, J 2, J 3, .pointer (some ⟨w.heap.size, 0, none⟩), .pointer (some ⟨w.heap.size + 1, 0, none⟩), J 6, .pointer (some ⟨w2.heap.size, 0, none⟩), .pointer (some ⟨n8, 0, none⟩), J 9, .pointer (some ⟨Bx, 0, none⟩), J 11, J 12, J 13, J 14, J 15, J 16, J 17, J 18, J 19, J 20, J 21, J 22, J 23, J 24, J 25, J 26, J 27, J 28, J 29, J 30, J 31, J 32, J 33, J 34, J 35, .agg #[.slice ac q.cells.length cc, .slice ai q.inp.length ci, .slice ao q.out.length co], J 37, J 38, J 39, J 40, J 41, J 42, J 43, J 44, J 45, J 46, J 47, J 48, J 49, J 50, J 51, J 52, J 53, J 54, J 55, J 56, J 57, J 58, J 59, J 60, J 61, J 62, J 63, J 64, J 65, J 66, J 67, J 68, J 69, J 70, J 71, J 72, J 73, J 74, J 75, J 76, J 77, J 78, J 79, J 80, J 81, J 82, J 83, J 84, J 85, J 86, J 87, J 88, J 89, J 90, J 91, J 92, J 93], defers := [] })
      ?ax2 ?assign2 ?body2 ?done2 ?stop2
    case oi => exact fun O pre A A' row h hg hr => ⟨CoJ.own HS6.out O pre A A' row h.1 hg hr, h.2⟩
    case ox =>
      rintro c pre A A' row ⟨e, p, O, h, r⟩ hg hr
      exact ⟨e, p, O, CoJ.own HS6.out O p A A' row h hg hr, r⟩
    case bi => exact fun pre O O' A A' h hgr => ⟨CoJ.bides _ _ _ _ _ _ _ _ h.1 hgr, h.2⟩
    case st => exact ⟨⟨⟨_, HK7'.out.next HB6.out, Coll.nil _ _ _⟩, HO2.out, Touch.of_below HB6.out, HK7'.out.lt, HLV.out⟩, by simp, Nat.zero_le _⟩
    case ax2 =>
      rintro v q O a' ⟨⟩ W W' row ⟨A, preA, Bx, ac, cc, ai, ci, ao, co, h1, h2, h3, h4, h5, h6, h7⟩ hg hr
      exact ⟨A, preA, Bx, ac, cc, ai, ci, ao, co, h1, h2, h3.row hg hr, h4, h5.row hg hr, h6.row hg hr, h7⟩
    case assign2 =>
      rintro l pre v q O A W K hIA hbA ⟨-, -, hst⟩ hI hK
      obtain ⟨ac, cc, ai, ci, ao, co, rfl⟩ := hst.form
      have HST := Lib.hid hst
      have HI := Lib.hid hI
      have HIA := Lib.hid hIA
      have HBA := Lib.hid hbA
      have HK2 := Lib.hid hK
      clear hst hI hK hIA hbA
      gi_wp2
      exact HK2.out _ _ ((KeepsOthers.alloc _ _).from _) (leaves_below (below_alloc _ _) (fun j hj => (HI.out.1.old j hj).2)) ⟨(CoJ.own (Nat.le_refl _) O).alloc _ HI.out.1, HI.out.2⟩ ⟨A, pre, W.heap.size, ac, cc, ai, ci, ao, co, HIA.out.1, HIA.out.2.1, (Stays.of_below HBA.out).next (below_alloc _ _), HBA.out.size, HST.out.next (below_alloc _ _), Blk.new _ _ _, junkS (by kernel_rfl)⟩
    case body2 =>
      rintro l pre v q O a' W hl ⟨r, hr⟩ ⟨hI0, hpt, hpk⟩ ⟨A, preA, Bx, ac, cc, ai, ci, ao, co, hA, hpA, hsA, hABx, hst, hX, J, rfl⟩ hget
      have hI := ck_wide hA hsA hI0 hpA hpt
      obtain ⟨hq1, hq2, hq3, -⟩ := HLOK.out.2 q (List.mem_of_getElem? hget)
      have hpl : pre.length < 500 := Nat.lt_of_lt_of_le (List.getElem?_eq_some_iff.1 hget).1 HLOK.out.1
      have hcl := sclone_any q _ W.drew ((hst.next (below_drew (Below.refl W.heap.size W))).at_ hq1) hq2 (by have := HSB.out.six; omega)
      obtain ⟨v, hgot, ts, hts, hown, hvo, htt⟩ := id hI.got
      obtain ⟨ag, cg, rfl⟩ := own_form hown
      obtain ⟨vs, hvs, hwr⟩ := Wr.of_st hst (Nat.le_refl _)
      obtain ⟨np, hnp⟩ : ∃ np, pre.length = np := ⟨_, rfl⟩
      obtain ⟨nc, hnc⟩ : ∃ np, q.cells.length = np := ⟨_, rfl⟩
      obtain ⟨ni, hni⟩ : ∃ np, q.inp.length = np := ⟨_, rfl⟩
      obtain ⟨no, hno⟩ : ∃ np, q.out.length = np := ⟨_, rfl⟩
      have hn6 : nc ≤ 6 := by have := HSB.out.six; omega
      have htk : pre ++ [q] = L.take (pre ++ [q]).length := by
        have e : (pre ++ [q]).length = pre.length + 1 := by simp
        rw [e, List.take_add_one, hget, ← hpt]; rfl
      have hxk : W.cell? ⟨w.heap.size + 1, 0, none⟩ = some (.int .u8 (kk : Int)) := cell_touch hI0.bel (by have := HW2.out.1; have := HS0.out; show ¬ w.heap.size + 1 = w2.heap.size; omega) (HC.out _ HBW.out).2
      have hlL : pre.length < L.length := (List.getElem?_eq_some_iff.1 hget).1
      rw [hnp] at hpl hown hgot hvo hpk hlL
      rw [hnc] at hvs
      rw [hnc, hni, hno] at hX hcl hst ⊢
      rw [hni] at hwr
      have HN6 := Lib.hid hn6
      have HTK := Lib.hid htk
      have HPK := Lib.hid hpk
      have HLL2 := Lib.hid hlL
      have HVS := Lib.hid hvs
      have HWR := Lib.hid hwr
      have HAA := Lib.hid hA
      have HI0 := Lib.hid hI0
      have HPT := Lib.hid hpt
      have HST := Lib.hid hst
      have HABX := Lib.hid hABx
      have x0 := hX.cell 0
      have x0' := hX.cell 1
      have x0'' := hX.cell 2
      have x1 := hgot.cell 0
      have x2 := hgot.free 0
      simp only [List.getElem?_toArray, List.getElem?_cons_zero, List.getElem?_cons_succ] at x0 x0' x0'' x1
      have HCL := Lib.hid hcl
      have HI := Lib.hid hI
      have HTS := Lib.hid hts
      have HTT := Lib.hid htt
      have HOWN := Lib.hid hown
      have HGOT := Lib.hid hgot
      have HGL := Lib.hid hgot.lt
      have HVO := Lib.hid hvo
      have HX := Lib.hid hX
      have HNP := Lib.hid hnp
      have HNC := Lib.hid hnc
      have HNI := Lib.hid hni
      have HNO := Lib.hid hno
      have HBN : Hid (Bx ≠ w2.heap.size) := fun e => by have := hA.bel.size; have := hA.lt; omega
      have HSS : Hid (∀ w', Blk w' Bx 35 #[.slice ac nc cc, .slice ai ni ci, .slice ao no co] → w'.cell? ⟨Bx, 0, none⟩ = some (.slice ac nc cc) ∧ w'.cell? ⟨Bx, 1, none⟩ = some (.slice ai ni ci) ∧ w'.cell? ⟨Bx, 2, none⟩ = some (.slice ao no co)) := fun w' h => ⟨h.cell 0, h.cell 1, h.cell 2⟩
      have u1 : IntKind.i64.wrap (kk : Int) = (kk : Int) := IntWalk.i64_in _ (by have := HKK.out; omega)
      clear hst hcl hI hI0 hts htt hown hgot hvo hX hget hnp hq1 hq2 hq3 hnc hni hno hvs hwr hA hpt hpA hsA hABx hn6 htk hpk hlL
      obtain ⟨i0, hi, hz0, hz1, hz2⟩ := info_parts stateInfo
      by_cases hne : np = kk
      · have e1 : ((np : Int) == (kk : Int)) = true := by simp; omega
        have HNE := Lib.hid hne
        clear hne
        gi_wp2
        exact ⟨keeps_below (Below.refl _ _) _, rfl, pre, O, HI0.out, HPT.out, by rw [HNP.out]; exact HNE.out, by rw [← HNE.out]; exact HLL2.out⟩
      · have e1 : ((np : Int) == (kk : Int)) = false := by simp; omega
        have HNE := Lib.hid hne
        clear hne
        gi_upto_region 10 with (fail)
        gi_cut [] from 42 (fun wc => KeepsFrom w6.heap.size W wc ∧ Leaves (HandB O A.heap.size W.heap.size) W wc ∧ CoJ Wa w2.heap.size lv (pre ++ [q]) (HandB O A.heap.size W.heap.size) wc)
        case first =>
          refine round_held (fun w' => w'.cell? ⟨Bx, 0, none⟩ = some (.slice ac nc cc) ∧ w'.cell? ⟨Bx, 1, none⟩ = some (.slice ai ni ci) ∧ w'.cell? ⟨Bx, 2, none⟩ = some (.slice ao no co)) (by kernel_rfl) (by kernel_rfl) ⟨x0, x0', x0''⟩ (fun hS => ?_)
          refine wpAnyH_take (i := 1) (v := .agg #[.slice ac nc cc, .slice ai ni ci, .slice ao no co]) rfl (by kernel_rfl) (by kernel_rfl) (by kernel_rfl) (fun _ _ _ h => h) (Or.inl ⟨by rfl, fun w0 hw0 => by obtain ⟨s0, s1, s2⟩ := hw0; go_simp⟩) hS ?_
          go_simp
          refine wpAnyH_ready (rs := [0, 2]) (by kernel_rfl) (by simp) ?_
          refine AllReadyH.cons rfl (fun K hK => ?_) (AllReadyH.cons rfl (fun K hK => ?_) AllReadyH.nil)
          · go_simp
            refine hK.out _ _ hS (fun hS => ?_)
            clear hK K
            refine wpAnyH_ready (rs := [2]) (by kernel_rfl) (by simp) ?_
            refine AllReadyH.cons rfl (fun K hK => ?_) AllReadyH.nil
            go_simp
            refine HCL.out.mono ?_
            rintro e w2 ⟨r, rfl, hr2, hb2⟩
            obtain ⟨rc, kc, ri, ki, ro, ko, rfl⟩ := hr2.form
            have HR2 := Lib.hid hr2
            have HB2 := Lib.hid (below_next (below_drew (Below.refl W.heap.size W)) (Nat.le_refl _) hb2)
            have hx1 := cell_below HB2.out HGL.out x1
            have hs2 := HB2.out.size
            rw [HNC.out, HNI.out, HNO.out]
            clear hr2 hb2
            refine hK.out _ _ (HSS.out _ (HX.out.next HB2.out)) (fun hS => ?_)
            clear hK K
            refine wpAnyH_ready (rs := [3]) (by kernel_rfl) (by simp) ?_
            refine AllReadyH.cons rfl (fun K hK => ?_) AllReadyH.nil
            go_simp
            refine hK.out _ _ (HSS.out _ ((HX.out.next HB2.out).next (below_alloc _ _))) (fun hS => ?_)
            clear hK K
            have hx2 := alloc_cell hx1 (.cells #[.slice rc nc kc, .slice ri ni ki, .slice ro no ko] 35)
            refine wpAnyH_ready (rs := [4]) (by kernel_rfl) (by simp) ?_
            refine AllReadyH.cons rfl (fun K hK => ?_) AllReadyH.nil
            refine step_append_own2 (w2.alloc (.cells #[.slice rc nc kc, .slice ri ni ki, .slice ro no ko] 35)) rfl (.tmp 42) (.tmp 45) 27 rfl (lv + 1) 35 i0 (.agg #[.slice none 0 0, .slice none 0 0, .slice none 0 0]) 3 72 Try.underlying27 hi hz0 hz1 hz2 rfl (by decide) (.slice ag np cg) np _ rfl ((own_below HOWN.out HB2.out).alloc _) ⟨w2.heap.size, 0, none⟩ 1 1 [.slice rc nc kc, .slice ri ni ki, .slice ro no ko] rfl rfl (cell_three_new w2 _ _ _ _) (by intro u hu; simp only [List.mem_cons, List.not_mem_nil, or_false] at hu; rcases hu with rfl | rfl | rfl <;> rfl) (by decide) (by unfold maxLen; omega) (by omega) (by have := HGL.out; have := HLV.out; have := HI0.out.bel.size; simp; omega) ?_
            intro v5 w5 hown5 hgr5 hpos5
            have hbA : Below W.heap.size W (w2.alloc (.cells #[.slice rc nc kc, .slice ri ni ki, .slice ro no ko] 35)) := below_next HB2.out (Nat.le_refl _) (below_alloc _ _)
            obtain ⟨f1, f3, f4, f5⟩ := cj_fin HI.out hbA HGOT.out HTS.out (by rw [HNP.out]; exact HOWN.out) HVO.out HTT.out (hs := by have := StNew.next HR2.out (below_alloc w2 (.cells #[.slice rc nc kc, .slice ri ni ki, .slice ro no ko] 35)); rw [HNC.out, HNI.out, HNO.out] at this; exact this) (Nat.le_refl _) (by rw [HNP.out]; exact hown5) hgr5 hpos5 w6.heap.size
            have hX5 := (HX.out.next hbA).grown hgr5 (fun e => HVO.out Bx (.inr ⟨HABX.out, HX.out.lt⟩) e.symm)
            obtain ⟨a5, c5, rfl⟩ := own_form hown5
            have g0 := f1.cell 0
            have g1 := f1.free 0
            simp only [List.getElem?_toArray, List.getElem?_cons_zero] at g0
            have F5 := Lib.hid f5
            have F3 := Lib.hid f3
            have F4 := Lib.hid f4
            have HX5 := Lib.hid hX5
            clear f1 f3 f4 f5 hown5 hgr5 hpos5 hX5 hbA
            go_simp
            refine hK.out _ _ (HSS.out _ HX5.out) (fun hS => ?_)
            clear hK K
            refine wpAnyH_ready (rs := [5]) (by kernel_rfl) (by simp) ?_
            refine AllReadyH.cons rfl (fun K hK => ?_) AllReadyH.nil
            go_simp
            refine hK.out _ _ (HSS.out _ (blk_st HX5.out HBN.out)) (fun hS => ?_)
            clear hK K
            refine wpAnyH_done (by kernel_rfl) ?_ _
            simp only [NormalOnly]
            gi_wp2_with fail
            gi_meet
            exact ⟨F3.out, F4.out, F5.out⟩
          · go_simp
            refine HCL.out.mono ?_
            rintro e w2 ⟨r, rfl, hr2, hb2⟩
            obtain ⟨rc, kc, ri, ki, ro, ko, rfl⟩ := hr2.form
            have HR2 := Lib.hid hr2
            have HB2 := Lib.hid (below_next (below_drew (Below.refl W.heap.size W)) (Nat.le_refl _) hb2)
            have hx1 := cell_below HB2.out HGL.out x1
            have hs2 := HB2.out.size
            rw [HNC.out, HNI.out, HNO.out]
            clear hr2 hb2
            refine hK.out _ _ (HSS.out _ (HX.out.next HB2.out)) (fun hS => ?_)
            clear hK K
            refine wpAnyH_ready (rs := [0, 3]) (by kernel_rfl) (by simp) ?_
            refine AllReadyH.cons rfl (fun K hK => ?_) (AllReadyH.cons rfl (fun K hK => ?_) AllReadyH.nil)
            · go_simp
              refine hK.out _ _ hS (fun hS => ?_)
              clear hK K
              refine wpAnyH_ready (rs := [3]) (by kernel_rfl) (by simp) ?_
              refine AllReadyH.cons rfl (fun K hK => ?_) AllReadyH.nil
              go_simp
              refine hK.out _ _ (HSS.out _ ((HX.out.next HB2.out).next (below_alloc _ _))) (fun hS => ?_)
              clear hK K
              have hx2 := alloc_cell hx1 (.cells #[.slice rc nc kc, .slice ri ni ki, .slice ro no ko] 35)
              refine wpAnyH_ready (rs := [4]) (by kernel_rfl) (by simp) ?_
              refine AllReadyH.cons rfl (fun K hK => ?_) AllReadyH.nil
              refine step_append_own2 (w2.alloc (.cells #[.slice rc nc kc, .slice ri ni ki, .slice ro no ko] 35)) rfl (.tmp 42) (.tmp 45) 27 rfl (lv + 1) 35 i0 (.agg #[.slice none 0 0, .slice none 0 0, .slice none 0 0]) 3 72 Try.underlying27 hi hz0 hz1 hz2 rfl (by decide) (.slice ag np cg) np _ rfl ((own_below HOWN.out HB2.out).alloc _) ⟨w2.heap.size, 0, none⟩ 1 1 [.slice rc nc kc, .slice ri ni ki, .slice ro no ko] rfl rfl (cell_three_new w2 _ _ _ _) (by intro u hu; simp only [List.mem_cons, List.not_mem_nil, or_false] at hu; rcases hu with rfl | rfl | rfl <;> rfl) (by decide) (by unfold maxLen; omega) (by omega) (by have := HGL.out; have := HLV.out; have := HI0.out.bel.size; simp; omega) ?_
              intro v5 w5 hown5 hgr5 hpos5
              have hbA : Below W.heap.size W (w2.alloc (.cells #[.slice rc nc kc, .slice ri ni ki, .slice ro no ko] 35)) := below_next HB2.out (Nat.le_refl _) (below_alloc _ _)
              obtain ⟨f1, f3, f4, f5⟩ := cj_fin HI.out hbA HGOT.out HTS.out (by rw [HNP.out]; exact HOWN.out) HVO.out HTT.out (hs := by have := StNew.next HR2.out (below_alloc w2 (.cells #[.slice rc nc kc, .slice ri ni ki, .slice ro no ko] 35)); rw [HNC.out, HNI.out, HNO.out] at this; exact this) (Nat.le_refl _) (by rw [HNP.out]; exact hown5) hgr5 hpos5 w6.heap.size
              have hX5 := (HX.out.next hbA).grown hgr5 (fun e => HVO.out Bx (.inr ⟨HABX.out, HX.out.lt⟩) e.symm)
              obtain ⟨a5, c5, rfl⟩ := own_form hown5
              have g0 := f1.cell 0
              have g1 := f1.free 0
              simp only [List.getElem?_toArray, List.getElem?_cons_zero] at g0
              have F5 := Lib.hid f5
              have F3 := Lib.hid f3
              have F4 := Lib.hid f4
              have HX5 := Lib.hid hX5
              clear f1 f3 f4 f5 hown5 hgr5 hpos5 hX5 hbA
              go_simp
              refine hK.out _ _ (HSS.out _ HX5.out) (fun hS => ?_)
              clear hK K
              refine wpAnyH_ready (rs := [5]) (by kernel_rfl) (by simp) ?_
              refine AllReadyH.cons rfl (fun K hK => ?_) AllReadyH.nil
              go_simp
              refine hK.out _ _ (HSS.out _ (blk_st HX5.out HBN.out)) (fun hS => ?_)
              clear hK K
              refine wpAnyH_done (by kernel_rfl) ?_ _
              simp only [NormalOnly]
              gi_wp2_with fail
              gi_meet
              exact ⟨F3.out, F4.out, F5.out⟩
            · go_simp
              refine hK.out _ _ (HSS.out _ ((HX.out.next HB2.out).next (below_alloc _ _))) (fun hS => ?_)
              clear hK K
              have hx2 := alloc_cell hx1 (.cells #[.slice rc nc kc, .slice ri ni ki, .slice ro no ko] 35)
              refine wpAnyH_ready (rs := [0]) (by kernel_rfl) (by simp) ?_
              refine AllReadyH.cons rfl (fun K hK => ?_) AllReadyH.nil
              go_simp
              refine hK.out _ _ hS (fun hS => ?_)
              clear hK K
              refine wpAnyH_ready (rs := [4]) (by kernel_rfl) (by simp) ?_
              refine AllReadyH.cons rfl (fun K hK => ?_) AllReadyH.nil
              refine step_append_own2 (w2.alloc (.cells #[.slice rc nc kc, .slice ri ni ki, .slice ro no ko] 35)) rfl (.tmp 42) (.tmp 45) 27 rfl (lv + 1) 35 i0 (.agg #[.slice none 0 0, .slice none 0 0, .slice none 0 0]) 3 72 Try.underlying27 hi hz0 hz1 hz2 rfl (by decide) (.slice ag np cg) np _ rfl ((own_below HOWN.out HB2.out).alloc _) ⟨w2.heap.size, 0, none⟩ 1 1 [.slice rc nc kc, .slice ri ni ki, .slice ro no ko] rfl rfl (cell_three_new w2 _ _ _ _) (by intro u hu; simp only [List.mem_cons, List.not_mem_nil, or_false] at hu; rcases hu with rfl | rfl | rfl <;> rfl) (by decide) (by unfold maxLen; omega) (by omega) (by have := HGL.out; have := HLV.out; have := HI0.out.bel.size; simp; omega) ?_
              intro v5 w5 hown5 hgr5 hpos5
              have hbA : Below W.heap.size W (w2.alloc (.cells #[.slice rc nc kc, .slice ri ni ki, .slice ro no ko] 35)) := below_next HB2.out (Nat.le_refl _) (below_alloc _ _)
              obtain ⟨f1, f3, f4, f5⟩ := cj_fin HI.out hbA HGOT.out HTS.out (by rw [HNP.out]; exact HOWN.out) HVO.out HTT.out (hs := by have := StNew.next HR2.out (below_alloc w2 (.cells #[.slice rc nc kc, .slice ri ni ki, .slice ro no ko] 35)); rw [HNC.out, HNI.out, HNO.out] at this; exact this) (Nat.le_refl _) (by rw [HNP.out]; exact hown5) hgr5 hpos5 w6.heap.size
              have hX5 := (HX.out.next hbA).grown hgr5 (fun e => HVO.out Bx (.inr ⟨HABX.out, HX.out.lt⟩) e.symm)
              obtain ⟨a5, c5, rfl⟩ := own_form hown5
              have g0 := f1.cell 0
              have g1 := f1.free 0
              simp only [List.getElem?_toArray, List.getElem?_cons_zero] at g0
              have F5 := Lib.hid f5
              have F3 := Lib.hid f3
              have F4 := Lib.hid f4
              have HX5 := Lib.hid hX5
              clear f1 f3 f4 f5 hown5 hgr5 hpos5 hX5 hbA
              go_simp
              refine hK.out _ _ (HSS.out _ HX5.out) (fun hS => ?_)
              clear hK K
              refine wpAnyH_ready (rs := [5]) (by kernel_rfl) (by simp) ?_
              refine AllReadyH.cons rfl (fun K hK => ?_) AllReadyH.nil
              go_simp
              refine hK.out _ _ (HSS.out _ (blk_st HX5.out HBN.out)) (fun hS => ?_)
              clear hK K
              refine wpAnyH_done (by kernel_rfl) ?_ _
              simp only [NormalOnly]
              gi_wp2_with fail
              gi_meet
              exact ⟨F3.out, F4.out, F5.out⟩
        case rest =>
        obtain ⟨hk, hl, hc⟩ := hcut
        obtain ⟨w8, hw8⟩ : ∃ w' : World, w' = wc := ⟨_, rfl⟩
        subst hw8
        have HK := Lib.hid hk
        have HL := Lib.hid hl
        have HCC := Lib.hid hc
        have HXC : Hid (Blk w8 Bx 35 #[.slice ac nc cc, .slice ai ni ci, .slice ao no co]) := (hl.2 Bx (.inr ⟨HABX.out, HX.out.lt⟩)).trans HX.out
        have HVC : Hid (w8.ownsRow A.heap.size 33 1 (.slice ac nc cc) nc vs) := own_same HVS.out (Nat.le_refl _) (fun j cs e1 e2 e3 => hl.2 j (.inr ⟨e2, (Array.getElem?_eq_some_iff.1 e3).1⟩))
        have HWC : Hid (∀ x ∈ vs ++ [.slice ai ni ci], Wr A.heap.size W.heap.size w8 x) := fun x hx => (HWR.out x hx).next (fun j h1 h2 => hl.2 j (.inr ⟨h1, h2⟩))
        have HWS : Hid (W.heap.size ≤ w8.heap.size) := hl.1
        clear hk hl hc x0 x0' x0'' x1 x2 hxk u1 e1 hi hz0 hz1 hz2
        obtain ⟨N, hN⟩ : ∃ N, nc + 1 = N := ⟨_, rfl⟩
        have HN := Lib.hid hN
        clear hN
        gi_upto_region 11 with (fail)
        gi_cut [54, 55, 56] from 47 (fun r n i wd => ∃ a c, r = .slice a N c ∧ n = .int .i64 (N : Int) ∧ i = .int .i64 0 ∧ WrRows A.heap.size W.heap.size wd a N ∧ Below w8.heap.size w8 wd)
        case first =>
          have HSS2 : Hid (∀ w', Below w8.heap.size w8 w' → w'.cell? ⟨Bx, 0, none⟩ = some (.slice ac nc cc) ∧ w'.cell? ⟨Bx, 1, none⟩ = some (.slice ai ni ci)) := fun w' hb => ⟨(HXC.out.next hb).cell 0, (HXC.out.next hb).cell 1⟩
          obtain ⟨i0, hi, hz0, hz1, hz2⟩ := info_parts rowInfo
          have HXD : Hid (Below w8.heap.size w8 w8.drew) := below_drew (Below.refl _ _)
          have HON : Hid (∀ x ∈ vs, x.oneCell' = true) := fun x hx => (HWC.out x (List.mem_append.2 (.inl hx))).one
          have HOI : Hid ((Value.slice ai ni ci).oneCell' = true) := rfl
          have hn6 := HN6.out
          refine round_held (fun w' => w'.cell? ⟨Bx, 0, none⟩ = some (.slice ac nc cc) ∧ w'.cell? ⟨Bx, 1, none⟩ = some (.slice ai ni ci)) (by kernel_rfl) (by kernel_rfl) (HSS2.out _ HXD.out) (fun hS => ?_)
          refine wpAnyH_take (i := 1) (v := .pointer (some ⟨Bx, 0, none⟩)) rfl (by kernel_rfl) (by kernel_rfl) (by kernel_rfl) (fun _ _ _ h => h) (Or.inl ⟨by rfl, fun w0 hw0 => by obtain ⟨s0, s1⟩ := hw0; go_simp⟩) hS ?_
          go_simp
          refine wpAnyH_take (i := 2) (v := .slice ac nc cc) rfl (by kernel_rfl) (by kernel_rfl) (by kernel_rfl) (fun _ _ _ h => h) (Or.inl ⟨by rfl, fun w0 hw0 => by obtain ⟨s0, s1⟩ := hw0; go_simp⟩) hS ?_
          go_simp
          refine wpAnyH_take (i := 4) (v := .pointer (some ⟨Bx, 1, none⟩)) rfl (by kernel_rfl) (by kernel_rfl) (by kernel_rfl) (fun _ _ _ h => h) (Or.inl ⟨by rfl, fun w0 hw0 => by obtain ⟨s0, s1⟩ := hw0; go_simp⟩) hS ?_
          go_simp
          refine wpAnyH_take (i := 5) (v := .slice ai ni ci) rfl (by kernel_rfl) (by kernel_rfl) (by kernel_rfl) (fun _ _ _ h => h) (Or.inl ⟨by rfl, fun w0 hw0 => by obtain ⟨s0, s1⟩ := hw0; go_simp⟩) hS ?_
          go_simp
          refine wpAnyH_take (i := 9) (v := .int .i64 0) rfl (by kernel_rfl) (by kernel_rfl) (by kernel_rfl) (fun _ _ _ h => h) (Or.inl ⟨by rfl, fun w0 hw0 => by obtain ⟨s0, s1⟩ := hw0; go_simp⟩) hS ?_
          go_simp
          refine wpAnyH_ready (rs := [0, 6]) (by kernel_rfl) (by simp) ?_
          refine AllReadyH.cons rfl (fun K hK => ?_) (AllReadyH.cons rfl (fun K hK => ?_) AllReadyH.nil)
          · go_simp
            refine hK.out _ _ (HSS2.out _ (below_next HXD.out (Nat.le_refl _) (below_alloc _ _))) (fun hS => ?_)
            clear hK K
            have HXA : Hid (Below w8.heap.size w8 (w8.drew.alloc (.cells #[] 33))) := below_next HXD.out (Nat.le_refl _) (below_alloc _ _)
            have HOW : Hid ((w8.drew.alloc (.cells #[] 33)).ownsRow w8.heap.size 33 1 (.slice (some ⟨w8.heap.size, 0, none⟩) 0 0) 0 []) := World.ownsRow_made w8.drew #[] 0 HXD.out.size (by decide) rfl
            refine wpAnyH_ready (rs := [3, 6]) (by kernel_rfl) (by simp) ?_
            refine AllReadyH.cons rfl (fun K hK => ?_) (AllReadyH.cons rfl (fun K hK => ?_) AllReadyH.nil)
            · refine step_append_ownrow (w8.drew.alloc (.cells #[] 33)) rfl (.tmp 47) (.tmp 49) rfl w8.heap.size (.slice (some ⟨w8.heap.size, 0, none⟩) 0 0) 0 [] rfl HOW.out A.heap.size (.slice ac nc cc) nc vs rfl (own_below HVC.out HXA.out) HON.out (by omega) HXA.out.size ?_
              intro v4 w4 hown4 hgr4
              rw [Nat.zero_add, List.nil_append] at hown4
              have HOWN4 := Lib.hid hown4
              have HGR4 := Lib.hid hgr4
              have HX4 : Hid (Below w8.heap.size w8 w4) := HXA.out.grown hgr4 HXA.out.size (fun j e => by injection e with e; have := (HOW.out.lt j (by rw [← e]; rfl)).1; omega)
              obtain ⟨a4, k4, rfl⟩ := own_form hown4
              clear hown4 hgr4
              go_simp
              refine hK.out _ _ (HSS2.out _ (HX4.out)) (fun hS => ?_)
              clear hK K
              refine wpAnyH_ready (rs := [6]) (by kernel_rfl) (by simp) ?_
              refine AllReadyH.cons rfl (fun K hK => ?_) AllReadyH.nil
              go_simp
              refine hK.out _ _ (HSS2.out _ (below_next HX4.out (Nat.le_refl _) (below_alloc _ _))) (fun hS => ?_)
              clear hK K
              have HXB : Hid (Below w8.heap.size w8 (w4.alloc (.cells #[.slice ai ni ci] 33))) := below_next HX4.out (Nat.le_refl _) (below_alloc _ _)
              have HOWB : Hid ((w4.alloc (.cells #[.slice ai ni ci] 33)).ownsRow w8.heap.size 33 1 (.slice a4 nc k4) nc vs) := HOWN4.out.alloc _
              have HCB : Hid ((w4.alloc (.cells #[.slice ai ni ci] 33)).cell? ⟨w4.heap.size, 0, none⟩ = some (.slice ai ni ci)) := (Blk.new _ _ _).cell 0
              refine wpAnyH_ready (rs := [7]) (by kernel_rfl) (by simp) ?_
              refine AllReadyH.cons rfl (fun K hK => ?_) AllReadyH.nil
              refine step_append_own2 (w4.alloc (.cells #[.slice ai ni ci] 33)) rfl (.tmp 50) (.tmp 53) 32 rfl w8.heap.size 33 i0 (.slice none 0 0) 1 24 Try.underlying32 hi hz0 hz1 hz2 rfl (by decide) (.slice a4 nc k4) nc vs rfl HOWB.out ⟨w4.heap.size, 0, none⟩ 1 1 [.slice ai ni ci] rfl rfl (cell_one HCB.out) (by intro u hu; simp only [List.mem_cons, List.not_mem_nil, or_false] at hu; rcases hu with rfl; rfl) (by decide) (by unfold maxLen; omega) (by omega) HXB.out.size ?_
              intro v5 w5 hown5 hgr5 hpos5
              have HX5 : Hid (Below w8.heap.size w8 w5) := HXB.out.grown hgr5 HXB.out.size (fun j e => (HOWB.out.lt j e).1)
              rw [HN.out] at hown5
              obtain ⟨a5, c5, rfl⟩ := own_form hown5
              have HROW : Hid (WrRows A.heap.size W.heap.size w5 a5 N) := WrRows.of_own hown5 (by have := HN.out; omega) HWS.out (fun x hx => (HWC.out x hx).next (fun j h1 h2 => HX5.out.block j (by have := HWS.out; omega)))
              clear hown5 hgr5 hpos5
              go_simp
              refine hK.out _ _ (HSS2.out _ (HX5.out)) (fun hS => ?_)
              clear hK K
              refine wpAnyH_ready (rs := [8]) (by kernel_rfl) (by simp) ?_
              refine AllReadyH.cons rfl (fun K hK => ?_) AllReadyH.nil
              go_simp
              refine hK.out _ _ (HSS2.out _ (HX5.out)) (fun hS => ?_)
              clear hK K
              refine wpAnyH_done (by kernel_rfl) ?_ _
              simp only [NormalOnly]
              gi_wp2_with fail
              gi_meet
              exact ⟨_, _, rfl, rfl, rfl, HROW.out, HX5.out⟩
            · go_simp
              refine hK.out _ _ (HSS2.out _ (below_next HXA.out (Nat.le_refl _) (below_alloc _ _))) (fun hS => ?_)
              clear hK K
              have HCB0 : Hid (((w8.drew.alloc (.cells #[] 33)).alloc (.cells #[.slice ai ni ci] 33)).cell? ⟨w8.heap.size + 1, 0, none⟩ = some (.slice ai ni ci)) := (blk_at (by simp) _ _ : Blk _ (w8.heap.size + 1) _ _).cell 0
              have HXA2 : Hid (Below w8.heap.size w8 ((w8.drew.alloc (.cells #[] 33)).alloc (.cells #[.slice ai ni ci] 33))) := below_next HXA.out (Nat.le_refl _) (below_alloc _ _)
              have HOW2 : Hid (((w8.drew.alloc (.cells #[] 33)).alloc (.cells #[.slice ai ni ci] 33)).ownsRow w8.heap.size 33 1 (.slice (some ⟨w8.heap.size, 0, none⟩) 0 0) 0 []) := HOW.out.alloc _
              clear HXA HOW
              have HXA := HXA2
              have HOW := HOW2
              clear HXA2 HOW2
              refine wpAnyH_ready (rs := [3]) (by kernel_rfl) (by simp) ?_
              refine AllReadyH.cons rfl (fun K hK => ?_) AllReadyH.nil
              refine step_append_ownrow ((w8.drew.alloc (.cells #[] 33)).alloc (.cells #[.slice ai ni ci] 33)) rfl (.tmp 47) (.tmp 49) rfl w8.heap.size (.slice (some ⟨w8.heap.size, 0, none⟩) 0 0) 0 [] rfl HOW.out A.heap.size (.slice ac nc cc) nc vs rfl (own_below HVC.out HXA.out) HON.out (by omega) HXA.out.size ?_
              intro v4 w4 hown4 hgr4
              rw [Nat.zero_add, List.nil_append] at hown4
              have HOWN4 := Lib.hid hown4
              have HGR4 := Lib.hid hgr4
              have HX4 : Hid (Below w8.heap.size w8 w4) := HXA.out.grown hgr4 HXA.out.size (fun j e => by injection e with e; have := (HOW.out.lt j (by rw [← e]; rfl)).1; omega)
              obtain ⟨a4, k4, rfl⟩ := own_form hown4
              clear hown4 hgr4
              go_simp
              refine hK.out _ _ (HSS2.out _ (HX4.out)) (fun hS => ?_)
              clear hK K
              have HXB : Hid (Below w8.heap.size w8 w4) := HX4.out
              have HOWB : Hid (w4.ownsRow w8.heap.size 33 1 (.slice a4 nc k4) nc vs) := HOWN4.out
              have HCB : Hid (w4.cell? ⟨w8.heap.size + 1, 0, none⟩ = some (.slice ai ni ci)) := HGR4.out.cell HCB0.out (by simp [Value.ownBlock])
              refine wpAnyH_ready (rs := [7]) (by kernel_rfl) (by simp) ?_
              refine AllReadyH.cons rfl (fun K hK => ?_) AllReadyH.nil
              refine step_append_own2 (w4) rfl (.tmp 50) (.tmp 53) 32 rfl w8.heap.size 33 i0 (.slice none 0 0) 1 24 Try.underlying32 hi hz0 hz1 hz2 rfl (by decide) (.slice a4 nc k4) nc vs rfl HOWB.out ⟨w8.heap.size + 1, 0, none⟩ 1 1 [.slice ai ni ci] rfl rfl (cell_one HCB.out) (by intro u hu; simp only [List.mem_cons, List.not_mem_nil, or_false] at hu; rcases hu with rfl; rfl) (by decide) (by unfold maxLen; omega) (by omega) HXB.out.size ?_
              intro v5 w5 hown5 hgr5 hpos5
              have HX5 : Hid (Below w8.heap.size w8 w5) := HXB.out.grown hgr5 HXB.out.size (fun j e => (HOWB.out.lt j e).1)
              rw [HN.out] at hown5
              obtain ⟨a5, c5, rfl⟩ := own_form hown5
              have HROW : Hid (WrRows A.heap.size W.heap.size w5 a5 N) := WrRows.of_own hown5 (by have := HN.out; omega) HWS.out (fun x hx => (HWC.out x hx).next (fun j h1 h2 => HX5.out.block j (by have := HWS.out; omega)))
              clear hown5 hgr5 hpos5
              go_simp
              refine hK.out _ _ (HSS2.out _ (HX5.out)) (fun hS => ?_)
              clear hK K
              refine wpAnyH_ready (rs := [8]) (by kernel_rfl) (by simp) ?_
              refine AllReadyH.cons rfl (fun K hK => ?_) AllReadyH.nil
              go_simp
              refine hK.out _ _ (HSS2.out _ (HX5.out)) (fun hS => ?_)
              clear hK K
              refine wpAnyH_done (by kernel_rfl) ?_ _
              simp only [NormalOnly]
              gi_wp2_with fail
              gi_meet
              exact ⟨_, _, rfl, rfl, rfl, HROW.out, HX5.out⟩
          · go_simp
            refine hK.out _ _ (HSS2.out _ (below_next HXD.out (Nat.le_refl _) (below_alloc _ _))) (fun hS => ?_)
            clear hK K
            have HXA1 : Hid (Below w8.heap.size w8 (w8.drew.alloc (.cells #[.slice ai ni ci] 33))) := below_next HXD.out (Nat.le_refl _) (below_alloc _ _)
            refine wpAnyH_ready (rs := [0]) (by kernel_rfl) (by simp) ?_
            refine AllReadyH.cons rfl (fun K hK => ?_) AllReadyH.nil
            go_simp
            refine hK.out _ _ (HSS2.out _ (below_next HXA1.out (Nat.le_refl _) (below_alloc _ _))) (fun hS => ?_)
            clear hK K
            have HXA : Hid (Below w8.heap.size w8 ((w8.drew.alloc (.cells #[.slice ai ni ci] 33)).alloc (.cells #[] 33))) := below_next HXA1.out (Nat.le_refl _) (below_alloc _ _)
            have HOW : Hid (((w8.drew.alloc (.cells #[.slice ai ni ci] 33)).alloc (.cells #[] 33)).ownsRow w8.heap.size 33 1 (.slice (some ⟨w8.heap.size + 1, 0, none⟩) 0 0) 0 []) := by have := World.ownsRow_made (e := 33) (size := 1) (w8.drew.alloc (.cells #[.slice ai ni ci] 33)) #[] 0 HXA1.out.size (by decide) rfl; unfold Hid; simpa using this
            have HCB0 : Hid (((w8.drew.alloc (.cells #[.slice ai ni ci] 33)).alloc (.cells #[] 33)).cell? ⟨w8.heap.size, 0, none⟩ = some (.slice ai ni ci)) := (blk_nx (Blk.new _ _ _) _ : Blk _ w8.heap.size _ _).cell 0
            refine wpAnyH_ready (rs := [3]) (by kernel_rfl) (by simp) ?_
            refine AllReadyH.cons rfl (fun K hK => ?_) AllReadyH.nil
            refine step_append_ownrow ((w8.drew.alloc (.cells #[.slice ai ni ci] 33)).alloc (.cells #[] 33)) rfl (.tmp 47) (.tmp 49) rfl w8.heap.size (.slice (some ⟨w8.heap.size + 1, 0, none⟩) 0 0) 0 [] rfl HOW.out A.heap.size (.slice ac nc cc) nc vs rfl (own_below HVC.out HXA.out) HON.out (by omega) HXA.out.size ?_
            intro v4 w4 hown4 hgr4
            rw [Nat.zero_add, List.nil_append] at hown4
            have HOWN4 := Lib.hid hown4
            have HGR4 := Lib.hid hgr4
            have HX4 : Hid (Below w8.heap.size w8 w4) := HXA.out.grown hgr4 HXA.out.size (fun j e => by injection e with e; have := (HOW.out.lt j (by rw [← e]; rfl)).1; omega)
            obtain ⟨a4, k4, rfl⟩ := own_form hown4
            clear hown4 hgr4
            go_simp
            refine hK.out _ _ (HSS2.out _ (HX4.out)) (fun hS => ?_)
            clear hK K
            have HXB : Hid (Below w8.heap.size w8 w4) := HX4.out
            have HOWB : Hid (w4.ownsRow w8.heap.size 33 1 (.slice a4 nc k4) nc vs) := HOWN4.out
            have HCB : Hid (w4.cell? ⟨w8.heap.size, 0, none⟩ = some (.slice ai ni ci)) := HGR4.out.cell HCB0.out (by simp [Value.ownBlock])
            refine wpAnyH_ready (rs := [7]) (by kernel_rfl) (by simp) ?_
            refine AllReadyH.cons rfl (fun K hK => ?_) AllReadyH.nil
            refine step_append_own2 (w4) rfl (.tmp 50) (.tmp 53) 32 rfl w8.heap.size 33 i0 (.slice none 0 0) 1 24 Try.underlying32 hi hz0 hz1 hz2 rfl (by decide) (.slice a4 nc k4) nc vs rfl HOWB.out ⟨w8.heap.size, 0, none⟩ 1 1 [.slice ai ni ci] rfl rfl (cell_one HCB.out) (by intro u hu; simp only [List.mem_cons, List.not_mem_nil, or_false] at hu; rcases hu with rfl; rfl) (by decide) (by unfold maxLen; omega) (by omega) HXB.out.size ?_
            intro v5 w5 hown5 hgr5 hpos5
            have HX5 : Hid (Below w8.heap.size w8 w5) := HXB.out.grown hgr5 HXB.out.size (fun j e => (HOWB.out.lt j e).1)
            rw [HN.out] at hown5
            obtain ⟨a5, c5, rfl⟩ := own_form hown5
            have HROW : Hid (WrRows A.heap.size W.heap.size w5 a5 N) := WrRows.of_own hown5 (by have := HN.out; omega) HWS.out (fun x hx => (HWC.out x hx).next (fun j h1 h2 => HX5.out.block j (by have := HWS.out; omega)))
            clear hown5 hgr5 hpos5
            go_simp
            refine hK.out _ _ (HSS2.out _ (HX5.out)) (fun hS => ?_)
            clear hK K
            refine wpAnyH_ready (rs := [8]) (by kernel_rfl) (by simp) ?_
            refine AllReadyH.cons rfl (fun K hK => ?_) AllReadyH.nil
            go_simp
            refine hK.out _ _ (HSS2.out _ (HX5.out)) (fun hS => ?_)
            clear hK K
            refine wpAnyH_done (by kernel_rfl) ?_ _
            simp only [NormalOnly]
            gi_wp2_with fail
            gi_meet
            exact ⟨_, _, rfl, rfl, rfl, HROW.out, HX5.out⟩
        case rest =>
        obtain ⟨ar, cr, rfl, rfl, rfl, hrow, hbd⟩ := hcut
        obtain ⟨wd, hwd⟩ : ∃ w' : World, w' = wc := ⟨_, rfl⟩
        subst hwd
        have HBD := Lib.hid hbd
        have hN7 : N ≤ 7 := by have := HN6.out; have := HN.out; omega
        clear hbd
        gi_wp2_with fail
        gi_loopg [56] N (fun q' i wr => ∃ k : Nat, k + q' = N ∧ i = .int .i64 (k : Int) ∧ Over A.heap.size W.heap.size wd wr ∧ WrRows A.heap.size W.heap.size wr ar N)
        case atStart => exact ⟨0, by omega, rfl, Over.refl _ _ _, hrow⟩
        case round =>
          obtain ⟨k, hk, rfl, hov, hrw⟩ := hrel
          obtain ⟨wo, hwo⟩ : ∃ w' : World, w' = wr := ⟨_, rfl⟩
          subst hwo
          have Hk := Lib.hid hk
          have hkn : k ≤ N := by omega
          have u1 : IntKind.i64.wrap ((k : Int) + 1) = (k : Int) + 1 := IntWalk.i64_in _ (by omega)
          clear hk
          by_cases hlt : k < N
          · have hlt' : (k : Int) < (N : Int) := by omega
            have HRW := Lib.hid hrw
            have HOV := Lib.hid hov
            obtain ⟨g, rfl, hgt, hcell⟩ := hrw
            obtain ⟨u, hu, hwu⟩ := hcell k hlt
            have HWU := Lib.hid hwu
            obtain ⟨au, nu, cu, rfl, hum, -⟩ := hwu
            have HUM := Lib.hid hum
            clear hcell hum hov
            gi_wp2_with fail
            gi_loopg [62] nu (fun q' j wr => ∃ jn : Nat, jn + q' = nu ∧ j = .int .i64 (jn : Int) ∧ Over A.heap.size W.heap.size wd wr ∧ WrRows A.heap.size W.heap.size wr (some ⟨g, 0, none⟩) N ∧ Wr A.heap.size W.heap.size wr (.slice au nu cu))
            case atStart => exact ⟨0, by omega, rfl, HOV.out, HRW.out, HWU.out⟩
            case round =>
              obtain ⟨jn, hj, rfl, hov, hrw, hwu⟩ := hrel
              have Hj := Lib.hid hj
              have HRW2 := Lib.hid hrw
              have HOV2 := Lib.hid hov
              have HWU2 := Lib.hid hwu
              have hjn : jn ≤ nu := by omega
              clear hj hrw hov
              by_cases hjl : jn < nu
              · have hjl' : (jn : Int) < (nu : Int) := by omega
                obtain ⟨a2, n2, c2, e2, -, hg2⟩ := hwu
                injection e2 with e3 e4 e5
                subst e3 e4 e5
                obtain ⟨g2, cs, rfl, hg3, hg4, hg5, hblk⟩ := hg2 (by omega)
                have y0 := hblk.cell jn
                have y1 := hblk.free jn
                have hjm : (jn : Int) + 1 ≤ 9223372036854775807 := by have := HUM.out; unfold maxLen at this; omega
                obtain ⟨yv, hyv⟩ : ∃ y, cs[jn]? = some y := ⟨_, Array.getElem?_eq_getElem (by omega)⟩
                rw [hyv] at y0
                have u2 : IntKind.i64.wrap ((jn : Int) + 1) = (jn : Int) + 1 := IntWalk.i64_in _ (by omega)
                have HG34 : Hid (A.heap.size ≤ g2 ∧ g2 < W.heap.size) := ⟨hg3, hg4⟩
                clear hg2 hblk hg3 hg4 hg5 hyv
                gi_wp2
                have hj := Hj.out
                gi_roundg (nu - (jn + 1))
                case measure => omega
                case rel => exact ⟨jn + 1, by omega, by go_num, HOV2.out.set HG34.out.1 HG34.out.2 _ _, HRW2.out.set HG34.out.2 _ _, HWU2.out.set _ _ _⟩
              · have hjl' : ¬ (jn : Int) < (nu : Int) := by omega
                clear hwu
                gi_wp2
                have hk := Hk.out
                gi_roundg (N - (k + 1))
                case measure => omega
                case rel => exact ⟨k + 1, by omega, by go_num, HOV2.out, HRW2.out⟩
          · have hlt' : ¬ (k : Int) < (N : Int) := by omega
            have HOV := Lib.hid hov
            clear hov hrw
            gi_wp2
            obtain ⟨f1, f2, f3⟩ := ck_fin (B := w6.heap.size) HAA.out HI0.out HK.out HL.out HCC.out HBD.out HOV.out
            exact ⟨f1, f2, f3, HTK.out, by have h1 := HPK.out; have h2 := HNP.out; have h3 := HNE.out; simp only [List.length_append, List.length_cons, List.length_nil]; omega⟩
    case done2 =>
      rintro D2 O3 W hD2 ⟨hI2, hp1, hp2⟩ hK2
      obtain ⟨F, hF⟩ : ∃ F, L = F := ⟨_, rfl⟩
      have hFt : F = L.take F.length := by rw [← hF]; exact hp1
      have hFl : F.length = min kk L.length := by rw [← hF]; omega
      have hI3 : CoJ Wa w2.heap.size lv F O3 W := by rw [← hF]; exact hI2
      clear hF hI2 hp1 hp2
      obtain ⟨v1, hg1, hc0⟩ := hI3.got
      have hn78 := HW2.out
      have hc1 := hc0.free
      have hg2 : Blk W n8 27 #[vl] := HGOT.out.touch hI3.bel (by show ¬ n8 = w2.heap.size; omega)
      have hc2 : Coll n8 (fun _ => False) W vl L := HCO.out.far hI3.bel (by omega)
      have hbf : Below w.heap.size w W := by
        have h1 := HB0.out.trans (HBW.out.mono HB0.out.size)
        have h2 := h1.size
        have h3 := hI3.bel.size
        have h4 := HB0.out.size
        exact ⟨hI3.bel.os.trans h1.os, hI3.bel.tape.trans h1.tape, hI3.bel.output.trans h1.output, by omega, fun j hj => (hI3.bel.block j (by omega) (by show ¬ j = w2.heap.size; omega)).trans (h1.block j hj)⟩
      have x4 : W.cell? ⟨w.heap.size + 1, 0, none⟩ = some (.int .u8 (kk : Int)) := cell_touch hI3.bel (by have := HS0.out; show ¬ w.heap.size + 1 = w2.heap.size; omega) (HC.out _ HBW.out).2
      have hd1 : W.heap[D1]? = some (.deferred (some [])) := (hI3.bel.block D1 (Array.getElem?_eq_some_iff.1 HK1.out).1 (by have := HD1.out; show ¬ D1 = w2.heap.size; omega)).trans HK1.out
      have HNE : Hid (D1 ≠ D2 ∧ w.heap.size ≤ D1 ∧ w.heap.size ≤ D2) := by
        have h1 := (Array.getElem?_eq_some_iff.1 HK1.out).1
        have h2 := HS6.out
        have h3 := HD1.out
        have h4 := HB0.out.size
        exact ⟨by omega, by omega, by omega⟩
      obtain ⟨a1, c1, rfl⟩ := hc1.form
      obtain ⟨a2, c2, rfl⟩ := hc2.form
      obtain ⟨nF, hnF⟩ : ∃ n, F.length = n := ⟨_, rfl⟩
      obtain ⟨nL, hnL⟩ : ∃ n, L.length = n := ⟨_, rfl⟩
      have x5 := hg1.cell 0
      have x6 := hg2.cell 0
      have hL5 := HLOK.out.1
      simp only [List.getElem?_toArray, List.getElem?_cons_zero] at x5 x6
      rw [hnF] at hFl x5 hg1
      rw [hnL] at hFl x6 hg2 hL5
      have HG1 := Lib.hid hg1
      have HG2 := Lib.hid hg2
      have HC1 := Lib.hid hc1
      have HC2 := Lib.hid hc2
      have HBF := Lib.hid hbf
      have HKA := Lib.hid hd1
      have HKB := Lib.hid hK2
      have HNF := Lib.hid hnF
      have HNL := Lib.hid hnL
      have HFT := Lib.hid hFt
      have u1 : IntKind.i64.wrap (kk : Int) = (kk : Int) := IntWalk.i64_in _ (by have := HKK.out; omega)
      have hkk := HKK.out
      have HFL := Lib.hid hFl
      have emin : min (kk : Int) (nL : Int) = (nF : Int) := by omega
      clear hg1 hg2 hc0 hc1 hc2 hbf hd1 hK2 hnF hnL hFt hI3 hD2 hFl
      go_wp2_with fail
      go_loopg [80] nF (fun q' i wr => ∃ k : Nat, k + q' = nF ∧ i = .int .i64 (k : Int) ∧ Below W.heap.size W wr)
      case atStart => exact ⟨0, by omega, rfl, Below.refl _ _⟩
      case round =>
        obtain ⟨k, hk, rfl, hbr⟩ := hrel
        have Hk := Lib.hid hk
        have HBR := Lib.hid hbr
        have hkn : k ≤ nF := by omega
        have hF5 : nF ≤ 500 := by have := HFL.out; omega
        clear hk
        by_cases hlt : k < nF
        · have hlt' : (k : Int) < (nF : Int) := by omega
          have hltL' : (k : Int) < (nL : Int) := by have := HFL.out; omega
          obtain ⟨X, hX⟩ : ∃ x, F[k]? = some x := ⟨_, List.getElem?_eq_getElem (by rw [HNF.out]; exact hlt)⟩
          have hX2 : L[k]? = some X := by
            have h1 := hX
            rw [HFT.out, HNF.out, List.getElem?_take, if_pos hlt] at h1
            exact h1
          have hxi := (HLOK.out.2 X (List.mem_of_getElem? hX2)).1
          obtain ⟨ga, ca, a1', a2', a3', ea, _, _, sa, ya1, ya2, ya3⟩ := (HC1.out.next hbr).get hX
          obtain ⟨gb, cb, b1', b2', b3', eb, _, _, sb, yb1, yb2, yb3⟩ := (HC2.out.next hbr).get hX2
          rw [HNF.out] at ea
          rw [HNL.out] at eb
          injection ea with ea1 ea2 ea3
          injection eb with eb1 eb2 eb3
          subst ea1 ea3 eb1 eb3
          have y5 := (HG1.out.next hbr).cell 0
          have y6 := (HG2.out.next hbr).cell 0
          simp only [List.getElem?_toArray, List.getElem?_cons_zero] at y5 y6
          have CE : Hid (∀ d os, Calls Try.prog 23 #[.agg #[a1', a2', a3'], .agg #[b1', b2', b3']] (Go.Sort.grow (redrawn wr d) os) fun e w'' => e = .returned (.bool true) ∧ Below (Go.Sort.grow (redrawn wr d) os).heap.size (Go.Sort.grow (redrawn wr d) os) w'') := fun d os => by
            have := equal_any X X _ _ _ ((sa.new.at_ hxi).below (below_regrown wr d os) (Nat.le_refl _)) ((sb.new.at_ hxi).below (below_regrown wr d os) (Nat.le_refl _))
            rw [decide_eq_true rfl] at this
            exact this
          have z1 : ∀ d os, (Go.Sort.grow (redrawn wr d) os).cell? ⟨w2.heap.size, 0, none⟩ = some (.slice (some ⟨ga, 0, none⟩) nF c1) := cell_regrown y5
          have z2 : ∀ d os, (Go.Sort.grow (redrawn wr d) os).cell? ⟨n8, 0, none⟩ = some (.slice (some ⟨gb, 0, none⟩) nL c2) := cell_regrown y6
          have z3 : ∀ d os, (Go.Sort.grow (redrawn wr d) os).cell? ⟨ga, k * 3, none⟩ = some a1' := cell_regrown ya1
          have z4 : ∀ d os, (Go.Sort.grow (redrawn wr d) os).cell? ⟨ga, k * 3 + 1, none⟩ = some a2' := cell_regrown ya2
          have z5 : ∀ d os, (Go.Sort.grow (redrawn wr d) os).cell? ⟨ga, k * 3 + 2, none⟩ = some a3' := cell_regrown ya3
          have z6 : ∀ d os, (Go.Sort.grow (redrawn wr d) os).cell? ⟨gb, k * 3, none⟩ = some b1' := cell_regrown yb1
          have z7 : ∀ d os, (Go.Sort.grow (redrawn wr d) os).cell? ⟨gb, k * 3 + 1, none⟩ = some b2' := cell_regrown yb2
          have z8 : ∀ d os, (Go.Sort.grow (redrawn wr d) os).cell? ⟨gb, k * 3 + 2, none⟩ = some b3' := cell_regrown yb3
          have u2 : IntKind.i64.wrap ((k : Int) + 1) = (k : Int) + 1 := IntWalk.i64_in _ (by omega)
          clear hX hX2 hxi sa sb ya1 ya2 ya3 yb1 yb2 yb3 ea2 eb2 y5 y6 hbr x4 x5 x6 u1 hkk emin hL5
          go_upto_region 25 with (fail)
          refine wp_region_quiet_below (by kernel_rfl) (by kernel_rfl) ?_
          repeat (quiet_step ((go_at_call 23; with_reducible exact Calls.regrown_of (CE.out _ _))))
          refine wpQuiet_nil ?_
          intro _ hw'
          obtain ⟨⟨dq, osq⟩, hw''⟩ := hw'
          subst hw''
          have HGG : Hid (Below wr.heap.size wr (Go.Sort.grow (redrawn wr dq) osq)) := below_regrown wr dq osq
          generalize Go.Sort.grow (redrawn wr dq) osq = G at *
          clear CE z1 z2 z3 z4 z5 z6 z7 z8
          go_wp2
          have hk := Hk.out
          go_roundg (nF - (k + 1))
          case measure => omega
          case rel => exact ⟨k + 1, by omega, by go_num, below_next HBR.out (Nat.le_refl _) HGG.out⟩
        · have hlt' : ¬ (k : Int) < (nF : Int) := by omega
          have HBZ : Hid (Below w.heap.size w wr ∧ wr.heap[D2]? = some (.deferred (some [])) ∧ wr.heap[D1]? = some (.deferred (some []))) :=
            ⟨HBF.out.trans (hbr.mono HBF.out.size), (hbr.block D2 (Array.getElem?_eq_some_iff.1 HKB.out).1).trans HKB.out, (hbr.block D1 (Array.getElem?_eq_some_iff.1 HKA.out).1).trans HKA.out⟩
          clear hbr x4 x5 x6 u1 hkk emin hL5
          go_wp2
          refine ⟨by simp, .inl ⟨_, _, rfl, run_takeDeferred HBZ.out.2.1, by simp, .inl ⟨_, _, rfl, run_takeDeferred ((World.putObj_heap_other HNE.out.1).trans HBZ.out.2.2), ?_⟩⟩⟩
          exact ⟨_, results_tmp rfl _ _ _, rfl, (HBZ.out.1.grown (grownBy_putObj' _ D2 _) HBZ.out.1.size (fun j e => by injection e; have := HNE.out; omega)).grown (grownBy_putObj' _ D1 _) (Nat.le_trans HBZ.out.1.size (grownBy_putObj' _ D2 _).size) (fun j e => by injection e; have := HNE.out; omega)⟩
    case stop2 =>
      rintro D2 c k W hD2 ⟨rfl, F, O3, hI3, hFt, hp2, hp3⟩ hK2
      have hFl : F.length = min kk L.length := by omega
      clear hp2 hp3
      obtain ⟨v1, hg1, hc0⟩ := hI3.got
      have hn78 := HW2.out
      have hc1 := hc0.free
      have hg2 : Blk W n8 27 #[vl] := HGOT.out.touch hI3.bel (by show ¬ n8 = w2.heap.size; omega)
      have hc2 : Coll n8 (fun _ => False) W vl L := HCO.out.far hI3.bel (by omega)
      have hbf : Below w.heap.size w W := by
        have h1 := HB0.out.trans (HBW.out.mono HB0.out.size)
        have h2 := h1.size
        have h3 := hI3.bel.size
        have h4 := HB0.out.size
        exact ⟨hI3.bel.os.trans h1.os, hI3.bel.tape.trans h1.tape, hI3.bel.output.trans h1.output, by omega, fun j hj => (hI3.bel.block j (by omega) (by show ¬ j = w2.heap.size; omega)).trans (h1.block j hj)⟩
      have x4 : W.cell? ⟨w.heap.size + 1, 0, none⟩ = some (.int .u8 (kk : Int)) := cell_touch hI3.bel (by have := HS0.out; show ¬ w.heap.size + 1 = w2.heap.size; omega) (HC.out _ HBW.out).2
      have hd1 : W.heap[D1]? = some (.deferred (some [])) := (hI3.bel.block D1 (Array.getElem?_eq_some_iff.1 HK1.out).1 (by have := HD1.out; show ¬ D1 = w2.heap.size; omega)).trans HK1.out
      have HNE : Hid (D1 ≠ D2 ∧ w.heap.size ≤ D1 ∧ w.heap.size ≤ D2) := by
        have h1 := (Array.getElem?_eq_some_iff.1 HK1.out).1
        have h2 := HS6.out
        have h3 := HD1.out
        have h4 := HB0.out.size
        exact ⟨by omega, by omega, by omega⟩
      obtain ⟨a1, c1, rfl⟩ := hc1.form
      obtain ⟨a2, c2, rfl⟩ := hc2.form
      obtain ⟨nF, hnF⟩ : ∃ n, F.length = n := ⟨_, rfl⟩
      obtain ⟨nL, hnL⟩ : ∃ n, L.length = n := ⟨_, rfl⟩
      have x5 := hg1.cell 0
      have x6 := hg2.cell 0
      have hL5 := HLOK.out.1
      simp only [List.getElem?_toArray, List.getElem?_cons_zero] at x5 x6
      rw [hnF] at hFl x5 hg1
      rw [hnL] at hFl x6 hg2 hL5
      have HG1 := Lib.hid hg1
      have HG2 := Lib.hid hg2
      have HC1 := Lib.hid hc1
      have HC2 := Lib.hid hc2
      have HBF := Lib.hid hbf
      have HKA := Lib.hid hd1
      have HKB := Lib.hid hK2
      have HNF := Lib.hid hnF
      have HNL := Lib.hid hnL
      have HFT := Lib.hid hFt
      have u1 : IntKind.i64.wrap (kk : Int) = (kk : Int) := IntWalk.i64_in _ (by have := HKK.out; omega)
      have hkk := HKK.out
      have HFL := Lib.hid hFl
      have emin : min (kk : Int) (nL : Int) = (nF : Int) := by omega
      clear hg1 hg2 hc0 hc1 hc2 hbf hd1 hK2 hnF hnL hFt hI3 hD2 hFl
      refine wpIn_wide.2 ?_
      go_wp2_with fail
      go_loopg [80] nF (fun q' i wr => ∃ k : Nat, k + q' = nF ∧ i = .int .i64 (k : Int) ∧ Below W.heap.size W wr)
      case atStart => exact ⟨0, by omega, rfl, Below.refl _ _⟩
      case round =>
        obtain ⟨k, hk, rfl, hbr⟩ := hrel
        have Hk := Lib.hid hk
        have HBR := Lib.hid hbr
        have hkn : k ≤ nF := by omega
        have hF5 : nF ≤ 500 := by have := HFL.out; omega
        clear hk
        by_cases hlt : k < nF
        · have hlt' : (k : Int) < (nF : Int) := by omega
          have hltL' : (k : Int) < (nL : Int) := by have := HFL.out; omega
          obtain ⟨X, hX⟩ : ∃ x, F[k]? = some x := ⟨_, List.getElem?_eq_getElem (by rw [HNF.out]; exact hlt)⟩
          have hX2 : L[k]? = some X := by
            have h1 := hX
            rw [HFT.out, HNF.out, List.getElem?_take, if_pos hlt] at h1
            exact h1
          have hxi := (HLOK.out.2 X (List.mem_of_getElem? hX2)).1
          obtain ⟨ga, ca, a1', a2', a3', ea, _, _, sa, ya1, ya2, ya3⟩ := (HC1.out.next hbr).get hX
          obtain ⟨gb, cb, b1', b2', b3', eb, _, _, sb, yb1, yb2, yb3⟩ := (HC2.out.next hbr).get hX2
          rw [HNF.out] at ea
          rw [HNL.out] at eb
          injection ea with ea1 ea2 ea3
          injection eb with eb1 eb2 eb3
          subst ea1 ea3 eb1 eb3
          have y5 := (HG1.out.next hbr).cell 0
          have y6 := (HG2.out.next hbr).cell 0
          simp only [List.getElem?_toArray, List.getElem?_cons_zero] at y5 y6
          have CE : Hid (∀ d os, Calls Try.prog 23 #[.agg #[a1', a2', a3'], .agg #[b1', b2', b3']] (Go.Sort.grow (redrawn wr d) os) fun e w'' => e = .returned (.bool true) ∧ Below (Go.Sort.grow (redrawn wr d) os).heap.size (Go.Sort.grow (redrawn wr d) os) w'') := fun d os => by
            have := equal_any X X _ _ _ ((sa.new.at_ hxi).below (below_regrown wr d os) (Nat.le_refl _)) ((sb.new.at_ hxi).below (below_regrown wr d os) (Nat.le_refl _))
            rw [decide_eq_true rfl] at this
            exact this
          have z1 : ∀ d os, (Go.Sort.grow (redrawn wr d) os).cell? ⟨w2.heap.size, 0, none⟩ = some (.slice (some ⟨ga, 0, none⟩) nF c1) := cell_regrown y5
          have z2 : ∀ d os, (Go.Sort.grow (redrawn wr d) os).cell? ⟨n8, 0, none⟩ = some (.slice (some ⟨gb, 0, none⟩) nL c2) := cell_regrown y6
          have z3 : ∀ d os, (Go.Sort.grow (redrawn wr d) os).cell? ⟨ga, k * 3, none⟩ = some a1' := cell_regrown ya1
          have z4 : ∀ d os, (Go.Sort.grow (redrawn wr d) os).cell? ⟨ga, k * 3 + 1, none⟩ = some a2' := cell_regrown ya2
          have z5 : ∀ d os, (Go.Sort.grow (redrawn wr d) os).cell? ⟨ga, k * 3 + 2, none⟩ = some a3' := cell_regrown ya3
          have z6 : ∀ d os, (Go.Sort.grow (redrawn wr d) os).cell? ⟨gb, k * 3, none⟩ = some b1' := cell_regrown yb1
          have z7 : ∀ d os, (Go.Sort.grow (redrawn wr d) os).cell? ⟨gb, k * 3 + 1, none⟩ = some b2' := cell_regrown yb2
          have z8 : ∀ d os, (Go.Sort.grow (redrawn wr d) os).cell? ⟨gb, k * 3 + 2, none⟩ = some b3' := cell_regrown yb3
          have u2 : IntKind.i64.wrap ((k : Int) + 1) = (k : Int) + 1 := IntWalk.i64_in _ (by omega)
          clear hX hX2 hxi sa sb ya1 ya2 ya3 yb1 yb2 yb3 ea2 eb2 y5 y6 hbr x4 x5 x6 u1 hkk emin hL5
          go_upto_region 25 with (fail)
          refine wp_region_quiet_below (by kernel_rfl) (by kernel_rfl) ?_
          repeat (quiet_step ((go_at_call 23; with_reducible exact Calls.regrown_of (CE.out _ _))))
          refine wpQuiet_nil ?_
          intro _ hw'
          obtain ⟨⟨dq, osq⟩, hw''⟩ := hw'
          subst hw''
          have HGG : Hid (Below wr.heap.size wr (Go.Sort.grow (redrawn wr dq) osq)) := below_regrown wr dq osq
          generalize Go.Sort.grow (redrawn wr dq) osq = G at *
          clear CE z1 z2 z3 z4 z5 z6 z7 z8
          go_wp2
          have hk := Hk.out
          go_roundg (nF - (k + 1))
          case measure => omega
          case rel => exact ⟨k + 1, by omega, by go_num, below_next HBR.out (Nat.le_refl _) HGG.out⟩
        · have hlt' : ¬ (k : Int) < (nF : Int) := by omega
          have HBZ : Hid (Below w.heap.size w wr ∧ wr.heap[D2]? = some (.deferred (some [])) ∧ wr.heap[D1]? = some (.deferred (some []))) :=
            ⟨HBF.out.trans (hbr.mono HBF.out.size), (hbr.block D2 (Array.getElem?_eq_some_iff.1 HKB.out).1).trans HKB.out, (hbr.block D1 (Array.getElem?_eq_some_iff.1 HKA.out).1).trans HKA.out⟩
          clear hbr x4 x5 x6 u1 hkk emin hL5
          go_wp2
          refine ⟨by simp, .inl ⟨_, _, rfl, run_takeDeferred HBZ.out.2.1, by simp, .inl ⟨_, _, rfl, run_takeDeferred ((World.putObj_heap_other HNE.out.1).trans HBZ.out.2.2), ?_⟩⟩⟩
          exact ⟨_, results_tmp rfl _ _ _, rfl, (HBZ.out.1.grown (grownBy_putObj' _ D2 _) HBZ.out.1.size (fun j e => by injection e; have := HNE.out; omega)).grown (grownBy_putObj' _ D1 _) (Nat.le_trans HBZ.out.1.size (grownBy_putObj' _ D2 _).size) (fun j e => by injection e; have := HNE.out; omega)⟩
  case stop =>
    rintro D c k W _ h _
    exact h.elim
theorem stopslaw_top {H : Type} {enc : TypeId × Value → H} {r : Reach} {b0 : Nat} {w : World} {base : Nat} {sp : Nat → Bool} {held : Bool} (v0 : Value) (d0 : DataW H) (p0 : List MemPlace) (h0 : Value.okWide Try.prog w r b0 22 v0) (t0 : DataW.Trod enc Try.prog w base sp held 22 v0 d0 p0)
    {b1 : Nat} {sp1 : Nat → Bool} (v1 : Value) (d1 : DataW H) (p1 : List MemPlace) (h1 : Value.okWide Try.prog w r b1 24 v1) (t1 : DataW.Trod enc Try.prog w base sp1 held 24 v1 d1 p1)
    (x : Int) (wx : (Lit.int .u8 x).wf = true) (w' : World) (hw : w' = w := by rfl) :
    Calls Try.prog 6 #[v0, v1, .int .u8 x] w' fun e w'' => e = .returned (.bool true) ∧ Below w'.heap.size w' w'' := by
  subst hw
  obtain ⟨D, hD⟩ := decls_top h0 t0
  obtain ⟨v, le, inp, rfl⟩ := box_open h1 t1
  exact stopslaw D v0 v le inp x w' hD (u8_wf wx)
end Go.Proofs.Ytklbaocgjegdfaa
