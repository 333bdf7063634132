/- The law EnumerateAll: its walk. -/
import Derived.Test.YtklbaocgjegdfaaEnUm
import Derived.Test.YtklbaocgjegdfaaEnK
import Derived.Test.YtklbaocgjegdfaaStL0
import Derived.Deep.CutRange
import Derived.Deep.RegionHeld3
namespace Go.Proofs.Ytklbaocgjegdfaa
open Go.RowKit Go.Shelf Go.ChangeShapes

attribute [local go_sem] Oper.semAt_some

/-- between two rounds of the loop over the box's states -/
structure AlI (Wd : World) (L : List St) (pre : List St) (O : Nat → Prop) (W : World) : Prop where
  many : Blk W Wd.heap.size 3 #[.int .i64 (pre.length : Int)]
  take : pre = L.take pre.length
  old : ∀ j, O j → Wd.heap.size + 1 ≤ j ∧ j < W.heap.size
  bel : Below Wd.heap.size Wd W
theorem AlI.own {Wd : World} {L : List St} {B : Nat} (hB : Wd.heap.size + 1 ≤ B) (O : Nat → Prop) : OwnFrom B (fun p W => AlI Wd L p O W) := by
  rintro pre A A' row ⟨h3, h6, h7, h8⟩ hg hr
  exact ⟨h3.row hg hr, h6, fun j hj => ⟨(h7 j hj).1, Nat.lt_of_lt_of_le (h7 j hj).2 hg.size⟩, below_row h8 (by omega) hg hr h8.size⟩
theorem AlI.bides (Wd : World) (L : List St) : Bides (AlI Wd L) := by
  rintro pre O O' A A' ⟨h4, h6, h7, h8⟩ hgr
  obtain ⟨ht, hn⟩ := id hgr
  have hlt := h8.size
  have hlg := h4.lt
  refine ⟨h4.touch ht (fun h => by have := (h7 _ h).1; omega), h6, fun j hj => ?_, ?_⟩
  · rcases hn j hj with h | h
    · exact ⟨(h7 j h).1, Nat.lt_of_lt_of_le (h7 j h).2 ht.size⟩
    · omega
  · exact ⟨ht.os.trans h8.os, ht.tape.trans h8.tape, ht.output.trans h8.output, Nat.le_trans h8.size ht.size, fun j hj => (ht.block j (by omega) (fun ho => by have := (h7 j ho).1; omega)).trans (h8.block j hj)⟩
theorem AlI.put {Wd A G : World} {q : St} {L pre : List St} {O : Nat → Prop} (h : AlI Wd L pre O A) (hb : Below A.heap.size A G) (ht : pre ++ [q] = L.take (pre ++ [q]).length) (B : Nat) :
    KeepsFrom B A (G.setCell ⟨Wd.heap.size, 0, none⟩ (.int .i64 ((pre.length : Int) + 1))) ∧ Leaves O A (G.setCell ⟨Wd.heap.size, 0, none⟩ (.int .i64 ((pre.length : Int) + 1))) ∧ AlI Wd L (pre ++ [q]) O (G.setCell ⟨Wd.heap.size, 0, none⟩ (.int .i64 ((pre.length : Int) + 1))) := by
  obtain ⟨h2, -, h6, h7⟩ := h
  refine ⟨(keeps_below hb B).trans (keeps_set _ _ _ _ _), (leaves_below hb (fun j hj => (h6 j hj).2)).trans (leaves_set _ _ _ (fun ho => by have := (h6 _ ho).1; omega)), ?_, ht, fun j hj => ?_, ?_⟩
  · have e : ((pre ++ [q]).length : Int) = (pre.length : Int) + 1 := by simp
    rw [e]
    exact (h2.next hb).set 0 _
  · exact ⟨(h6 j hj).1, by have := hb.size; have := (h6 j hj).2; simp [World.setCell]; omega⟩
  · exact (below_next h7 (Nat.le_refl _) hb).setCell (p := ⟨Wd.heap.size, 0, none⟩) (Nat.le_refl _) _

/-- what the other slots hold is not looked at -/
theorem junkA {T : Array Value} {P : (Nat → Value) → Array Value} (h : P (fun i => T.getD i undef) = T) : ∃ J : Nat → Value, ({ tmps := T, defers := [] } : Act) = { tmps := P J, defers := [] } := ⟨fun i => T.getD i undef, by rw [h]⟩

theorem sumN_le {Ls : List (List Int)} {m : Nat} (h : ∀ l ∈ Ls, l.length ≤ m) : sumN Ls ≤ Ls.length * (m + 1) := by
  unfold sumN
  induction Ls with
  | nil => simp
  | cons a Ls ih =>
    have h1 := h a (by simp)
    have h2 := ih fun l hl => h l (by simp [hl])
    simp only [List.map_cons, List.sum_cons, List.length_cons, Nat.add_mul, Nat.one_mul]
    omega
theorem SmallP.good {D : List Decl} {v le inp : Nat} (h : SmallP D v le inp) {x : St} (hx : x ∈ stsP D v le inp) : Good x := by
  have ho := h.of hx
  refine ⟨ho.1, h.mid hx, by rw [ho.2.2.1]; exact h.six, ?_⟩
  obtain ⟨X, hX, rfl⟩ := List.mem_map.1 hx
  have hl := h.len hX
  obtain ⟨-, ha⟩ := inBox_all (h.mem.1 hX)
  have hm : ∀ l ∈ listsS (mkSt X), l.length ≤ 1000 := fun l hl' => by
    rw [mkSt_lists (by omega)] at hl'
    rcases List.mem_append.1 hl' with h1 | h1
    · obtain ⟨b, hb, -, h2, h3⟩ := ha l h1
      have := (h.cond.b b hb).2.2.2
      omega
    · simp only [List.mem_cons, List.not_mem_nil, or_false] at h1
      subst h1
      simp
  refine Nat.le_trans (sumN_le hm) ?_
  have h6 := h.six
  rw [mkSt_lists (by omega), List.length_append, hl]
  simp only [List.length_cons, List.length_nil]
  omega

set_option maxRecDepth 100000 in
set_option maxHeartbeats 16000000 in
theorem allenumlaw (D : List Decl) (u : Value) (v le inp : Int) (w : World) (h1 : DeclsAt w u D) :
    Calls Try.prog 3 #[u, .agg #[.int .i64 v, .int .i64 le, .int .i64 inp]] w fun e w' => e = .returned (.bool true) ∧ Below w.heap.size w w' := by
  have HA : Hid (∀ w, Calls Try.prog 11 #[] w fun e w' => e = .returned (.bool true) ∧ Below w.heap.size w w') := awake_any
  obtain ⟨⟨ad, cd, rfl, -, -, -⟩, -⟩ := id h1
  obtain ⟨nd, hnd⟩ : ∃ n, D.length = n := ⟨_, rfl⟩
  rw [hnd] at h1 ⊢
  obtain ⟨W0, hW0⟩ : ∃ W0, W0 = ((w.alloc (.cells #[.slice ad nd cd] 22)).alloc (.cells #[.int .i64 v, .int .i64 le, .int .i64 inp] 24)).alloc (.cells #[.bool false] 4) := ⟨_, rfl⟩
  have hs0 : W0.heap.size = w.heap.size + 3 := by rw [hW0]; simp
  have hB0 : Below w.heap.size w W0 := by rw [hW0]; exact below_next (below_next (below_alloc _ _) (Nat.le_refl _) (below_alloc _ _)) (Nat.le_refl _) (below_alloc _ _)
  have hk0 : Blk W0 w.heap.size 22 #[.slice ad nd cd] := by rw [hW0]; exact blk_nx (blk_nx (Blk.new _ _ _) _) _
  have hk1 : Blk W0 (w.heap.size + 1) 24 #[.int .i64 v, .int .i64 le, .int .i64 inp] := by rw [hW0]; exact blk_nx (blk_at (by simp) _ _) _
  have hk3 : Blk W0 (w.heap.size + 2) 4 #[.bool false] := by rw [hW0]; exact blk_at (by simp) _ _
  have HK3 : Hid (∀ w', Below W0.heap.size W0 w' → Blk w' (w.heap.size + 2) 4 #[.bool false]) := fun w' hb => hk3.next hb
  have HC : Hid (∀ w', Below W0.heap.size W0 w' → (w'.cell? ⟨w.heap.size, 0, none⟩ = some (.slice ad nd cd)) ∧ (w'.cell? ⟨w.heap.size + 1, 0, none⟩ = some (.int .i64 v) ∧ w'.cell? ⟨w.heap.size + 1, 1, none⟩ = some (.int .i64 le) ∧ w'.cell? ⟨w.heap.size + 1, 2, none⟩ = some (.int .i64 inp))) :=
    fun w' hb => ⟨(hk0.next hb).cell 0, ⟨(hk1.next hb).cell 0, (hk1.next hb).cell 1, (hk1.next hb).cell 2⟩⟩
  have HD : Hid (∀ w', Below W0.heap.size W0 w' → DeclsAt w' (.slice ad nd cd) D) := fun w' hb => (h1.below hB0 (Nat.le_refl _)).below hb (Nat.le_refl _)
  have HB0 := Lib.hid hB0
  have HS0 := Lib.hid hs0
  have HW0 := Lib.hid hW0
  have HND := Lib.hid hnd
  clear hk0 hk1 hk3 hB0 hs0 h1 hW0 hnd
  refine (callsIn_wide (n := 3)).1 ?_
  refine callsIn_of_wp_marks Try.func3 rfl trivial ?_ rfl
  refine wpIn_wide.2 ?_
  simp only [Try.ntmps3, List.size_toArray, List.length_nil, List.length_cons, Nat.reduceSub, Nat.reduceAdd, Array.replicate_succ, Array.replicate_zero, List.push_toArray, List.append_toArray, List.nil_append, List.cons_append]
  go_upto_region 1 with (fail)
  rw [← HW0.out]
  go_wp2_with fail
  refine (HA.out _).mono ?_
  rintro e w1 ⟨rfl, hb1⟩
  have H1 := Lib.hid hb1
  obtain ⟨x0, x1, x2, x3⟩ := HC.out w1 hb1
  clear hb1
  go_wp2_with fail
  have hsm := small_any2 D _ v le inp w1 (HD.out w1 H1.out)
  refine hsm.mono ?_
  rintro e w2 ⟨b, rfl, hb, hb2⟩
  have H2 := Lib.hid (below_next H1.out (Nat.le_refl _) hb2)
  have HSM := Lib.hid hb
  clear hsm hb hb2 x0 x1 x2 x3
  obtain ⟨x0, x1, x2, x3⟩ := HC.out w2 H2.out
  cases b with
  | false =>
    go_wp2_with fail
    refine (HA.out _).mono ?_
    rintro e w3 ⟨rfl, hb3⟩
    have H3 := Lib.hid (below_next H2.out (Nat.le_refl _) hb3)
    have y0 := (HK3.out _ H3.out).cell 0
    have y1 := (HK3.out _ H3.out).free 0
    clear hb3 x0 x1 x2 x3
    simp only [List.getElem?_toArray, List.getElem?_cons_zero] at y0
    go_wp2
    exact ⟨_, results_boolcell rfl _ _ _ _ rfl ((HK3.out _ H3.out).set 0 _), rfl, (below_next HB0.out (Nat.le_refl _) H3.out).setCell (p := ⟨w.heap.size + 2, 0, none⟩) (by show w.heap.size ≤ w.heap.size + 2; omega) _⟩
  | true =>
  obtain ⟨v', le', inp', rfl, rfl, rfl, hsb⟩ := HSM.out rfl
  have HSB := Lib.hid hsb
  clear HSM hsb
  go_wp2_with fail
  refine (rall_any D _ v' le' inp' w2 (HD.out w2 H2.out) HSB.out (fun x hx => HSB.out.good hx)).mono ?_
  rintro e w3 ⟨r, rfl, hr, hb3⟩
  obtain ⟨L, hL⟩ : ∃ L, stsP D v' le' inp' = L := ⟨_, rfl⟩
  rw [hL] at hr
  obtain ⟨ra, rc, rfl, -, -, -⟩ := id hr
  obtain ⟨nL, hnL⟩ : ∃ n, L.length = n := ⟨_, rfl⟩
  rw [hnL] at hr ⊢
  have HLL := Lib.hid hL
  have HNL := Lib.hid hnL
  have HR := Lib.hid hr
  have H3 := Lib.hid (below_next H2.out (Nat.le_refl _) hb3)
  obtain ⟨Wd, hWd⟩ : ∃ W, W = w3.alloc (.cells #[.slice ra nL rc] 27) := ⟨_, rfl⟩
  obtain ⟨WE, hWE⟩ : ∃ W, W = Wd.alloc (.cells #[.int .i64 0] 3) := ⟨_, rfl⟩
  obtain ⟨n5, hn5⟩ : ∃ n, w3.heap.size = n := ⟨_, rfl⟩
  have hd1 : Below w3.heap.size w3 Wd := by rw [hWd]; exact below_alloc _ _
  have hd2 : Below Wd.heap.size Wd WE := by rw [hWE]; exact below_alloc _ _
  have hk5 : Blk Wd n5 27 #[.slice ra nL rc] := by rw [hWd, ← hn5]; exact Blk.new _ _ _
  have hk6 : Blk WE Wd.heap.size 3 #[.int .i64 0] := by rw [hWE]; exact Blk.new _ _ _
  have hs5 : Wd.heap.size = n5 + 1 := by rw [hWd]; simp; omega
  have hs6 : WE.heap.size = Wd.heap.size + 1 := by rw [hWE]; simp
  have H5 := Lib.hid (below_next H3.out (Nat.le_refl _) hd1)
  have H6 := Lib.hid (below_next H5.out (Nat.le_refl _) hd2)
  have HRD := Lib.hid (hr.next hd1)
  have HK5 := Lib.hid hk5
  have HS5 := Lib.hid hs5
  obtain ⟨y0, y1, y2, y3⟩ := HC.out _ H6.out
  have HWE : Hid ((w3.alloc (.cells #[.slice ra nL rc] 27)).alloc (.cells #[.int .i64 0] 3) = WE) := by unfold Hid; rw [hWE, hWd]
  rw [← HWE.out] at y0 y1 y2 y3
  clear hb3 hL hnL hr x0 x1 x2 x3 hk5
  go_wp2_with fail
  rw [HWE.out]
  rw [show n5 + 1 = Wd.heap.size by omega]
  clear y0 y1 y2 y3 hWE hWd
  refine (all_any D _ v' le' inp' WE (HD.out WE H6.out) HSB.out.val ⟨by omega, by have := HSB.out.v1000; omega⟩ ⟨by omega, by have := HSB.out.le1000; omega⟩ ⟨by omega, by have := HSB.out.inp1000; omega⟩).mono ?_
  rintro e w4 ⟨lb, O, rfl, hb4, hO, hseq⟩
  have hs4 := hb4.size
  have HB4 : Hid (Below Wd.heap.size Wd w4) := below_next hd2 (Nat.le_refl _) hb4
  have HF2 := Lib.hid (hk6.next hb4)
  have HO : Hid (∀ b, O b → Wd.heap.size + 1 ≤ b ∧ b < w4.heap.size) := fun b hb => by have := hO b hb; omega
  have hseq2 : ∀ n, SeqMem Fence.wide n Try.prog 32 lb ArgAt L O w4 := by rw [← HLL.out]; exact hseq
  have HSEQ := Lib.hid hseq2
  have H41 : Hid (Wd.heap.size + 1 ≤ w4.heap.size) := by show Wd.heap.size + 1 ≤ w4.heap.size; omega
  clear hb4 hO hseq hseq2 hs4 hk6 hd1 hd2 hn5 hs5 hs6
  go_wp2_with fail
  refine (wpIn_wide (n := 3)).1 ?_
  refine range_mem (F := Fence.wide) rfl (by decide) (gf := 32) (lb := lb) rfl trivial (enters_of Try.func32 (by kernel_rfl) rfl) (Arg := ArgAt) (HSEQ.out _) (Below.refl _ _) (fun b hb => (HO.out b hb).2)
    (AlI Wd L) (fun _ _ _ => False) (AlI.own H41.out) (fun _ _ _ _ _ h _ _ => h) (AlI.bides Wd L)
    ⟨HF2.out, rfl, HO.out, HB4.out⟩
    (fun v q O a' W' => ∃ b Bx bc kc bi ki bo ko, Wd.heap.size + 1 ≤ Bx ∧ StNew b W' (.agg #[.slice bc q.cells.length kc, .slice bi q.inp.length ki, .slice bo q.out.length ko]) q ∧ Blk W' Bx 35 #[.slice bc q.cells.length kc, .slice bi q.inp.length ki, .slice bo q.out.length ko] ∧ ∃ J : Nat → Value, a' = { tmps := #[J 0, J 1, .pointer (some ⟨w.heap.size, 0, none⟩), J 3, .pointer (some ⟨w.heap.size + 1 + 1, 0, none⟩), .pointer (some ⟨n5, 0, none⟩), .pointer (some ⟨Wd.heap.size, 0, none⟩), .pointer (some ⟨Bx, 0, none⟩), J 8, J 9, J 10, J 11, J 12, J 13, J 14, J 15, J 16, J 17, J 18, J 19, J 20, J 21, J 22, J 23, J 24, J 25, J 26, J 27, J 28, J 29, J 30, J 31, J 32, J 33, J 34, J 35, J 36, J 37, J 38, J 39, J 40, J 41, J 42, J 43, J 44, J 45, J 46, J 47, J 48, J 49, J 50, J 51, J 52, J 53, J 54, J 55, J 56, J 57, J 58, J 59, J 60, J 61], defers := [] })
    ?ax2 ?assign2 ?body2 ?done2 ?stop2
  case ax2 =>
    rintro v q O a' ⟨⟩ W' W'' row ⟨b, Bx, bc, kc, bi, ki, bo, ko, h1, h3, h6, h7⟩ hg hr
    exact ⟨b, Bx, bc, kc, bi, ki, bo, ko, h1, h3.row hg hr, h6.row hg hr, h7⟩
  case assign2 =>
    rintro l pre v q O A W' K hIA hbA ⟨-, hOA, hst⟩ hI hK
    obtain ⟨bc, kc, bi, ki, bo, ko, rfl⟩ := hst.form
    have hlt := hI.many.lt
    have HST := Lib.hid hst
    have HI := Lib.hid hI
    have HK2 := Lib.hid hK
    clear hst hI hK hIA hbA hOA
    gi_wp2
    exact HK2.out _ _ ((KeepsOthers.alloc _ _).from _) (leaves_below (below_alloc _ _) (fun j hj => (HI.out.old j hj).2)) ((AlI.own (Nat.le_refl _) O).alloc _ HI.out) ⟨A.heap.size, W'.heap.size, bc, kc, bi, ki, bo, ko, by omega, HST.out.next (below_alloc _ _), Blk.new _ _ _, junkA (by kernel_rfl)⟩
  case body2 =>
    rintro l pre v q O a' W' hl ⟨r, hr⟩ hI ⟨b, Bx, bc, kc, bi, ki, bo, ko, hBn, hst, hX, J, rfl⟩ hget
    have hmany := hI.many
    have hqm := List.mem_of_getElem? hget
    rw [← HLL.out] at hqm
    obtain ⟨hq1, -, hq3, hq4⟩ := HSB.out.of hqm
    have hgood := HSB.out.good hqm
    have hpl : pre.length < L.length := (List.getElem?_eq_some_iff.1 hget).1
    have ht := take_more hI.take hget
    have HBW : Hid (Below W0.heap.size W0 W') := H5.out.trans (hI.bel.mono H5.out.size)
    have hrw := HRD.out.next hI.bel
    obtain ⟨a5, c5, e5, -, -, hel⟩ := id hrw
    obtain ⟨g5, o5, e6, hg5, hcl⟩ := hel (by omega)
    subst e6
    injection e5 with e5 e7 e8
    subst e5 e8
    obtain ⟨c1, c2, c3, d1, d2, d3, hsw⟩ := hcl pre.length q hget
    have hPUT := fun G (hb : Below W'.heap.size W' G) => hI.put hb ht w4.heap.size
    have CE : Hid (∀ d os, Calls Try.prog 15 #[.agg #[.slice bc q.cells.length kc, .slice bi q.inp.length ki, .slice bo q.out.length ko], .agg #[c1, c2, c3]] (Go.Sort.grow (redrawn W' d) os) fun e w'' => e = .returned (.int .i64 0) ∧ Below (Go.Sort.grow (redrawn W' d) os).heap.size (Go.Sort.grow (redrawn W' d) os) w'') := fun d os => by
      have := rcompare_any q q _ _ _ ((hst.at_ hq1).below (below_regrown W' d os) (Nat.le_refl _)) ((hsw.at_ hq1).below (below_regrown W' d os) (Nat.le_refl _)) (by have := hgood.2.2.1; omega) (by have := hgood.2.2.1; omega) hgood.2.1 hgood.2.1 hgood.2.2.2
      rw [cmpP_self] at this
      exact this
    have y0 := hX.cell 0
    have y1 := hX.cell 1
    have y2 := hX.cell 2
    have y3 := hmany.cell 0
    have y4 := (HK5.out.next hI.bel).cell 0
    obtain ⟨y5, -⟩ := HC.out _ HBW.out
    simp only [List.getElem?_toArray, List.getElem?_cons_zero, List.getElem?_cons_succ] at y0 y1 y2 y3 y4
    have hno : q.out.length = 0 := by rw [hq4]; rfl
    rw [hq3, HND.out] at CE y0
    rw [hno] at CE y2
    rw [HNL.out] at hpl
    have hL5 : nL ≤ 500 := by rw [← HNL.out, ← HLL.out]; exact HSB.out.count500
    obtain ⟨np, hnp⟩ : ∃ n, pre.length = n := ⟨_, rfl⟩
    obtain ⟨mi, hmi⟩ : ∃ n, q.inp.length = n := ⟨_, rfl⟩
    rw [hnp] at hpl d1 d2 d3 y3 hPUT
    rw [hmi] at CE y1
    have HPUT := Lib.hid hPUT
    have HMANY := Lib.hid hmany
    have z0 : ∀ d os, (Go.Sort.grow (redrawn W' d) os).cell? ⟨Bx, 0, none⟩ = some (.slice bc nd kc) := cell_regrown y0
    have z1 : ∀ d os, (Go.Sort.grow (redrawn W' d) os).cell? ⟨Bx, 1, none⟩ = some (.slice bi mi ki) := cell_regrown y1
    have z2 : ∀ d os, (Go.Sort.grow (redrawn W' d) os).cell? ⟨Bx, 2, none⟩ = some (.slice bo 0 ko) := cell_regrown y2
    have z3 : ∀ d os, (Go.Sort.grow (redrawn W' d) os).cell? ⟨Wd.heap.size, 0, none⟩ = some (.int .i64 (np : Int)) := cell_regrown y3
    have z4 : ∀ d os, (Go.Sort.grow (redrawn W' d) os).cell? ⟨n5, 0, none⟩ = some (.slice (some ⟨g5, o5, none⟩) nL rc) := cell_regrown y4
    have z5 : ∀ d os, (Go.Sort.grow (redrawn W' d) os).cell? ⟨w.heap.size, 0, none⟩ = some (.slice ad nd cd) := cell_regrown y5
    have z6 : ∀ d os, (Go.Sort.grow (redrawn W' d) os).cell? ⟨g5, o5 + np * 3, none⟩ = some c1 := cell_regrown d1
    have z7 : ∀ d os, (Go.Sort.grow (redrawn W' d) os).cell? ⟨g5, o5 + np * 3 + 1, none⟩ = some c2 := cell_regrown d2
    have z8 : ∀ d os, (Go.Sort.grow (redrawn W' d) os).cell? ⟨g5, o5 + np * 3 + 2, none⟩ = some c3 := cell_regrown d3
    have hlt' : (np : Int) < (nL : Int) := by omega
    have hlt2 : ¬ nL ≤ np := by omega
    have hdec : decide (nL ≤ np) = false := decide_eq_false hlt2
    have u1 : IntKind.i64.wrap ((np : Int) + 1) = (np : Int) + 1 := IntWalk.i64_in _ (by omega)
    have HNP := Lib.hid hnp
    clear hst hX hget hqm hq1 hq3 hq4 hgood ht hrw hel hcl hsw hPUT y0 y1 y2 y3 y4 y5 d1 d2 d3 hno hnp hmi hmany hI hpl e7 hg5
    gi_wp2_with fail
    refine round_quiet_below (by kernel_rfl) (by kernel_rfl) (by kernel_rfl) ?_
    repeat (quiet_step ((go_at_call 15; with_reducible exact Calls.regrown_of (CE.out _ _))))
    refine wpQuiet_nil ?_
    intro _ hw'
    obtain ⟨⟨dq, osq⟩, hw''⟩ := hw'
    subst hw''
    have HGG : Hid (Below W'.heap.size W' (Go.Sort.grow (redrawn W' dq) osq)) := below_regrown W' dq osq
    have t0 := z3 dq osq
    have t1 := (HMANY.out.next HGG.out).free 0
    generalize Go.Sort.grow (redrawn W' dq) osq = G at *
    clear CE z0 z1 z2 z3 z4 z5 z6 z7 z8
    gi_wp2
    exact HPUT.out _ HGG.out
  case done2 =>
    rintro D2 O3 W' hD2 hI2 hK2
    have hmany := hI2.many
    have hBW : Below W0.heap.size W0 W' := H5.out.trans (hI2.bel.mono H5.out.size)
    have hrc := HK3.out _ hBW
    have z0 := hmany.cell 0
    have z1 := (HK5.out.next hI2.bel).cell 0
    have z2 := hrc.cell 0
    have z3 := hrc.free 0
    simp only [List.getElem?_toArray, List.getElem?_cons_zero] at z0 z1 z2
    rw [HNL.out] at z0
    have HDL : Hid (w.heap.size + 2 < D2) := by
      have h1 := HS0.out
      have h2 := H5.out.size
      have h4 := H41.out
      show w.heap.size + 2 < D2
      omega
    have HKE := Lib.hid hK2
    have HRC := Lib.hid hrc
    have HBE := Lib.hid hBW
    clear hI2 hK2 hmany hBW hrc hD2
    go_wp2_with fail
    have hk3 : (W'.setCell ⟨w.heap.size + 2, 0, none⟩ (.bool true)).heap[D2]? = some (.deferred (some [])) := (Below.heap_setCell W' ⟨w.heap.size + 2, 0, none⟩ _ D2 (by show D2 ≠ w.heap.size + 2; have := HDL.out; omega)).trans HKE.out
    have hf3 := HRC.out.set 0 (.bool true)
    have hb3 := (below_next HB0.out (Nat.le_refl _) HBE.out).setCell (p := ⟨w.heap.size + 2, 0, none⟩) (by show w.heap.size ≤ w.heap.size + 2; omega) (.bool true)
    generalize W'.setCell ⟨w.heap.size + 2, 0, none⟩ (.bool true) = w9 at *
    refine ⟨by simp, .inl ⟨_, _, rfl, run_takeDeferred hk3, ?_⟩⟩
    have hg4 := grownBy_putObj' w9 D2 (.deferred none)
    have hf4 : Blk (w9.putObj D2 (.deferred none)) (w.heap.size + 2) 4 #[.bool true] := Blk.grown (row := some D2) hf3 hg4 (fun e => by injection e; have := HDL.out; omega)
    exact ⟨_, results_boolcell rfl _ _ _ _ rfl hf4, rfl, hb3.grown hg4 hb3.size (fun k e => by injection e; have := HDL.out; omega)⟩
  case stop2 =>
    rintro D c k W _ h _
    exact h.elim

theorem allenumlaw_top {H : Type} {enc : TypeId × Value → H} {r : Reach} {b0 : Nat} {w : World} {base : Nat} {sp : Nat → Bool} {held : Bool} (v0 : Value) (d0 : DataW H) (p0 : List MemPlace) (h0 : Value.okWide Try.prog w r b0 22 v0) (t0 : DataW.Trod enc Try.prog w base sp held 22 v0 d0 p0)
    {b1 : Nat} {sp1 : Nat → Bool} (v1 : Value) (d1 : DataW H) (p1 : List MemPlace) (h1 : Value.okWide Try.prog w r b1 24 v1) (t1 : DataW.Trod enc Try.prog w base sp1 held 24 v1 d1 p1)
    (w' : World) (hw : w' = w := by rfl) :
    Calls Try.prog 3 #[v0, v1] w' fun e w'' => e = .returned (.bool true) ∧ Below w'.heap.size w' w'' := by
  subst hw
  obtain ⟨D, hD⟩ := decls_top h0 t0
  obtain ⟨v, le, inp, rfl⟩ := box_open h1 t1
  exact allenumlaw D v0 v le inp w' hD
end Go.Proofs.Ytklbaocgjegdfaa
