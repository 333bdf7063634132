/- The law EnumerateNested: its walk. -/
import Derived.Test.YtklbaocgjegdfaaEnK
import Derived.Test.YtklbaocgjegdfaaEnBx
namespace Go.Proofs.Ytklbaocgjegdfaa
open Go.RowKit Go.Shelf Go.ChangeShapes

attribute [local go_sem] Oper.semAt_some

/-- between two rounds of the second loop: how far the list has been found -/
structure NeI (Wd : World) (LB LC : List St) (pre : List St) (O : Nat → Prop) (W : World) : Prop where
  k : ∃ k : Nat, Found LB pre k ∧ Blk W Wd.heap.size 3 #[.int .i64 k]
  take : pre = LC.take pre.length
  old : ∀ j, O j → Wd.heap.size + 1 ≤ j ∧ j < W.heap.size
  bel : Below Wd.heap.size Wd W
theorem NeI.own {Wd : World} {LB LC : List St} {B : Nat} (hB : Wd.heap.size + 1 ≤ B) (O : Nat → Prop) : OwnFrom B (fun s W => NeI Wd LB LC s O W) := by
  rintro pre A A' row ⟨⟨k, h1, h2⟩, h3, h5, h6⟩ hg hr
  exact ⟨⟨k, h1, h2.row hg hr⟩, h3, fun j hj => ⟨(h5 j hj).1, Nat.lt_of_lt_of_le (h5 j hj).2 hg.size⟩, below_row h6 (by omega) hg hr h6.size⟩
theorem NeI.bides (Wd : World) (LB LC : List St) : Bides (NeI Wd LB LC) := by
  rintro pre O O' A A' ⟨⟨k, h1, h2⟩, h3, h5, h6⟩ ⟨ht, hn⟩
  have hlt := h6.size
  have hlg := h2.lt
  refine ⟨⟨k, h1, h2.touch ht (fun h => by have := (h5 _ h).1; omega)⟩, h3, fun j hj => ?_, ?_⟩
  · rcases hn j hj with h | h
    · exact ⟨(h5 j h).1, Nat.lt_of_lt_of_le (h5 j h).2 ht.size⟩
    · omega
  · exact ⟨ht.os.trans h6.os, ht.tape.trans h6.tape, ht.output.trans h6.output, Nat.le_trans h6.size ht.size, fun j hj => (ht.block j (by omega) (fun ho => by have := (h5 j ho).1; omega)).trans (h6.block j hj)⟩

theorem NeI.pass {Wd A G : World} {LB LC pre : List St} {q : St} {O : Nat → Prop} {k : Nat} (h : NeI Wd LB LC pre O A) (hk : Blk A Wd.heap.size 3 #[.int .i64 (k : Int)]) (hb : Below A.heap.size A G) (hf : Found LB (pre ++ [q]) k) (ht : pre ++ [q] = LC.take (pre ++ [q]).length) : NeI Wd LB LC (pre ++ [q]) O G :=
  ⟨⟨k, hf, hk.next hb⟩, ht, fun j hj => ⟨(h.old j hj).1, Nat.lt_of_lt_of_le (h.old j hj).2 hb.size⟩, below_next h.bel (Nat.le_refl _) hb⟩
theorem NeI.put {Wd A G : World} {LB LC pre : List St} {q : St} {O : Nat → Prop} {k : Nat} (h : NeI Wd LB LC pre O A) (hk : Blk A Wd.heap.size 3 #[.int .i64 (k : Int)]) (hb : Below A.heap.size A G) (hf : Found LB (pre ++ [q]) (k + 1)) (ht : pre ++ [q] = LC.take (pre ++ [q]).length) :
    NeI Wd LB LC (pre ++ [q]) O (G.setCell ⟨Wd.heap.size, 0, none⟩ (.int .i64 ((k : Int) + 1))) :=
  ⟨⟨k + 1, hf, (hk.next hb).set 0 _⟩, ht, fun j hj => ⟨(h.old j hj).1, by have := (h.old j hj).2; have := hb.size; simp [World.setCell]; omega⟩, (below_next h.bel (Nat.le_refl _) hb).setCell (p := ⟨Wd.heap.size, 0, none⟩) (Nat.le_refl _) _⟩

set_option maxRecDepth 100000 in
set_option maxHeartbeats 16000000 in
theorem nestedlaw (D : List Decl) (u : Value) (v le inp x y z : Int) (w : World) (h1 : DeclsAt w u D) (hx : 0 ≤ x ∧ x ≤ 255) (hy : 0 ≤ y ∧ y ≤ 255) (hz : 0 ≤ z ∧ z ≤ 255) :
    Calls Try.prog 7 #[u, .agg #[.int .i64 v, .int .i64 le, .int .i64 inp], .int .u8 x, .int .u8 y, .int .u8 z] w fun e w' => e = .returned (.bool true) ∧ Below w.heap.size w w' := by
  have HA : Hid (∀ w, Calls Try.prog 11 #[] w fun e w' => e = .returned (.bool true) ∧ Below w.heap.size w w') := awake_any
  obtain ⟨⟨ad, cd, rfl, -, -, -⟩, -⟩ := id h1
  have x1 : IntKind.i64.wrap x = x := IntWalk.i64_in _ (by omega)
  have y1 : IntKind.i64.wrap y = y := IntWalk.i64_in _ (by omega)
  have z1 : IntKind.i64.wrap z = z := IntWalk.i64_in _ (by omega)
  refine (callsIn_wide (n := 3)).1 ?_
  refine callsIn_of_wp_marks Try.func7 rfl trivial ?_ rfl
  simp only [Try.ntmps7, List.size_toArray, List.length_nil, List.length_cons, Nat.reduceSub, Nat.reduceAdd, Array.replicate_succ, Array.replicate_zero, List.push_toArray, List.append_toArray, List.nil_append, List.cons_append]
  gi_wp2_with fail
  obtain ⟨px, hpx⟩ : ∃ p, x % 2 = p := ⟨_, rfl⟩
  obtain ⟨py, hpy⟩ : ∃ p, y % 2 = p := ⟨_, rfl⟩
  obtain ⟨pz, hpz⟩ : ∃ p, z % 2 = p := ⟨_, rfl⟩
  have bx : 0 ≤ px ∧ px ≤ 1 := by omega
  have bY : 0 ≤ py ∧ py ≤ 1 := by omega
  have bz : 0 ≤ pz ∧ pz ≤ 1 := by omega
  rw [hpx, hpy, hpz]
  obtain ⟨vc, hvc⟩ : ∃ p, wrap64 (v + px) = p := ⟨_, rfl⟩
  obtain ⟨lc, hlc⟩ : ∃ p, wrap64 (le + py) = p := ⟨_, rfl⟩
  obtain ⟨ic, hic⟩ : ∃ p, wrap64 (inp + pz) = p := ⟨_, rfl⟩
  rw [hvc, hlc, hic]
  have HVC := Lib.hid hvc
  have HLC := Lib.hid hlc
  have HIC := Lib.hid hic
  have HPX := Lib.hid bx
  have HPY := Lib.hid bY
  have HPZ := Lib.hid bz
  clear hpx hpy hpz x1 y1 z1 hx hy hz hvc hlc hic bx bY bz
  obtain ⟨W0, hW0⟩ : ∃ W0, W0 = (w.alloc (.cells #[.int .i64 v, .int .i64 le, .int .i64 inp] 24)).alloc (.cells #[.int .i64 vc, .int .i64 lc, .int .i64 ic] 24) := ⟨_, rfl⟩
  have hs0 : W0.heap.size = w.heap.size + 1 + 1 := by rw [hW0]; simp
  have hB0 : Below w.heap.size w W0 := by rw [hW0]; exact below_next (below_alloc _ _) (Nat.le_refl _) (below_alloc _ _)
  have hkb : Blk W0 w.heap.size 24 #[.int .i64 v, .int .i64 le, .int .i64 inp] := by rw [hW0]; exact blk_nx (Blk.new _ _ _) _
  have hkc : Blk W0 (w.heap.size + 1) 24 #[.int .i64 vc, .int .i64 lc, .int .i64 ic] := by rw [hW0]; exact blk_at (by simp) _ _
  rw [← hW0]
  have HC : Hid (∀ w', Below W0.heap.size W0 w' → w'.cell? ⟨w.heap.size, 0, none⟩ = some (.int .i64 v) ∧ w'.cell? ⟨w.heap.size, 1, none⟩ = some (.int .i64 le) ∧ w'.cell? ⟨w.heap.size, 2, none⟩ = some (.int .i64 inp) ∧
      w'.cell? ⟨w.heap.size + 1, 0, none⟩ = some (.int .i64 vc) ∧ w'.cell? ⟨w.heap.size + 1, 1, none⟩ = some (.int .i64 lc) ∧ w'.cell? ⟨w.heap.size + 1, 2, none⟩ = some (.int .i64 ic)) :=
    fun w' hb => ⟨(hkb.next hb).cell 0, (hkb.next hb).cell 1, (hkb.next hb).cell 2, (hkc.next hb).cell 0, (hkc.next hb).cell 1, (hkc.next hb).cell 2⟩
  have HD : Hid (∀ w', Below W0.heap.size W0 w' → DeclsAt w' (.slice ad D.length cd) D) := fun w' hb => (h1.below hB0 (Nat.le_refl _)).below hb (Nat.le_refl _)
  have HB0 := Lib.hid hB0
  have HS0 := Lib.hid hs0
  clear hW0 hkb hkc hB0 hs0 h1
  refine ⟨trivial, (callsIn_wide.2 (HA.out _)).mono ?_⟩
  rintro e w1 ⟨rfl, hb1⟩
  have H1 := Lib.hid hb1
  obtain ⟨x0, x1, x2, x3, x4, x5⟩ := HC.out w1 hb1
  clear hb1
  gi_wp2_with fail
  refine ⟨trivial, (callsIn_wide.2 (small_any2 D _ v le inp w1 (HD.out w1 H1.out))).mono ?_⟩
  rintro e w2 ⟨b, rfl, hb, hb2⟩
  have H2 := Lib.hid (below_next H1.out (Nat.le_refl _) hb2)
  have HSM := Lib.hid hb
  clear hb hb2 x0 x1 x2 x3 x4 x5
  obtain ⟨x0, x1, x2, x3, x4, x5⟩ := HC.out w2 H2.out
  cases b with
  | false =>
    gi_wp2_with fail
    refine ⟨trivial, ?_⟩
    gi_wp2_with fail
    refine ⟨trivial, (callsIn_wide.2 (HA.out _)).mono ?_⟩
    rintro e w3 ⟨rfl, hb3⟩
    have H3 := Lib.hid (below_next HB0.out (Nat.le_refl _) (below_next H2.out (Nat.le_refl _) hb3))
    clear hb3 x0 x1 x2 x3 x4 x5
    gi_wp2
    exact ⟨_, results_tmp rfl _ _ _, rfl, H3.out⟩
  | true =>
  gi_wp2_with fail
  refine ⟨trivial, (callsIn_wide.2 (small_any2 D _ vc lc ic w2 (HD.out w2 H2.out))).mono ?_⟩
  rintro e w3 ⟨b, rfl, hb, hb3⟩
  have H3 := Lib.hid (below_next H2.out (Nat.le_refl _) hb3)
  have HSC := Lib.hid hb
  clear hb hb3 x0 x1 x2 x3 x4 x5
  obtain ⟨x0, x1, x2, x3, x4, x5⟩ := HC.out w3 H3.out
  cases b with
  | false =>
    gi_wp2_with fail
    refine ⟨trivial, (callsIn_wide.2 (HA.out _)).mono ?_⟩
    rintro e w4 ⟨rfl, hb4⟩
    have H4 := Lib.hid (below_next HB0.out (Nat.le_refl _) (below_next H3.out (Nat.le_refl _) hb4))
    clear hb4 x0 x1 x2 x3 x4 x5
    gi_wp2
    exact ⟨_, results_tmp rfl _ _ _, rfl, H4.out⟩
  | true =>
  obtain ⟨v', le', inp', rfl, rfl, rfl, hsb⟩ := HSM.out trivial
  obtain ⟨vc', lc', ic', rfl, rfl, rfl, hsc⟩ := HSC.out rfl
  have HSB := Lib.hid hsb
  have HSC' := Lib.hid hsc
  clear HSM HSC hsb hsc
  obtain ⟨W3, hW3⟩ : ∃ W3, W3 = w3.alloc (.cells #[.slice none 0 0] 27) := ⟨_, rfl⟩
  clear x0 x1 x2 x3 x4 x5
  have H3' := Lib.hid (below_next H3.out (Nat.le_refl _) (below_alloc w3 (.cells #[.slice none 0 0] 27)))
  obtain ⟨x0, x1, x2, x3, x4, x5⟩ := HC.out _ H3'.out
  gi_wp2_with fail
  rw [← hW3] at H3' ⊢
  have hkl : Blk W3 w3.heap.size 27 #[.slice none 0 0] := by rw [hW3]; exact blk_at rfl _ _
  have hs3 : W3.heap.size = w3.heap.size + 1 := by rw [hW3]; simp
  clear hW3 x0 x1 x2 x3 x4 x5
  obtain ⟨n0, hn0⟩ : ∃ n0, w3.heap.size = n0 := ⟨_, rfl⟩
  have hs03 := H3.out.size
  rw [hn0] at hs3 hkl hs03 ⊢
  refine ⟨trivial, (callsIn_wide.2 (all_any D _ v' le' inp' W3 (HD.out W3 H3'.out) HSB.out.val ⟨by omega, by have := HSB.out.v1000; omega⟩ ⟨by omega, by have := HSB.out.le1000; omega⟩ ⟨by omega, by have := HSB.out.inp1000; omega⟩)).mono ?_⟩
  rintro e w4 ⟨lb, O, rfl, hb4, hO, hseq⟩
  have hs4 := hb4.size
  have H4 := Lib.hid (below_next H3'.out (Nat.le_refl _) hb4)
  have HKL := Lib.hid (hkl.next hb4)
  have HSEQ := Lib.hid hseq
  have HO : Hid (∀ b, O b → n0 + 1 ≤ b ∧ b < w4.heap.size) := fun b hb => by have := hO b hb; omega
  obtain ⟨LB, hLB⟩ : ∃ L, (allP (2 * (v' : Int) + 1) (lensP D le' inp')).map mkSt = L := ⟨_, rfl⟩
  rw [hLB] at HSEQ
  have HLB := Lib.hid hLB
  have hs00 := HS0.out
  have H41 : Hid (W0.heap.size ≤ n0 ∧ n0 + 1 ≤ w4.heap.size) := ⟨hs03, by omega⟩
  clear hO hseq hb4 hkl hs03 hn0 hs3 hs4 hLB hs00
  -- ROUND1
  have HLE : Hid (v' ≤ vc' ∧ le' ≤ lc' ∧ inp' ≤ ic') := by
    have a1 := HVC.out
    have a2 := HLC.out
    have a3 := HIC.out
    have b1 := HPX.out
    have b2 := HPY.out
    have b3 := HPZ.out
    have c1 := HSB.out.v1000
    have c2 := HSB.out.le1000
    have c3 := HSB.out.inp1000
    unfold wrap64 at a1 a2 a3
    refine ⟨?_, ?_, ?_⟩ <;> omega
  have HLBOK : Hid (LB.length ≤ 500 ∧ ∀ x ∈ LB, InSt x ∧ Sized x ∧ x.cells.length = D.length ∧ x.out = []) := by
    rw [← HLB.out]
    exact ⟨HSB.out.count500, fun x hx => HSB.out.of hx⟩
  gi_wp2_with fail
  refine range_mem rfl (by decide) (gf := 32) (lb := lb) rfl trivial (enters_of Try.func32 (by kernel_rfl) rfl) (Arg := ArgAt) (HSEQ.out _) (Below.refl _ _) (fun b hb => (HO.out b hb).2)
    (CoI w4 n0) (fun _ _ _ => False) (CoI.own H41.out.2) (fun _ _ _ _ _ h _ _ => h) (CoI.bides w4 n0)
    ⟨⟨_, HKL.out, Coll.nil _ _ _⟩, HO.out, Below.refl _ _, H41.out.2⟩
    (fun v q O a' W => ∃ b Bx ac cc ai ci ao co, n0 + 1 ≤ Bx ∧ (∃ vg, Blk W n0 27 #[vg] ∧ ∀ j, vg.ownBlock = some j → j < Bx) ∧ StNew b W (.agg #[.slice ac q.cells.length cc, .slice ai q.inp.length ci, .slice ao q.out.length co]) q ∧ Blk W Bx 35 #[.slice ac q.cells.length cc, .slice ai q.inp.length ci, .slice ao q.out.length co] ∧ a' = { tmps := #[.slice ad D.length cd, .agg #[.int .i64 (v' : Int), .int .i64 (le' : Int), .int .i64 (inp' : Int)], .int .u8 x, .int .u8 y, .int .u8 z, undef, .pointer (some ⟨w.heap.size, 0, none⟩), undef, undef, undef, .bool false, .pointer (some ⟨w.heap.size + 1, 0, none⟩), .pointer (some ⟨n0, 0, none⟩), .pointer (some ⟨Bx, 0, none⟩), undef, undef, .pointer (some ⟨w.heap.size, 0, none⟩), .int .i64 (v' : Int), .int .u8 x, .int .i64 x, .int .i64 px, .int .i64 (vc' : Int), .pointer (some ⟨w.heap.size, 1, none⟩), .int .i64 (le' : Int), .int .u8 y, .int .i64 y, .int .i64 py, .int .i64 (lc' : Int), .pointer (some ⟨w.heap.size, 2, none⟩), .int .i64 (inp' : Int), .int .u8 z, .int .i64 z, .int .i64 pz, .int .i64 (ic' : Int), .agg #[.int .i64 (vc' : Int), .int .i64 (lc' : Int), .int .i64 (ic' : Int)], .bool true, .bool false, .bool false, .slice ad D.length cd, .agg #[.int .i64 (v' : Int), .int .i64 (le' : Int), .int .i64 (inp' : Int)], .bool true, .bool false, .bool false, .bool false, .slice ad D.length cd, .agg #[.int .i64 (vc' : Int), .int .i64 (lc' : Int), .int .i64 (ic' : Int)], .bool true, .bool false, .bool false, undef, .slice ad D.length cd, .agg #[.int .i64 (v' : Int), .int .i64 (le' : Int), .int .i64 (inp' : Int)], .func (.func 32) #[] lb, .agg #[.slice ac q.cells.length cc, .slice ai q.inp.length ci, .slice ao q.out.length co], undef, undef, undef, undef, undef, undef, undef, undef, undef, undef, undef, undef, undef, undef, undef, undef, undef, undef, undef, undef, undef, undef, undef, undef, undef, undef, undef], defers := [] })
    ?ax ?assign ?body ?done ?stop
  case ax =>
    rintro v q O a' ⟨⟩ W W' row ⟨b, Bx, ac, cc, ai, ci, ao, co, h1, ⟨vg, h2, h2'⟩, h3, h6, h7⟩ hg hr
    exact ⟨b, Bx, ac, cc, ai, ci, ao, co, h1, ⟨vg, h2.row hg hr, h2'⟩, h3.row hg hr, h6.row hg hr, h7⟩
  case assign =>
    rintro l pre v q O A W K hIA hbA ⟨-, -, hst⟩ hI hK
    obtain ⟨ac, cc, ai, ci, ao, co, rfl⟩ := hst.form
    have hgl := hI.got
    obtain ⟨vg, hgb, tsg, -, hgo, -, -⟩ := hgl
    have hlt := hgb.lt
    have HST := Lib.hid hst
    have HI := Lib.hid hI
    have HG : Hid (∃ vg, Blk W n0 27 #[vg] ∧ ∀ j, vg.ownBlock = some j → j < W.heap.size) := ⟨vg, hgb, fun j hj => (hgo.lt j hj).2⟩
    have HKK := Lib.hid hK
    clear hst hI hK hgb hgo hIA hbA
    gi_wp2
    refine HKK.out _ _ ((KeepsOthers.alloc _ _).from _) (leaves_below (below_alloc _ _) (fun j hj => (HI.out.old j hj).2)) ((CoI.own (Nat.le_refl _) O).alloc _ HI.out) ⟨A.heap.size, W.heap.size, ac, cc, ai, ci, ao, co, by omega, ?_, HST.out.next (below_alloc _ _), Blk.new _ _ _, rfl⟩
    obtain ⟨vg, h1, h2⟩ := HG.out
    exact ⟨vg, h1.next (below_alloc _ _), h2⟩
  case body =>
    rintro l pre v q O a' W hl ⟨r, hr⟩ hI ⟨b, Bx, ac, cc, ai, ci, ao, co, hBn, ⟨vg, hvg, hvgo⟩, hst, hX, rfl⟩ hget
    obtain ⟨hq1, hq2, hq3, -⟩ := HLBOK.out.2 q (List.mem_of_getElem? hget)
    have hpl : pre.length < 500 := Nat.lt_of_lt_of_le (List.getElem?_eq_some_iff.1 hget).1 HLBOK.out.1
    have hcl := sclone_any q _ W.drew ((hst.next (below_drew (Below.refl W.heap.size W))).at_ hq1) hq2 (by have := HSB.out.six; omega)
    obtain ⟨v, hgot, ts, hts, hown, hvo, htt⟩ := id hI.got
    have evg : vg = v := by
      unfold Blk at hvg hgot
      rw [hvg] at hgot
      simpa using hgot
    subst evg
    obtain ⟨ag, cg, rfl⟩ := own_form hown
    obtain ⟨np, hnp⟩ : ∃ np, pre.length = np := ⟨_, rfl⟩
    obtain ⟨nc, hnc⟩ : ∃ np, q.cells.length = np := ⟨_, rfl⟩
    obtain ⟨ni, hni⟩ : ∃ np, q.inp.length = np := ⟨_, rfl⟩
    obtain ⟨no, hno⟩ : ∃ np, q.out.length = np := ⟨_, rfl⟩
    rw [hnp] at hpl hown hgot hvo hvgo
    rw [hnc, hni, hno] at hX hcl ⊢
    have x0 := hX.cell 0
    have x0' := hX.cell 1
    have x0'' := hX.cell 2
    have x1 := hgot.cell 0
    have x2 := hgot.free 0
    simp only [List.getElem?_toArray, List.getElem?_cons_zero, List.getElem?_cons_succ] at x0 x0' x0'' x1
    have HCL := Lib.hid hcl
    have HI := Lib.hid hI
    have HTS := Lib.hid hts
    have HTT := Lib.hid htt
    have HOWN := Lib.hid hown
    have HGOT := Lib.hid hgot
    have HGL := Lib.hid hgot.lt
    have HVO := Lib.hid hvo
    have HVG := Lib.hid hvgo
    have HX := Lib.hid hX
    have HNP := Lib.hid hnp
    have HNC := Lib.hid hnc
    have HNI := Lib.hid hni
    have HNO := Lib.hid hno
    have HBN : Hid (Bx ≠ n0) := fun e => by omega
    have HSS : Hid (∀ w', Blk w' Bx 35 #[.slice ac nc cc, .slice ai ni ci, .slice ao no co] → w'.cell? ⟨Bx, 0, none⟩ = some (.slice ac nc cc) ∧ w'.cell? ⟨Bx, 1, none⟩ = some (.slice ai ni ci) ∧ w'.cell? ⟨Bx, 2, none⟩ = some (.slice ao no co)) := fun w' h => ⟨h.cell 0, h.cell 1, h.cell 2⟩
    clear hst hvg hvgo hcl hI hts htt hown hgot hvo hX hget hnp hq1 hq2 hq3 hnc hni hno
    obtain ⟨i0, hi, hz0, hz1, hz2⟩ := info_parts stateInfo
    gi_wp2
    refine round_held (fun w' => w'.cell? ⟨Bx, 0, none⟩ = some (.slice ac nc cc) ∧ w'.cell? ⟨Bx, 1, none⟩ = some (.slice ai ni ci) ∧ w'.cell? ⟨Bx, 2, none⟩ = some (.slice ao no co)) (by kernel_rfl) (by kernel_rfl) ⟨x0, x0', x0''⟩ (fun hS => ?_)
    refine wpAnyH_take (i := 1) (v := .agg #[.slice ac nc cc, .slice ai ni ci, .slice ao no co]) rfl (by kernel_rfl) (by kernel_rfl) (by kernel_rfl) (fun _ _ _ h => h) (Or.inl ⟨by rfl, fun w0 hw0 => by obtain ⟨s0, s1, s2⟩ := hw0; go_simp⟩) hS ?_
    go_simp
    refine wpAnyH_ready (rs := [0, 2]) (by kernel_rfl) (by simp) ?_
    refine AllReadyH.cons rfl (fun K hK => ?_) (AllReadyH.cons rfl (fun K hK => ?_) AllReadyH.nil)
    · go_simp
      refine hK.out _ _ hS (fun hS => ?_)
      clear hK K
      refine wpAnyH_ready (rs := [2]) (by kernel_rfl) (by simp) ?_
      refine AllReadyH.cons rfl (fun K hK => ?_) AllReadyH.nil
      go_simp
      refine HCL.out.mono ?_
      rintro e w2 ⟨r, rfl, hr2, hb2⟩
      obtain ⟨rc, kc, ri, ki, ro, ko, rfl⟩ := hr2.form
      have HR2 := Lib.hid hr2
      have HB2 := Lib.hid (below_next (below_drew (Below.refl W.heap.size W)) (Nat.le_refl _) hb2)
      have hx1 := cell_below HB2.out HGL.out x1
      have hs2 := HB2.out.size
      rw [HNC.out, HNI.out, HNO.out]
      clear hr2 hb2
      refine hK.out _ _ (HSS.out _ (HX.out.next HB2.out)) (fun hS => ?_)
      clear hK K
      refine wpAnyH_ready (rs := [3]) (by kernel_rfl) (by simp) ?_
      refine AllReadyH.cons rfl (fun K hK => ?_) AllReadyH.nil
      go_simp
      refine hK.out _ _ (HSS.out _ ((HX.out.next HB2.out).next (below_alloc _ _))) (fun hS => ?_)
      clear hK K
      have hx2 := alloc_cell hx1 (.cells #[.slice rc nc kc, .slice ri ni ki, .slice ro no ko] 35)
      refine wpAnyH_ready (rs := [4]) (by kernel_rfl) (by simp) ?_
      refine AllReadyH.cons rfl (fun K hK => ?_) AllReadyH.nil
      refine step_append_own2 (w2.alloc (.cells #[.slice rc nc kc, .slice ri ni ki, .slice ro no ko] 35)) rfl (.tmp 54) (.tmp 57) 27 rfl (n0 + 1) 35 i0 (.agg #[.slice none 0 0, .slice none 0 0, .slice none 0 0]) 3 72 Try.underlying27 hi hz0 hz1 hz2 rfl (by decide) (.slice ag np cg) np _ rfl ((own_below HOWN.out HB2.out).alloc _) ⟨w2.heap.size, 0, none⟩ 1 1 [.slice rc nc kc, .slice ri ni ki, .slice ro no ko] rfl rfl (cell_three_new w2 _ _ _ _) (by intro u hu; simp only [List.mem_cons, List.not_mem_nil, or_false] at hu; rcases hu with rfl | rfl | rfl <;> rfl) (by decide) (by unfold maxLen; omega) (by omega) (by have := HGL.out; simp; omega) ?_
      intro v5 w5 hown5 hgr5 hpos5
      have hbA : Below W.heap.size W (w2.alloc (.cells #[.slice rc nc kc, .slice ri ni ki, .slice ro no ko] 35)) := below_next HB2.out (Nat.le_refl _) (below_alloc _ _)
      obtain ⟨f1, f3, f4, f5⟩ := co_fin HI.out hbA HGOT.out HTS.out (by rw [HNP.out]; exact HOWN.out) HVO.out HTT.out (hs := by have := StNew.next HR2.out (below_alloc w2 (.cells #[.slice rc nc kc, .slice ri ni ki, .slice ro no ko] 35)); rw [HNC.out, HNI.out, HNO.out] at this; exact this) (Nat.le_refl _) (by rw [HNP.out]; exact hown5) hgr5 hpos5 w4.heap.size
      have hX5 := (HX.out.next hbA).grown hgr5 (fun e => Nat.lt_irrefl _ (HVG.out _ e.symm))
      obtain ⟨a5, c5, rfl⟩ := own_form hown5
      have g0 := f1.cell 0
      have g1 := f1.free 0
      simp only [List.getElem?_toArray, List.getElem?_cons_zero] at g0
      have F5 := Lib.hid f5
      have F3 := Lib.hid f3
      have F4 := Lib.hid f4
      have HX5 := Lib.hid hX5
      clear f1 f3 f4 f5 hown5 hgr5 hpos5 hX5 hbA
      go_simp
      refine hK.out _ _ (HSS.out _ HX5.out) (fun hS => ?_)
      clear hK K
      refine wpAnyH_ready (rs := [5]) (by kernel_rfl) (by simp) ?_
      refine AllReadyH.cons rfl (fun K hK => ?_) AllReadyH.nil
      go_simp
      refine hK.out _ _ (HSS.out _ (blk_st HX5.out HBN.out)) (fun hS => ?_)
      clear hK K
      refine wpAnyH_done (by kernel_rfl) ?_ _
      exact ⟨F3.out, F4.out, F5.out⟩
    · go_simp
      refine HCL.out.mono ?_
      rintro e w2 ⟨r, rfl, hr2, hb2⟩
      obtain ⟨rc, kc, ri, ki, ro, ko, rfl⟩ := hr2.form
      have HR2 := Lib.hid hr2
      have HB2 := Lib.hid (below_next (below_drew (Below.refl W.heap.size W)) (Nat.le_refl _) hb2)
      have hx1 := cell_below HB2.out HGL.out x1
      have hs2 := HB2.out.size
      rw [HNC.out, HNI.out, HNO.out]
      clear hr2 hb2
      refine hK.out _ _ (HSS.out _ (HX.out.next HB2.out)) (fun hS => ?_)
      clear hK K
      refine wpAnyH_ready (rs := [0, 3]) (by kernel_rfl) (by simp) ?_
      refine AllReadyH.cons rfl (fun K hK => ?_) (AllReadyH.cons rfl (fun K hK => ?_) AllReadyH.nil)
      · go_simp
        refine hK.out _ _ hS (fun hS => ?_)
        clear hK K
        refine wpAnyH_ready (rs := [3]) (by kernel_rfl) (by simp) ?_
        refine AllReadyH.cons rfl (fun K hK => ?_) AllReadyH.nil
        go_simp
        refine hK.out _ _ (HSS.out _ ((HX.out.next HB2.out).next (below_alloc _ _))) (fun hS => ?_)
        clear hK K
        have hx2 := alloc_cell hx1 (.cells #[.slice rc nc kc, .slice ri ni ki, .slice ro no ko] 35)
        refine wpAnyH_ready (rs := [4]) (by kernel_rfl) (by simp) ?_
        refine AllReadyH.cons rfl (fun K hK => ?_) AllReadyH.nil
        refine step_append_own2 (w2.alloc (.cells #[.slice rc nc kc, .slice ri ni ki, .slice ro no ko] 35)) rfl (.tmp 54) (.tmp 57) 27 rfl (n0 + 1) 35 i0 (.agg #[.slice none 0 0, .slice none 0 0, .slice none 0 0]) 3 72 Try.underlying27 hi hz0 hz1 hz2 rfl (by decide) (.slice ag np cg) np _ rfl ((own_below HOWN.out HB2.out).alloc _) ⟨w2.heap.size, 0, none⟩ 1 1 [.slice rc nc kc, .slice ri ni ki, .slice ro no ko] rfl rfl (cell_three_new w2 _ _ _ _) (by intro u hu; simp only [List.mem_cons, List.not_mem_nil, or_false] at hu; rcases hu with rfl | rfl | rfl <;> rfl) (by decide) (by unfold maxLen; omega) (by omega) (by have := HGL.out; simp; omega) ?_
        intro v5 w5 hown5 hgr5 hpos5
        have hbA : Below W.heap.size W (w2.alloc (.cells #[.slice rc nc kc, .slice ri ni ki, .slice ro no ko] 35)) := below_next HB2.out (Nat.le_refl _) (below_alloc _ _)
        obtain ⟨f1, f3, f4, f5⟩ := co_fin HI.out hbA HGOT.out HTS.out (by rw [HNP.out]; exact HOWN.out) HVO.out HTT.out (hs := by have := StNew.next HR2.out (below_alloc w2 (.cells #[.slice rc nc kc, .slice ri ni ki, .slice ro no ko] 35)); rw [HNC.out, HNI.out, HNO.out] at this; exact this) (Nat.le_refl _) (by rw [HNP.out]; exact hown5) hgr5 hpos5 w4.heap.size
        have hX5 := (HX.out.next hbA).grown hgr5 (fun e => Nat.lt_irrefl _ (HVG.out _ e.symm))
        obtain ⟨a5, c5, rfl⟩ := own_form hown5
        have g0 := f1.cell 0
        have g1 := f1.free 0
        simp only [List.getElem?_toArray, List.getElem?_cons_zero] at g0
        have F5 := Lib.hid f5
        have F3 := Lib.hid f3
        have F4 := Lib.hid f4
        have HX5 := Lib.hid hX5
        clear f1 f3 f4 f5 hown5 hgr5 hpos5 hX5 hbA
        go_simp
        refine hK.out _ _ (HSS.out _ HX5.out) (fun hS => ?_)
        clear hK K
        refine wpAnyH_ready (rs := [5]) (by kernel_rfl) (by simp) ?_
        refine AllReadyH.cons rfl (fun K hK => ?_) AllReadyH.nil
        go_simp
        refine hK.out _ _ (HSS.out _ (blk_st HX5.out HBN.out)) (fun hS => ?_)
        clear hK K
        refine wpAnyH_done (by kernel_rfl) ?_ _
        exact ⟨F3.out, F4.out, F5.out⟩
      · go_simp
        refine hK.out _ _ (HSS.out _ ((HX.out.next HB2.out).next (below_alloc _ _))) (fun hS => ?_)
        clear hK K
        have hx2 := alloc_cell hx1 (.cells #[.slice rc nc kc, .slice ri ni ki, .slice ro no ko] 35)
        refine wpAnyH_ready (rs := [0]) (by kernel_rfl) (by simp) ?_
        refine AllReadyH.cons rfl (fun K hK => ?_) AllReadyH.nil
        go_simp
        refine hK.out _ _ hS (fun hS => ?_)
        clear hK K
        refine wpAnyH_ready (rs := [4]) (by kernel_rfl) (by simp) ?_
        refine AllReadyH.cons rfl (fun K hK => ?_) AllReadyH.nil
        refine step_append_own2 (w2.alloc (.cells #[.slice rc nc kc, .slice ri ni ki, .slice ro no ko] 35)) rfl (.tmp 54) (.tmp 57) 27 rfl (n0 + 1) 35 i0 (.agg #[.slice none 0 0, .slice none 0 0, .slice none 0 0]) 3 72 Try.underlying27 hi hz0 hz1 hz2 rfl (by decide) (.slice ag np cg) np _ rfl ((own_below HOWN.out HB2.out).alloc _) ⟨w2.heap.size, 0, none⟩ 1 1 [.slice rc nc kc, .slice ri ni ki, .slice ro no ko] rfl rfl (cell_three_new w2 _ _ _ _) (by intro u hu; simp only [List.mem_cons, List.not_mem_nil, or_false] at hu; rcases hu with rfl | rfl | rfl <;> rfl) (by decide) (by unfold maxLen; omega) (by omega) (by have := HGL.out; simp; omega) ?_
        intro v5 w5 hown5 hgr5 hpos5
        have hbA : Below W.heap.size W (w2.alloc (.cells #[.slice rc nc kc, .slice ri ni ki, .slice ro no ko] 35)) := below_next HB2.out (Nat.le_refl _) (below_alloc _ _)
        obtain ⟨f1, f3, f4, f5⟩ := co_fin HI.out hbA HGOT.out HTS.out (by rw [HNP.out]; exact HOWN.out) HVO.out HTT.out (hs := by have := StNew.next HR2.out (below_alloc w2 (.cells #[.slice rc nc kc, .slice ri ni ki, .slice ro no ko] 35)); rw [HNC.out, HNI.out, HNO.out] at this; exact this) (Nat.le_refl _) (by rw [HNP.out]; exact hown5) hgr5 hpos5 w4.heap.size
        have hX5 := (HX.out.next hbA).grown hgr5 (fun e => Nat.lt_irrefl _ (HVG.out _ e.symm))
        obtain ⟨a5, c5, rfl⟩ := own_form hown5
        have g0 := f1.cell 0
        have g1 := f1.free 0
        simp only [List.getElem?_toArray, List.getElem?_cons_zero] at g0
        have F5 := Lib.hid f5
        have F3 := Lib.hid f3
        have F4 := Lib.hid f4
        have HX5 := Lib.hid hX5
        clear f1 f3 f4 f5 hown5 hgr5 hpos5 hX5 hbA
        go_simp
        refine hK.out _ _ (HSS.out _ HX5.out) (fun hS => ?_)
        clear hK K
        refine wpAnyH_ready (rs := [5]) (by kernel_rfl) (by simp) ?_
        refine AllReadyH.cons rfl (fun K hK => ?_) AllReadyH.nil
        go_simp
        refine hK.out _ _ (HSS.out _ (blk_st HX5.out HBN.out)) (fun hS => ?_)
        clear hK K
        refine wpAnyH_done (by kernel_rfl) ?_ _
        exact ⟨F3.out, F4.out, F5.out⟩
  case done =>
    rintro D1 O1 W hD hI1 hK1
    obtain ⟨vl, hgot, hcoll0⟩ := hI1.got
    have hcoll := hcoll0.free
    obtain ⟨nk, hnk⟩ : ∃ nk, W.heap.size = nk := ⟨_, rfl⟩
    have hbw : Below W0.heap.size W0 W := H4.out.trans (hI1.bel.mono H41.out.1)
    have HBW := Lib.hid hbw
    have HGOT := Lib.hid hgot
    have HCO := Lib.hid hcoll
    have HK1 := Lib.hid hK1
    have HNK := Lib.hid hnk
    have H7 := Lib.hid (below_next hbw (Nat.le_refl _) (below_alloc W (.cells #[.int .i64 0] 3)))
    obtain ⟨x0, x1, x2, x3, x4, x5⟩ := HC.out _ H7.out
    have hkk : Blk (W.alloc (.cells #[.int .i64 0] 3)) nk 3 #[.int .i64 ((0 : Nat) : Int)] := by rw [← hnk]; exact Blk.new _ _ _
    have hbk := below_alloc W (.cells #[.int .i64 0] 3)
    have hs5 : (W.alloc (.cells #[.int .i64 0] 3)).heap.size = nk + 1 := by rw [← hnk]; simp
    clear hI1 hgot hcoll hcoll0 hbw hK1 hnk
    gi_wp2_with fail
    rw [HNK.out]
    generalize W.alloc (.cells #[.int .i64 0] 3) = W5 at *
    clear x0 x1 x2 x3 x4 x5
    refine ⟨trivial, (callsIn_wide.2 (all_any D _ vc' lc' ic' W5 (HD.out W5 H7.out) HSC'.out.val ⟨by omega, by have := HSC'.out.v1000; omega⟩ ⟨by omega, by have := HSC'.out.le1000; omega⟩ ⟨by omega, by have := HSC'.out.inp1000; omega⟩)).mono ?_⟩
    rintro e w6 ⟨lb2, O2, rfl, hb6, hO2, hseq2⟩
    have hs6 := hb6.size
    have H8 := Lib.hid (below_next H7.out (Nat.le_refl _) hb6)
    have HKK := Lib.hid (hkk.next hb6)
    have HBK := Lib.hid (below_next hbk (Nat.le_refl _) hb6)
    have HO2 : Hid (∀ b, O2 b → nk + 1 ≤ b ∧ b < w6.heap.size) := fun b hb => by have := hO2 b hb; omega
    obtain ⟨LC, hLC⟩ : ∃ L, stsP D vc' lc' ic' = L := ⟨_, rfl⟩
    have hseq3 : ∀ n, SeqMem Fence.wide n Try.prog 32 lb2 ArgAt LC O2 w6 := by rw [← hLC]; exact hseq2
    have HSEQ2 := Lib.hid hseq3
    have HLCC := Lib.hid hLC
    have HSUB : Hid (∀ y ∈ LB, y ∈ LC) := by rw [← HLB.out, ← HLCC.out]; exact stsP_sub HSB.out HSC'.out HLE.out.1 HLE.out.2.1 HLE.out.2.2
    have H61 : Hid (nk + 1 ≤ w6.heap.size) := by show nk + 1 ≤ w6.heap.size; omega
    clear hO2 hseq2 hseq3 hb6 hkk hbk hs5 hs6 hLC
    gi_wp2_with fail
    refine range_mem rfl (by decide) (gf := 32) (lb := lb2) rfl trivial (enters_of Try.func32 (by kernel_rfl) rfl) (Arg := ArgAt) (HSEQ2.out _) (Below.refl _ _) (fun b hb => (HO2.out b hb).2)
      (NeI W LB LC) (fun _ _ _ => False) (NeI.own (by rw [HNK.out]; exact H61.out)) (fun _ _ _ _ _ h _ _ => h) (NeI.bides W LB LC)
      ⟨⟨0, Found.nil _, by rw [HNK.out]; exact HKK.out⟩, rfl, (by rw [HNK.out]; exact HO2.out), HBK.out⟩
      (fun v q O a' W' => ∃ b Bx ac cc ai ci ao co, nk + 1 ≤ Bx ∧ StNew b W' (.agg #[.slice ac q.cells.length cc, .slice ai q.inp.length ci, .slice ao q.out.length co]) q ∧ Blk W' Bx 35 #[.slice ac q.cells.length cc, .slice ai q.inp.length ci, .slice ao q.out.length co] ∧ a' = { tmps := #[.slice ad D.length cd, .agg #[.int .i64 (v' : Int), .int .i64 (le' : Int), .int .i64 (inp' : Int)], .int .u8 x, .int .u8 y, .int .u8 z, undef, .pointer (some ⟨w.heap.size, 0, none⟩), undef, undef, undef, .bool false, .pointer (some ⟨w.heap.size + 1, 0, none⟩), .pointer (some ⟨n0, 0, none⟩), undef, .pointer (some ⟨nk, 0, none⟩), .pointer (some ⟨Bx, 0, none⟩), .pointer (some ⟨w.heap.size, 0, none⟩), .int .i64 (v' : Int), .int .u8 x, .int .i64 x, .int .i64 px, .int .i64 (vc' : Int), .pointer (some ⟨w.heap.size, 1, none⟩), .int .i64 (le' : Int), .int .u8 y, .int .i64 y, .int .i64 py, .int .i64 (lc' : Int), .pointer (some ⟨w.heap.size, 2, none⟩), .int .i64 (inp' : Int), .int .u8 z, .int .i64 z, .int .i64 pz, .int .i64 (ic' : Int), .agg #[.int .i64 (vc' : Int), .int .i64 (lc' : Int), .int .i64 (ic' : Int)], .bool true, .bool false, .bool false, .slice ad D.length cd, .agg #[.int .i64 (v' : Int), .int .i64 (le' : Int), .int .i64 (inp' : Int)], .bool true, .bool false, .bool false, .bool false, .slice ad D.length cd, .agg #[.int .i64 (vc' : Int), .int .i64 (lc' : Int), .int .i64 (ic' : Int)], .bool true, .bool false, .bool false, undef, .slice ad D.length cd, .agg #[.int .i64 (v' : Int), .int .i64 (le' : Int), .int .i64 (inp' : Int)], .func (.func 32) #[] lb, undef, undef, undef, undef, undef, undef, .slice ad D.length cd, .agg #[.int .i64 (vc' : Int), .int .i64 (lc' : Int), .int .i64 (ic' : Int)], .func (.func 32) #[] lb2, .agg #[.slice ac q.cells.length cc, .slice ai q.inp.length ci, .slice ao q.out.length co], undef, undef, undef, undef, undef, undef, undef, undef, undef, undef, undef, undef, undef, undef, undef, undef, undef, undef], defers := [] })
      ?ax2 ?assign2 ?body2 ?done2 ?stop2
    case ax2 =>
      rintro v q O a' ⟨⟩ W' W'' row ⟨b, Bx, ac, cc, ai, ci, ao, co, h1, h3, h6, h7⟩ hg hr
      exact ⟨b, Bx, ac, cc, ai, ci, ao, co, h1, h3.row hg hr, h6.row hg hr, h7⟩
    case assign2 =>
      rintro l pre v q O A W' K hIA hbA ⟨-, -, hst⟩ hI hK
      obtain ⟨ac, cc, ai, ci, ao, co, rfl⟩ := hst.form
      obtain ⟨k, -, hkl⟩ := hI.k
      have hlt := hkl.lt
      rw [HNK.out] at hlt
      have HST := Lib.hid hst
      have HI := Lib.hid hI
      have HK2 := Lib.hid hK
      clear hst hI hK hkl hIA hbA
      gi_wp2
      exact HK2.out _ _ ((KeepsOthers.alloc _ _).from _) (leaves_below (below_alloc _ _) (fun j hj => (HI.out.old j hj).2)) ((NeI.own (Nat.le_refl _) O).alloc _ HI.out) ⟨A.heap.size, W'.heap.size, ac, cc, ai, ci, ao, co, by omega, HST.out.next (below_alloc _ _), Blk.new _ _ _, rfl⟩
    case body2 =>
      rintro l pre v q O a' W' hl ⟨r, hr⟩ hI ⟨b, Bx, ac, cc, ai, ci, ao, co, hBn, hst, hX, rfl⟩ hget
      obtain ⟨k, hf, hkb⟩ := id hI.k
      have ht := take_more hI.take hget
      have hq := List.mem_of_getElem? hget
      rw [← HLCC.out] at hq
      have hq1 := (HSC'.out.of hq).1
      have hm := take_next hI.take hget
      have hco := HCO.out.next (hI.bel)
      have hgl := HGOT.out.next hI.bel
      have HNX : Hid (∀ G, Below W'.heap.size W' G → Found LB (pre ++ [q]) k → KeepsFrom w6.heap.size W' G ∧ Leaves O W' G ∧ NeI W LB LC (pre ++ [q]) O G) := fun G hb hf => ⟨keeps_below hb _, leaves_below hb (fun j hj => (hI.old j hj).2), hI.pass hkb hb hf ht⟩
      have HPT : Hid (∀ G, Below W'.heap.size W' G → Found LB (pre ++ [q]) (k + 1) → KeepsFrom w6.heap.size W' (G.setCell ⟨nk, 0, none⟩ (.int .i64 ((k : Int) + 1))) ∧ Leaves O W' (G.setCell ⟨nk, 0, none⟩ (.int .i64 ((k : Int) + 1))) ∧ NeI W LB LC (pre ++ [q]) O (G.setCell ⟨nk, 0, none⟩ (.int .i64 ((k : Int) + 1)))) := fun G hb hf =>
        ⟨(keeps_below hb _).trans (keeps_set _ _ _ _ _), (leaves_below hb (fun j hj => (hI.old j hj).2)).trans (leaves_set _ _ _ (fun h => by have := (hI.old _ h).1; have := HNK.out; omega)), by have := hI.put hkb hb hf ht; rw [HNK.out] at this; exact this⟩
      have HF := Lib.hid hf
      have HM := Lib.hid hm
      have hkb' : Blk W' nk 3 #[.int .i64 (k : Int)] := by rw [← HNK.out]; exact hkb
      have y0 := hkb'.cell 0
      have y1 := hX.cell 0
      have y2 := hX.cell 1
      have y3 := hX.cell 2
      have y4 := hgl.cell 0
      simp only [List.getElem?_toArray, List.getElem?_cons_zero, List.getElem?_cons_succ] at y0 y1 y2 y3 y4
      have hn5 := HLBOK.out.1
      have HSBS : Hid (LB.Pairwise stLt) := by unfold Hid; rw [← HLB.out]; exact HSB.out.sorted
      have HSCS : Hid (LC.Pairwise stLt) := by unfold Hid; rw [← HLCC.out]; exact HSC'.out.sorted
      have z0 : ∀ d os, (Go.Sort.grow (redrawn W' d) os).cell? ⟨nk, 0, none⟩ = some (.int .i64 (k : Int)) := cell_regrown y0
      have z1 : ∀ d os, (Go.Sort.grow (redrawn W' d) os).cell? ⟨Bx, 0, none⟩ = some (.slice ac q.cells.length cc) := cell_regrown y1
      have z2 : ∀ d os, (Go.Sort.grow (redrawn W' d) os).cell? ⟨Bx, 1, none⟩ = some (.slice ai q.inp.length ci) := cell_regrown y2
      have z3 : ∀ d os, (Go.Sort.grow (redrawn W' d) os).cell? ⟨Bx, 2, none⟩ = some (.slice ao q.out.length co) := cell_regrown y3
      by_cases hlt : k < LB.length
      · obtain ⟨y, hy⟩ : ∃ y, LB[k]? = some y := ⟨_, List.getElem?_eq_getElem hlt⟩
        obtain ⟨g, c, c1, c2, c3, rfl, hg1, hg2, hso, d1, d2, d3⟩ := hco.get hy
        have hyi := (HLBOK.out.2 y (List.mem_of_getElem? hy)).1
        have CE : Hid (∀ d os, Calls Try.prog 23 #[.agg #[.slice ac q.cells.length cc, .slice ai q.inp.length ci, .slice ao q.out.length co], .agg #[c1, c2, c3]] (Go.Sort.grow (redrawn W' d) os) fun e w'' => e = .returned (.bool (decide (q = y))) ∧ Below (Go.Sort.grow (redrawn W' d) os).heap.size (Go.Sort.grow (redrawn W' d) os) w'') :=
          fun d os => equal_any q y _ _ _ ((hst.at_ hq1).below (below_regrown W' d os) (Nat.le_refl _)) ((hso.new.at_ hyi).below (below_regrown W' d os) (Nat.le_refl _))
        have z4 : ∀ d os, (Go.Sort.grow (redrawn W' d) os).cell? ⟨n0, 0, none⟩ = some (.slice (some ⟨g, 0, none⟩) LB.length c) := cell_regrown y4
        have z5 : ∀ d os, (Go.Sort.grow (redrawn W' d) os).cell? ⟨g, k * 3, none⟩ = some c1 := cell_regrown d1
        have z6 : ∀ d os, (Go.Sort.grow (redrawn W' d) os).cell? ⟨g, k * 3 + 1, none⟩ = some c2 := cell_regrown d2
        have z7 : ∀ d os, (Go.Sort.grow (redrawn W' d) os).cell? ⟨g, k * 3 + 2, none⟩ = some c3 := cell_regrown d3
        have HY := Lib.hid hy
        obtain ⟨nl, hnl⟩ : ∃ nl, LB.length = nl := ⟨_, rfl⟩
        rw [hnl] at hlt hn5 z4
        have hlt' : (k : Int) < (nl : Int) := by omega
        have u1 : IntKind.i64.wrap ((k : Int) + 1) = (k : Int) + 1 := IntWalk.i64_in _ (by omega)
        have u2 : wrap64 ((k : Int) + 1) = (k : Int) + 1 := by unfold wrap64; omega
        have HYI := Lib.hid hkb'
        clear hst hX hI hget hf hkb ht hq hq1 hm hco hgl y0 y1 y2 y3 y4 d1 d2 d3 hy hyi hso hg1 hg2 hnl hkb'
        by_cases hqy : q = y
        · rw [decide_eq_true hqy] at CE
          have HQY := Lib.hid hqy
          clear hqy
          gi_wp2_with fail
          refine round_quiet_below (by kernel_rfl) (by kernel_rfl) (by kernel_rfl) ?_
          repeat (quiet_step ((go_at_call 23; with_reducible exact Calls.regrown_of (CE.out _ _))))
          refine wpQuiet_nil ?_
          intro _ hw'
          obtain ⟨⟨dq, osq⟩, hw''⟩ := hw'
          subst hw''
          have HGG : Hid (Below W'.heap.size W' (Go.Sort.grow (redrawn W' dq) osq)) := below_regrown W' dq osq
          have t0 := z0 dq osq
          have t1 := (HYI.out.next HGG.out).free 0
          generalize Go.Sort.grow (redrawn W' dq) osq = G at *
          clear CE z0 z1 z2 z3 z4 z5 z6 z7
          gi_wp2
          exact HPT.out _ HGG.out (HF.out.hit HSBS.out (by rw [HQY.out]; exact HY.out))
        · rw [decide_eq_false hqy] at CE
          have HQY := Lib.hid hqy
          clear hqy
          gi_wp2_with fail
          refine round_quiet_below (by kernel_rfl) (by kernel_rfl) (by kernel_rfl) ?_
          repeat (quiet_step ((go_at_call 23; with_reducible exact Calls.regrown_of (CE.out _ _))))
          refine wpQuiet_nil ?_
          intro _ hw'
          obtain ⟨⟨dq, osq⟩, hw''⟩ := hw'
          subst hw''
          have HGG : Hid (Below W'.heap.size W' (Go.Sort.grow (redrawn W' dq) osq)) := below_regrown W' dq osq
          generalize Go.Sort.grow (redrawn W' dq) osq = G at *
          clear CE z0 z1 z2 z3 z4 z5 z6 z7
          gi_wp2
          exact HNX.out _ HGG.out (HF.out.miss HSBS.out HSCS.out HSUB.out HM.out (fun y' hy' => by rw [HY.out] at hy'; injection hy' with e; subst e; exact fun e => HQY.out e.symm))
      · obtain ⟨al, cl, rfl⟩ := hco.form
        have z4 : ∀ d os, (Go.Sort.grow (redrawn W' d) os).cell? ⟨n0, 0, none⟩ = some (.slice al LB.length cl) := cell_regrown y4
        have HGE : Hid (LB.length ≤ k) := by show LB.length ≤ k; omega
        obtain ⟨nl, hnl⟩ : ∃ nl, LB.length = nl := ⟨_, rfl⟩
        rw [hnl] at hlt hn5 z4
        have hlt' : ¬ (k : Int) < (nl : Int) := by omega
        clear hst hX hI hget hf hkb ht hq hq1 hm hco hgl y0 y1 y2 y3 y4 hnl hkb'
        gi_wp2_with fail
        refine round_quiet_below (by kernel_rfl) (by kernel_rfl) (by kernel_rfl) ?_
        repeat (quiet_step (fail))
        refine wpQuiet_nil ?_
        intro _ hw'
        obtain ⟨⟨dq, osq⟩, hw''⟩ := hw'
        subst hw''
        have HGG : Hid (Below W'.heap.size W' (Go.Sort.grow (redrawn W' dq) osq)) := below_regrown W' dq osq
        generalize Go.Sort.grow (redrawn W' dq) osq = G at *
        clear z0 z1 z2 z3 z4
        gi_wp2
        exact HNX.out _ HGG.out (HF.out.miss HSBS.out HSCS.out HSUB.out HM.out (fun y' hy' => by rw [List.getElem?_eq_none HGE.out] at hy'; cases hy'))
    case done2 =>
      rintro D2 O3 W' hD2 hI2 hK2
      obtain ⟨k, hf, hkb⟩ := id hI2.k
      have hke := hf.all HSUB.out
      have hgl := HGOT.out.next hI2.bel
      obtain ⟨al, cl, rfl⟩ := (HCO.out.next hI2.bel).form
      have hk1 : W'.heap[D1]? = some (.deferred (some [])) := (hI2.bel.block D1 (Array.getElem?_eq_some_iff.1 HK1.out).1).trans HK1.out
      have hbw := HBW.out.trans (hI2.bel.mono HBW.out.size)
      have y0 := hkb.cell 0
      have y4 := hgl.cell 0
      simp only [List.getElem?_toArray, List.getElem?_cons_zero] at y0 y4
      rw [HNK.out] at y0
      rw [hke] at y0
      have HK1' := Lib.hid hk1
      have HK2' := Lib.hid hK2
      have HBF := Lib.hid (HB0.out.trans (hbw.mono HB0.out.size))
      have hd1 := HK1.out
      have hdl := (Array.getElem?_eq_some_iff.1 HK1.out).1
      rw [HNK.out] at hdl
      have h61 := H61.out
      have HNE : Hid (D1 ≠ D2 ∧ w.heap.size ≤ D1 ∧ w.heap.size ≤ D2) := ⟨by omega, by have := H4.out.size; have := HB0.out.size; omega, by have := H8.out.size; have := HB0.out.size; omega⟩
      obtain ⟨nl, hnl⟩ : ∃ nl, LB.length = nl := ⟨_, rfl⟩
      rw [hnl] at y0 y4
      clear hI2 hK2 hf hkb hke hgl hk1 hbw hd1 hdl h61 hnl
      gi_wp2
      refine ⟨by simp, .inl ⟨_, _, rfl, run_takeDeferred HK2'.out, by simp, .inl ⟨_, _, rfl, run_takeDeferred ((World.putObj_heap_other HNE.out.1).trans HK1'.out), ?_⟩⟩⟩
      exact ⟨_, results_tmp rfl _ _ _, rfl, (HBF.out.grown (grownBy_putObj' _ D2 _) HBF.out.size (fun j e => by injection e; have := HNE.out; omega)).grown (grownBy_putObj' _ D1 _) (Nat.le_trans HBF.out.size (grownBy_putObj' _ D2 _).size) (fun j e => by injection e; have := HNE.out; omega)⟩
    case stop2 =>
      rintro D c k W _ h _
      exact h.elim
  case stop =>
    rintro D c k W _ h _
    exact h.elim

theorem nestedlaw_top {H : Type} {enc : TypeId × Value → H} {r : Reach} {b0 : Nat} {w : World} {base : Nat} {sp : Nat → Bool} {held : Bool} (v0 : Value) (d0 : DataW H) (p0 : List MemPlace) (h0 : Value.okWide Try.prog w r b0 22 v0) (t0 : DataW.Trod enc Try.prog w base sp held 22 v0 d0 p0)
    {b1 : Nat} {sp1 : Nat → Bool} (v1 : Value) (d1 : DataW H) (p1 : List MemPlace) (h1 : Value.okWide Try.prog w r b1 24 v1) (t1 : DataW.Trod enc Try.prog w base sp1 held 24 v1 d1 p1)
    (x : Int) (wx : (Lit.int .u8 x).wf = true) (y : Int) (wy : (Lit.int .u8 y).wf = true) (z : Int) (wz : (Lit.int .u8 z).wf = true) (w' : World) (hw : w' = w := by rfl) :
    Calls Try.prog 7 #[v0, v1, .int .u8 x, .int .u8 y, .int .u8 z] w' fun e w'' => e = .returned (.bool true) ∧ Below w'.heap.size w' w'' := by
  subst hw
  obtain ⟨D, hD⟩ := decls_top h0 t0
  obtain ⟨v, le, inp, rfl⟩ := box_open h1 t1
  exact nestedlaw D v0 v le inp x y z w' hD (u8_wf wx) (u8_wf wy) (u8_wf wz)
end Go.Proofs.Ytklbaocgjegdfaa
