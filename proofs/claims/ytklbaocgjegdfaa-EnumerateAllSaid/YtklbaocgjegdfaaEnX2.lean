/- The walks of the reference's lists, Weight and Fits. -/
import Derived.Test.YtklbaocgjegdfaaEnX1
import Derived.Deep.Cut
namespace Go.Proofs.Ytklbaocgjegdfaa
open Go.RowKit

theorem rows_of_own {w : World} {base : Nat} {r : Value} {L : List (List Int)} {vs : List Value} (h : w.ownsRow base 33 1 r L.length vs) (hv : ∀ (i : Nat) (l : List Int), L[i]? = some l → ∃ u, vs[i]? = some u ∧ IntsAt w u l) : RowsAt w r L := by
  rcases h.2 with ⟨rfl, h0⟩ | ⟨g, cap, cur, rfl, _, hg, hn, hm, hc, ht⟩
  · rw [List.eq_nil_of_length_eq_zero h0]
    exact ⟨none, 0, rfl, Nat.le_refl _, by unfold maxLen; omega, fun h => absurd h (by decide)⟩
  · refine ⟨_, cap, rfl, hn, hm, fun hp => ⟨g, 0, rfl, (Array.getElem?_eq_some_iff.1 hg).1, fun i l hl => ?_⟩⟩
    obtain ⟨u, h1, h2⟩ := hv i l hl
    have hi' : i < L.length := by
      rcases Nat.lt_or_ge i L.length with hh | hh
      · exact hh
      · rw [List.getElem?_eq_none hh] at hl; cases hl
    exact ⟨u, by rw [Nat.zero_add, h.cellAt i (by omega), h1], h2⟩

theorem news_two (w : World) (c0 c1 : Value) (t : TypeId) : ∀ j x, [c0, c1][j]? = some x → (w.alloc (.cells #[c0, c1] t)).cell? ((⟨w.heap.size, 0, none⟩ : Addr).add j) = some x := fun j x h => by
  rw [Go.WideShapes.add_plain, Nat.zero_add, World.cell?_alloc_at _ _ _ _ rfl]
  simpa using h

set_option maxRecDepth 100000 in
set_option maxHeartbeats 8000000 in
theorem lists_any (s : St) (v : Value) (w : World) (h : StAt w v s) (hn : (s.cells.length + 2) * 24 ≤ 140737488355328) :
    Calls Try.prog 35 #[v] w fun e w' => ∃ r, e = .returned r ∧ RowsAt w' r (listsS s) ∧ Below w.heap.size w w' := by
  obtain ⟨c, i, o, rfl, hc, hi, ho⟩ := h
  obtain ⟨W, hW⟩ : ∃ W, W = w.alloc (.cells #[c, i, o] 35) := ⟨_, rfl⟩
  have hB0 : Below w.heap.size w W := by rw [hW]; exact below_alloc _ _
  have hBK : Blk W w.heap.size 35 #[c, i, o] := by rw [hW]; exact Blk.new _ _ _
  have HI := Lib.hid (hi.below hB0 (Nat.le_refl _))
  have HO := Lib.hid (ho.below hB0 (Nat.le_refl _))
  have hc' := hc.below hB0 (Nat.le_refl _)
  obtain ⟨a, cc, rfl, hc1, hc2, hq⟩ := hc'
  have HQ := Lib.hid hq
  obtain ⟨⟨ai, ci, rfl, -, -, -⟩, -⟩ := id hi
  obtain ⟨⟨ao, co, rfl, -, -, -⟩, -⟩ := id ho
  obtain ⟨n, hnn⟩ : ∃ n, s.cells.length = n := ⟨_, rfl⟩
  obtain ⟨ni, hni⟩ : ∃ n, s.inp.length = n := ⟨_, rfl⟩
  obtain ⟨no, hno⟩ : ∃ n, s.out.length = n := ⟨_, rfl⟩
  rw [hnn] at HQ hc1 hBK hW hn ⊢
  rw [hni] at HI hBK hW ⊢
  rw [hno] at HO hBK hW ⊢
  have HN := Lib.hid hnn
  have h63 : (n : Int) ≤ 5864062014804 := by omega
  have hn0 : (0 : Int) ≤ (n : Int) := Int.natCast_nonneg _
  have hlt0 := hBK.lt
  have HBK := Lib.hid hBK
  have HW := Lib.hid hW
  have HB0 := Lib.hid hB0
  obtain ⟨j0, hj, hz0, hz1, hz2⟩ := info_parts rowInfo
  clear hq hnn hni hno hc hi ho hc1 hc2 hBK hB0 hW
  go_enter Try.func35, Try.ntmps35
  go_upto_region 1 with (fail)
  rw [← HW.out]
  clear HW
  go_wp2
  go_loopg [3, 4] n (fun q r i wr => ∃ (k : Nat) (vs : List Value), k + q = n ∧ i = .int .i64 k ∧ wr.ownsRow W.heap.size 33 1 r k vs ∧ (∀ (j : Nat) (l : List Int), (s.cells.take k)[j]? = some l → ∃ u, vs[j]? = some u ∧ IntsAt W u l) ∧ Below W.heap.size W wr)
  case atStart => exact ⟨0, [], by omega, rfl, World.ownsRow_nil _ _ _ _, by simp, Below.refl _ _⟩
  case round =>
    obtain ⟨k, vs, hk, rfl, hown, hvs, hb⟩ := hrel
    have Hk := Lib.hid hk
    have hkn : k ≤ n := by omega
    have HOWN := Lib.hid hown
    have HVS := Lib.hid hvs
    have HB := Lib.hid hb
    have hsz := hb.size
    have hlen : vs.length = k := by simpa using hown.1
    have HLEN := Lib.hid hlen
    have b0 := (HBK.out.next hb).cell 0
    have b1 := (HBK.out.next hb).cell 1
    have b2 := (HBK.out.next hb).cell 2
    simp only [List.getElem?_toArray, List.getElem?_cons_zero, List.getElem?_cons_succ] at b0 b1 b2
    obtain ⟨ar, cr, rfl⟩ := own_form hown
    clear hk hown hvs hb hlen
    by_cases hlt : k < n
    · have hlt' : (k : Int) < (n : Int) := by omega
      obtain ⟨g, off, rfl, hg, hq⟩ := HQ.out (by omega)
      obtain ⟨l, hl⟩ := get_lt HN.out.symm hlt
      obtain ⟨u, hu, hui⟩ := hq k l hl
      have m0 := cell_below HB.out hg hu
      obtain ⟨⟨au, cu, rfl, -, -, -⟩, -⟩ := id hui
      have HUI := Lib.hid hui
      have HL := Lib.hid hl
      have u1 : IntKind.i64.wrap ((k : Int) + 1) = (k : Int) + 1 := IntWalk.i64_in _ (by omega)
      clear hq hl hu hui
      go_wp2_with (at_builtin; refine wpList_append_own _ rfl (.tmp 12) (.tmp 18) 32 rfl W.heap.size 33 j0 (.slice none 0 0) 1 24 Try.underlying32 hj hz0 hz1 hz2 rfl (by decide) (.slice ar k cr) k vs rfl (HOWN.out.alloc _) ⟨wr.heap.size, 0, none⟩ 1 1 [.slice au l.length cu] rfl rfl (cell_one_new _ _ _) (by simp [Value.oneCell']) (by unfold maxLen; omega) (by omega) (by simp; omega) ?_; intro v5 w5 hown5 hgr5 _)
      have hb5 : Below W.heap.size W w5 := (HB.out.alloc hsz _).grown hgr5 (by simp; omega) (fun j hj => (HOWN.out.lt j hj).1)
      have HB5 := Lib.hid hb5
      have HOWN5 := Lib.hid hown5
      clear hb5 hown5 hgr5
      go_wp2
      have hk := Hk.out
      go_roundg (n - (k + 1))
      case measure => omega
      case rel =>
        refine ⟨k + 1, vs ++ [.slice au l.length cu], by omega, by go_num, HOWN5.out, fun j l' hl' => ?_, HB5.out⟩
        have hln := HLEN.out
        have hjk : j < k + 1 := by
          have := (List.getElem?_eq_some_iff.1 hl').1
          rw [List.length_take] at this
          omega
        rcases Nat.lt_or_ge j k with hjk' | hjk'
        · rw [List.getElem?_take, if_pos hjk] at hl'
          obtain ⟨u, h1, h2⟩ := HVS.out j l' (by rw [List.getElem?_take, if_pos hjk']; exact hl')
          exact ⟨u, by rw [List.getElem?_append_left (by omega)]; exact h1, h2⟩
        · have hj : j = k := by omega
          subst hj
          rw [List.getElem?_take, if_pos hjk, HL.out] at hl'
          injection hl' with hl'
          subst hl'
          exact ⟨_, by rw [List.getElem?_append_right (by omega), hln, Nat.sub_self]; rfl, HUI.out⟩
    · have hge : ¬ (k : Int) < (n : Int) := by omega
      have hke : n = k := by omega
      subst hke
      go_wp2_with (at_builtin; refine wpList_append_own _ rfl (.tmp 20) (.tmp 25) 32 rfl W.heap.size 33 j0 (.slice none 0 0) 1 24 Try.underlying32 hj hz0 hz1 hz2 rfl (by decide) (.slice ar n cr) n vs rfl (HOWN.out.alloc _) ⟨wr.heap.size, 0, none⟩ 2 2 [.slice ai ni ci, .slice ao no co] rfl rfl (news_two _ _ _ _) (by simp [Value.oneCell']) (by unfold maxLen; omega) (by omega) (by simp; omega) ?_; intro v5 w5 hown5 hgr5 _)
      have hb5 : Below W.heap.size W w5 := (HB.out.alloc hsz _).grown hgr5 (by simp; omega) (fun j hj => (HOWN.out.lt j hj).1)
      have hrows : RowsAt w5 v5 (listsS s) := by
        have hl : (listsS s).length = n + 2 := by simp [listsS, HN.out]
        refine rows_of_own (by rw [hl]; exact hown5) (fun j l hl' => ?_)
        have hln := HLEN.out
        unfold listsS at hl'
        rcases Nat.lt_or_ge j n with hj | hj
        · rw [List.getElem?_append_left (by rw [HN.out]; exact hj)] at hl'
          obtain ⟨u, h1, h2⟩ := HVS.out j l (by rw [List.getElem?_take, if_pos hj]; exact hl')
          exact ⟨u, by rw [List.getElem?_append_left (by omega)]; exact h1, h2.below hb5 (Nat.le_refl _)⟩
        · rw [List.getElem?_append_right (by rw [HN.out]; exact hj), HN.out] at hl'
          rcases Nat.lt_or_ge (j - n) 2 with h2 | h2
          · rcases (by omega : j - n = 0 ∨ j - n = 1) with h0 | h0
            · rw [h0] at hl'
              simp only [List.getElem?_cons_zero, Option.some.injEq] at hl'
              subst hl'
              exact ⟨_, by rw [List.getElem?_append_right (by omega), hln, h0]; rfl, HI.out.below hb5 (Nat.le_refl _)⟩
            · rw [h0] at hl'
              simp only [List.getElem?_cons_zero, List.getElem?_cons_succ, Option.some.injEq] at hl'
              subst hl'
              exact ⟨_, by rw [List.getElem?_append_right (by omega), hln, h0]; rfl, HO.out.below hb5 (Nat.le_refl _)⟩
          · rw [List.getElem?_eq_none (by simpa using h2)] at hl'
            cases hl'
      obtain ⟨a5, c5, rfl⟩ := own_form hown5
      have HR := Lib.hid hrows
      have HB5 := Lib.hid (HB0.out.trans (hb5.mono HB0.out.size))
      clear hrows hb5 hown5 hgr5
      go_wp2
      go_ret
      exact ⟨_, rfl, HR.out, HB5.out⟩

/-- the weight of the first k numbers -/
def wtJ (l : List Int) (k : Nat) : Int := wtP (l.take k)
theorem wtJ_succ {l : List Int} {k : Nat} {x : Int} (h : l[k]? = some x) : wtJ l (k + 1) = wtJ l k + rankP x + 1 := by
  unfold wtJ wtP
  have hk := (List.getElem?_eq_some_iff.1 h).1
  rw [List.take_add_one, h, List.map_append, List.sum_append, List.length_append]
  simp only [Option.toList_some, List.map_cons, List.map_nil, List.sum_cons, List.sum_nil, List.length_cons, List.length_nil]
  omega
theorem wtsP_take {L : List (List Int)} {k : Nat} {l : List Int} (h : L[k]? = some l) : wtsP (L.take (k + 1)) = wtsP (L.take k) + wtP l := by
  unfold wtsP
  rw [List.take_add_one, h, List.map_append, List.sum_append]
  simp

set_option maxRecDepth 100000 in
set_option maxHeartbeats 8000000 in
theorem rweight_any (s : St) (v : Value) (w : World) (h : StAt w v s) (hn : (s.cells.length + 2) * 24 ≤ 140737488355328) (hm : MidS s) :
    Calls Try.prog 21 #[v] w fun e w' => e = .returned (.int .i64 (IntKind.i64.wrap (wtsP (listsS s)))) ∧ Below w.heap.size w w' := by
  obtain ⟨c, i, o, rfl, hc, hi, ho⟩ := id h
  obtain ⟨ac, cc, rfl, -, -, -⟩ := id hc
  obtain ⟨⟨ai, ci, rfl, -, -, -⟩, -⟩ := id hi
  obtain ⟨⟨ao, co, rfl, -, -, -⟩, -⟩ := id ho
  obtain ⟨W, hW⟩ : ∃ W, W = w.alloc (.cells #[.slice ac s.cells.length cc, .slice ai s.inp.length ci, .slice ao s.out.length co] 35) := ⟨_, rfl⟩
  have hB0 : Below w.heap.size w W := by rw [hW]; exact below_alloc _ _
  have hBK : Blk W w.heap.size 35 #[.slice ac s.cells.length cc, .slice ai s.inp.length ci, .slice ao s.out.length co] := by rw [hW]; exact Blk.new _ _ _
  have HL := Lib.hid (lists_any s _ W (h.below hB0 (Nat.le_refl _)) hn)
  have y0 := hBK.cell 0
  have y1 := hBK.cell 1
  have y2 := hBK.cell 2
  simp only [List.getElem?_toArray, List.getElem?_cons_zero, List.getElem?_cons_succ] at y0 y1 y2
  have HW := Lib.hid hW
  have HB0 := Lib.hid hB0
  have HM : Hid (∀ l ∈ listsS s, MidL l) := hm
  have hlen : (listsS s).length = s.cells.length + 2 := by simp [listsS]
  have hn' : ((listsS s).length : Int) ≤ 5864062014806 := by omega
  obtain ⟨L, hL⟩ : ∃ L, listsS s = L := ⟨_, rfl⟩
  rw [hL] at HL HM hn' ⊢
  generalize s.cells.length = n0 at *
  generalize s.inp.length = n1 at *
  generalize s.out.length = n2 at *
  obtain ⟨n, hnl⟩ : ∃ n, L.length = n := ⟨_, rfl⟩
  rw [hnl] at hn'
  have HN := Lib.hid hnl
  obtain ⟨S, hS⟩ : ∃ S : Nat → List Int → Nat → Int, S = fun i l k => wrap64 (wtsP (L.take i) + wtJ l k) := ⟨_, rfl⟩
  have HS0 : Hid (∀ l, S 0 l 0 = 0) := fun l => by rw [hS]; simp [wtJ, wtP_nil, wtsP, wrap64]
  have HSK : Hid (∀ i l k x, l[k]? = some x → S i l (k + 1) = wrap64 (wrap64 (S i l k + rankP x) + 1)) := fun i l k x hx => by
    rw [hS]
    simp only
    rw [wtJ_succ hx]
    simp only [← wrapEq]
    rw [wrap_add (wtsP (L.take i) + wtJ l k) (rankP x), wrap_add]
    congr 1; omega
  have HSI : Hid (∀ i l l', L[i]? = some l → S (i + 1) l' 0 = S i l l.length) := fun i l l' hl => by
    rw [hS]
    simp only
    rw [wtsP_take hl]
    simp [wtJ, wtP_nil]
  have HS00 : Hid (∀ i l l', S i l 0 = S i l' 0) := fun i l l' => by rw [hS]; simp [wtJ]
  have HSN : Hid (∀ l, S n l 0 = wrap64 (wtsP L)) := fun l => by
    rw [hS]
    simp only
    rw [List.take_of_length_le (by rw [HN.out]; exact Nat.le_refl _)]
    simp [wtJ, wtP_nil]
  have HWE : Hid (IntKind.i64.wrap (wtsP L) = wrap64 (wtsP L)) := wrapEq _
  rw [HWE.out]
  clear HWE hS hnl hL hW hB0 hBK h hc hi ho hm hlen
  go_enter Try.func21, Try.ntmps21
  go_upto_region 1 with (fail)
  rw [← HW.out]
  clear HW
  go_wp2_with fail
  refine HL.out.mono ?_
  rintro e w1 ⟨r, rfl, hrows, hb1⟩
  have HB1 := Lib.hid (below_next HB0.out (Nat.le_refl _) hb1)
  obtain ⟨ar, cr, rfl, -, -, hq⟩ := hrows
  rw [HN.out] at hq ⊢
  have HQ := Lib.hid hq
  clear hb1 hq y0 y1 y2 HL
  go_wp2
  go_loopg [4, 5] n (fun q t i wr => ∃ k : Nat, k + q = n ∧ i = .int .i64 k ∧ t = .int .i64 (S k [] 0) ∧ w1 = wr)
  case atStart => exact ⟨0, by omega, rfl, by rw [HS0.out], rfl⟩
  case round =>
    obtain ⟨i, hk, rfl, rfl, rfl⟩ := hrel
    have Hk := Lib.hid hk
    have hkn : i ≤ n := by omega
    clear hk
    by_cases hlt : i < n
    · have hlt' : (i : Int) < (n : Int) := by omega
      obtain ⟨g, o, rfl, hg, hq⟩ := HQ.out (by omega)
      obtain ⟨l, hl⟩ := get_lt HN.out.symm hlt
      obtain ⟨u, hu, hui⟩ := hq i l hl
      have HML : Hid (MidL l) := HM.out l (List.mem_of_getElem? hl)
      have HLI := Lib.hid hl
      obtain ⟨⟨au, cu, rfl, hc1, hc2, hq2⟩, -⟩ := hui
      have HQ2 := Lib.hid hq2
      obtain ⟨m, hm⟩ : ∃ m, l.length = m := ⟨_, rfl⟩
      rw [hm] at hu HQ2 hc1
      have HM' := Lib.hid hm
      have h63 : (m : Int) ≤ 9223372036854775807 := by unfold maxLen at hc2; omega
      have u1 : IntKind.i64.wrap ((i : Int) + 1) = (i : Int) + 1 := IntWalk.i64_in _ (by omega)
      have e0 : Hid (S i [] 0 = S i l 0) := HS00.out i [] l
      rw [e0.out]
      clear hq hl hq2 hm hc1 hc2 e0
      go_wp2
      go_loopg [4, 6] m (fun q t k wr => ∃ j : Nat, j + q = m ∧ k = .int .i64 j ∧ t = .int .i64 (S i l j) ∧ w1 = wr)
      case atStart => exact ⟨0, by omega, rfl, rfl, rfl⟩
      case round =>
        obtain ⟨j, hj, rfl, rfl, rfl⟩ := hrel
        have Hj := Lib.hid hj
        have hjm : j ≤ m := by omega
        clear hj
        by_cases hjl : j < m
        · have hjl' : (j : Int) < (m : Int) := by omega
          obtain ⟨g2, o2, rfl, hg2, hq2⟩ := HQ2.out (by omega)
          obtain ⟨x, hx⟩ := get_lt HM'.out.symm hjl
          have hx2 := hq2 j x hx
          have hmx := HML.out x (List.mem_of_getElem? hx)
          have HST := Lib.hid (HSK.out i l j x hx)
          obtain ⟨rx, hrx⟩ : ∃ rx, rankP x = rx := ⟨_, rfl⟩
          have HRK : Hid (Calls Try.prog 18 #[.int .i64 x] w1 fun e w' => e = .returned (.int .i64 rx) ∧ w1 = w') := by
            rw [← hrx]
            exact (rrank_any x hmx w1).mono fun _ _ ⟨a, b⟩ => ⟨a, b.symm⟩
          rw [hrx] at HST
          obtain ⟨sj, hsj⟩ : ∃ sj, S i l j = sj := ⟨_, rfl⟩
          rw [hsj] at HST ⊢
          have u2 : IntKind.i64.wrap ((j : Int) + 1) = (j : Int) + 1 := IntWalk.i64_in _ (by omega)
          clear hq2 hx hrx hsj hmx
          go_wp2_with fail
          refine HRK.out.mono ?_
          rintro e w' ⟨rfl, rfl⟩
          go_wp2
          have hj := Hj.out
          go_roundg (m - (j + 1))
          case measure => omega
          case rel => exact ⟨j + 1, by omega, by go_num, by rw [HST.out], rfl⟩
        · have hge : ¬ (j : Int) < (m : Int) := by omega
          have hke : j = m := by omega
          subst hke
          have e1 : Hid (S (i + 1) [] 0 = S i l j) := by
            have := HSI.out i l [] HLI.out
            rw [HM'.out] at this
            exact this
          go_wp2
          have hk := Hk.out
          go_roundg (n - (i + 1))
          case measure => omega
          case rel => exact ⟨i + 1, by omega, by go_num, by rw [e1.out], rfl⟩
    · have hge : ¬ (i : Int) < (n : Int) := by omega
      have hke : i = n := by omega
      subst hke
      rw [HSN.out]
      go_wp2
      go_ret
      exact ⟨rfl, HB1.out⟩
end Go.Proofs.Ytklbaocgjegdfaa
