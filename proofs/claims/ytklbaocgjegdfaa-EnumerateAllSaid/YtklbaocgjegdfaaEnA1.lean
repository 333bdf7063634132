/- The walk of All's function (All$1). -/
import Derived.Test.YtklbaocgjegdfaaEnD
namespace Go.Proofs.Ytklbaocgjegdfaa
open Go.RowKit Go.Shelf

section
variable {l : Nat} {h : Int} {B : List Bd} {J : List St → (Nat → Prop) → World → Prop} {Jx : List St → World → Prop} {L : List St}

/-- what weights gives: a row of weights -/
def WeightsOK (h : Int) (B : List Bd) : Prop := ∀ (Ll cl : Nat) (w : World), (∀ i b, B[i]? = some b → w.cell? ⟨Ll, i * 2, none⟩ = some (.int .i64 b.lo) ∧ w.cell? ⟨Ll, i * 2 + 1, none⟩ = some (.int .i64 b.hi)) →
  Calls Try.prog 33 #[.slice (some ⟨Ll, 0, none⟩) B.length cl, .int .i64 h] w fun e w' => ∃ Lr cr, e = .returned (.slice (some ⟨Lr, 0, none⟩) (B.length + 1) cr) ∧ w.heap.size ≤ Lr ∧ Lr < w'.heap.size ∧ Below w.heap.size w w' ∧
    ∀ i, i ≤ B.length → w'.cell? ⟨Lr, i * 2, none⟩ = some (.int .i64 (rwP h (B.drop i)).lo) ∧ w'.cell? ⟨Lr, i * 2 + 1, none⟩ = some (.int .i64 (rwP h (B.drop i)).hi)

set_option maxRecDepth 100000 in
set_option maxHeartbeats 8000000 in
theorem all1_any (hB : Bides J) (hcond : Cond h B) (hn : 0 < B.length) (hw : WeightsOK h B) (v : Int) (hv : h = 2 * v + 1)
    (hY : ∀ m pre v x O A W1, J pre O A → Below A.heap.size A W1 → ArgAt v x O A W1 → L[pre.length]? = some x → YieldAt Fence.wide m Try.prog l #[v] W1 fun e W' =>
      (e = .returned (.bool true) ∧ J (pre ++ [x]) O W' ∧ Leaves O W1 W') ∨ (e = .returned (.bool false) ∧ Jx (pre ++ [x]) W'))
    (bo bb be Ll cl : Nat) (vl vi : Value) (W : World) (O : Nat → Prop) (kok : Blk W bo 4 #[.bool true]) (kb : Blk W bb 24 #[.int .i64 v, vl, vi]) (ke : Blk W be 57 #[.slice (some ⟨Ll, 0, none⟩) B.length cl])
    (hll : ∀ i b, B[i]? = some b → W.cell? ⟨Ll, i * 2, none⟩ = some (.int .i64 b.lo) ∧ W.cell? ⟨Ll, i * 2 + 1, none⟩ = some (.int .i64 b.hi)) (hO : O Ll ∧ O be) (hold : ∀ b, O b → b < W.heap.size)
    (hL : L = (allP h B).map mkSt) (hJ : J [] O W) :
    Calls Try.prog 32 #[.func (.yield l) #[] #[], .pointer (some ⟨bo, 0, none⟩), .pointer (some ⟨bb, 0, none⟩), .pointer (some ⟨be, 0, none⟩)] W fun e W' =>
      (∃ v, e = .returned v) ∧ ((∃ O', J L O' W') ∨ (∃ k, Jx (L.take (k + 1)) W')) := by
  have hn6 := hcond.n
  have hh1 := hcond.h1
  have hh2 := hcond.h2
  obtain ⟨r1, r2, r3, r4⟩ := hcond.rest 0
  rw [List.drop_zero] at r1 r2 r3 r4
  have y0 := kok.cell 0
  have y1 := kb.cell 0
  have y2 := ke.cell 0
  simp only [List.getElem?_toArray, List.getElem?_cons_zero] at y0 y1 y2
  have hlo := hold _ hO.1
  have hbo := hold _ hO.2
  have HWT := Lib.hid (hw Ll cl W hll)
  have f1 : IntKind.i64.wrap (2 * v) = 2 * v := IntWalk.i64_in _ (by omega)
  have f2 : IntKind.i64.wrap (2 * v + 1) = h := by rw [IntWalk.i64_in _ (by omega)]; omega
  have HLL := Lib.hid hll
  have HKE := Lib.hid ke
  have HJ := Lib.hid hJ
  have HO := Lib.hid hO
  have HOLD := Lib.hid hold
  have HL := Lib.hid hL
  have HV := Lib.hid hv
  clear hll ke hJ hO hold hL hw hv kok kb
  go_enter Try.func32, Try.ntmps32
  go_wp2_with fail
  refine HWT.out.mono ?_
  rintro e w1 ⟨Lr, cr, rfl, hlr1, hlr2, hb1, hlr⟩
  have hlr0 := hlr 0 (Nat.zero_le _)
  rw [List.drop_zero] at hlr0
  obtain ⟨z0, z1⟩ := hlr0
  obtain ⟨Rlo, hRlo⟩ : ∃ a, (rwP h B).lo = a := ⟨_, rfl⟩
  obtain ⟨Rhi, hRhi⟩ : ∃ a, (rwP h B).hi = a := ⟨_, rfl⟩
  rw [hRlo] at z0 r1 r2
  rw [hRhi] at z1 r3 r4
  simp only [Nat.zero_mul, Nat.zero_add] at z0 z1
  have hOut : Outer h B Ll Lr be cl (fun j => O j ∨ j = Lr) w1 := by
    refine ⟨fun i b hb => ?_, hlr, HKE.out.next hb1, ⟨.inl HO.out.1, .inr rfl, .inl HO.out.2⟩, fun j hj => ?_⟩
    · obtain ⟨c1, c2⟩ := HLL.out i b hb
      exact ⟨cell_below hb1 hlo c1, cell_below hb1 hlo c2⟩
    · rcases hj with hj | hj
      · have := HOLD.out j hj
        have := hb1.size
        omega
      · omega
  have hJ1 : J [] (fun j => O j ∨ j = Lr) w1 := hB _ _ _ _ _ HJ.out ⟨Touch.of_below hb1, fun j hj => by
    rcases hj with hj | hj
    · exact .inl hj
    · exact .inr (by omega)⟩
  have HOUT1 := Lib.hid hOut
  have HJ1 := Lib.hid hJ1
  have HRLO := Lib.hid hRlo
  have HRHI := Lib.hid hRhi
  obtain ⟨N, hN⟩ : ∃ N, (Rhi - Rlo + 1).toNat = N := ⟨_, rfl⟩
  have HN := Lib.hid hN
  have hall : L = (List.range N).flatMap fun (k : Nat) => (listsP h B (Rlo + k)).map mkSt := by
    rw [HL.out]
    unfold allP
    rw [hRlo, hRhi, hN, List.map_flatMap]
  have HALL := Lib.hid hall
  have g1 : IntKind.i64.wrap (Rhi - Rlo) = Rhi - Rlo := IntWalk.i64_in _ (by omega)
  have g2 : IntKind.i64.wrap (Rhi - Rlo + 1) = Rhi - Rlo + 1 := IntWalk.i64_in _ (by omega)
  have hnb : (0 : Int) < (B.length : Int) + 1 := by omega
  have HCOND := Lib.hid hcond
  have HY := Lib.hid hY
  clear hlr hb1 hOut hJ1 hRlo hRhi hN hall y0 y1 y2 f1 f2 hlr1 hlo hbo HWT HLL HKE HJ HO HOLD hcond hY
  go_wp2
  go_quiet (fail)
  obtain ⟨w2, hw2⟩ : ∃ w2, w2 = w1.drewN nq := ⟨_, rfl⟩
  have HOUT2 : Hid (Outer h B Ll Lr be cl (fun j => O j ∨ j = Lr) w2) := by rw [hw2]; exact ⟨HOUT1.out.ll, HOUT1.out.lr, HOUT1.out.e, HOUT1.out.own, HOUT1.out.old⟩
  have HJ2 : Hid (J [] (fun j => O j ∨ j = Lr) w2) := by rw [hw2]; exact hB _ _ _ _ _ HJ1.out (grows_below (drewN_below (Below.refl _ _) _))
  rw [← hw2]
  clear hw2 z0 z1 HOUT1 HJ1 hlr2 nq
  go_wp2
  go_loopg [27] N (fun q i' wr => ∃ (k : Nat) (O' : Nat → Prop), k + q = N ∧ i' = .int .i64 k ∧ J ((List.range k).flatMap fun (k : Nat) => (listsP h B (Rlo + k)).map mkSt) O' wr ∧ Outer h B Ll Lr be cl O' wr)
  case atStart => exact ⟨0, _, by omega, rfl, HJ2.out, HOUT2.out⟩
  case round =>
    clear HOUT2 HJ2
    obtain ⟨k, O', hk, rfl, hJk, hOk⟩ := hrel
    have Hk := Lib.hid hk
    have HJK := Lib.hid hJk
    have HOK := Lib.hid hOk
    have hkN : k ≤ N := by omega
    have hk0 : (0 : Int) ≤ (k : Int) := Int.natCast_nonneg _
    clear hk hJk hOk
    by_cases hlt : k < N
    · have hNi := HN.out
      have hlt' : (k : Int) < Rhi - Rlo + 1 := by omega
      have s1 : IntKind.i64.wrap (Rlo + (k : Int)) = Rlo + k := IntWalk.i64_in _ (by omega)
      have s2 : IntKind.i64.wrap ((k : Int) + 1) = (k : Int) + 1 := IntWalk.i64_in _ (by omega)
      have ye := HOK.out.e.cell 0
      simp only [List.getElem?_toArray, List.getElem?_cons_zero] at ye
      have hr0 := (HOK.out.lr 0 (Nat.zero_le _)).1
      rw [List.drop_zero, HRLO.out] at hr0
      simp only [Nat.zero_mul] at hr0
      have yed : wr.drew.cell? ⟨be, 0, none⟩ = some (.slice (some ⟨Ll, 0, none⟩) B.length cl) := ye
      have hr0d : wr.drew.cell? ⟨Lr, 0, none⟩ = some (.int .i64 Rlo) := hr0
      have HDI : Hid (∀ w', Below wr.heap.size wr w' → Calls Try.prog 34 #[.slice (some ⟨Ll, 0, none⟩) B.length cl, .slice (some ⟨Lr, 0, none⟩) (B.length + 1) cr, .int .i64 h, .int .i64 (Rlo + k), .func (.yield l) #[] #[]] w' fun e W' =>
          ∃ b : Bool, e = .returned (.bool b) ∧ Hid ((b = true ∧ ∃ O', J ((List.range (k + 1)).flatMap fun (k : Nat) => (listsP h B (Rlo + k)).map mkSt) O' W' ∧ Outer h B Ll Lr be cl O' W') ∨ (b = false ∧ ∃ k, Jx (L.take (k + 1)) W'))) := by
        intro w' hb
        have ho' : Outer h B Ll Lr be cl O' w' := ⟨fun i b hb' => by
          obtain ⟨c1, c2⟩ := HOK.out.ll i b hb'
          exact ⟨cell_below hb (HOK.out.old _ HOK.out.own.1) c1, cell_below hb (HOK.out.old _ HOK.out.own.1) c2⟩, fun i hi => by
          obtain ⟨c1, c2⟩ := HOK.out.lr i hi
          exact ⟨cell_below hb (HOK.out.old _ HOK.out.own.2.1) c1, cell_below hb (HOK.out.old _ HOK.out.own.2.1) c2⟩, HOK.out.e.next hb, HOK.out.own, fun j hj => Nat.lt_of_lt_of_le (HOK.out.old j hj) hb.size⟩
        have hLk : L = ((List.range k).flatMap fun (k : Nat) => (listsP h B (Rlo + k)).map mkSt) ++ (listsP h B (Rlo + k)).map mkSt ++ (((List.range N).drop (k + 1)).flatMap fun (k : Nat) => (listsP h B (Rlo + k)).map mkSt) := by
          rw [HALL.out]
          obtain ⟨tl, htl⟩ := range_split hlt
          have e1 : (List.range N).drop (k + 1) = tl := by
            rw [htl, List.drop_append]
            simp
          rw [e1, htl, List.flatMap_append, List.flatMap_cons]
          simp only [List.append_assoc]
        have hd := dist_any hB HCOND.out hn HY.out Ll Lr be cl cr (Rlo + k) _ _ w' O' (by omega) (by omega) ho' hLk (hB _ _ _ _ _ HJK.out (grows_below hb))
        refine hd.mono ?_
        rintro e W' (⟨rfl, O2, h2, h3⟩ | ⟨rfl, k2, h2⟩)
        · refine ⟨true, rfl, .inl ⟨rfl, O2, ?_, h3⟩⟩
          rw [List.range_succ, List.flatMap_append, List.flatMap_cons, List.flatMap_nil, List.append_nil]
          exact h2
        · exact ⟨false, rfl, .inr ⟨rfl, k2, h2⟩⟩
      clear hNi
      go_wp2_with fail
      go_region_law (first
        | (go_simp; go_at_call 34; refine (HDI.out _ (by first | exact Below.refl _ _ | exact below_drew (Below.refl _ _))).mono ?_; rintro e w4 ⟨b, rfl, HP4⟩))
      all_goals
        rcases HP4.out with ⟨rfl, O4, hJ4, hO4⟩ | ⟨rfl, k4, hx4⟩
        · have HJ4 := Lib.hid hJ4
          have HO4 := Lib.hid hO4
          clear hJ4 hO4 HP4
          go_wp2
          have hk := Hk.out
          go_roundg (N - (k + 1))
          case measure => omega
          case rel => exact ⟨k + 1, O4, by omega, by go_num, HJ4.out, HO4.out⟩
        · have HX4 := Lib.hid hx4
          clear hx4 HP4
          go_wp2
          refine bodyPost_ret (results_none rfl _ _ _) rfl ?_
          exact ⟨⟨_, rfl⟩, .inr ⟨k4, HX4.out⟩⟩
    · have hkN2 : k = N := by omega
      subst hkN2
      have hge : ¬ (k : Int) < Rhi - Rlo + 1 := by have := HN.out; omega
      go_wp2
      go_end0
      exact ⟨⟨_, rfl⟩, .inl ⟨O', by rw [HALL.out]; exact HJK.out⟩⟩
end
end Go.Proofs.Ytklbaocgjegdfaa
