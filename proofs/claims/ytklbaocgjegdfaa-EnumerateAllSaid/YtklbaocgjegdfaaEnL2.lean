/- The walk of 'list' (distribute$1): the walk where there is one more list. -/
import Derived.Test.YtklbaocgjegdfaaEnL
namespace Go.Proofs.Ytklbaocgjegdfaa
open Go.RowKit Go.Shelf

section
variable {l : Nat} {h : Int} {B : List Bd} {x : Fix} {J : List St → (Nat → Prop) → World → Prop} {Jx : List St → World → Prop} {L : List St}

set_option maxRecDepth 100000 in
set_option maxHeartbeats 16000000 in
theorem list_step (hB : Bides J) (hcond : Cond h B) {c : Nat} (hc : c < B.length) (hnum : ∀ (m i : Nat) (left : Int) (pre tail : List St) (W : World) (O : Nat → Prop) (vs : Nat → Value) (P : Nat → List Int),
      i + m = (P c).length → (P c).length ≤ 1000 → 0 ≤ left → left ≤ 1099511627776 → Inv l h B x O W (c + 1) vs P → L = pre ++ numRes h B c i m P left ++ tail → J pre O W →
      Calls Try.prog 53 #[.int .i64 c, .int .i64 i, .int .i64 left, .pointer (some ⟨x.bs, 0, none⟩), .pointer (some ⟨x.bi, 0, none⟩), .pointer (some ⟨x.bh, 0, none⟩), .pointer (some ⟨x.br, 0, none⟩), .pointer (some ⟨x.bn, 0, none⟩)] W
        (NumPost J Jx L l h B x c i pre (numRes h B c i m P left) vs P)) : ListOK J Jx L l h B x c := by
  intro left pre tail W O vs P h0 h1 hinv hL hJ
  have hn := hcond.n
  have hh1 := hcond.h1
  have hh2 := hcond.h2
  obtain ⟨b, hb⟩ : ∃ b, B[c]? = some b := ⟨_, List.getElem?_eq_getElem hc⟩
  obtain ⟨b1, b2, b3, b4⟩ := hcond.b b (List.mem_of_getElem? hb)
  obtain ⟨r1, r2, r3, r4⟩ := hcond.rest (c + 1)
  obtain ⟨R, hR⟩ : ∃ R, rwP h (B.drop (c + 1)) = R := ⟨_, rfl⟩
  obtain ⟨least, hleast⟩ : ∃ least, max b.lo ((left - R.hi + h - 1).tdiv h) = least := ⟨_, rfl⟩
  obtain ⟨most, hmost⟩ : ∃ most, min b.hi (left - R.lo) = most := ⟨_, rfl⟩
  obtain ⟨N, hN⟩ : ∃ N, (most - least + 1).toNat = N := ⟨_, rfl⟩
  have hres : listRes h B c P left = (List.range N).flatMap fun (k : Nat) => numRes h B c 0 (least + k).toNat P left := by
    rw [← hN]
    exact listRes_succ hb (by rw [hR]; exact hleast.symm) (by rw [hR]; exact hmost.symm)
  rw [hres] at hL ⊢
  obtain ⟨STEP, hSTEP⟩ : ∃ STEP : Nat → List St, STEP = fun (k : Nat) => numRes h B c 0 (least + k).toNat P left := ⟨_, rfl⟩
  rw [← hSTEP] at hL ⊢
  obtain ⟨y2a, y2b⟩ := hinv.fix.lr (c + 1) (by omega)
  rw [hR] at y2a y2b r1 r2 r3 r4
  obtain ⟨y3a, y3b⟩ := hinv.fix.ll c b hb
  have y0 := hinv.fix.s.cell 0
  have yh := hinv.fix.hv.cell 0
  have yr := hinv.fix.r.cell 0
  have yl := hinv.fix.lv.cell 0
  simp only [List.getElem?_toArray, List.getElem?_cons_zero] at y0 yh yr yl
  obtain ⟨n, hnn⟩ : ∃ n, B.length = n := ⟨_, rfl⟩
  rw [hnn] at y0 yr yl hc hn
  obtain ⟨Rlo, hRlo⟩ : ∃ a, R.lo = a := ⟨_, rfl⟩
  obtain ⟨Rhi, hRhi⟩ : ∃ a, R.hi = a := ⟨_, rfl⟩
  obtain ⟨blo, hblo⟩ : ∃ a, b.lo = a := ⟨_, rfl⟩
  obtain ⟨bhi, hbhi⟩ : ∃ a, b.hi = a := ⟨_, rfl⟩
  rw [hRlo] at y2a hmost r1 r2
  rw [hRhi] at y2b hleast r3 r4
  rw [hblo] at y3a hleast b1 b2
  rw [hbhi] at y3b hmost b3 b4
  obtain ⟨q, hq⟩ : ∃ q, (left - Rhi + h - 1).tdiv h = q := ⟨_, rfl⟩
  have hq1 : -1099511629777 ≤ q ∧ q ≤ 1099511629777 := by
    rw [← hq]
    have h3 := Int.natAbs_tdiv_le_natAbs (left - Rhi + h - 1) h
    omega
  have HINV := Lib.hid hinv
  have HL := Lib.hid hL
  have HJ := Lib.hid hJ
  have HN := Lib.hid hN
  have HMO := Lib.hid hmost
  have HNN := Lib.hid hnn
  have HR := Lib.hid hR
  have HRLO := Lib.hid hRlo
  have HRHI := Lib.hid hRhi
  have HBLO := Lib.hid hblo
  have HBHI := Lib.hid hbhi
  have HBB := Lib.hid hb
  have HNUM := Lib.hid hnum
  have HSTEP := Lib.hid hSTEP
  rw [hq] at hleast
  have HLE := Lib.hid hleast
  have hc' : (c : Int) < (n : Int) := by omega
  have hc1 : (c : Int) + 1 < (n : Int) + 1 := by omega
  have hc0 : (0 : Int) ≤ (c : Int) := Int.natCast_nonneg _
  have hn' : (n : Int) ≤ 66 := by omega
  have t1 : ((c : Int) == (n : Int)) = false := by simp; omega
  have hhz : ¬ h = 0 := by omega
  have f1 : IntKind.i64.wrap ((c : Int) + 1) = (c : Int) + 1 := IntWalk.i64_in _ (by omega)
  have f2 : IntKind.i64.wrap (left - Rhi) = left - Rhi := IntWalk.i64_in _ (by omega)
  have f3 : IntKind.i64.wrap (left - Rhi + h) = left - Rhi + h := IntWalk.i64_in _ (by omega)
  have f4 : IntKind.i64.wrap (left - Rhi + h - 1) = left - Rhi + h - 1 := IntWalk.i64_in _ (by omega)
  have f5 : IntKind.i64.wrap ((left - Rhi + h - 1).tdiv h) = q := by rw [hq]; exact IntWalk.i64_in _ (by omega)
  have f6 : IntKind.i64.wrap (left - Rlo) = left - Rlo := IntWalk.i64_in _ (by omega)
  have hwq : wrap64 q = q := by unfold wrap64; omega
  have hle0 : 0 ≤ least := by omega
  have hle1 : least ≤ 1099511629777 := by omega
  have hmo1 : most ≤ 1000 := by omega
  have hmo2 : -1000000000 ≤ most := by omega
  clear hinv hL hJ hN hleast hmost hnn hR hRlo hRhi hcond hres hb hblo hbhi hnum hSTEP hq1
  go_enter Try.func52, Try.ntmps52
  go_wp2
  go_quiet (fail)
  rw [HLE.out]
  obtain ⟨W1, hW1⟩ : ∃ W1, W1 = W.drewN nq := ⟨_, rfl⟩
  have HI1 : Hid (Inv l h B x O W1 c vs P) := by rw [hW1]; exact HINV.out.leaves (leaves_drewN _ _ _)
  have HJ1 : Hid (J pre O W1) := by rw [hW1]; exact hB _ _ _ _ _ HJ.out (grows_below (drewN_below (Below.refl _ _) _))
  rw [← hW1]
  clear hW1 y0 yh yr yl y2a y2b y3a y3b HINV HJ nq f2 f3 f4 f5 hwq hq
  have yr := HI1.out.fix.r.cell 0
  have yl := HI1.out.fix.lv.cell 0
  simp only [List.getElem?_toArray, List.getElem?_cons_zero] at yr yl
  rw [HNN.out] at yr yl
  obtain ⟨y2a, y2b⟩ := HI1.out.fix.lr (c + 1) (by rw [HNN.out]; omega)
  rw [HR.out, HRLO.out] at y2a
  obtain ⟨y3a, y3b⟩ := HI1.out.fix.ll c b HBB.out
  rw [HBHI.out] at y3b
  clear y2b y3a
  go_wp2
  go_quiet (fail)
  rw [HMO.out]
  obtain ⟨W2, hW2⟩ : ∃ W2, W2 = W1.drewN nq := ⟨_, rfl⟩
  have HI2 : Hid (Inv l h B x O W2 c vs P) := by rw [hW2]; exact HI1.out.leaves (leaves_drewN _ _ _)
  have HJ2 : Hid (J pre O W2) := by rw [hW2]; exact hB _ _ _ _ _ HJ1.out (grows_below (drewN_below (Below.refl _ _) _))
  rw [← hW2]
  clear hW2 yr yl y2a y3b HI1 HJ1 nq f6
  have g1 : IntKind.i64.wrap (most - least) = most - least := IntWalk.i64_in _ (by omega)
  have g2 : IntKind.i64.wrap (most - least + 1) = most - least + 1 := IntWalk.i64_in _ (by omega)
  go_wp2
  go_loopg [72] N (fun q i' wr => ∃ (k : Nat) (O' : Nat → Prop) (vs' : Nat → Value) (P' : Nat → List Int), k + q = N ∧ i' = .int .i64 k ∧ J (pre ++ (List.range k).flatMap STEP) O' wr ∧ Inv l h B x O' wr c vs' P' ∧
    (∀ j, j < c → vs' j = vs j ∧ P' j = P j))
  case atStart => exact ⟨0, O, vs, P, by omega, rfl, by simpa using HJ2.out, HI2.out, fun _ _ => ⟨rfl, rfl⟩⟩
  case round =>
    clear HI2 HJ2
    obtain ⟨k, O', vs', P', hk, rfl, hJk, hIk, hsame⟩ := hrel
    have Hk := Lib.hid hk
    have HJK := Lib.hid hJk
    have HIK := Lib.hid hIk
    have HSA := Lib.hid hsame
    have hkN : k ≤ N := by omega
    have hk0 : (0 : Int) ≤ (k : Int) := Int.natCast_nonneg _
    clear hk hJk hIk hsame
    by_cases hlt : k < N
    · have hNi := HN.out
      have hlt' : (k : Int) < most - least + 1 := by omega
      have hlk : least + k ≤ most := by omega
      obtain ⟨ml, hml⟩ : ∃ ml, (least + (k : Int)).toNat = ml := ⟨_, rfl⟩
      have HML := Lib.hid hml
      have s1 : IntKind.i64.wrap (least + (k : Int)) = (ml : Int) := by rw [IntWalk.i64_in _ (by omega)]; omega
      have s2 : least + (k : Int) = (ml : Int) := by omega
      have s3 : IntKind.i64.wrap (ml : Int) = (ml : Int) := IntWalk.i64_in _ (by omega)
      have hml1 : ml ≤ 1000 := by omega
      have hmk := make_ints ml (by omega)
      have y0 := HIK.out.fix.s.cell 0
      simp only [List.getElem?_toArray, List.getElem?_cons_zero] at y0
      rw [HNN.out] at y0
      have z0 := HIK.out.lists.blk.free c
      have z1 : wr.cell? ⟨x.Ls, c, none⟩ = some (vs' c) := by rw [HIK.out.lists.blk.cell c, HNN.out, arr_get _ hc]
      obtain ⟨hadd, hgrow⟩ := HIK.out.add (by rw [HNN.out]; exact hc) ml (by omega)
      have HADD := Lib.hid hadd
      have HGROW := Lib.hid hgrow
      have HKEEP : Hid (∀ w', Below wr.heap.size wr w' → w'.cell? ⟨x.bs, 0, none⟩ = some (.slice (some ⟨x.Ls, 0, none⟩) n n) ∧ w'.frozen? ⟨x.Ls, c, none⟩ = false ∧ w'.cell? ⟨x.Ls, c, none⟩ = some (vs' c)) := by
        intro w' hb
        have h1 := (HIK.out.fix.s.next hb).cell 0
        simp only [List.getElem?_toArray, List.getElem?_cons_zero] at h1
        rw [HNN.out] at h1
        exact ⟨h1, (HIK.out.lists.blk.next hb).free c, by rw [(HIK.out.lists.blk.next hb).cell c, HNN.out, arr_get _ hc]⟩
      obtain ⟨W3, hW3⟩ : ∃ W3, W3 = ((wr.alloc (.cells (Array.replicate ml (Value.int .i64 0)) 3)).setCell ⟨x.Ls, c, none⟩ (.slice (some ⟨wr.heap.size, 0, none⟩) ml ml)).drew := ⟨_, rfl⟩
      obtain ⟨a0, a1, a2⟩ := HKEEP.out (wr.alloc (.cells (Array.replicate ml (Value.int .i64 0)) 3)) (below_alloc _ _)
      obtain ⟨d0, d1, d2⟩ := HKEEP.out (wr.alloc (.cells (Array.replicate ml (Value.int .i64 0)) 3)).drew (below_drew (below_alloc _ _))
      obtain ⟨e0, e1, e2⟩ := HKEEP.out wr.drew (below_drew (Below.refl _ _))
      have hs1 : ((wr.alloc (.cells (Array.replicate ml (Value.int .i64 0)) 3)).setCell ⟨x.Ls, c, none⟩ (.slice (some ⟨wr.heap.size, 0, none⟩) ml ml)).drew.cell? ⟨x.bs, 0, none⟩ = some (.slice (some ⟨x.Ls, 0, none⟩) n n) := by
        have := HADD.out.fix.s.cell 0
        rw [HNN.out] at this
        simpa using this
      have hs2 : ((wr.alloc (.cells (Array.replicate ml (Value.int .i64 0)) 3)).setCell ⟨x.Ls, c, none⟩ (.slice (some ⟨wr.heap.size, 0, none⟩) ml ml)).drew.frozen? ⟨x.Ls, c, none⟩ = false := HADD.out.lists.blk.free c
      have HI3 : Hid (Inv l h B x (fun b => O' b ∨ b = wr.heap.size) W3 (c + 1) (fun j => if j = c then .slice (some ⟨wr.heap.size, 0, none⟩) ml ml else vs' j) (fun j => if j = c then List.replicate ml 0 else P' j)) := by
        rw [hW3]
        exact HADD.out.leaves (leaves_drewN _ _ 1)
      have HJ3 : Hid (J (pre ++ (List.range k).flatMap STEP) (fun b => O' b ∨ b = wr.heap.size) W3) := by
        refine hB _ _ _ _ _ HJK.out ?_
        rw [hW3]
        exact ⟨⟨HGROW.out.1.os, HGROW.out.1.tape, HGROW.out.1.output, HGROW.out.1.size, HGROW.out.1.block⟩, HGROW.out.2⟩
      have HW3 := Lib.hid hW3
      clear hadd hgrow hml hW3
      go_wp2_with fail
      go_region_held3 (fun w' => w'.cell? ⟨x.bs, 0, none⟩ = some (.slice (some ⟨x.Ls, 0, none⟩) n n) ∧ w'.frozen? ⟨x.Ls, c, none⟩ = false)
        (first | exact ⟨y0, z0⟩ | exact ⟨e0, e1⟩ | exact ⟨a0, a1⟩ | exact ⟨d0, d1⟩ | exact ⟨hs1, hs2⟩ | go_keep)
        (fail)
      rw [← HW3.out]
      clear HW3 y0 z0 z1 a0 a1 a2 d0 d1 d2 e0 e1 e2 hs1 hs2
      have yn := HI3.out.fix.n.cell 0
      simp only [List.getElem?_toArray, List.getElem?_cons_zero, Fix.numF, ptr] at yn
      have hst : STEP k = numRes h B c 0 ml (fun j => if j = c then List.replicate ml 0 else P' j) left := by
        rw [HSTEP.out]
        show numRes h B c 0 (least + (k : Int)).toNat P left = _
        rw [HML.out]
        refine (numRes_congr (fun j hj => ?_)).symm
        rw [if_neg (by omega)]
        exact (HSA.out j hj).2
      have hcall := HNUM.out ml 0 left (pre ++ (List.range k).flatMap STEP) (((List.range N).drop (k + 1)).flatMap STEP ++ tail) W3 _ _ (fun j => if j = c then List.replicate ml 0 else P' j)
        (by simp) (by simp; omega) h0 h1 HI3.out (by
          rw [← hst, HL.out]
          obtain ⟨tl, htl⟩ := range_split hlt
          have e1 : (List.range N).drop (k + 1) = tl := by
            rw [htl, List.drop_append]
            simp
          rw [e1, htl, List.flatMap_append, List.flatMap_cons]
          simp only [List.append_assoc]) HJ3.out
      rw [← hst] at hcall
      have HCALL := Lib.hid hcall
      clear hcall hst
      go_wp2_with fail
      refine HCALL.out.mono ?_
      rintro e w4 (⟨rfl, O4, vs4, P4, hJ4, hI4, hs4, -, -, -⟩ | ⟨rfl, kx, hx⟩)
      · have HJ4 := Lib.hid hJ4
        have HI4 := Lib.hid hI4
        have HS4 := Lib.hid hs4
        have u5 : IntKind.i64.wrap ((k : Int) + 1) = (k : Int) + 1 := IntWalk.i64_in _ (by omega)
        clear hJ4 hI4 hs4 hNi
        go_wp2
        have hk := Hk.out
        go_roundg (N - (k + 1))
        case measure => omega
        case rel =>
          refine ⟨k + 1, O4, vs4, P4, by omega, by go_num, ?_, HI4.out.fewer (by omega), fun j hj => ?_⟩
          · have := HJ4.out
            rw [List.append_assoc] at this
            rw [List.range_succ, List.flatMap_append, List.flatMap_cons, List.flatMap_nil, List.append_nil]
            exact this
          · have h1 := HS4.out j hj
            have h2 := HSA.out j hj
            rw [if_neg (by omega), if_neg (by omega)] at h1
            exact ⟨h1.1.trans h2.1, h1.2.trans h2.2⟩
      · have HXX := Lib.hid hx
        clear hx
        go_wp2
        go_ret
        exact .inr ⟨rfl, kx, HXX.out⟩
    · have hkN2 : k = N := by omega
      subst hkN2
      have hge : ¬ (k : Int) < most - least + 1 := by have := HN.out; omega
      go_wp2
      go_ret
      exact .inl ⟨rfl, O', vs', P', HJK.out, HIK.out, HSA.out⟩
end
end Go.Proofs.Ytklbaocgjegdfaa
