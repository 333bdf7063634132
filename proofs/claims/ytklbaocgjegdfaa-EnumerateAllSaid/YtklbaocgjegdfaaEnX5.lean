/- The walk of Less. -/
import Derived.Test.YtklbaocgjegdfaaEnX4
import Derived.Deep.RegionHeld3
import Derived.Deep.CutRange
namespace Go.Proofs.Ytklbaocgjegdfaa
open Go.RowKit

theorem orI_assoc (x y z : Int) : orI x (orI y z) = orI (orI x y) z := by
  unfold orI
  by_cases h : x = 0
  · rw [if_pos h, if_pos h]
  · rw [if_neg h, if_neg h, if_neg h]
theorem lex_lists {L M : List (List Int)} {k : Nat} {l m : List Int} (h1 : L[k]? = some l) (h2 : M[k]? = some m) : lexP (lskey (L.drop k)) (lskey (M.drop k)) = orI (cmpL l m) (lexP (lskey (L.drop (k + 1))) (lskey (M.drop (k + 1)))) := by
  have a1 := List.getElem?_eq_some_iff.1 h1
  have a2 := List.getElem?_eq_some_iff.1 h2
  rw [List.drop_eq_getElem_cons a1.1, List.drop_eq_getElem_cons a2.1, a1.2, a2.2, lskey_cons]
theorem lex_two (i o i' o' : List Int) : lexP (lskey [i, o]) (lskey [i', o']) = orI (cmpL i i') (cmpL o o') := by
  rw [lskey_cons, lskey_cons]
  have : lexP (lskey []) (lskey []) = 0 := rfl
  rw [this]
  congr 1
  unfold orI
  split
  · rename_i h; exact h.symm
  · rfl

set_option maxRecDepth 100000 in
set_option maxHeartbeats 16000000 in
theorem less_any (a b : St) (u v : Value) (w : World) (h1 : StAt w u a) (h2 : StAt w v b) (hma : MidS a) (hmb : MidS b) :
    Calls Try.prog 24 #[u, v] w fun e w' => e = .returned (.bool (decide (cmpP a b < 0))) ∧ Below w.heap.size w w' := by
  obtain ⟨ca, ia, oa, rfl, hca, hia, hoa⟩ := id h1
  obtain ⟨cb, ib, ob, rfl, hcb, hib, hob⟩ := id h2
  obtain ⟨W, hW⟩ : ∃ W, W = (w.alloc (.cells #[ca, ia, oa] 35)).alloc (.cells #[cb, ib, ob] 35) := ⟨_, rfl⟩
  have hB0 : Below w.heap.size w W := by rw [hW]; exact below_next (below_alloc _ _) (Nat.le_refl _) (below_alloc _ _)
  have hKA : Blk W w.heap.size 35 #[ca, ia, oa] := by rw [hW]; exact (Blk.new _ _ _).next (below_alloc _ _)
  have hKB : Blk W (w.heap.size + 1) 35 #[cb, ib, ob] := by
    rw [hW]
    have := Blk.new (w.alloc (.cells #[ca, ia, oa] 35)) 35 #[cb, ib, ob]
    rwa [World.size_alloc] at this
  have HCELL : Hid (∀ w', Below W.heap.size W w' → (w'.cell? ⟨w.heap.size, 0, none⟩ = some ca ∧ w'.cell? ⟨w.heap.size, 1, none⟩ = some ia ∧ w'.cell? ⟨w.heap.size, 2, none⟩ = some oa) ∧ w'.cell? ⟨w.heap.size + 1, 0, none⟩ = some cb ∧ w'.cell? ⟨w.heap.size + 1, 1, none⟩ = some ib ∧ w'.cell? ⟨w.heap.size + 1, 2, none⟩ = some ob) :=
    fun w' hb => ⟨⟨(hKA.next hb).cell 0, (hKA.next hb).cell 1, (hKA.next hb).cell 2⟩, (hKB.next hb).cell 0, (hKB.next hb).cell 1, (hKB.next hb).cell 2⟩
  obtain ⟨wa, hwa⟩ : ∃ x, IntKind.i64.wrap (wtsP (listsS a)) = x := ⟨_, rfl⟩
  obtain ⟨wb, hwb⟩ : ∃ x, IntKind.i64.wrap (wtsP (listsS b)) = x := ⟨_, rfl⟩
  have HWA : Hid (∀ w', Below W.heap.size W w' → Calls Try.prog 20 #[.agg #[ca, ia, oa]] w' fun e w'' => e = .returned (.int .i64 wa) ∧ Below w'.heap.size w' w'') := fun w' hb => by
    rw [← hwa]
    exact weight_any a _ w' ((h1.below hB0 (Nat.le_refl _)).below hb (Nat.le_refl _)) hma
  have HWB : Hid (∀ w', Below W.heap.size W w' → Calls Try.prog 20 #[.agg #[cb, ib, ob]] w' fun e w'' => e = .returned (.int .i64 wb) ∧ Below w'.heap.size w' w'') := fun w' hb => by
    rw [← hwb]
    exact weight_any b _ w' ((h2.below hB0 (Nat.le_refl _)).below hb (Nat.le_refl _)) hmb
  have HCI : Hid (∀ w', Below W.heap.size W w' → Calls Try.prog 42 #[ia, ib] w' fun e w'' => e = .returned (.int .i64 (cmpL a.inp b.inp)) ∧ Below w'.heap.size w' w'') := fun w' hb =>
    (compare_any a.inp b.inp ia ib w' ((hia.below hB0 (Nat.le_refl _)).below hb (Nat.le_refl _)) ((hib.below hB0 (Nat.le_refl _)).below hb (Nat.le_refl _)) (hma _ (by simp [listsS])) (hmb _ (by simp [listsS]))).mono fun _ _ ⟨x, q, y⟩ => ⟨x, by rw [y]; exact drewN_below (Below.refl _ _) _⟩
  have HCO : Hid (∀ w', Below W.heap.size W w' → Calls Try.prog 42 #[oa, ob] w' fun e w'' => e = .returned (.int .i64 (cmpL a.out b.out)) ∧ Below w'.heap.size w' w'') := fun w' hb =>
    (compare_any a.out b.out oa ob w' ((hoa.below hB0 (Nat.le_refl _)).below hb (Nat.le_refl _)) ((hob.below hB0 (Nat.le_refl _)).below hb (Nat.le_refl _)) (hma _ (by simp [listsS])) (hmb _ (by simp [listsS]))).mono fun _ _ ⟨x, q, y⟩ => ⟨x, by rw [y]; exact drewN_below (Below.refl _ _) _⟩
  have HCC : Hid (∀ l ∈ a.cells, ∀ m ∈ b.cells, ∀ u v, IntsAt W u l → IntsAt W v m → ∀ w', Below W.heap.size W w' → Calls Try.prog 42 #[u, v] w' fun e w'' => e = .returned (.int .i64 (cmpL l m)) ∧ ∃ q, w'' = w'.drewN q) := fun l hl m hm u v hu hv w' hb =>
    compare_any l m u v w' (hu.below hb (Nat.le_refl _)) (hv.below hb (Nat.le_refl _)) (hma _ (by simp [listsS, hl])) (hmb _ (by simp [listsS, hm]))
  have HC : Hid (∀ x y w, Calls Try.prog 41 #[.int .i64 x, .int .i64 y] w fun e w' => e = .returned (.int .i64 (cmpI x y)) ∧ w = w') := cmpc_any
  have hra := hca.below hB0 (Nat.le_refl _)
  have hrb := hcb.below hB0 (Nat.le_refl _)
  obtain ⟨aa, cca, rfl, ha1, ha2, hqa⟩ := hra
  obtain ⟨ab, ccb, rfl, hb1, hb2, hqb⟩ := hrb
  have HQA := Lib.hid hqa
  have HQB := Lib.hid hqb
  obtain ⟨na, hna⟩ : ∃ n, a.cells.length = n := ⟨_, rfl⟩
  obtain ⟨nb, hnb⟩ : ∃ n, b.cells.length = n := ⟨_, rfl⟩
  obtain ⟨⟨aia, cia, rfl, -, -, -⟩, -⟩ := id hia
  obtain ⟨⟨aoa, coa, rfl, -, -, -⟩, -⟩ := id hoa
  obtain ⟨⟨aib, cib, rfl, -, -, -⟩, -⟩ := id hib
  obtain ⟨⟨aob, cob, rfl, -, -, -⟩, -⟩ := id hob
  obtain ⟨nia, hnia⟩ : ∃ n, a.inp.length = n := ⟨_, rfl⟩
  obtain ⟨noa, hnoa⟩ : ∃ n, a.out.length = n := ⟨_, rfl⟩
  obtain ⟨nib, hnib⟩ : ∃ n, b.inp.length = n := ⟨_, rfl⟩
  obtain ⟨nob, hnob⟩ : ∃ n, b.out.length = n := ⟨_, rfl⟩
  rw [hna, hnia, hnoa] at HCELL HWA hW ⊢
  rw [hnb, hnib, hnob] at HCELL HWB hW ⊢
  rw [hnia, hnib] at HCI
  rw [hnoa, hnob] at HCO
  rw [hna] at HQA ha1
  rw [hnb] at HQB hb1
  have h63 : (na : Int) ≤ 9223372036854775807 := by unfold maxLen at ha2; omega
  have h64 : (nb : Int) ≤ 9223372036854775807 := by unfold maxLen at hb2; omega
  have HNA := Lib.hid hna
  have HNB := Lib.hid hnb
  obtain ⟨res, hres⟩ : ∃ x, lexP (lskey (listsS a)) (lskey (listsS b)) = x := ⟨_, rfl⟩
  obtain ⟨o1, ho1⟩ : ∃ x, orI (cmpI wa wb) (cmpI na nb) = x := ⟨_, rfl⟩
  have HO1 := Lib.hid ho1
  have HCP : Hid (cmpP a b = orI o1 res) := by
    unfold Hid
    rw [cmpP_or, hwa, hwb, hna, hnb, hres, orI_assoc, ho1]
  rw [HCP.out]
  have HRES := Lib.hid hres
  have HEQ : Hid (o1 = 0 → na = nb) := fun h => by
    have h2 := HO1.out
    rw [h] at h2
    unfold orI at h2
    split at h2
    · unfold cmpI at h2
      split at h2
      · omega
      · split at h2 <;> omega
    · rename_i hh; exact absurd h2 hh
  have hs0 : W.heap.size = w.heap.size + 2 := by rw [hW]; simp
  have HW := Lib.hid hW
  have HB0 := Lib.hid hB0
  clear hwa hwb hna hnb hnia hnoa hnib hnob hca hia hoa hcb hib hob h1 h2 hma hmb hqa hqb ha1 ha2 hb1 hb2 hKA hKB hB0 hres ho1 hW HCP
  obtain ⟨⟨m0, m1, m2⟩, n0, n1, n2⟩ := HCELL.out W (Below.refl _ _)
  have HX : Hid (Below W.heap.size W W) := Below.refl _ _
  go_enter Try.func24, Try.ntmps24
  go_upto_region 1 with (fail)
  rw [← HW.out]
  go_cut [5] from 7 to 20 (fun x wx => x = .int .i64 o1 ∧ Below W.heap.size W wx)
  case first =>
    go_region_held3 (fun w' => (w'.cell? ⟨w.heap.size, 0, none⟩ = some (.slice aa na cca) ∧ w'.cell? ⟨w.heap.size, 1, none⟩ = some (.slice aia nia cia) ∧ w'.cell? ⟨w.heap.size, 2, none⟩ = some (.slice aoa noa coa)) ∧ w'.cell? ⟨w.heap.size + 1, 0, none⟩ = some (.slice ab nb ccb) ∧ w'.cell? ⟨w.heap.size + 1, 1, none⟩ = some (.slice aib nib cib) ∧ w'.cell? ⟨w.heap.size + 1, 2, none⟩ = some (.slice aob nob cob))
      (first | exact HCELL.out _ HX.out | exact HCELL.out _ (below_drew HX.out) | exact HCELL.out _ (below_next HX.out (Nat.le_refl _) (below_alloc _ _)) | exact HCELL.out _ (below_drew (below_next HX.out (Nat.le_refl _) (below_alloc _ _))))
      (first
        | (go_at_call 20; (first | (with_reducible refine (HWA.out _ ?_).mono ?_) | (with_reducible refine (HWB.out _ ?_).mono ?_)); (first | exact HX.out | exact below_drew HX.out); rintro e wz ⟨rfl, hba⟩; have HX := Lib.hid (by first | exact below_next HX.out (Nat.le_refl _) hba | exact below_next' HX.out (Nat.le_refl _) hba : Below W.heap.size W wz); clear hba)
        | (go_at_call 41; refine (HC.out _ _ _).mono ?_; rintro e wz ⟨rfl, rfl⟩)
        | (go_at_call 40; refine (or_any _ _ _ _ _ (by first | exact (Blk.new _ _ _).cell 0 | exact ((Blk.new _ _ _).next (below_drew (Below.refl _ _))).cell 0) (by first | exact (Blk.new _ _ _).cell 1 | exact ((Blk.new _ _ _).next (below_drew (Below.refl _ _))).cell 1)).mono ?_; rintro e wz ⟨rfl, rfl⟩))
    all_goals
      go_wp2_with fail
      go_meet
      exact ⟨by rw [HO1.out], by first | exact HX.out | exact below_drew HX.out | exact below_next HX.out (Nat.le_refl _) (below_alloc _ _) | exact below_drew (below_next HX.out (Nat.le_refl _) (below_alloc _ _))⟩
  case rest =>
    obtain ⟨rfl, hbc⟩ := hcut
    have HBC := Lib.hid hbc
    clear hbc m0 m1 m2 n0 n1 n2 HX HW
    obtain ⟨⟨m0, m1, m2⟩, n0, n1, n2⟩ := HCELL.out _ HBC.out
    by_cases hz : o1 = 0
    · have hnab := HEQ.out hz
      subst hnab
      have t0 : (o1 != 0) = false := by simp [hz]
      have HOR : Hid (orI o1 res = res) := by unfold Hid orI; rw [if_pos hz]
      clear hz
      obtain ⟨La, hLa⟩ : ∃ L, listsS a = L := ⟨_, rfl⟩
      obtain ⟨Lb, hLb⟩ : ∃ L, listsS b = L := ⟨_, rfl⟩
      rw [hLa, hLb] at HRES
      have HGA : Hid (∀ k, k < na → La[k]? = a.cells[k]?) := fun k hk => by rw [← hLa]; unfold listsS; rw [List.getElem?_append_left (by rw [HNA.out]; exact hk)]
      have HGB : Hid (∀ k, k < na → Lb[k]? = b.cells[k]?) := fun k hk => by rw [← hLb]; unfold listsS; rw [List.getElem?_append_left (by rw [HNB.out]; exact hk)]
      have HDA : Hid (La.drop na = [a.inp, a.out]) := by unfold Hid; rw [← hLa]; unfold listsS; rw [← HNA.out, List.drop_left]
      have HDB : Hid (Lb.drop na = [b.inp, b.out]) := by unfold Hid; rw [← hLb]; unfold listsS; rw [← HNB.out, List.drop_left]
      clear hLa hLb
      go_wp2
      go_loopg [28] na (fun q i wr => ∃ k : Nat, k + q = na ∧ i = .int .i64 k ∧ lexP (lskey (La.drop k)) (lskey (Lb.drop k)) = res ∧ Below W.heap.size W wr)
      case atStart => exact ⟨0, by omega, rfl, by rw [List.drop_zero, List.drop_zero]; exact HRES.out, HBC.out⟩
      case round =>
        obtain ⟨k, hk, rfl, hx, hbw⟩ := hrel
        have Hk := Lib.hid hk
        have HX := Lib.hid hx
        have HBW := Lib.hid hbw
        have hkn : k ≤ na := by omega
        clear hk hx hbw m0 m1 m2 n0 n1 n2
        obtain ⟨⟨m0, m1, m2⟩, n0, n1, n2⟩ := HCELL.out _ HBW.out
        by_cases hlt : k < na
        · have hlt' : (k : Int) < (na : Int) := by omega
          have hlt2 : (k : Int) < (na : Int) := hlt'
          obtain ⟨g, o, rfl, hg, hq⟩ := HQA.out (by omega)
          obtain ⟨g2, o2, rfl, hg2, hq2⟩ := HQB.out (by omega)
          obtain ⟨l, hl⟩ := get_lt HNA.out.symm hlt
          obtain ⟨m, hm⟩ := get_lt HNB.out.symm hlt
          obtain ⟨u1, hu1, hi1⟩ := hq k l hl
          obtain ⟨u2, hu2, hi2⟩ := hq2 k m hm
          have p0 := cell_below HBW.out hg hu1
          have p1 := cell_below HBW.out hg2 hu2
          have HCALL : Hid (∀ q, Calls Try.prog 42 #[u1, u2] (wr.drewN q) fun e w'' => e = .returned (.int .i64 (cmpL l m)) ∧ ∃ d, w'' = (wr.drewN q).drewN d) :=
            fun q => HCC.out l (List.mem_of_getElem? hl) m (List.mem_of_getElem? hm) u1 u2 hi1 hi2 _ (drewN_below HBW.out _)
          have hls := lex_lists (L := La) (M := Lb) (k := k) (by rw [HGA.out k hlt]; exact hl) (by rw [HGB.out k hlt]; exact hm)
          rw [HX.out] at hls
          obtain ⟨c, hc⟩ : ∃ c, cmpL l m = c := ⟨_, rfl⟩
          rw [hc] at HCALL hls
          have HLS := Lib.hid hls
          obtain ⟨⟨a1, c1, rfl, -, -, -⟩, -⟩ := hi1
          obtain ⟨⟨a2, c2, rfl, -, -, -⟩, -⟩ := hi2
          have v1 : IntKind.i64.wrap ((k : Int) + 1) = (k : Int) + 1 := IntWalk.i64_in _ (by omega)
          clear hq hq2 hl hm hu1 hu2 hc hls
          by_cases hz : c = 0
          · have t1 : (c != 0) = false := by simp [hz]
            have HNX : Hid (lexP (lskey (La.drop (k + 1))) (lskey (Lb.drop (k + 1))) = res) := by
              have h := HLS.out
              unfold orI at h
              rw [if_pos hz] at h
              exact h.symm
            clear hz HLS
            go_wp2
            go_quiet ((go_at_call 42; first | (with_reducible exact quiet_add (HCALL.out _)) | (with_reducible exact Calls.quiet_of (HCALL.out _))))
            have HBQ : Hid (Below W.heap.size W (wr.drewN nq)) := drewN_below HBW.out _
            go_wp2
            have hk := Hk.out
            go_roundg (na - (k + 1))
            case measure => omega
            case rel => exact ⟨k + 1, by omega, by go_num, HNX.out, HBQ.out⟩
          · have t1 : (c != 0) = true := by simp [hz]
            have HNX : Hid (res = c) := by
              have h := HLS.out
              unfold orI at h
              rw [if_neg hz] at h
              exact h
            clear hz HLS
            go_wp2
            go_quiet ((go_at_call 42; first | (with_reducible exact quiet_add (HCALL.out _)) | (with_reducible exact Calls.quiet_of (HCALL.out _))))
            have HBQ : Hid (Below W.heap.size W (wr.drewN nq)) := drewN_below HBW.out _
            go_wp2
            go_ret
            exact ⟨by rw [HOR.out, HNX.out]; rfl, HB0.out.trans (HBQ.out.mono HB0.out.size)⟩
        · have hge : ¬ (k : Int) < (na : Int) := by omega
          have hke : na = k := by omega
          subst hke
          have HFIN : Hid (res = orI (cmpL a.inp b.inp) (cmpL a.out b.out)) := by
            have h := HX.out
            rw [HDA.out, HDB.out, lex_two] at h
            exact h.symm
          have HX : Hid (Below W.heap.size W wr) := HBW.out
          go_wp2
          go_region_held3 (fun w' => (w'.cell? ⟨w.heap.size, 0, none⟩ = some (.slice aa na cca) ∧ w'.cell? ⟨w.heap.size, 1, none⟩ = some (.slice aia nia cia) ∧ w'.cell? ⟨w.heap.size, 2, none⟩ = some (.slice aoa noa coa)) ∧ w'.cell? ⟨w.heap.size + 1, 0, none⟩ = some (.slice ab na ccb) ∧ w'.cell? ⟨w.heap.size + 1, 1, none⟩ = some (.slice aib nib cib) ∧ w'.cell? ⟨w.heap.size + 1, 2, none⟩ = some (.slice aob nob cob))
            (first | exact HCELL.out _ HX.out | exact HCELL.out _ (below_drew HX.out) | exact HCELL.out _ (below_next HX.out (by omega) (below_alloc _ _)) | exact HCELL.out _ (below_drew (below_next HX.out (by omega) (below_alloc _ _))))
            (first
              | (go_at_call 42; (first | (with_reducible refine (HCI.out _ ?_).mono ?_) | (with_reducible refine (HCO.out _ ?_).mono ?_)); (first | exact HX.out | exact below_drew HX.out); rintro e wz ⟨rfl, hba⟩; have HX := Lib.hid (by first | exact below_next HX.out (Nat.le_refl _) hba | exact below_next' HX.out (Nat.le_refl _) hba : Below W.heap.size W wz); clear hba)
              | (go_at_call 40; refine (or_any _ _ _ _ _ (by first | exact (Blk.new _ _ _).cell 0 | exact ((Blk.new _ _ _).next (below_drew (Below.refl _ _))).cell 0) (by first | exact (Blk.new _ _ _).cell 1 | exact ((Blk.new _ _ _).next (below_drew (Below.refl _ _))).cell 1)).mono ?_; rintro e wz ⟨rfl, rfl⟩))
          all_goals
            go_wp2
            go_ret
            refine ⟨by rw [HOR.out, HFIN.out]; rfl, HB0.out.trans (Below.mono (by first | exact HX.out | exact below_drew HX.out | exact below_next HX.out (Nat.le_refl _) (below_alloc _ _) | exact below_drew (below_next HX.out (Nat.le_refl _) (below_alloc _ _))) HB0.out.size)⟩
    · have t0 : (o1 != 0) = true := by simp [hz]
      have HOR : Hid (orI o1 res = o1) := by unfold Hid orI; rw [if_neg hz]
      clear hz
      go_wp2
      go_ret
      exact ⟨by rw [HOR.out]; rfl, HB0.out.trans (HBC.out.mono HB0.out.size)⟩
end Go.Proofs.Ytklbaocgjegdfaa
