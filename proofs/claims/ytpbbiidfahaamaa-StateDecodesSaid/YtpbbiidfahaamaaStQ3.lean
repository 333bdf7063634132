/- The walk of the reference's Encode. -/
import Derived.Test.YtpbbiidfahaamaaStQ2
import Derived.Test.YtpbbiidfahaamaaStL0
import Derived.Deep.RegionHeld3
namespace Go.Proofs.Ytpbbiidfahaamaa
open Go.RowKit

theorem nums_one (nm : ByteArray) (kd : Nat) (ln : Int) (l : List Int) : numsB ((kd : Int) == 3) l = encOne (⟨nm, kd, ln⟩, l) := by
  unfold numsB encOne
  by_cases h : kd = 3
  · subst h; rfl
  · have e : ((kd : Int) == 3) = false := by simp; omega
    rw [e, if_neg (by simp), if_neg h]

theorem nums_len (c : Bool) (l : List Int) : (numsB c l).length ≤ 2 + 8 * l.length := by
  unfold numsB
  rw [List.length_append, bytesL_len]
  split <;> simp [bytesOf]

theorem encB_nums (D : List Decl) (s : St) : encB D s = (encRows D s.cells ++ numsB true s.inp) ++ numsB true s.out := by
  unfold encB numsB
  simp

set_option maxRecDepth 100000 in
set_option maxHeartbeats 8000000 in
theorem rencode_any (D : List Decl) (s : St) (u v : Value) (w : World) (h1 : DeclsAt w u D) (h2 : StAt w v s) (hf : fitsB D s = true) :
    Calls Try.prog 29 #[u, v] w fun e w' => ∃ b, e = .returned b ∧ w'.ownsRow w.heap.size 5 1 b (encB D s).length (bytesV (encB D s)) ∧ Below w.heap.size w w' := by
  obtain ⟨hD32, hlen, hi4, ho4, hval, hfit⟩ := fits_parts hf
  obtain ⟨⟨ad, cd, rfl, -, -, -⟩, -⟩ := id h1
  obtain ⟨c1, i1, o1, rfl, hc, hi, ho⟩ := id h2
  obtain ⟨ac, cc, rfl, -, -, -⟩ := id hc
  obtain ⟨W, hW⟩ : ∃ W, W = w.alloc (.cells #[.slice ac s.cells.length cc, i1, o1] 25) := ⟨_, rfl⟩
  have hB0 : Below w.heap.size w W := by rw [hW]; exact below_alloc _ _
  have hbk : Blk W w.heap.size 25 #[.slice ac s.cells.length cc, i1, o1] := by rw [hW]; exact Blk.new _ _ _
  have hlt : w.heap.size < W.heap.size := hbk.lt
  have HD := Lib.hid (h1.below hB0 (Nat.le_refl _))
  have HC := Lib.hid (hc.below hB0 (Nat.le_refl _))
  have HI := Lib.hid (hi.below hB0 (Nat.le_refl _))
  have HO := Lib.hid (ho.below hB0 (Nat.le_refl _))
  have HB0 := Lib.hid hB0
  have HBK := Lib.hid hbk
  have HW := Lib.hid hW
  have HVAL := Lib.hid hval
  have HFIT := Lib.hid hfit
  have HI4 := Lib.hid hi4
  have HO4 := Lib.hid ho4
  have HEN := Lib.hid (encB_nums D s)
  rw [hlen] at HC HBK HW ⊢
  have HLEN := Lib.hid hlen
  generalize hn : D.length = n at *
  have ND := Lib.hid hn.symm
  have NL : Hid (n = s.cells.length) := by unfold Hid; rw [HLEN.out]
  generalize encB D s = R at *
  have hn32 : (n : Int) ≤ 32 := by omega
  clear h1 h2 hc hi ho hW hB0 hbk hval hfit hi4 ho4 hf hlen hn
  go_enter Try.func29, Try.ntmps29
  go_wp2_with fail
  rw [← HW.out]
  go_loopg [5, 6] n (fun q v5 i wr => ∃ k : Nat, k + q = n ∧ i = .int .i64 k ∧ wr.ownsRow W.heap.size 5 1 v5 (((D.zip s.cells).take k).flatMap encOne).length (bytesV (((D.zip s.cells).take k).flatMap encOne)) ∧ (((D.zip s.cells).take k).flatMap encOne).length ≤ 10000 * k ∧ Below W.heap.size W wr)
  case atStart => exact ⟨0, by omega, rfl, World.ownsRow_nil _ _ _ _, Nat.le_refl _, Below.refl _ _⟩
  case round =>
    obtain ⟨k, hk, rfl, hown, hle, hb⟩ := hrel
    have Hk := Lib.hid hk
    have hkn : k ≤ n := by omega
    have Hown := Lib.hid hown
    have Hle := Lib.hid hle
    have Hb := Lib.hid hb
    have hsz := hb.size
    clear hk hown hle hb
    by_cases hlt2 : k < n
    · have hlt' : (k : Int) < (n : Int) := by omega
      have hk0 : (0 : Int) ≤ (k : Int) := Int.natCast_nonneg _
      obtain ⟨g1, f1, rfl, hg1, hq1⟩ := HD.out.1.get (by omega)
      obtain ⟨g2, f2, rfl, hg2, hq2⟩ := SliceAt.get HC.out (by omega)
      obtain ⟨d, hd⟩ := get_lt ND.out hlt2
      obtain ⟨l, hl⟩ := get_lt NL.out hlt2
      obtain ⟨-, e1, -⟩ := hq1 k d hd
      obtain ⟨ur, er, hur⟩ := hq2 k l hl
      have HL := Lib.hid hur
      have hz : (D.zip s.cells)[k]? = some (d, l) := by rw [List.getElem?_zip_eq_some]; exact ⟨hd, hl⟩
      have hll : l.length ≤ 1000 := fit_len (HVAL.out d (List.mem_of_getElem? hd)) (HFIT.out (d, l) (List.mem_of_getElem? hz))
      have HT := Lib.hid (encRows_take hz)
      have HE1 := Lib.hid e1
      have HER := Lib.hid er
      have m1 := cell_below Hb.out hg1 e1
      have r0 := cell_below Hb.out hg2 er
      have b0 : wr.cell? ⟨w.heap.size, 0, none⟩ = some (.slice (some ⟨g2, f2, none⟩) n cc) := (HBK.out.next Hb.out).cell 0
      obtain ⟨nm, kd, ln⟩ := d
      simp only at m1 HE1
      have HNO := Lib.hid (nums_one nm kd ln l)
      have HNL := Lib.hid (nums_len ((kd : Int) == 3) l)
      generalize ((D.zip s.cells).take k).flatMap encOne = P at *
      have hP := Hle.out
      have HNC : Hid (∀ w', Below W.heap.size W w' → Calls Try.prog 48 #[ur, .bool ((kd : Int) == 3)] w' _) := fun w' hb' => rnumbers_any ((kd : Int) == 3) l ur w' (HL.out.below hb' (Nat.le_refl _)) (by omega)
      clear hq1 hq2 hd hl e1 er hur hz
      go_wp2_with fail
      go_region_held3 (fun w' => w'.cell? ⟨w.heap.size, 0, none⟩ = some (.slice (some ⟨g2, f2, none⟩) n cc) ∧ w'.cell? ⟨g2, f2 + k, none⟩ = some ur ∧ w'.cell? ⟨g1, f1 + k * 3 + 1, none⟩ = some (.int .u8 kd))
        (first
          | exact ⟨(HBK.out.next HX4.out).cell 0, cell_below HX4.out hg2 HER.out, cell_below HX4.out hg1 HE1.out⟩
          | exact ⟨(HBK.out.next HX3.out).cell 0, cell_below HX3.out hg2 HER.out, cell_below HX3.out hg1 HE1.out⟩
          | exact ⟨b0, r0, m1⟩)
        (first
          | (go_at_call 48; (with_reducible refine (HNC.out _ ?_).mono ?_); (first | exact Hb.out | exact below_drew Hb.out); rintro e w3 ⟨u3, rfl, hown3, hb3⟩; have HX3 : Hid (Below W.heap.size W w3) := Lib.hid (by first | exact below_next Hb.out (Nat.le_refl _) hb3 | exact below_next' Hb.out (Nat.le_refl _) hb3); have HY3 := Lib.hid (BytesAt.of_own hown3); have HP3 : Hid (w3.ownsRow W.heap.size 5 1 u5 P.length (bytesV P)) := Lib.hid (own_below Hown.out ⟨hb3.os, hb3.tape, hb3.output, hb3.size, hb3.block⟩); clear hown3 hb3)
          | (refine step_append_bytes _ rfl (.tmp 13) (.tmp 25) rfl W.heap.size u5 P.length (bytesV P) rfl ?_ u3 (numsB ((kd : Int) == 3) l) rfl ?_ ?_ ?_ ?_; exact HP3.out; exact HY3.out; (have := HNL.out; omega); exact HX3.out.size; intro v4 w4 hown4 hgrow4; have HX4 : Hid (Below W.heap.size W w4) := Lib.hid (HX3.out.grown ⟨hgrow4.os, hgrow4.tape, hgrow4.output, hgrow4.size, hgrow4.block⟩ HX3.out.size (fun j hj => (HP3.out.lt j hj).1)); have HP4 := Lib.hid hown4; clear hown4 hgrow4))
      have hfin := HP4.out
      rw [HNO.out] at hfin
      have HFI := Lib.hid hfin
      have HLE : Hid ((((D.zip s.cells).take (k + 1)).flatMap encOne).length ≤ 10000 * (k + 1)) := by
        unfold Hid
        rw [HT.out, List.length_append]
        have h1 := HNL.out
        rw [HNO.out] at h1
        omega
      clear hfin HP4 HP3 HY3
      go_wp2
      have hk := Hk.out
      go_roundg (n - (k + 1))
      case measure => omega
      case rel =>
        refine ⟨k + 1, by omega, by go_num, ?_, HLE.out, HX4.out⟩
        rw [HT.out, bytesV_app P, List.length_append]
        exact HFI.out
    · have hge : ¬ (k : Int) < (n : Int) := by omega
      have hown := Hown.out
      have hle2 := Hle.out
      rw [List.take_of_length_le (by rw [List.length_zip, ← ND.out, ← NL.out]; omega)] at hown hle2
      have Hown2 := Lib.hid hown
      have hle3 : (((D.zip s.cells)).flatMap encOne).length ≤ 320000 := by omega
      have b1 : wr.cell? ⟨w.heap.size, 1, none⟩ = some i1 := (HBK.out.next Hb.out).cell 1
      have b2 : wr.cell? ⟨w.heap.size, 2, none⟩ = some o1 := (HBK.out.next Hb.out).cell 2
      have HER : Hid (R = (((D.zip s.cells)).flatMap encOne ++ numsB true s.inp) ++ numsB true s.out) := HEN.out
      generalize ((D.zip s.cells)).flatMap encOne = P at *
      have hi4 := HI4.out
      have ho4 := HO4.out
      have hni := nums_len true s.inp
      have hno := nums_len true s.out
      have HNI : Hid (∀ w', Below W.heap.size W w' → Calls Try.prog 48 #[i1, .bool true] w' _) := fun w' hb' => rnumbers_any true s.inp i1 w' (HI.out.below hb' (Nat.le_refl _)) (by omega)
      have HNO : Hid (∀ w', Below W.heap.size W w' → Calls Try.prog 48 #[o1, .bool true] w' _) := fun w' hb' => rnumbers_any true s.out o1 w' (HO.out.below hb' (Nat.le_refl _)) (by omega)
      clear hown Hown hle2 Hle
      go_wp2_with fail
      go_region_held3 (fun w' => w'.cell? ⟨w.heap.size, 1, none⟩ = some i1 ∧ w'.cell? ⟨w.heap.size, 2, none⟩ = some o1)
        (first
          | exact ⟨(HBK.out.next HX6.out).cell 1, (HBK.out.next HX6.out).cell 2⟩
          | exact ⟨(HBK.out.next HX5.out).cell 1, (HBK.out.next HX5.out).cell 2⟩
          | exact ⟨(HBK.out.next HX4.out).cell 1, (HBK.out.next HX4.out).cell 2⟩
          | exact ⟨(HBK.out.next HX3.out).cell 1, (HBK.out.next HX3.out).cell 2⟩
          | exact ⟨b1, b2⟩)
        (first
          | (go_at_call 48; (with_reducible refine (HNI.out _ ?_).mono ?_); (first | exact Hb.out | exact below_drew Hb.out); rintro e w3 ⟨u3, rfl, hown3, hb3⟩; have HX3 : Hid (Below W.heap.size W w3) := Lib.hid (by first | exact below_next Hb.out (Nat.le_refl _) hb3 | exact below_next' Hb.out (Nat.le_refl _) hb3); have HY3 := Lib.hid (BytesAt.of_own hown3); have HP3 : Hid (w3.ownsRow W.heap.size 5 1 u5 P.length (bytesV P)) := Lib.hid (own_below Hown2.out ⟨hb3.os, hb3.tape, hb3.output, hb3.size, hb3.block⟩); clear hown3 hb3)
          | (refine step_append_bytes _ rfl (.tmp 27) (.tmp 30) rfl W.heap.size _ _ _ (by rfl) (by exact HP3.out) _ (numsB true s.inp) (by rfl) (by exact HY3.out) (by omega) (by exact HX3.out.size) ?_; intro v4 w4 hown4 hgrow4; have HX4 : Hid (Below W.heap.size W w4) := Lib.hid (HX3.out.grown ⟨hgrow4.os, hgrow4.tape, hgrow4.output, hgrow4.size, hgrow4.block⟩ HX3.out.size (fun j hj => (HP3.out.lt j hj).1)); have HP4 := Lib.hid hown4; clear hown4 hgrow4 HY3)
          | (go_at_call 48; (with_reducible refine (HNO.out _ ?_).mono ?_); (first | exact HX4.out | exact below_drew HX4.out); rintro e w5 ⟨u5', rfl, hown5, hb5⟩; have HX5 : Hid (Below W.heap.size W w5) := Lib.hid (by first | exact below_next HX4.out (Nat.le_refl _) hb5 | exact below_next' HX4.out (Nat.le_refl _) hb5); have HY5 := Lib.hid (BytesAt.of_own hown5); have HP5 := Lib.hid (own_below HP4.out ⟨hb5.os, hb5.tape, hb5.output, hb5.size, hb5.block⟩); clear hown5 hb5)
          | (refine step_append_bytes _ rfl (.tmp 31) (.tmp 34) rfl W.heap.size _ _ _ (by rfl) (by exact HP5.out) _ (numsB true s.out) (by rfl) (by exact HY5.out) (by omega) (by exact HX5.out.size) ?_; intro v6 w6 hown6 hgrow6; have HX6 : Hid (Below W.heap.size W w6) := Lib.hid (HX5.out.grown ⟨hgrow6.os, hgrow6.tape, hgrow6.output, hgrow6.size, hgrow6.block⟩ HX5.out.size (fun j hj => (HP5.out.lt j hj).1)); have HP6 := Lib.hid hown6; clear hown6 hgrow6 HY5))
      have hfin := HP6.out
      have HF := Lib.hid (HB0.out.trans (HX6.out.mono HB0.out.size))
      have HS := Lib.hid (Nat.le_of_lt hlt)
      clear hni hno
      go_wp2
      go_ret
      refine ⟨_, rfl, own_mono ?_ HS.out, HF.out⟩
      rw [HER.out, bytesV_app, bytesV_app, List.length_append, List.length_append]
      exact HP6.out

end Go.Proofs.Ytpbbiidfahaamaa
