/- The walks of image.Check and image.Valid. -/
import Derived.Test.YtichiccohmeecaaDoorWhG2
import Derived.Test.YtichiccohmeecaaDoorWhG3
namespace Go.Proofs.YtichiccohmeecaaDoor
open Go.RowKit

def CheckR (im : Im) (w : World) (e : Ending) (w' : World) : Prop := ∃ i e0 : Int, e = .returned (.tuple #[.int .i64 i, .int .i64 e0]) ∧ (e0 = 0 ↔ checkB im = true) ∧ Below w.heap.size w w'

theorem check_no {im : Im} (h : sizeB im = false) : checkB im = false := by unfold checkB; rw [h]; rfl
theorem size_no {im : Im} (h : 65536 < im.code.length ∨ im.mem < 0 ∨ 16384 < im.mem ∨ im.stacks < 1 ∨ 16384 < im.stacks) : sizeB im = false := by
  cases hs : sizeB im with
  | false => rfl
  | true =>
    unfold sizeB at hs
    simp only [Bool.and_eq_true, decide_eq_true_eq] at hs
    omega

set_option maxRecDepth 100000 in
set_option maxHeartbeats 8000000 in
theorem check_any {P : Nat → Prop} (im : Im) (vc : Value) (w : World) (hC : CodeIn P w vc im.code) (hT : TabAt w) (hl : im.code.length ≤ 1000) :
    Calls Tryd.prog 26 #[imV vc im] w (CheckR im w) := by
  obtain ⟨C, mem, stacks⟩ := im
  have HCI := Lib.hid hC
  obtain ⟨a, cp, rfl, hn, hm, hq⟩ := hC
  dsimp only at hn hq hl HCI
  unfold imV
  dsimp only
  obtain ⟨n, hnl⟩ : ∃ n, n = C.length := ⟨_, rfl⟩
  rw [← hnl] at hn hq hl HCI ⊢
  have hb1 := below_alloc w (.cells #[.slice a n cp, .int .i64 mem, .int .i64 stacks] 24)
  have hbk := Blk.new w 24 #[.slice a n cp, .int .i64 mem, .int .i64 stacks]
  have HNL := Lib.hid hnl
  have HT := Lib.hid hT
  have HB1 := Lib.hid hb1
  have HBK := Lib.hid hbk
  have hn0 : (0 : Int) ≤ (n : Int) := Int.natCast_nonneg _
  have hn1 : (n : Int) ≤ 1000 := by omega
  clear hq hn hm hT hnl hb1 hbk
  by_cases hs : sizeB ⟨C, mem, stacks⟩ = true
  · have hs' := hs
    unfold sizeB at hs'
    simp only [Bool.and_eq_true, decide_eq_true_eq] at hs'
    obtain ⟨⟨⟨⟨-, h1⟩, h2⟩, h3⟩, h4⟩ := hs'
    have HS := Lib.hid hs
    clear hs
    go_enter Tryd.func26, Tryd.ntmps26
    go_wp2_with fail
    refine (regions_any C _ _ (HCI.out.below HB1.out) (HT.out.below HB1.out) (by rw [← HNL.out]; exact hl)).mono ?_
    rintro e w1 ⟨b1, b2, rfl, hk1, hk2, hb⟩
    rw [← HNL.out] at hk1 hk2 ⊢
    have HB2 := Lib.hid (below_next HB1.out (Nat.le_refl _) hb)
    have HBK2 := Lib.hid (HBK.out.next hb)
    have HK1 := Lib.hid hk1
    have HK2 := Lib.hid hk2
    have y0 := HBK2.out.cell 0
    simp only [List.getElem?_toArray, List.getElem?_cons_zero] at y0
    have hn63 : n ≤ 9223372036854775807 := by omega
    clear hb hk1 hk2
    go_wp2
    go_loopg [41] n (fun q i wr => ∃ k : Nat, k + q = n ∧ i = .int .i64 k ∧ (∀ j, j < k → faultN C j = 0) ∧ Blk wr w.heap.size 24 #[.slice a n cp, .int .i64 mem, .int .i64 stacks] ∧ Blk wr b1 3 (arr n (fun j => .int .i64 (regL C j))) ∧ Blk wr b2 4 (arr n (fun j => .bool (insL C j))) ∧ Below w.heap.size w wr)
    case atStart => exact ⟨0, by omega, rfl, fun j hj => absurd hj (by omega), HBK2.out, HK1.out, HK2.out, HB2.out⟩
    case round =>
      obtain ⟨k, hk, rfl, hf, hbk, hk1, hk2, hbw⟩ := hrel
      have Hk := Lib.hid hk
      have HF := Lib.hid hf
      have HBK := Lib.hid hbk
      have HK1 := Lib.hid hk1
      have HK2 := Lib.hid hk2
      have HBW := Lib.hid hbw
      have hkn : k ≤ n := by omega
      by_cases hlt : k < n
      · have hlt' : (k : Int) < (n : Int) := by omega
        have hk0 : (0 : Int) ≤ (k : Int) := Int.natCast_nonneg _
        have y0 := hbk.cell 0
        simp only [List.getElem?_toArray, List.getElem?_cons_zero] at y0
        have y1 : wr.cell? ⟨b2, k, none⟩ = some (.bool (insL C k)) := (hk2.cell k).trans (arr_get _ hlt)
        have hz0 := hbk.lt
        have hz2 := hk2.lt
        clear hk hf hbk hk1 hk2 hbw
        obtain ⟨I, hI⟩ : ∃ I, insL C k = I := ⟨_, rfl⟩
        rw [hI] at y1
        obtain ⟨E, hE⟩ : ∃ E, faultN C k = E := ⟨_, rfl⟩
        have HI := Lib.hid hI
        have HE := Lib.hid hE
        clear hI hE
        have HFC : Hid (∀ w', Below wr.heap.size wr w' → Calls Tryd.prog 39 #[.slice a n cp, .int .i64 k, .slice (some ⟨b1, 0, none⟩) n n, .bool I] w' fun e w'' => e = .returned (.int .i64 E) ∧ Below w'.heap.size w' w'') := Lib.hid (fun w' hb => by
          have hb0 := below_next HBW.out (Nat.le_refl _) hb
          have h := fault_any C _ k (regL C) b1 n I w' (HCI.out.below hb0) (HT.out.below hb0) (by rw [← HNL.out]; exact hlt) (by rw [← HNL.out]; exact HK1.out.next hb)
          rw [← HNL.out] at h
          refine h.mono ?_
          rintro e w'' ⟨rfl, h2⟩
          refine ⟨?_, h2⟩
          rw [← HE.out, ← HI.out]
          rfl)
        go_wp2
        go_region_held3 (fun w' => w'.cell? ⟨w.heap.size, 0, none⟩ = some (.slice a n cp) ∧ w'.cell? ⟨b2, k, none⟩ = some (.bool I)) (first | exact ⟨y0, y1⟩ | exact ⟨v0, v1⟩)
          ((go_at_call 39; (with_reducible refine (HFC.out _ ?_).mono ?_); (first | exact Below.refl _ _ | exact below_drew (Below.refl _ _)); rintro e w5 ⟨rfl, hb5⟩; have v0 : w5.cell? ⟨w.heap.size, 0, none⟩ = some (.slice a n cp) := cell_lo hb5 hz0 y0; have v1 : w5.cell? ⟨b2, k, none⟩ = some (.bool I) := cell_lo hb5 hz2 y1; have HB5 : Hid (Below wr.heap.size wr w5) := ⟨hb5.os, hb5.tape, hb5.output, hb5.size, hb5.block⟩))
        by_cases h0 : E = 0
        · subst h0
          go_wp2
          have hk := Hk.out
          go_roundg (n - (k + 1))
          case measure => omega
          case rel => exact ⟨k + 1, by omega, by go_num, fun j hj => by
            rcases Nat.lt_or_ge j k with h | h
            · exact HF.out j h
            · obtain rfl : j = k := by omega
              exact HE.out, HBK.out.next HB5.out, HK1.out.next HB5.out, HK2.out.next HB5.out, below_next HBW.out (Nat.le_refl _) HB5.out⟩
        · have e0 : (E != 0) = true := by simpa using h0
          have HE0 := Lib.hid h0
          clear h0
          go_wp2
          go_ret2
          refine ⟨_, _, rfl, ⟨fun h => absurd h HE0.out, fun h => ?_⟩, below_next HBW.out (Nat.le_refl _) HB5.out⟩
          unfold checkB at h
          rw [Bool.and_eq_true] at h
          rw [← HE.out]
          exact fault_of h.2 (by rw [← HNL.out]; exact hlt)
      · have hge : ¬ (k : Int) < (n : Int) := by omega
        obtain rfl : k = n := by omega
        clear hk hf hbk hk1 hk2 hbw
        go_wp2
        go_ret2
        refine ⟨_, _, rfl, ⟨fun _ => ?_, fun _ => rfl⟩, HBW.out⟩
        unfold checkB
        rw [HS.out, Bool.true_and]
        unfold codeB
        rw [List.all_eq_true]
        intro j hj
        rw [beq_iff_eq]
        exact HF.out j (by rw [HNL.out]; simpa using hj)
  · have hno := check_no (by simpa using hs : sizeB ⟨C, mem, stacks⟩ = false)
    have HNO := Lib.hid hno
    have hcase : mem < 0 ∨ 16384 < mem ∨ stacks < 1 ∨ 16384 < stacks := by
      have hs2 := hs
      unfold sizeB at hs2
      simp only [Bool.and_eq_true, decide_eq_true_eq] at hs2
      have := HNL.out
      omega
    have HCA := Lib.hid hcase
    clear hs hno hcase
    go_enter Tryd.func26, Tryd.ntmps26
    go_wp2_with fail
    all_goals first
      | (go_ret2; exact ⟨_, _, rfl, ⟨fun h => absurd h (by decide), fun h => by rw [HNO.out] at h; cases h⟩, HB1.out⟩)
      | (exfalso; have := HCA.out; omega)

def ValidR (im : Im) (w : World) (e : Ending) (w' : World) : Prop := e = .returned (.bool (checkB im)) ∧ Below w.heap.size w w'
theorem image_valid {P : Nat → Prop} (im : Im) (vc : Value) (w : World) (hC : CodeIn P w vc im.code) (hT : TabAt w) (hl : im.code.length ≤ 1000) :
    Calls Tryd.prog 21 #[imV vc im] w (ValidR im w) := by
  have hb1 := below_alloc w (.cells #[vc, .int .i64 im.mem, .int .i64 im.stacks] 24)
  have HC := Lib.hid (check_any im vc _ (hC.below hb1) (hT.below hb1) hl)
  have HB1 := Lib.hid hb1
  obtain ⟨a, cp, rfl, -⟩ := hC
  obtain ⟨B, hB⟩ : ∃ B, checkB im = B := ⟨_, rfl⟩
  unfold ValidR
  rw [hB]
  have HB := Lib.hid hB
  clear hb1 hT hl hB
  unfold imV at HC ⊢
  generalize im.code.length = n at *
  go_enter Tryd.func21, Tryd.ntmps21
  go_wp2_with fail
  refine HC.out.mono ?_
  rintro e w1 ⟨i, e0, rfl, he, hb⟩
  rw [HB.out] at he
  have HB2 := Lib.hid (below_next HB1.out (Nat.le_refl _) hb)
  have HE := Lib.hid he
  clear hb he
  go_wp2
  all_goals go_ret
  all_goals exact ⟨ret_bool (by have h := HE.out; cases B <;> simp_all), HB2.out⟩

end Go.Proofs.YtichiccohmeecaaDoor
