/- The walk of IsExpr and of IsPlace. -/
import Derived.Test.YtlpmoklcdocmmaaEvW2
namespace Go.Proofs.Ytlpmoklcdocmmaa
open Go.RowKit

theorem cells1 {w : World} {b : Nat} {t : TypeId} {f : Value} (h : Blk w b t #[f]) : ∀ i, i < 1 → w.cell? ⟨b, i, none⟩ = some f := fun i hi => by
  obtain rfl : i = 0 := by omega
  exact h.cell 0
theorem cells2 {w : World} {b : Nat} {t : TypeId} {f : Value} (h : Blk w b t #[f, f]) : ∀ i, i < 2 → w.cell? ⟨b, i, none⟩ = some f := fun i hi => by
  rcases (by omega : i = 0 ∨ i = 1) with rfl | rfl
  · exact h.cell 0
  · exact h.cell 1

theorem isN_1 (n : Int) (s : ByteArray) (bs : List Bool) : isN 1 n s bs = (decide (0 ≤ n) && s.size == 0 && bs.length == 0) := rfl
theorem isN_named {k n : Int} {s : ByteArray} {bs : List Bool} (h : k = 2 ∨ k = 4 ∨ k = 5) : isN k n s bs = (namedN n s && bs.length == 0) := by
  unfold isN; rw [if_neg (by omega), if_pos h]
theorem isN_3 (n : Int) (s : ByteArray) (bs : List Bool) : isN 3 n s bs = (namedN n s && bs == List.replicate 1 true) := rfl
theorem isN_67 {k n : Int} {s : ByteArray} {bs : List Bool} (h : k = 6 ∨ k = 7) : isN k n s bs = (plainN n s && bs == List.replicate 1 true) := by
  unfold isN; rw [if_neg (by omega), if_neg (by omega), if_neg (by omega), if_pos h]; rfl
theorem isN_bin {k n : Int} {s : ByteArray} {bs : List Bool} (h : 8 ≤ k ∧ k ≤ 23) : isN k n s bs = (plainN n s && bs == List.replicate 2 true) := by
  unfold isN; rw [if_neg (by omega), if_neg (by omega), if_neg (by omega), if_neg (by omega), if_pos h]; rfl
theorem isN_no {k n : Int} {s : ByteArray} {bs : List Bool} (h : k < 1 ∨ 23 < k) : isN k n s bs = false := by
  unfold isN; rw [if_neg (by omega), if_neg (by omega), if_neg (by omega), if_neg (by omega), if_neg (by omega)]

set_option maxRecDepth 100000 in
set_option maxHeartbeats 8000000 in
theorem isexpr_any : ∀ (t : T) (v : Value) (w : World), NodeAt w v t → Calls Try.prog 13 #[v] w fun e w' => e = .returned (.bool (isT t)) ∧ Below w.heap.size w w' := by
  intro t
  induction t using T.ind with
  | h kd nm s ks ih =>
    intro v w h
    obtain ⟨u, rfl, ⟨hk0, hk255⟩, hnm, hs, hkids⟩ := NodeAt.mk_iff.1 h
    obtain ⟨a, c, rfl, hn, hm, hq⟩ := id hkids
    have hil : (isL ks).length = ks.length := isL_len ks
    obtain ⟨n, hnk⟩ : ∃ n, n = ks.length := ⟨_, rfl⟩
    have hn63 : n ≤ 9223372036854775807 := by unfold maxLen at hm; omega
    rw [isT]
    have hb1 := below_alloc w (.cells #[.int .u8 kd, .int .i64 nm, .string s, .slice a ks.length c] 24)
    have hk1 := Blk.new w 24 #[.int .u8 kd, .int .i64 nm, .string s, .slice a ks.length c]
    have HKID := Lib.hid (hkids.below hb1 (Nat.le_refl _))
    have IH := Lib.hid ih
    have HN := Lib.hid hnk
    have HIL := Lib.hid hil
    have HS := Lib.hid hs
    rw [← hnk] at hb1 hk1 HKID ⊢
    have HB1 := Lib.hid hb1
    have HK1 := Lib.hid hk1
    have hls : ((isL ks).length == 0) = ((n : Int) == 0) := by rw [hil, ← hnk, Bool.eq_iff_iff]; simp
    have HLS := Lib.hid hls
    clear ih hn hm hq hkids hil hnk h hb1 hk1 hls hnm hs
    by_cases e1 : kd = 1
    · subst e1
      rw [isN_1, HLS.out]
      clear HLS
      by_cases h0 : 0 ≤ nm
      · by_cases h1 : s.size = 0
        · have e1 := empty_of h1
          rw [decide_eq_true h0, show (s.size == 0) = true by simp [h1]]
          clear h1
          by_cases h2 : n = 0
          · have e2 : ((n : Int) == 0) = true := by simp [h2]
            rw [e2]
            clear h2
            go_enter Try.func13, Try.ntmps13
            go_wp2_with fail
            go_ret
            exact ⟨rfl, HB1.out⟩
          · have e2 : ((n : Int) == 0) = false := by simp [h2]
            rw [e2]
            clear h2
            go_enter Try.func13, Try.ntmps13
            go_wp2_with fail
            go_ret
            exact ⟨rfl, HB1.out⟩
        · have e1 := nonempty_of h1
          rw [show (s.size == 0) = false by simpa using h1]
          simp only [Bool.and_false, Bool.false_and]
          clear h1
          go_enter Try.func13, Try.ntmps13
          go_wp2_with fail
          go_ret
          exact ⟨rfl, HB1.out⟩
      · rw [decide_eq_false h0]
        simp only [Bool.false_and]
        have h0' : nm < 0 := by omega
        clear h0
        go_enter Try.func13, Try.ntmps13
        go_wp2_with fail
        go_ret
        exact ⟨rfl, HB1.out⟩
    by_cases e1 : kd = 2 ∨ kd = 4 ∨ kd = 5
    · rw [isN_named e1]
      rw [HLS.out]
      obtain ⟨bz, hbz⟩ : ∃ bz, ((n : Int) == 0) = bz := ⟨_, rfl⟩
      rw [hbz]
      have HC1 := Lib.hid (named_any kd nm s HS.out (.slice a n c) (w.alloc (.cells #[.int .u8 kd, .int .i64 nm, .string s, .slice a n c] 24)))
      generalize namedN nm s = r1 at *
      clear HLS
      rcases e1 with rfl | rfl | rfl
      all_goals
        go_enter Try.func13, Try.ntmps13
        go_wp2_with fail
        refine HC1.out.mono ?_
        rintro e w2 ⟨rfl, hb2⟩
        have HB2 := Lib.hid (below_next HB1.out (Nat.le_refl _) hb2)
        have hk2 := HK1.out.next hb2
        have k0 := hk2.cell 0
        have k1 := hk2.cell 1
        have k2 := hk2.cell 2
        have k3 := hk2.cell 3
        clear hb2 HC1 hk2
        cases r1 with
        | false =>
          go_wp2
          go_ret
          exact ⟨rfl, HB2.out⟩
        | true =>
          go_wp2
          go_ret
          exact ⟨rfl, HB2.out⟩
    by_cases e1 : kd = 3
    · rw [e1, isN_3]
      have HC1 := Lib.hid (named_any kd nm s HS.out (.slice a n c) (w.alloc (.cells #[.int .u8 kd, .int .i64 nm, .string s, .slice a n c] 24)))
      generalize namedN nm s = r1 at *
      generalize hR : (isL ks == List.replicate 1 true) = R at *
      have HR := Lib.hid hR
      clear hR
      clear HLS
      subst e1
      all_goals
        go_enter Try.func13, Try.ntmps13
        go_wp2_with fail
        refine HC1.out.mono ?_
        rintro e w2 ⟨rfl, hb2⟩
        have HB2 := Lib.hid (below_next HB1.out (Nat.le_refl _) hb2)
        have hk2 := HK1.out.next hb2
        have k0 := hk2.cell 0
        have k1 := hk2.cell 1
        have k2 := hk2.cell 2
        have k3 := hk2.cell 3
        have hkk := HKID.out.below hb2 (Nat.le_refl _)
        clear hb2 HC1 hk2 HKID
        cases r1 with
        | false =>
          go_wp2
          go_ret
          exact ⟨rfl, HB2.out⟩
        | true =>
          have hb3 := below_alloc w2 (.cells #[.func (.func 13) #[] #[]] 29)
          have hk3 := Blk.new w2 29 #[.func (.func 13) #[] #[]]
          have HC2 := Lib.hid (fun kd : Int => kids_any kd nm s (.slice a n c) ks (w2.alloc (.cells #[.func (.func 13) #[] #[]] 29)) (hkk.below hb3 (Nat.le_refl _)) w2.heap.size 1 (by decide) (cells1 hk3) hk3.lt IH.out)
          simp only [HR.out] at HC2
          have HB3 := Lib.hid (below_next HB2.out (Nat.le_refl _) hb3)
          clear hb3 hk3 hkk HR
          go_wp2_with fail
          refine (HC2.out _).mono ?_
          rintro e w4 ⟨rfl, hb4⟩
          have HB4 := Lib.hid (below_next HB3.out (Nat.le_refl _) hb4)
          clear hb4 HC2
          go_wp2
          go_ret
          exact ⟨rfl, HB4.out⟩
    by_cases e1 : kd = 6 ∨ kd = 7
    · rw [isN_67 e1]
      have HC1 := Lib.hid (plain_any kd nm s (.slice a n c) (w.alloc (.cells #[.int .u8 kd, .int .i64 nm, .string s, .slice a n c] 24)))
      generalize plainN nm s = r1 at *
      generalize hR : (isL ks == List.replicate 1 true) = R at *
      have HR := Lib.hid hR
      clear hR
      clear HLS
      rcases e1 with rfl | rfl
      all_goals
        go_enter Try.func13, Try.ntmps13
        go_wp2_with fail
        refine HC1.out.mono ?_
        rintro e w2 ⟨rfl, hb2⟩
        have HB2 := Lib.hid (below_next HB1.out (Nat.le_refl _) hb2)
        have hk2 := HK1.out.next hb2
        have k0 := hk2.cell 0
        have k1 := hk2.cell 1
        have k2 := hk2.cell 2
        have k3 := hk2.cell 3
        have hkk := HKID.out.below hb2 (Nat.le_refl _)
        clear hb2 HC1 hk2 HKID
        cases r1 with
        | false =>
          go_wp2
          go_ret
          exact ⟨rfl, HB2.out⟩
        | true =>
          have hb3 := below_alloc w2 (.cells #[.func (.func 13) #[] #[]] 29)
          have hk3 := Blk.new w2 29 #[.func (.func 13) #[] #[]]
          have HC2 := Lib.hid (fun kd : Int => kids_any kd nm s (.slice a n c) ks (w2.alloc (.cells #[.func (.func 13) #[] #[]] 29)) (hkk.below hb3 (Nat.le_refl _)) w2.heap.size 1 (by decide) (cells1 hk3) hk3.lt IH.out)
          simp only [HR.out] at HC2
          have HB3 := Lib.hid (below_next HB2.out (Nat.le_refl _) hb3)
          clear hb3 hk3 hkk HR
          go_wp2_with fail
          refine (HC2.out _).mono ?_
          rintro e w4 ⟨rfl, hb4⟩
          have HB4 := Lib.hid (below_next HB3.out (Nat.le_refl _) hb4)
          clear hb4 HC2
          go_wp2
          go_ret
          exact ⟨rfl, HB4.out⟩
    have e1b : (kd == 1) = false := by simp; omega
    have e2b : (kd == 2) = false := by simp; omega
    have e3b : (kd == 3) = false := by simp; omega
    have e4b : (kd == 4) = false := by simp; omega
    have e5b : (kd == 5) = false := by simp; omega
    have e6b : (kd == 6) = false := by simp; omega
    have e7b : (kd == 7) = false := by simp; omega
    by_cases e1 : 8 ≤ kd ∧ kd ≤ 23
    · rw [isN_bin e1]
      have HC1 := Lib.hid (plain_any kd nm s (.slice a n c) (w.alloc (.cells #[.int .u8 kd, .int .i64 nm, .string s, .slice a n c] 24)))
      generalize plainN nm s = r1 at *
      generalize hR : (isL ks == List.replicate 2 true) = R at *
      have HR := Lib.hid hR
      clear hR
      clear HLS
      obtain ⟨e8, e9⟩ := e1
      all_goals
        go_enter Try.func13, Try.ntmps13
        go_wp2_with fail
        refine HC1.out.mono ?_
        rintro e w2 ⟨rfl, hb2⟩
        have HB2 := Lib.hid (below_next HB1.out (Nat.le_refl _) hb2)
        have hk2 := HK1.out.next hb2
        have k0 := hk2.cell 0
        have k1 := hk2.cell 1
        have k2 := hk2.cell 2
        have k3 := hk2.cell 3
        have hkk := HKID.out.below hb2 (Nat.le_refl _)
        clear hb2 HC1 hk2 HKID
        cases r1 with
        | false =>
          go_wp2
          go_ret
          exact ⟨rfl, HB2.out⟩
        | true =>
          have hb3 := below_alloc w2 (.cells #[.func (.func 13) #[] #[], .func (.func 13) #[] #[]] 29)
          have hk3 := Blk.new w2 29 #[.func (.func 13) #[] #[], .func (.func 13) #[] #[]]
          have HC2 := Lib.hid (fun kd : Int => kids_any kd nm s (.slice a n c) ks (w2.alloc (.cells #[.func (.func 13) #[] #[], .func (.func 13) #[] #[]] 29)) (hkk.below hb3 (Nat.le_refl _)) w2.heap.size 2 (by decide) (cells2 hk3) hk3.lt IH.out)
          simp only [HR.out] at HC2
          have HB3 := Lib.hid (below_next HB2.out (Nat.le_refl _) hb3)
          clear hb3 hk3 hkk HR
          go_wp2_with fail
          refine (HC2.out _).mono ?_
          rintro e w4 ⟨rfl, hb4⟩
          have HB4 := Lib.hid (below_next HB3.out (Nat.le_refl _) hb4)
          clear hb4 HC2
          go_wp2
          go_ret
          exact ⟨rfl, HB4.out⟩
    rw [isN_no (by omega)]
    clear HLS
    by_cases e8 : kd < 8
    · have e9 : ¬ 8 ≤ kd := by omega
      go_enter Try.func13, Try.ntmps13
      go_wp2_with fail
      go_ret
      exact ⟨rfl, HB1.out⟩
    · have e9 : 8 ≤ kd := by omega
      have e10 : 23 < kd := by omega
      go_enter Try.func13, Try.ntmps13
      go_wp2_with fail
      go_ret
      exact ⟨rfl, HB1.out⟩

def placeT : T → Bool
  | .mk k n s ks => (k == 2 || k == 3) && isT (.mk k n s ks)
end Go.Proofs.Ytlpmoklcdocmmaa
