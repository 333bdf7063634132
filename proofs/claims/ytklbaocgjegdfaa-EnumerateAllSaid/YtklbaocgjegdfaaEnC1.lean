/- Counting: product, times, power, upTo, listCount. -/
import Derived.Test.YtklbaocgjegdfaaEnQ3
import Derived.Test.YtklbaocgjegdfaaStN0
import Derived.Deep.Cut
namespace Go.Proofs.Ytklbaocgjegdfaa
open Go.RowKit

/-- counting stops above 2^40 -/
def sat (n : Nat) : Nat := min n 1099511627777
theorem sat_le (n : Nat) : sat n ≤ 1099511627777 := Nat.min_le_right _ _
theorem sat_mul (a b : Nat) : sat (sat a * b) = sat (a * b) := by
  by_cases h : a ≤ 1099511627777
  · rw [show sat a = a from Nat.min_eq_left h]
  · rw [show sat a = 1099511627777 from Nat.min_eq_right (by omega)]
    cases b with
    | zero => rfl
    | succ b =>
      have h1 : 1099511627777 * 1 ≤ 1099511627777 * (b + 1) := Nat.mul_le_mul_left _ (by omega)
      have h2 : 1099511627777 * (b + 1) ≤ a * (b + 1) := Nat.mul_le_mul_right _ (by omega)
      unfold sat
      omega
theorem sat_mul2 (a b : Nat) : sat (a * sat b) = sat (a * b) := by rw [Nat.mul_comm, sat_mul, Nat.mul_comm]
theorem sat_add (a b : Nat) : sat (sat a + sat b) = sat (a + b) := by unfold sat; omega
theorem sat_pos {n : Nat} (h : 1 ≤ n) : 1 ≤ sat n := by unfold sat; omega
theorem sat_div {x y : Nat} (hy : 1 ≤ y) : (1099511627776 / y < x ↔ 1099511627776 < x * y) := by
  rw [Nat.div_lt_iff_lt_mul (by omega)]
theorem sat_big {n : Nat} (h : 1099511627776 < n) : sat n = 1099511627777 := by unfold sat; omega
theorem sat_small {n : Nat} (h : ¬ 1099511627776 < n) : sat n = n := by unfold sat; omega

set_option maxHeartbeats 1000000 in
theorem product_any (x y : Nat) (hy : 1 ≤ y) (hy2 : y ≤ 1099511627777) (w : World) :
    Calls Try.prog 45 #[.int .i64 x, .int .i64 y] w fun e w' => e = .returned (.int .i64 (sat (x * y) : Nat)) ∧ w = w' := by
  have g0 : ((y : Int) == 0) = false := by simp; omega
  have g1 : (1099511627776 : Int).tdiv (y : Int) = ((1099511627776 / y : Nat) : Int) := by
    rw [Int.tdiv_eq_ediv_of_nonneg (by omega)]; rfl
  have g2 : 1099511627776 / y ≤ 1099511627776 := Nat.div_le_self _ _
  have hd := sat_div (x := x) hy
  obtain ⟨q, hq⟩ : ∃ q, 1099511627776 / y = q := ⟨_, rfl⟩
  rw [hq] at g1 g2 hd
  have f1 : IntKind.i64.wrap ((1099511627776 : Int).tdiv (y : Int)) = (1099511627776 : Int).tdiv (y : Int) := IntWalk.i64_in _ (by omega)
  have f2 : wrap64 ((1099511627776 : Int).tdiv (y : Int)) = (1099511627776 : Int).tdiv (y : Int) := by unfold wrap64; omega
  have hy0 : 0 < (y : Int) := by omega
  have hyn : ¬ (y : Int) = 0 := by omega
  have g4 : (1099511627776 : Int) / (y : Int) = (q : Int) := by rw [← hq]; rfl
  have f3 : wrap64 ((1099511627776 : Int) / (y : Int)) = (1099511627776 : Int) / (y : Int) := by rw [g4]; unfold wrap64; omega
  by_cases h : q < x
  · have h' := hd.1 h
    rw [sat_big h']
    have c1 : (q : Int) < (x : Int) := by omega
    have c2 : (1099511627776 : Int) / (y : Int) < (x : Int) := by rw [g4]; exact c1
    have c3 : (1099511627776 : Int).tdiv (y : Int) < (x : Int) := by rw [g1]; exact c1
    clear h h' hd hq g4 g1
    go_enter Try.func45, Try.ntmps45
    go_wp2
    go_ret
    exact ⟨rfl, rfl⟩
  · have h' : ¬ 1099511627776 < x * y := fun hh => h (hd.2 hh)
    rw [sat_small h']
    have c1 : ¬ (q : Int) < (x : Int) := by omega
    have c2 : ¬ (1099511627776 : Int) / (y : Int) < (x : Int) := by rw [g4]; exact c1
    have c3 : ¬ (1099511627776 : Int).tdiv (y : Int) < (x : Int) := by rw [g1]; exact c1
    have e : ((x * y : Nat) : Int) = (x : Int) * (y : Int) := by simp
    have f4 : IntKind.i64.wrap ((x : Int) * (y : Int)) = (x : Int) * (y : Int) := by rw [← e]; exact IntWalk.i64_in _ (by omega)
    have f5 : wrap64 ((x : Int) * (y : Int)) = (x : Int) * (y : Int) := by rw [← e]; unfold wrap64; omega
    rw [e]
    clear h h' hd hq g4 g1 e
    go_enter Try.func45, Try.ntmps45
    go_wp2
    go_ret
    exact ⟨rfl, rfl⟩

set_option maxHeartbeats 1000000 in
theorem times_any (x y : Nat) (w : World) :
    Calls Try.prog 48 #[.int .i64 x, .int .i64 y] w fun e w' => e = .returned (.int .i64 (sat (x * y) : Nat)) ∧ w = w' := by
  by_cases hx : x = 0
  · subst hx
    rw [Nat.zero_mul]
    have f : ((sat 0 : Nat) : Int) = 0 := rfl
    have e0 : ((0 : Nat) : Int) = 0 := rfl
    have f5 : wrap64 ((0 : Int) * (y : Int)) = 0 := by rw [Int.zero_mul]; unfold wrap64; omega
    rw [f, e0]
    clear f e0
    go_enter Try.func48, Try.ntmps48
    go_wp2
    go_ret
    exact ⟨by simp, rfl⟩
  have hx1 : 1 ≤ x := by omega
  have g0 : ((x : Int) != 0) = true := by simp; omega
  have g00 : ((x : Int) == 0) = false := by simp; omega
  have g1 : (1099511627776 : Int).tdiv (x : Int) = ((1099511627776 / x : Nat) : Int) := by
    rw [Int.tdiv_eq_ediv_of_nonneg (by omega)]; rfl
  have g2 : 1099511627776 / x ≤ 1099511627776 := Nat.div_le_self _ _
  have hd := sat_div (x := y) hx1
  rw [Nat.mul_comm] at hd
  obtain ⟨q, hq⟩ : ∃ q, 1099511627776 / x = q := ⟨_, rfl⟩
  rw [hq] at g1 g2 hd
  have f1 : IntKind.i64.wrap ((1099511627776 : Int).tdiv (x : Int)) = (1099511627776 : Int).tdiv (x : Int) := IntWalk.i64_in _ (by omega)
  have f2 : wrap64 ((1099511627776 : Int).tdiv (x : Int)) = (1099511627776 : Int).tdiv (x : Int) := by unfold wrap64; omega
  have hy0 : 0 < (x : Int) := by omega
  have hyn : ¬ (x : Int) = 0 := by omega
  have g4 : (1099511627776 : Int) / (x : Int) = (q : Int) := by rw [← hq]; rfl
  have f3 : wrap64 ((1099511627776 : Int) / (x : Int)) = (1099511627776 : Int) / (x : Int) := by rw [g4]; unfold wrap64; omega
  by_cases h : q < y
  · have h' := hd.1 h
    rw [sat_big h']
    have c1 : (q : Int) < (y : Int) := by omega
    have c2 : (1099511627776 : Int) / (x : Int) < (y : Int) := by rw [g4]; exact c1
    have c3 : (1099511627776 : Int).tdiv (x : Int) < (y : Int) := by rw [g1]; exact c1
    clear h h' hd hq g4 g1
    go_enter Try.func48, Try.ntmps48
    go_wp2
    go_ret
    exact ⟨rfl, rfl⟩
  · have h' : ¬ 1099511627776 < x * y := fun hh => h (hd.2 hh)
    rw [sat_small h']
    have c1 : ¬ (q : Int) < (y : Int) := by omega
    have c2 : ¬ (1099511627776 : Int) / (x : Int) < (y : Int) := by rw [g4]; exact c1
    have c3 : ¬ (1099511627776 : Int).tdiv (x : Int) < (y : Int) := by rw [g1]; exact c1
    have e : ((x * y : Nat) : Int) = (x : Int) * (y : Int) := by simp
    have f4 : IntKind.i64.wrap ((x : Int) * (y : Int)) = (x : Int) * (y : Int) := by rw [← e]; exact IntWalk.i64_in _ (by omega)
    have f5 : wrap64 ((x : Int) * (y : Int)) = (x : Int) * (y : Int) := by rw [← e]; unfold wrap64; omega
    rw [e]
    clear h h' hd hq g4 g1 e
    go_enter Try.func48, Try.ntmps48
    go_wp2
    go_ret
    exact ⟨rfl, rfl⟩

set_option maxRecDepth 100000 in
set_option maxHeartbeats 1000000 in
theorem power_any (b n : Nat) (hn : n ≤ 1000000) (w : World) :
    Calls Try.prog 49 #[.int .i64 b, .int .i64 n] w fun e w' => e = .returned (.int .i64 (sat (b ^ n) : Nat)) ∧ w = w' := by
  have hT : Hid (∀ k w, Calls Try.prog 48 #[.int .i64 (sat (b ^ k) : Nat), .int .i64 b] w fun e w' => e = .returned (.int .i64 (sat (b ^ (k + 1)) : Nat)) ∧ w = w') := fun k w => by
    have := times_any (sat (b ^ k)) b w
    rwa [sat_mul, ← Nat.pow_succ] at this
  obtain ⟨P, hP⟩ : ∃ P : Nat → Nat, P = fun k => sat (b ^ k) := ⟨_, rfl⟩
  have HT : Hid (∀ k w, Calls Try.prog 48 #[.int .i64 (P k : Nat), .int .i64 b] w fun e w' => e = .returned (.int .i64 (P (k + 1) : Nat)) ∧ w = w') := by rw [hP]; exact hT.out
  have H0 : Hid (P 0 = 1) := by rw [hP]; rfl
  have e : sat (b ^ n) = P n := by rw [hP]
  rw [e]
  clear hT hP e
  have hn' : (n : Int) ≤ 1000000 := by omega
  go_enter Try.func49, Try.ntmps49
  go_wp2
  go_loopg [5, 6] n (fun q s i wr => ∃ k : Nat, k + q = n ∧ i = .int .i64 k ∧ s = .int .i64 (P k) ∧ w = wr)
  case atStart => exact ⟨0, by omega, rfl, by rw [H0.out]; rfl, rfl⟩
  case round =>
    obtain ⟨k, hk, rfl, rfl, rfl⟩ := hrel
    have Hk := Lib.hid hk
    have hkn : k ≤ n := by omega
    clear hk
    by_cases hlt : k < n
    · have hlt' : (k : Int) < (n : Int) := by omega
      have u1 : IntKind.i64.wrap ((k : Int) + 1) = (k : Int) + 1 := IntWalk.i64_in _ (by omega)
      go_wp2_with fail
      refine (HT.out k w).mono ?_
      rintro e w' ⟨rfl, rfl⟩
      go_wp2
      have hk := Hk.out
      go_roundg (n - (k + 1))
      case measure => omega
      case rel => exact ⟨k + 1, by omega, by go_num, rfl, rfl⟩
    · have hge : ¬ (k : Int) < (n : Int) := by omega
      have hke : k = n := by omega
      subst hke
      go_wp2
      go_ret
      exact ⟨rfl, rfl⟩

/-- the sum of the first powers -/
def powS (b lo k : Nat) : Nat := ((List.range k).map fun i => b ^ (lo + i)).sum
theorem powS_succ (b lo k : Nat) : powS b lo (k + 1) = powS b lo k + b ^ (lo + k) := by
  unfold powS
  rw [List.range_succ, List.map_append, List.sum_append]
  simp
theorem powS_mono (b lo : Nat) {j k : Nat} (h : j ≤ k) : powS b lo j ≤ powS b lo k := by
  induction k with
  | zero => rw [Nat.le_zero.1 h]; exact Nat.le_refl _
  | succ k ih =>
    rcases Nat.lt_or_ge k j with hj | hj
    · rw [show j = k + 1 by omega]; exact Nat.le_refl _
    · rw [powS_succ]
      have := ih hj
      omega

set_option maxRecDepth 100000 in
set_option maxHeartbeats 1000000 in
theorem upTo_any (b n : Nat) (hn : n ≤ 1000) (w : World) :
    Calls Try.prog 47 #[.int .i64 b, .int .i64 n] w fun e w' => e = .returned (.int .i64 (sat (powS b 0 (n + 1)) : Nat)) ∧ w = w' := by
  obtain ⟨S, hS⟩ : ∃ S : Nat → Nat, S = fun k => powS b 0 k := ⟨_, rfl⟩
  have HP : Hid (∀ k w, k ≤ n → Calls Try.prog 49 #[.int .i64 b, .int .i64 k] w fun e w' => e = .returned (.int .i64 (sat (b ^ k) : Nat)) ∧ w = w') := fun k w hk => power_any b k (by omega) w
  have HS : Hid (∀ k, S (k + 1) = S k + b ^ k) := fun k => by rw [hS]; simp only [powS_succ, Nat.zero_add]
  have HM : Hid (∀ k, k ≤ n + 1 → S k ≤ S (n + 1)) := fun k hk => by rw [hS]; exact powS_mono b 0 hk
  have H0 : Hid (S 0 = 0) := by rw [hS]; rfl
  have e : powS b 0 (n + 1) = S (n + 1) := by rw [hS]
  rw [e]
  clear hS e
  have hn' : (n : Int) ≤ 1000 := by omega
  go_enter Try.func47, Try.ntmps47
  go_wp2
  go_loopg [5, 6] (n + 1) (fun q s i wr => ∃ k : Nat, k + q = n + 1 ∧ i = .int .i64 k ∧ s = .int .i64 (S k) ∧ S k ≤ 1099511627776 ∧ w = wr)
  case atStart => exact ⟨0, by omega, rfl, by rw [H0.out]; rfl, by rw [H0.out]; omega, rfl⟩
  case round =>
    obtain ⟨k, hk, rfl, rfl, hsk, rfl⟩ := hrel
    have Hk := Lib.hid hk
    have hkn : k ≤ n + 1 := by omega
    clear hk
    by_cases hlt : k ≤ n
    · have hlt' : (k : Int) ≤ (n : Int) := by omega
      have u1 : IntKind.i64.wrap ((k : Int) + 1) = (k : Int) + 1 := IntWalk.i64_in _ (by omega)
      have hsl := sat_le (b ^ k)
      have HSK := Lib.hid (HS.out k)
      have HPK := Lib.hid (HP.out k w hlt)
      obtain ⟨p, hp⟩ : ∃ p, sat (b ^ k) = p := ⟨_, rfl⟩
      obtain ⟨sk, hs⟩ : ∃ sk, S k = sk := ⟨_, rfl⟩
      have HPP := Lib.hid hp
      rw [hp] at HPK hsl
      rw [hs] at HSK hsk ⊢
      have u2 : IntKind.i64.wrap ((sk : Int) + (p : Int)) = (sk : Int) + (p : Int) := IntWalk.i64_in _ (by omega)
      clear hp hs
      by_cases hbig : 1099511627776 < sk + p
      · have hbig' : (1099511627776 : Int) < (sk : Int) + (p : Int) := by omega
        have hres : Hid (sat (S (n + 1)) = 1099511627777) := by
          have h1 := HM.out (k + 1) (by omega)
          have h2 := HSK.out
          have h3 := HPP.out
          unfold Hid
          apply sat_big
          unfold sat at h3
          omega
        clear hbig
        go_wp2_with fail
        refine HPK.out.mono ?_
        rintro e w' ⟨rfl, rfl⟩
        go_wp2
        go_ret
        rw [hres.out]
        exact ⟨rfl, rfl⟩
      · have hbig' : ¬ (1099511627776 : Int) < (sk : Int) + (p : Int) := by omega
        have hval : Hid (S (k + 1) = sk + p) := by
          have h2 := HSK.out
          have h3 := HPP.out
          unfold Hid
          unfold sat at h3
          omega
        have hsmall : sk + p ≤ 1099511627776 := by omega
        clear hbig
        go_wp2_with fail
        refine HPK.out.mono ?_
        rintro e w' ⟨rfl, rfl⟩
        go_wp2
        have hk := Hk.out
        go_roundg (n + 1 - (k + 1))
        case measure => omega
        case rel => exact ⟨k + 1, by omega, by go_num, by rw [hval.out]; simp, by rw [hval.out]; exact hsmall, rfl⟩
    · have hge : ¬ (k : Int) ≤ (n : Int) := by omega
      have hke : k = n + 1 := by omega
      have hres : Hid (sat (S (n + 1)) = S k) := by
        unfold Hid
        rw [← hke]
        exact sat_small (by omega)
      subst hke
      go_wp2
      go_ret
      exact ⟨by rw [hres.out]; rfl, rfl⟩

set_option maxRecDepth 100000 in
set_option maxHeartbeats 1000000 in
theorem listCount_any (lo hi b : Nat) (hl : lo ≤ 1000) (hh : hi ≤ 1000) (hb : 1 ≤ b) (hb2 : b ≤ 2001) (w : World) :
    Calls Try.prog 46 #[.agg #[.int .i64 lo, .int .i64 hi], .int .i64 b] w fun e w' => e = .returned (.int .i64 (sat (powS b lo (hi + 1 - lo)) : Nat)) ∧ Below w.heap.size w w' := by
  obtain ⟨W, hW⟩ : ∃ W, W = w.alloc (.cells #[.int .i64 lo, .int .i64 hi] 62) := ⟨_, rfl⟩
  have hB0 : Below w.heap.size w W := by rw [hW]; exact below_alloc _ _
  have hBK : Blk W w.heap.size 62 #[.int .i64 lo, .int .i64 hi] := by rw [hW]; exact Blk.new _ _ _
  have y0 := hBK.cell 0
  have y1 := hBK.cell 1
  simp only [List.getElem?_toArray, List.getElem?_cons_zero, List.getElem?_cons_succ] at y0 y1
  have HW := Lib.hid hW
  have HB0 := Lib.hid hB0
  obtain ⟨S, hS⟩ : ∃ S : Nat → Nat, S = fun k => sat (powS b lo (k - lo)) := ⟨_, rfl⟩
  obtain ⟨P, hP⟩ : ∃ P : Nat → Nat, P = fun k => sat (b ^ k) := ⟨_, rfl⟩
  have HPC : Hid (∀ k w, Calls Try.prog 45 #[.int .i64 (P k : Nat), .int .i64 b] w fun e w' => e = .returned (.int .i64 (P (k + 1) : Nat)) ∧ w = w') := fun k w => by
    have := product_any (sat (b ^ k)) b hb (by omega) w
    rw [hP]
    rwa [sat_mul, ← Nat.pow_succ] at this
  have HS1 : Hid (∀ k, lo ≤ k → S (k + 1) = min (S k + P k) 1099511627777) := fun k hk => by
    rw [hS, hP]
    simp only
    rw [show k + 1 - lo = (k - lo) + 1 by omega, powS_succ, show lo + (k - lo) = k by omega]
    unfold sat
    omega
  have HS2 : Hid (∀ k, k < lo → S (k + 1) = S k) := fun k hk => by
    rw [hS]
    simp only
    rw [show k + 1 - lo = 0 by omega, show k - lo = 0 by omega]
  have HSL : Hid (∀ k, S k ≤ 1099511627777) := fun k => by rw [hS]; exact sat_le _
  have HPL : Hid (∀ k, P k ≤ 1099511627777) := fun k => by rw [hP]; exact sat_le _
  have H0 : Hid (S 0 = 0) := by
    unfold Hid
    rw [hS]
    simp only
    rw [show 0 - lo = 0 by omega]
    rfl
  have H1 : Hid (P 0 = 1) := by rw [hP]; rfl
  have e : sat (powS b lo (hi + 1 - lo)) = S (hi + 1) := by rw [hS]
  rw [e]
  clear hS hP e hW hB0 hBK
  have hn' : (hi : Int) ≤ 1000 := by omega
  have hl' : (lo : Int) ≤ 1000 := by omega
  have u0 : IntKind.i64.wrap ((hi : Int) + 1) = (hi : Int) + 1 := IntWalk.i64_in _ (by omega)
  go_enter Try.func46, Try.ntmps46
  go_upto_region 2 with (fail)
  rw [← HW.out]
  go_wp2
  go_loopg [5, 6, 11] (hi + 1) (fun q s p i wr => ∃ k : Nat, k + q = hi + 1 ∧ i = .int .i64 k ∧ s = .int .i64 (S k) ∧ p = .int .i64 (P k) ∧ W = wr)
  case atStart => exact ⟨0, by omega, rfl, by rw [H0.out]; rfl, by rw [H1.out]; rfl, rfl⟩
  case round =>
    obtain ⟨k, hk, rfl, rfl, rfl, rfl⟩ := hrel
    have Hk := Lib.hid hk
    have hkn : k ≤ hi + 1 := by omega
    clear hk
    by_cases hlt : k ≤ hi
    · have hlt' : (k : Int) < (hi : Int) + 1 := by omega
      have u1 : IntKind.i64.wrap ((k : Int) + 1) = (k : Int) + 1 := IntWalk.i64_in _ (by omega)
      have hsl := HSL.out k
      have hpl := HPL.out k
      have HPK := Lib.hid (HPC.out k W)
      by_cases hlo : lo ≤ k
      · have hlo' : (lo : Int) ≤ (k : Int) := by omega
        have HSK := Lib.hid (HS1.out k hlo)
        obtain ⟨p, hp⟩ : ∃ p, P k = p := ⟨_, rfl⟩
        obtain ⟨sk, hs⟩ : ∃ sk, S k = sk := ⟨_, rfl⟩
        rw [hp] at HPK hpl HSK ⊢
        rw [hs] at HSK hsl ⊢
        have u2 : IntKind.i64.wrap ((sk : Int) + (p : Int)) = (sk : Int) + (p : Int) := IntWalk.i64_in _ (by omega)
        clear hp hs
        go_wp2_with fail
        refine HPK.out.mono ?_
        rintro e w' ⟨rfl, rfl⟩
        go_wp2
        have hk := Hk.out
        go_roundg (hi + 1 - (k + 1))
        case measure => omega
        case rel => exact ⟨k + 1, by omega, by go_num, by rw [HSK.out]; congr 1; omega, rfl, rfl⟩
      · have hlo' : ¬ (lo : Int) ≤ (k : Int) := by omega
        have HSK := Lib.hid (HS2.out k (by omega))
        clear hsl hpl
        go_wp2_with fail
        refine HPK.out.mono ?_
        rintro e w' ⟨rfl, rfl⟩
        go_wp2
        have hk := Hk.out
        go_roundg (hi + 1 - (k + 1))
        case measure => omega
        case rel => exact ⟨k + 1, by omega, by go_num, by rw [HSK.out], rfl, rfl⟩
    · have hge : ¬ (k : Int) < (hi : Int) + 1 := by omega
      have hke : k = hi + 1 := by omega
      subst hke
      go_wp2
      go_ret
      exact ⟨rfl, HB0.out⟩
end Go.Proofs.Ytklbaocgjegdfaa
