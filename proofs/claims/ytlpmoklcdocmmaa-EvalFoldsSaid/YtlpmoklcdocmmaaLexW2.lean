/- Walks of sign and first. -/
import Derived.Test.YtlpmoklcdocmmaaLexPlain4
import Derived.Test.YtlpmoklcdocmmaaLexW1
namespace Go.Proofs.Ytlpmoklcdocmmaa
open Go.RowKit

theorem indexByte_contains (l : List UInt8) (c : UInt8) : (0 ≤ Lib.indexByte l c) ↔ l.contains c = true := by
  induction l with
  | nil => simp [Lib.indexByte]
  | cons b l ih =>
    have h1 := Lib.indexByte_ge l c
    unfold Lib.indexByte
    by_cases hb : (b == c) = true
    · rw [if_pos hb]
      simp only [beq_iff_eq] at hb
      subst hb
      simp
    · rw [if_neg hb]
      have hb' : (c == b) = false := by
        simp only [beq_iff_eq] at hb
        simp only [beq_eq_false_iff_ne, ne_eq]
        exact fun e => hb e.symm
      rw [List.contains_cons, hb', Bool.false_or, ← ih]
      by_cases h2 : (Lib.indexByte l c == -1) = true
      · rw [if_pos h2]
        simp only [beq_iff_eq] at h2
        omega
      · rw [if_neg h2]
        simp only [beq_iff_eq] at h2
        omega

theorem extract_min (s : ByteArray) : (s.extract 0 (min (2 : Int) (s.size : Int)).toNat).toList = s.data.toList.take 2 := by
  rw [Lib.toList_data, Lib.extract_data, List.drop_zero, Nat.sub_zero]
  have hl : s.data.toList.length = s.size := by simp
  by_cases h : 2 ≤ s.size
  · rw [show (min (2 : Int) (s.size : Int)).toNat = 2 from by omega]
  · rw [show (min (2 : Int) (s.size : Int)).toNat = s.size from by omega, List.take_of_length_le (by omega), List.take_of_length_le (by omega)]

theorem prefix3 (l : List UInt8) : (Lib.hasPrefix l [60, 61, 62] = true) = (l.take 3 = [60, 61, 62]) := by
  unfold Lib.hasPrefix
  match l with
  | [] => simp
  | [a] => simp
  | [a, b] => simp
  | a :: b :: c :: r =>
    simp only [List.take_succ_cons, List.take_zero, List.isPrefixOf, Bool.and_eq_true, beq_iff_eq, List.cons.injEq, and_true, eq_iff_iff]
    constructor
    · rintro ⟨rfl, rfl, rfl⟩; exact ⟨rfl, rfl, rfl⟩
    · rintro ⟨rfl, rfl, rfl⟩; exact ⟨rfl, rfl, rfl⟩

theorem headD_at (l : List UInt8) (h : 0 < l.length) : l.headD 0 = l[0] := by
  cases l with
  | nil => simp at h
  | cons a r => rfl
theorem head_at (s : ByteArray) (h0 : 0 < s.size) : s.data.toList.headD 0 = s[0] :=
  headD_at s.data.toList (by simpa using h0)

theorem sign2_cases {T : List UInt8} (h : sign2.contains T = true) : T = [58, 61] ∨ T = [43, 61] ∨ T = [45, 61] ∨ T = [94, 61] ∨ T = [61, 61] ∨ T = [33, 61] ∨ T = [60, 61] ∨ T = [62, 61] ∨ T = [38, 38] ∨ T = [124, 124] := by
  simpa [sign2] using h

set_option maxHeartbeats 1000000 in
theorem sign_any (s : ByteArray) (hs : s.size ≤ maxLen) (h0 : 0 < s.size) (w : World) :
    Calls Try.prog 62 #[.string s] w fun e w' => e = .returned (.int .i64 (signN s.data.toList)) ∧ w = w' := by
  unfold maxLen at hs
  have hg : signN s.data.toList = if Lib.hasPrefix s.data.toList [60, 61, 62] = true then 3 else if sign2.contains (s.data.toList.take 2) = true then 2 else if sign1.contains s[0] = true then 1 else 0 := by
    unfold signN
    rw [head_at s h0]
    simp only [prefix3]
  generalize hp : Lib.hasPrefix s.data.toList [60, 61, 62] = b1 at hg
  generalize signN s.data.toList = sg at *
  have hT := extract_min s
  generalize s.data.toList.take 2 = T at *
  have HP := Lib.hid hp
  have HG := Lib.hid hg
  clear hp hg
  cases b1
  case true =>
    clear hT
    go_enter Try.func62, Try.ntmps62
    go_wp2_with (go_at_call 63; refine (Try.strings_HasPrefix _ _ _).mono ?_; rw [HP.out]; rintro e w' ⟨rfl, rfl⟩)
    go_ret
    exact ⟨ret_int (by rw [HG.out]; rfl), rfl⟩
  case false =>
    by_cases h2 : sign2.contains T = true
    · have hg := HG.out
      rw [if_neg (by decide), if_pos h2] at hg
      subst hg
      clear HG
      rcases sign2_cases h2 with rfl | rfl | rfl | rfl | rfl | rfl | rfl | rfl | rfl | rfl
      all_goals
        clear h2
        go_enter Try.func62, Try.ntmps62
        go_wp2_with (go_at_call 63; refine (Try.strings_HasPrefix _ _ _).mono ?_; rw [HP.out]; rintro e w' ⟨rfl, rfl⟩)
        go_ret
        exact ⟨rfl, rfl⟩
    · have hg := HG.out
      rw [if_neg (by decide), if_neg h2] at hg
      have hn : ∀ x ∈ sign2, (T == x) = false := by
        intro x hx
        simp only [beq_eq_false_iff_ne, ne_eq]
        rintro rfl
        exact h2 (by simpa using hx)
      have n1 := hn [58, 61] (by decide)
      have n2 := hn [43, 61] (by decide)
      have n3 := hn [45, 61] (by decide)
      have n4 := hn [94, 61] (by decide)
      have n5 := hn [61, 61] (by decide)
      have n6 := hn [33, 61] (by decide)
      have n7 := hn [60, 61] (by decide)
      have n8 := hn [62, 61] (by decide)
      have n9 := hn [38, 38] (by decide)
      have n10 := hn [124, 124] (by decide)
      have hic := indexByte_contains sign1 s[0]
      clear hn h2 HG
      have HG := Lib.hid hg
      clear hg
      by_cases h3 : sign1.contains s[0] = true
      · have h4 : 0 ≤ Lib.indexByte [43, 45, 42, 47, 37, 38, 124, 94, 33, 61, 60, 62, 40, 41, 123, 125, 91, 93, 59, 44] s[0] := hic.2 h3
        have H3 := Lib.hid h3
        clear hic h3
        go_enter Try.func62, Try.ntmps62
        go_wp2_with (first
          | (go_at_call 63; refine (Try.strings_HasPrefix _ _ _).mono ?_; rw [HP.out]; rintro e w' ⟨rfl, rfl⟩)
          | (go_at_call 64; refine (Try.strings_IndexByte _ _ _).mono ?_; rintro e w' ⟨rfl, rfl⟩))
        go_ret
        exact ⟨ret_int (by rw [HG.out, if_pos H3.out]; rfl), rfl⟩
      · have h4 : ¬ 0 ≤ Lib.indexByte [43, 45, 42, 47, 37, 38, 124, 94, 33, 61, 60, 62, 40, 41, 123, 125, 91, 93, 59, 44] s[0] := fun h => h3 (hic.1 h)
        have H3 := Lib.hid h3
        clear hic h3
        go_enter Try.func62, Try.ntmps62
        go_wp2_with (first
          | (go_at_call 63; refine (Try.strings_HasPrefix _ _ _).mono ?_; rw [HP.out]; rintro e w' ⟨rfl, rfl⟩)
          | (go_at_call 64; refine (Try.strings_IndexByte _ _ _).mono ?_; rintro e w' ⟨rfl, rfl⟩))
        go_ret
        exact ⟨ret_int (by rw [HG.out, if_neg H3.out]; rfl), rfl⟩

theorem ret_ki {k1 k2 : IntKind} {a b c d : Int} (h : a = b) (h' : c = d) : Ending.returned (.tuple #[.int k1 a, .int k2 c]) = .returned (.tuple #[.int k1 b, .int k2 d]) := by rw [h, h']

set_option maxHeartbeats 1000000 in
theorem first_any (s : ByteArray) (hs : s.size ≤ maxLen) (h0 : 0 < s.size) (w : World) :
    Calls Try.prog 52 #[.string s] w fun e w' => e = .returned (.tuple #[.int .u8 (step s.data.toList).1, .int .i64 (step s.data.toList).2]) ∧ w = w' := by
  have HS := Lib.hid hs
  unfold maxLen at hs
  have hg : step s.data.toList = if letterB s[0] = true then (1, spanN wordB s.data.toList) else if digitB s[0] = true then (2, spanN digitB s.data.toList) else if blankB s[0] = true then (4, spanN blankB s.data.toList)
      else if (s[0] == 35) = true then (5, spanN lineB s.data.toList) else (3, signN s.data.toList) := by
    unfold step
    dsimp only
    rw [head_at s h0]
  have e4 : (((s[0]).toNat : Int) == 35) = (s[0] == 35) := beq_u8 s[0] 35
  generalize step s.data.toList = st at *
  generalize hc0 : letterB s[0] = c0 at *
  generalize hc1 : digitB s[0] = c1 at *
  generalize hc2 : blankB s[0] = c2 at *
  generalize hc3 : (s[0] == 35) = c3 at *
  have E0 := Lib.hid hc0
  have E1 := Lib.hid hc1
  have E2 := Lib.hid hc2
  have HG := Lib.hid hg
  clear hc0 hc1 hc2 hc3 hg
  cases c0
  case true =>
    go_enter Try.func52, Try.ntmps52
    go_wp2_with (first
      | (go_at_call 56; refine (letter_any _ _).mono ?_; rw [E0.out]; rintro e w' ⟨rfl, rfl⟩)
      | (go_at_call 59; refine (digit_any _ _).mono ?_; rw [E1.out]; rintro e w' ⟨rfl, rfl⟩)
      | (go_at_call 60; refine (blank_any _ _).mono ?_; rw [E2.out]; rintro e w' ⟨rfl, rfl⟩)
      | (go_at_call 57; refine (span_any wordB _ cf_word word_any _ HS.out _).mono ?_; rintro e w' ⟨rfl, rfl⟩)
      | (go_at_call 62; refine (sign_any _ HS.out h0 _).mono ?_; rintro e w' ⟨rfl, rfl⟩))
    go_ret2
    exact ⟨by rw [HG.out]; rfl, rfl⟩
  case false =>
  cases c1
  case true =>
    go_enter Try.func52, Try.ntmps52
    go_wp2_with (first
      | (go_at_call 56; refine (letter_any _ _).mono ?_; rw [E0.out]; rintro e w' ⟨rfl, rfl⟩)
      | (go_at_call 59; refine (digit_any _ _).mono ?_; rw [E1.out]; rintro e w' ⟨rfl, rfl⟩)
      | (go_at_call 60; refine (blank_any _ _).mono ?_; rw [E2.out]; rintro e w' ⟨rfl, rfl⟩)
      | (go_at_call 57; refine (span_any digitB _ cf_digit digit_any _ HS.out _).mono ?_; rintro e w' ⟨rfl, rfl⟩)
      | (go_at_call 62; refine (sign_any _ HS.out h0 _).mono ?_; rintro e w' ⟨rfl, rfl⟩))
    go_ret2
    exact ⟨by rw [HG.out]; rfl, rfl⟩
  case false =>
  cases c2
  case true =>
    go_enter Try.func52, Try.ntmps52
    go_wp2_with (first
      | (go_at_call 56; refine (letter_any _ _).mono ?_; rw [E0.out]; rintro e w' ⟨rfl, rfl⟩)
      | (go_at_call 59; refine (digit_any _ _).mono ?_; rw [E1.out]; rintro e w' ⟨rfl, rfl⟩)
      | (go_at_call 60; refine (blank_any _ _).mono ?_; rw [E2.out]; rintro e w' ⟨rfl, rfl⟩)
      | (go_at_call 57; refine (span_any blankB _ cf_blank blank_any _ HS.out _).mono ?_; rintro e w' ⟨rfl, rfl⟩)
      | (go_at_call 62; refine (sign_any _ HS.out h0 _).mono ?_; rintro e w' ⟨rfl, rfl⟩))
    go_ret2
    exact ⟨by rw [HG.out]; rfl, rfl⟩
  case false =>
  cases c3
  case true =>
    go_enter Try.func52, Try.ntmps52
    go_wp2_with (first
      | (go_at_call 56; refine (letter_any _ _).mono ?_; rw [E0.out]; rintro e w' ⟨rfl, rfl⟩)
      | (go_at_call 59; refine (digit_any _ _).mono ?_; rw [E1.out]; rintro e w' ⟨rfl, rfl⟩)
      | (go_at_call 60; refine (blank_any _ _).mono ?_; rw [E2.out]; rintro e w' ⟨rfl, rfl⟩)
      | (go_at_call 57; refine (span_any lineB _ cf_line line_any _ HS.out _).mono ?_; rintro e w' ⟨rfl, rfl⟩)
      | (go_at_call 62; refine (sign_any _ HS.out h0 _).mono ?_; rintro e w' ⟨rfl, rfl⟩))
    go_ret2
    exact ⟨by rw [HG.out]; rfl, rfl⟩
  case false =>
    go_enter Try.func52, Try.ntmps52
    go_wp2_with (first
      | (go_at_call 56; refine (letter_any _ _).mono ?_; rw [E0.out]; rintro e w' ⟨rfl, rfl⟩)
      | (go_at_call 59; refine (digit_any _ _).mono ?_; rw [E1.out]; rintro e w' ⟨rfl, rfl⟩)
      | (go_at_call 60; refine (blank_any _ _).mono ?_; rw [E2.out]; rintro e w' ⟨rfl, rfl⟩)
      | (go_at_call 57; refine (span_any lineB _ cf_line line_any _ HS.out _).mono ?_; rintro e w' ⟨rfl, rfl⟩)
      | (go_at_call 62; refine (sign_any _ HS.out h0 _).mono ?_; rintro e w' ⟨rfl, rfl⟩))
    go_ret2
    exact ⟨by rw [HG.out]; rfl, rfl⟩

end Go.Proofs.Ytlpmoklcdocmmaa
