/- The reference's longest match is the lexer's token; names and keywords. No program in sight. -/
import Derived.Test.YtlpmoklcdocmmaaLexPlain3
namespace Go.Proofs.Ytlpmoklcdocmmaa

theorem sign_head {l : List UInt8} (h : signsR.contains l = true) :
    letterB (l.headD 0) = false ∧ digitB (l.headD 0) = false ∧ blankB (l.headD 0) = false ∧ (l.headD 0 == 35) = false := by
  have key : signsR.all (fun s => !letterB (s.headD 0) && !digitB (s.headD 0) && !blankB (s.headD 0) && !(s.headD 0 == 35)) = true := by decide
  have hm : l ∈ signsR := by simpa using h
  have := List.all_eq_true.1 key l hm
  simp only [Bool.and_eq_true, Bool.not_eq_true'] at this
  exact ⟨this.1.1.1, this.1.1.2, this.1.2, this.2⟩

theorem letter_not {c : UInt8} (h : letterB c = true) : digitB c = false ∧ blankB c = false ∧ (c == 35) = false := by
  unfold letterB at h; unfold digitB blankB
  simp only [Bool.and_eq_true, decide_eq_true_eq] at h
  refine ⟨?_, ?_, ?_⟩
  · simp; omega
  · simp only [Bool.or_eq_false_iff, beq_eq_false_iff_ne, ne_eq]
    refine ⟨⟨⟨?_, ?_⟩, ?_⟩, ?_⟩ <;> (rintro rfl; revert h; decide)
  · simp only [beq_eq_false_iff_ne, ne_eq]; rintro rfl; revert h; decide
theorem digit_not {c : UInt8} (h : digitB c = true) : blankB c = false ∧ (c == 35) = false := by
  unfold digitB at h; unfold blankB
  simp only [Bool.and_eq_true, decide_eq_true_eq] at h
  refine ⟨?_, ?_⟩
  · simp only [Bool.or_eq_false_iff, beq_eq_false_iff_ne, ne_eq]
    refine ⟨⟨⟨?_, ?_⟩, ?_⟩, ?_⟩ <;> (rintro rfl; revert h; decide)
  · simp only [beq_eq_false_iff_ne, ne_eq]; rintro rfl; revert h; decide
theorem blank_not {c : UInt8} (h : blankB c = true) : (c == 35) = false := by
  unfold blankB at h
  simp only [Bool.or_eq_true, beq_iff_eq] at h
  rcases h with ((rfl | rfl) | rfl) | rfl <;> decide

/-- what the reference says of a text that begins with c -/
theorem kindR_letter {l : List UInt8} (hl : l ≠ []) (h : letterB (l.headD 0) = true) : kindR l = if l.all wordB = true then 1 else 0 := by
  obtain ⟨h1, h2, h3⟩ := letter_not h
  have hs : signsR.contains l = false := by
    cases hc : signsR.contains l with
    | false => rfl
    | true => rw [(sign_head hc).1] at h; cases h
  cases l with
  | nil => exact absurd rfl hl
  | cons c r =>
    simp only [List.headD_cons] at h h1 h2 h3
    unfold kindR
    rw [if_neg hl, hs]
    simp [h, h1, h2, h3]
theorem kindR_digit {l : List UInt8} (hl : l ≠ []) (h : digitB (l.headD 0) = true) (h0 : letterB (l.headD 0) = false) : kindR l = if l.all digitB = true then 2 else 0 := by
  obtain ⟨h2, h3⟩ := digit_not h
  have hs : signsR.contains l = false := by
    cases hc : signsR.contains l with
    | false => rfl
    | true => rw [(sign_head hc).2.1] at h; cases h
  cases l with
  | nil => exact absurd rfl hl
  | cons c r =>
    simp only [List.headD_cons] at h h0 h2 h3
    unfold kindR
    rw [if_neg hl, hs]
    simp [h, h0, h2, h3]
theorem kindR_blank {l : List UInt8} (hl : l ≠ []) (h : blankB (l.headD 0) = true) (h0 : letterB (l.headD 0) = false) (h1 : digitB (l.headD 0) = false) : kindR l = if l.all blankB = true then 4 else 0 := by
  have h3 := blank_not h
  have hs : signsR.contains l = false := by
    cases hc : signsR.contains l with
    | false => rfl
    | true => rw [(sign_head hc).2.2.1] at h; cases h
  cases l with
  | nil => exact absurd rfl hl
  | cons c r =>
    simp only [List.headD_cons] at h h0 h1 h3
    unfold kindR
    rw [if_neg hl, hs]
    simp [h, h0, h1, h3]
theorem kindR_line {l : List UInt8} (hl : l ≠ []) (h : (l.headD 0 == 35) = true) (h0 : letterB (l.headD 0) = false) (h1 : digitB (l.headD 0) = false) (h2 : blankB (l.headD 0) = false) : kindR l = if l.all lineB = true then 5 else 0 := by
  have hs : signsR.contains l = false := by
    cases hc : signsR.contains l with
    | false => rfl
    | true => rw [(sign_head hc).2.2.2] at h; cases h
  cases l with
  | nil => exact absurd rfl hl
  | cons c r =>
    simp only [List.headD_cons] at h h0 h1 h2
    unfold kindR
    rw [if_neg hl, hs]
    simp [h, h0, h1, h2]
theorem kindR_sign {l : List UInt8} (hl : l ≠ []) (h : (l.headD 0 == 35) = false) (h0 : letterB (l.headD 0) = false) (h1 : digitB (l.headD 0) = false) (h2 : blankB (l.headD 0) = false) : kindR l = if signsR.contains l = true then 3 else 0 := by
  cases l with
  | nil => exact absurd rfl hl
  | cons c r =>
    simp only [List.headD_cons] at h h0 h1 h2
    unfold kindR
    rw [if_neg hl]
    cases hs : signsR.contains (c :: r) <;> simp [h, h0, h1, h2]

/-- one class -/
theorem best_span {l : List UInt8} (p : UInt8 → Bool) (K : Nat) (hK : K ≠ 0) (hp : p (l.headD 0) = true) (hl : l ≠ [])
    (h : ∀ k, 1 ≤ k → kindR (l.take k) = if (l.take k).all p = true then K else 0) :
    bestN l l.length = spanN p l ∧ kindR (l.take (spanN p l)) = K := by
  have h1 : 1 ≤ spanN p l := by
    cases l with
    | nil => exact absurd rfl hl
    | cons c r =>
      have hp' : p c = true := hp
      rw [spanN_cons_pos hp']; omega
  refine ⟨bestN_of _ (spanN_le p l) (fun k a b => ?_), ?_⟩
  · rw [h k a, ← all_take_iff p l k b]
    split <;> simp_all
  · rw [h _ h1, if_pos ((all_take_iff p l _ (spanN_le p l)).2 (Nat.le_refl _))]

theorem contains1 (c : UInt8) : signsR.contains [c] = sign1.contains c := by
  rw [Bool.eq_iff_iff]; simp [signsR, sign1]
theorem contains2 (c d : UInt8) : signsR.contains [c, d] = sign2.contains [c, d] := by
  rw [Bool.eq_iff_iff]; simp [signsR, sign2]
theorem contains3 (c d e : UInt8) : signsR.contains [c, d, e] = decide ([c, d, e] = [60, 61, 62]) := by
  rw [Bool.eq_iff_iff]; simp [signsR]

theorem best_sign {l : List UInt8} (hl : l ≠ []) (h : ∀ k, 1 ≤ k → kindR (l.take k) = if signsR.contains (l.take k) = true then 3 else 0) :
    bestN l l.length = signN l ∧ (signN l ≠ 0 → kindR (l.take (signN l)) = 3) := by
  have hz : ∀ n, bestN l n ≠ 0 → kindR (l.take (bestN l n)) = 3 := by
    intro n
    induction n with
    | zero => intro hh; exact absurd rfl hh
    | succ n ih =>
      unfold bestN
      split
      · rename_i hk; intro _; rw [h _ (by omega)] at hk ⊢; split at hk <;> simp_all
      · exact ih
  have key : bestN l l.length = signN l := by
    match l, hl with
    | [c], _ =>
      have h1 : kindR [c] = if sign1.contains c = true then 3 else 0 := by rw [← contains1]; exact h 1 (Nat.le_refl _)
      simp [bestN, h1, signN, sign2]
    | [c, d], _ =>
      have h1 : kindR [c] = if sign1.contains c = true then 3 else 0 := by rw [← contains1]; exact h 1 (Nat.le_refl _)
      have h2 : kindR [c, d] = if sign2.contains [c, d] = true then 3 else 0 := by rw [← contains2]; exact h 2 (by omega)
      simp [bestN, h1, h2, signN]
    | c :: d :: e :: r, _ =>
      have h1 : kindR [c] = if sign1.contains c = true then 3 else 0 := by rw [← contains1]; exact h 1 (Nat.le_refl _)
      have h2 : kindR [c, d] = if sign2.contains [c, d] = true then 3 else 0 := by rw [← contains2]; exact h 2 (by omega)
      have h3 : kindR [c, d, e] = if decide ([c, d, e] = [60, 61, 62]) = true then 3 else 0 := by rw [← contains3]; exact h 3 (by omega)
      rw [bestN_short (m := 3) r.length (by simp; omega) (fun k a b => by
        rw [h k (by omega), signsR_short (by rw [List.length_take]; simp at b ⊢; omega)]; rfl)]
      simp [bestN, h1, h2, h3, signN]
  exact ⟨key, fun hh => by rw [← key] at hh ⊢; exact hz _ hh⟩

theorem ref_step {l : List UInt8} (hl : l ≠ []) : bestN l l.length = (step l).2 ∧ ((step l).2 ≠ 0 → kindR (l.take (step l).2) = (step l).1) := by
  have hh : ∀ k, 1 ≤ k → (l.take k).headD 0 = l.headD 0 := fun k hk => headD_take (by omega)
  have hn : ∀ k, 1 ≤ k → l.take k ≠ [] := fun k hk => take_ne hl hk
  unfold step
  dsimp only
  by_cases h0 : letterB (l.headD 0) = true
  · rw [if_pos h0]
    obtain ⟨a, b⟩ := best_span wordB 1 (by decide) (by unfold wordB; rw [h0]; rfl) hl (fun k hk => kindR_letter (hn k hk) (by rw [hh k hk]; exact h0))
    exact ⟨a, fun _ => b⟩
  rw [if_neg h0]
  have h0' : letterB (l.headD 0) = false := by simpa using h0
  by_cases h1 : digitB (l.headD 0) = true
  · rw [if_pos h1]
    obtain ⟨a, b⟩ := best_span digitB 2 (by decide) h1 hl (fun k hk => kindR_digit (hn k hk) (by rw [hh k hk]; exact h1) (by rw [hh k hk]; exact h0'))
    exact ⟨a, fun _ => b⟩
  rw [if_neg h1]
  have h1' : digitB (l.headD 0) = false := by simpa using h1
  by_cases h2 : blankB (l.headD 0) = true
  · rw [if_pos h2]
    obtain ⟨a, b⟩ := best_span blankB 4 (by decide) h2 hl (fun k hk => kindR_blank (hn k hk) (by rw [hh k hk]; exact h2) (by rw [hh k hk]; exact h0') (by rw [hh k hk]; exact h1'))
    exact ⟨a, fun _ => b⟩
  rw [if_neg h2]
  have h2' : blankB (l.headD 0) = false := by simpa using h2
  by_cases h3 : (l.headD 0 == 35) = true
  · rw [if_pos h3]
    have hp : lineB (l.headD 0) = true := by
      have : l.headD 0 = 35 := by simpa using h3
      rw [this]; decide
    obtain ⟨a, b⟩ := best_span lineB 5 (by decide) hp hl (fun k hk => kindR_line (hn k hk) (by rw [hh k hk]; exact h3) (by rw [hh k hk]; exact h0') (by rw [hh k hk]; exact h1') (by rw [hh k hk]; exact h2'))
    exact ⟨a, fun _ => b⟩
  rw [if_neg h3]
  have h3' : (l.headD 0 == 35) = false := by simpa using h3
  exact best_sign hl (fun k hk => kindR_sign (hn k hk) (by rw [hh k hk]; exact h3') (by rw [hh k hk]; exact h0') (by rw [hh k hk]; exact h1') (by rw [hh k hk]; exact h2'))

/- names -/
def keywordsR : List (List UInt8) := [[105, 110, 116], [97, 114, 114, 97, 121], [115, 116, 97, 99, 107], [112, 114, 111, 99], [109, 97, 105, 110], [112, 117, 115, 104], [112, 111, 112], [114, 101, 97, 100], [117, 110, 114, 101, 97, 100], [119, 114, 105, 116, 101], [117, 110, 119, 114, 105, 116, 101], [99, 97, 108, 108], [117, 110, 99, 97, 108, 108], [105, 102], [101, 108, 115, 101], [102, 105], [102, 114, 111, 109], [108, 111, 111, 112], [117, 110, 116, 105, 108], [108, 111, 99, 97, 108], [100, 101, 108, 111, 99, 97, 108], [116, 111, 112], [115, 105, 122, 101]]
def nameB (l : List UInt8) : Bool := kindR l == 1 && decide (l.length ≤ 16) && !keywordsR.contains l

theorem kind1_iff {l : List UInt8} (hl : l ≠ []) : (kindR l = 1) ↔ ((step l).1 = 1 ∧ (step l).2 = l.length) := by
  by_cases h0 : letterB (l.headD 0) = true
  · rw [kindR_letter hl h0]
    have : step l = (1, spanN wordB l) := by unfold step; dsimp only; rw [if_pos h0]
    rw [this]
    have h1 := all_take_iff wordB l l.length (Nat.le_refl _)
    rw [List.take_length] at h1
    have h2 := spanN_le wordB l
    split
    · rename_i ha; have := h1.1 ha; simp; omega
    · rename_i ha
      simp only [Nat.zero_ne_one, true_and, false_iff]
      intro hh
      exact ha (h1.2 (by omega))
  · have h1 : (step l).1 ≠ 1 := by unfold step; dsimp only; rw [if_neg h0]; (repeat' split) <;> simp
    constructor
    · intro hk
      exfalso
      unfold kindR at hk
      rw [if_neg hl] at hk
      simp only [Bool.not_eq_true] at h0
      rw [h0] at hk
      simp only [Bool.false_and, Bool.false_eq_true, if_false] at hk
      revert hk
      (repeat' split) <;> simp
    · rintro ⟨h2, _⟩; exact absurd h2 h1

theorem keyword_step {l : List UInt8} (h : keywordsR.contains l = true) : step l = (1, l.length) ∧ l ≠ [] := by
  have key : keywordsR.all (fun k => step k == (1, k.length) && !k.isEmpty) = true := by decide +kernel
  have hm : l ∈ keywordsR := by simpa using h
  have := List.all_eq_true.1 key l hm
  simp only [Bool.and_eq_true, beq_iff_eq, Bool.not_eq_true', List.isEmpty_eq_false_iff] at this
  exact this

theorem lex_whole {l : List UInt8} (hl : l ≠ []) (hs : step l = (1, l.length)) : lexP l 0 = ([⟨1, l, 0⟩], none) := by
  have hlen := List.length_pos_iff.2 hl
  rw [lexP_cons hl (by rw [hs]; simp; omega), hs]
  simp [lexP_nil]

end Go.Proofs.Ytlpmoklcdocmmaa
