/- A string, a line feed and another string; the reference's longest match; names. No program in sight. -/
import Derived.Test.YtlpmoklcdocmmaaLexPlain2
namespace Go.Proofs.Ytlpmoklcdocmmaa

def solidB (t : Tok) : Bool := t.kind != 4 && t.kind != 5
/-- the tokens that are neither spaces nor comments, and the error -/
def lexS (l : List UInt8) (pos : Nat) : List Tok × Option Nat := ((lexP l pos).1.filter solidB, (lexP l pos).2)

theorem step_blank {c : UInt8} {l : List UInt8} (h : blankB c = true) : step (c :: l) = (4, spanN blankB l + 1) := by
  have h1 : letterB c = false := by
    unfold blankB at h; unfold letterB
    simp only [Bool.or_eq_true, beq_iff_eq] at h
    rcases h with ((rfl | rfl) | rfl) | rfl <;> decide
  have h2 : digitB c = false := by
    unfold blankB at h; unfold digitB
    simp only [Bool.or_eq_true, beq_iff_eq] at h
    rcases h with ((rfl | rfl) | rfl) | rfl <;> decide
  unfold step
  simp only [List.headD_cons, h1, h2, h, Bool.false_eq_true, if_false, if_true, spanN_cons_pos h]

/-- a blank ahead only shifts -/
theorem lexS_blank {c : UInt8} (h : blankB c = true) (l : List UInt8) (pos : Nat) : lexS (c :: l) pos = lexS l (pos + 1) := by
  have hs := step_blank (l := l) h
  have e1 : lexS (c :: l) pos = lexS (l.drop (spanN blankB l)) (pos + (spanN blankB l + 1)) := by
    unfold lexS
    rw [lexP_cons (by simp) (by rw [hs]; simp), hs]
    simp [solidB]
  rw [e1]
  cases l with
  | nil => simp [spanN, lexS, lexP_nil]
  | cons d r =>
    cases hd : blankB d with
    | false => rw [spanN_cons_neg hd]; simp
    | true =>
      have hs2 := step_blank (l := r) hd
      have e2 : lexS (d :: r) (pos + 1) = lexS (r.drop (spanN blankB r)) (pos + 1 + (spanN blankB r + 1)) := by
        unfold lexS
        rw [lexP_cons (by simp) (by rw [hs2]; simp), hs2]
        simp [solidB]
      rw [e2, spanN_cons_pos hd]
      simp only [List.drop_succ_cons]
      congr 1
      omega

theorem lexS_blanks : ∀ (a l : List UInt8) (pos : Nat), a.all blankB = true → lexS (a ++ l) pos = lexS l (pos + a.length)
  | [], l, pos, _ => by simp
  | c :: a, l, pos, h => by
    simp only [List.all_cons, Bool.and_eq_true] at h
    rw [List.cons_append, lexS_blank h.1, lexS_blanks a l (pos + 1) h.2, List.length_cons]
    congr 1
    omega

theorem blank_all {l : List UInt8} (hb : blankB (l.headD 0) = true) (h : l ≠ []) (hs : ¬ (step l).2 < l.length) : l.all blankB = true := by
  cases l with
  | nil => exact absurd rfl h
  | cons c r =>
    have hc : blankB c = true := hb
    rw [step_blank hc] at hs
    have h1 := (all_take_iff blankB (c :: r) (c :: r).length (Nat.le_refl _)).2 (by rw [spanN_cons_pos hc]; simp at hs ⊢; omega)
    rwa [List.take_length] at h1

/-- tokens of a, then those of b behind the line feed, spaces and comments aside; an error of a's is the whole's -/
theorem lex_lines (b : List UInt8) : ∀ (a : List UInt8) (pos : Nat),
    ((lexP a pos).2 = none → lexS (a ++ 10 :: b) pos = ((lexS a pos).1 ++ (lexS b (pos + a.length + 1)).1, (lexS b (pos + a.length + 1)).2)) ∧
    (∀ q, (lexP a pos).2 = some q → (lexP (a ++ 10 :: b) pos).2 = some q) := by
  refine lex_ind (fun pos => ?_) (fun l pos h hs => ?_) (fun l pos h hs ih => ?_)
  · refine ⟨fun _ => ?_, fun q hq => by simp [lexP_nil] at hq⟩
    rw [List.nil_append, lexS_blank (by decide)]
    simp [lexS, lexP_nil]
  · have hb : blankB (l.headD 0) = false ∨ (step l).2 < l.length := Or.inr (by rw [hs]; exact List.length_pos_iff.2 h)
    have hn := step_nl (b := b) h hb
    refine ⟨fun he => by simp [lexP_err h hs] at he, fun q hq => ?_⟩
    rw [lexP_err h hs] at hq
    rw [lexP_err (by simp) (by rw [hn]; exact hs)]
    exact hq
  · have hle := step_le l
    by_cases hb : blankB (l.headD 0) = false ∨ (step l).2 < l.length
    · have hn := step_nl (b := b) h hb
      have e1 : lexP (l ++ 10 :: b) pos = (⟨(step l).1, l.take (step l).2, pos⟩ :: (lexP (l.drop (step l).2 ++ 10 :: b) (pos + (step l).2)).1, (lexP (l.drop (step l).2 ++ 10 :: b) (pos + (step l).2)).2) := by
        rw [lexP_cons (by simp) (by rw [hn]; exact hs), hn, List.take_append_of_le_length hle, List.drop_append_of_le_length hle]
      have e2 := lexP_cons (pos := pos) h hs
      have hl : pos + (step l).2 + (l.drop (step l).2).length + 1 = pos + l.length + 1 := by rw [List.length_drop]; omega
      constructor
      · intro he
        rw [e2] at he
        have i1 := ih.1 he
        rw [hl] at i1
        unfold lexS at i1 ⊢
        rw [e1, e2]
        simp only [List.filter_cons]
        have i2 := congrArg Prod.fst i1
        have i3 := congrArg Prod.snd i1
        simp only at i2 i3
        rw [i2, i3]
        split <;> simp
      · intro q hq
        rw [e2] at hq
        rw [e1]
        exact ih.2 q hq
    · have hb1 : blankB (l.headD 0) = true := by
        cases hc : blankB (l.headD 0) with
        | true => rfl
        | false => exact absurd (Or.inl hc) hb
      have hall := blank_all hb1 h (fun hh => hb (Or.inr hh))
      constructor
      · intro _
        have e1 := lexS_blanks l (10 :: b) pos hall
        have e2 := lexS_blanks l [] pos hall
        rw [List.append_nil] at e2
        rw [e1, lexS_blank (by decide), e2]
        simp [lexS, lexP_nil]
      · intro q hq
        have e2 := lexS_blanks l [] pos hall
        rw [List.append_nil] at e2
        have := congrArg Prod.snd e2
        simp [lexS, lexP_nil] at this
        rw [this] at hq
        cases hq

/- the reference -/
def signsR : List (List UInt8) := [[60, 61, 62], [58, 61], [43, 61], [45, 61], [94, 61], [61, 61], [33, 61], [60, 61], [62, 61], [38, 38], [124, 124], [43], [45], [42], [47], [37], [38], [124], [94], [33], [61], [60], [62], [40], [41], [123], [125], [91], [93], [59], [44]]
def kindR (l : List UInt8) : Nat :=
  if l = [] then 0
  else if letterB (l.headD 0) && l.all wordB then 1
  else if l.all digitB then 2
  else if signsR.contains l then 3
  else if l.all blankB then 4
  else if (l.headD 0 == 35) && l.all lineB then 5
  else 0
/-- the longest of the first n lengths at which there is a token -/
def bestN (l : List UInt8) : Nat → Nat
  | 0 => 0
  | n + 1 => if kindR (l.take (n + 1)) ≠ 0 then n + 1 else bestN l n

theorem bestN_le (l : List UInt8) : ∀ n, bestN l n ≤ n
  | 0 => Nat.le_refl _
  | n + 1 => by unfold bestN; split; exact Nat.le_refl _; have := bestN_le l n; omega

/-- where the tokens are the prefixes up to m, m is the longest -/
theorem bestN_of {l : List UInt8} {m : Nat} : ∀ n, m ≤ n → (∀ k, 1 ≤ k → k ≤ n → (kindR (l.take k) ≠ 0 ↔ k ≤ m)) → bestN l n = m
  | 0, h, _ => by simp [bestN]; omega
  | n + 1, h, hk => by
    unfold bestN
    have := hk (n + 1) (by omega) (by omega)
    by_cases h1 : kindR (l.take (n + 1)) ≠ 0
    · rw [if_pos h1]; have := this.1 h1; omega
    · rw [if_neg h1]
      have h2 : ¬ (n + 1 ≤ m) := fun hh => h1 (this.2 hh)
      exact bestN_of n (by omega) (fun k a b => hk k a (by omega))

/-- beyond length 3 there is no sign -/
theorem signsR_short {l : List UInt8} (h : 3 < l.length) : signsR.contains l = false := by
  match l with
  | [] => simp at h
  | [_] => simp at h
  | [_, _] => simp at h
  | [_, _, _] => simp at h
  | a :: b :: c :: d :: r => simp [signsR]

theorem bestN_short {l : List UInt8} {n m : Nat} : ∀ d, n = m + d → (∀ k, m < k → k ≤ n → kindR (l.take k) = 0) → bestN l n = bestN l m
  | 0, h, _ => by subst h; rfl
  | d + 1, h, hk => by
    subst h
    have e : bestN l (m + d + 1) = bestN l (m + d) := by
      rw [show bestN l (m + d + 1) = if kindR (l.take (m + d + 1)) ≠ 0 then m + d + 1 else bestN l (m + d) from rfl]
      rw [if_neg (by simp [hk (m + d + 1) (by omega) (by omega)])]
    exact e.trans (bestN_short d rfl (fun k a b => hk k a (by omega)))

end Go.Proofs.Ytlpmoklcdocmmaa
