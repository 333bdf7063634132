/- Laws of the lexer as plain functions; no program in sight. -/
import Derived.Test.YtlpmoklcdocmmaaLexPlain
namespace Go.Proofs.Ytlpmoklcdocmmaa

theorem headD_take {l : List UInt8} {q : Nat} (h : 0 < q) : (l.take q).headD 0 = l.headD 0 := by
  cases l with
  | nil => simp
  | cons a r => cases q with
    | zero => omega
    | succ q => rfl

theorem take_ne {l : List UInt8} (hl : l ≠ []) {k : Nat} (hk : 1 ≤ k) : l.take k ≠ [] := by
  cases l with
  | nil => exact absurd rfl hl
  | cons a r => cases k with
    | zero => omega
    | succ k => simp

theorem signN_take {l : List UInt8} {q : Nat} (h : signN l ≤ q) (h0 : 0 < signN l) : signN (l.take q) = signN l := by
  match q, l with
  | 0, _ => omega
  | q + 1, [] => rfl
  | q + 1, [a] => simp
  | 1, a :: b :: r =>
    have h1 : signN (a :: b :: r) = 1 := by omega
    rw [h1]
    have h2 : sign1.contains a = true := by
      unfold signN at h1
      revert h1
      split
      · intro h; omega
      · split
        · intro h; omega
        · simp
    simp [signN, sign2] at h2 ⊢
    exact h2
  | q + 2, [a, b] => simp
  | 2, a :: b :: c :: r =>
    have hne : ¬ (List.take 3 (a :: b :: c :: r) = [60, 61, 62]) := by
      intro e
      have : signN (a :: b :: c :: r) = 3 := by unfold signN; rw [if_pos e]
      omega
    unfold signN
    rw [if_neg hne]
    simp
  | q + 3, a :: b :: c :: r => simp [signN]

theorem step_take {l : List UInt8} {q : Nat} (h : (step l).2 ≤ q) (h0 : 0 < (step l).2) : step (l.take q) = step l := by
  have hq : 0 < q := by omega
  have hh := headD_take (l := l) hq
  revert h h0
  unfold step
  dsimp only
  rw [hh]
  split
  · intro h _; rw [spanN_take]; simp only at h; rw [Nat.min_eq_right h]
  split
  · intro h _; rw [spanN_take]; simp only at h; rw [Nat.min_eq_right h]
  split
  · intro h _; rw [spanN_take]; simp only at h; rw [Nat.min_eq_right h]
  split
  · intro h _; rw [spanN_take]; simp only at h; rw [Nat.min_eq_right h]
  · intro h h0; rw [signN_take h h0]

theorem signN_nl {l b : List UInt8} (h : l ≠ []) : signN (l ++ 10 :: b) = signN l := by
  match l with
  | [] => exact absurd rfl h
  | [a] => cases b <;> simp [signN, sign2]
  | [a, c] => simp [signN]
  | a :: c :: d :: r => simp [signN]

theorem step_nl {l b : List UInt8} (h : l ≠ []) (hb : blankB (l.headD 0) = false ∨ (step l).2 < l.length) : step (l ++ 10 :: b) = step l := by
  have hh : (l ++ 10 :: b).headD 0 = l.headD 0 := by cases l with
    | nil => exact absurd rfl h
    | cons a r => rfl
  revert hb
  unfold step
  dsimp only
  rw [hh]
  split
  · intro _; rw [spanN_append _ _ _ (Or.inr (spanN_cons_neg (by decide)))]
  split
  · intro _; rw [spanN_append _ _ _ (Or.inr (spanN_cons_neg (by decide)))]
  split
  · rename_i hbl
    intro hb
    rw [spanN_append _ _ _ (Or.inl (hb.resolve_left (by rw [hbl]; decide)))]
  split
  · intro _; rw [spanN_append _ _ _ (Or.inr (spanN_cons_neg (by decide)))]
  · intro _; rw [signN_nl h]

/- the lexer, with enough fuel -/
theorem lexGo_fuel : ∀ (n m : Nat) (l : List UInt8) (pos : Nat), l.length < n → l.length < m → lexGo n l pos = lexGo m l pos
  | 0, _, l, _, h, _ => by omega
  | _, 0, l, _, _, h => by omega
  | n + 1, m + 1, l, pos, hn, hm => by
    unfold lexGo
    by_cases hl : l = []
    · rw [if_pos hl, if_pos hl]
    · rw [if_neg hl, if_neg hl]
      by_cases hs : (step l).2 = 0
      · rw [if_pos hs, if_pos hs]
      · rw [if_neg hs, if_neg hs]
        have hlen : 0 < l.length := List.length_pos_iff.2 hl
        have hd : (l.drop (step l).2).length < l.length := by rw [List.length_drop]; omega
        rw [lexGo_fuel n m _ _ (by omega) (by omega)]

def lexP (l : List UInt8) (pos : Nat) : List Tok × Option Nat := lexGo (l.length + 1) l pos

theorem lexP_nil (pos : Nat) : lexP [] pos = ([], none) := by simp [lexP, lexGo]
theorem lexP_err {l : List UInt8} {pos : Nat} (h : l ≠ []) (hs : (step l).2 = 0) : lexP l pos = ([], some pos) := by
  unfold lexP lexGo
  rw [if_neg h, if_pos hs]
theorem lexP_cons {l : List UInt8} {pos : Nat} (h : l ≠ []) (hs : (step l).2 ≠ 0) :
    lexP l pos = (⟨(step l).1, l.take (step l).2, pos⟩ :: (lexP (l.drop (step l).2) (pos + (step l).2)).1, (lexP (l.drop (step l).2) (pos + (step l).2)).2) := by
  have hlen : 0 < l.length := List.length_pos_iff.2 h
  have hd : (l.drop (step l).2).length < l.length := by rw [List.length_drop]; omega
  unfold lexP
  rw [show lexGo (l.length + 1) l pos = _ from by unfold lexGo; rw [if_neg h, if_neg hs]]
  rw [lexGo_fuel l.length ((l.drop (step l).2).length + 1) _ _ hd (by omega)]

theorem drop_lt {l : List UInt8} (h : l ≠ []) {m : Nat} (hs : m ≠ 0) : (l.drop m).length < l.length := by
  have hlen : 0 < l.length := List.length_pos_iff.2 h
  rw [List.length_drop]; omega

/-- induction along the tokens -/
theorem lex_ind {P : List UInt8 → Nat → Prop} (hn : ∀ pos, P [] pos) (he : ∀ l pos, l ≠ [] → (step l).2 = 0 → P l pos)
    (hc : ∀ l pos, l ≠ [] → (step l).2 ≠ 0 → P (l.drop (step l).2) (pos + (step l).2) → P l pos) : ∀ l pos, P l pos := by
  have key : ∀ n, ∀ (l : List UInt8) pos, l.length < n → P l pos := by
    intro n
    induction n with
    | zero => intro l pos h; omega
    | succ n ih =>
      intro l pos h
      by_cases hl : l = []
      · subst hl; exact hn pos
      · by_cases hs : (step l).2 = 0
        · exact he l pos hl hs
        · exact hc l pos hl hs (ih _ _ (by have := drop_lt hl hs; omega))
  exact fun l pos => key (l.length + 1) l pos (by omega)

def shift (d : Nat) (t : Tok) : Tok := ⟨t.kind, t.text, t.pos + d⟩

theorem lexP_shift (d : Nat) : ∀ (l : List UInt8) (pos : Nat), lexP l (pos + d) = ((lexP l pos).1.map (shift d), (lexP l pos).2.map (· + d)) := by
  refine lex_ind (fun pos => ?_) (fun l pos h hs => ?_) (fun l pos h hs ih => ?_)
  · simp [lexP_nil]
  · simp [lexP_err h hs]
  · rw [lexP_cons h hs, lexP_cons h hs, Nat.add_right_comm pos d, ih]
    simp [shift]

/-- lexing the text of a token yields that token alone -/
theorem lex_alone : ∀ (l : List UInt8) (pos : Nat), ∀ t ∈ (lexP l pos).1, lexP t.text 0 = ([⟨t.kind, t.text, 0⟩], none) := by
  refine lex_ind (fun pos => ?_) (fun l pos h hs => ?_) (fun l pos h hs ih => ?_)
  · simp [lexP_nil]
  · simp [lexP_err h hs]
  · intro t ht
    rw [lexP_cons h hs] at ht
    simp only [List.mem_cons] at ht
    rcases ht with rfl | ht
    · have hst : step (l.take (step l).2) = step l := step_take (Nat.le_refl _) (by omega)
      have hne : l.take (step l).2 ≠ [] := take_ne h (by omega)
      simp only
      rw [lexP_cons hne (by rw [hst]; exact hs), hst]
      simp [List.take_take, lexP_nil]
    · exact ih t ht

/-- every token starts where the one before ends; the rest of the string from there on has the remaining tokens -/
theorem lex_at : ∀ (l : List UInt8) (pos : Nat), (lexP l pos).2 = none → ∀ (n : Nat) (t : Tok), (lexP l pos).1[n]? = some t →
    ∃ p, t.pos = pos + p ∧ p < l.length ∧ lexP (l.drop p) (pos + p) = ((lexP l pos).1.drop n, none) ∧ t.text ≠ [] ∧ p + t.text.length ≤ l.length ∧ (l.drop p).take t.text.length = t.text := by
  refine lex_ind (fun pos => ?_) (fun l pos h hs => ?_) (fun l pos h hs ih => ?_)
  · intro _ n t ht; simp [lexP_nil] at ht
  · intro he; simp [lexP_err h hs] at he
  · intro he n t ht
    have hlen := List.length_pos_iff.2 h
    have hle := step_le l
    cases n with
    | zero =>
      refine ⟨0, ?_⟩
      rw [lexP_cons h hs] at ht
      simp only [List.getElem?_cons_zero, Option.some.injEq] at ht
      subst ht
      have hl : (l.take (step l).2).length = (step l).2 := by rw [List.length_take]; omega
      refine ⟨rfl, hlen, ?_, ?_, ?_, ?_⟩
      · simp [← he]
      · intro e; have := congrArg List.length e; simp only at this; rw [hl] at this; simp at this; omega
      · simp only [hl]; omega
      · simp
    | succ n =>
      have e1 := lexP_cons (pos := pos) h hs
      rw [e1] at ht he
      simp only [List.getElem?_cons_succ] at ht
      obtain ⟨p, h1, h2, h3, h4, h5, h6⟩ := ih he n t ht
      rw [List.length_drop] at h2 h5
      refine ⟨(step l).2 + p, by omega, by omega, ?_, h4, by omega, ?_⟩
      · rw [← Nat.add_assoc, ← List.drop_drop, h3, e1]; rfl
      · rw [← List.drop_drop]; exact h6

theorem lex_cat : ∀ (l : List UInt8) (pos : Nat), (lexP l pos).2 = none → (lexP l pos).1.flatMap (·.text) = l := by
  refine lex_ind (fun pos => ?_) (fun l pos h hs => ?_) (fun l pos h hs ih => ?_)
  · simp [lexP_nil]
  · intro he; simp [lexP_err h hs] at he
  · intro he
    rw [lexP_cons h hs] at he ⊢
    simp only [List.flatMap_cons, ih he, List.take_append_drop]

/-- ahead of an error lie tokens; at the error none starts -/
theorem lex_err : ∀ (l : List UInt8) (pos q : Nat), (lexP l pos).2 = some q →
    ∃ p, q = pos + p ∧ p < l.length ∧ lexP (l.take p) pos = ((lexP l pos).1, none) ∧ l.drop p ≠ [] ∧ (step (l.drop p)).2 = 0 := by
  refine lex_ind (fun pos => ?_) (fun l pos h hs => ?_) (fun l pos h hs ih => ?_)
  · intro q he; simp [lexP_nil] at he
  · intro q he
    rw [lexP_err h hs] at he ⊢
    simp only [Option.some.injEq] at he
    exact ⟨0, by omega, List.length_pos_iff.2 h, by simp [lexP_nil], by simpa using h, by simpa using hs⟩
  · intro q he
    rw [lexP_cons h hs] at he
    obtain ⟨p, h1, h2, h3, h4, h5⟩ := ih q he
    rw [List.length_drop] at h2
    have hle := step_le l
    have hne : l.take ((step l).2 + p) ≠ [] := take_ne h (by omega)
    have hst : step (l.take ((step l).2 + p)) = step l := step_take (by omega) (by omega)
    refine ⟨(step l).2 + p, by omega, by omega, ?_, by rw [← List.drop_drop]; exact h4, by rw [← List.drop_drop]; exact h5⟩
    rw [lexP_cons hne (by rw [hst]; exact hs), lexP_cons h hs, hst]
    have e1 : (l.take ((step l).2 + p)).take (step l).2 = l.take (step l).2 := by rw [List.take_take]; congr 1; omega
    have e2 : (l.take ((step l).2 + p)).drop (step l).2 = (l.drop (step l).2).take p := by rw [List.drop_take]; congr 1; omega
    rw [e1, e2, h3]

end Go.Proofs.Ytlpmoklcdocmmaa
