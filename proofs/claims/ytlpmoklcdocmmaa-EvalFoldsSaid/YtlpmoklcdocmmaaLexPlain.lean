/- The lexer as plain functions on lists of bytes, and its laws; no program in sight. -/
namespace Go.Proofs.Ytlpmoklcdocmmaa

def letterB (c : UInt8) : Bool := decide (97 ≤ c.toNat) && decide (c.toNat ≤ 122)
def digitB (c : UInt8) : Bool := decide (48 ≤ c.toNat) && decide (c.toNat ≤ 57)
def blankB (c : UInt8) : Bool := c == 32 || c == 9 || c == 13 || c == 10
def wordB (c : UInt8) : Bool := letterB c || digitB c
def lineB (c : UInt8) : Bool := c != 10

def spanN (p : UInt8 → Bool) (l : List UInt8) : Nat := (l.takeWhile p).length

def sign2 : List (List UInt8) := [[58, 61], [43, 61], [45, 61], [94, 61], [61, 61], [33, 61], [60, 61], [62, 61], [38, 38], [124, 124]]
def sign1 : List UInt8 := [43, 45, 42, 47, 37, 38, 124, 94, 33, 61, 60, 62, 40, 41, 123, 125, 91, 93, 59, 44]
def signN (l : List UInt8) : Nat :=
  if l.take 3 = [60, 61, 62] then 3 else if sign2.contains (l.take 2) = true then 2 else if sign1.contains (l.headD 0) = true then 1 else 0

/-- kind and size of the longest token at the start -/
def step (l : List UInt8) : Nat × Nat :=
  let c := l.headD 0
  if letterB c = true then (1, spanN wordB l) else if digitB c = true then (2, spanN digitB l) else if blankB c = true then (4, spanN blankB l)
  else if (c == 35) = true then (5, spanN lineB l) else (3, signN l)

structure Tok where
  kind : Nat
  text : List UInt8
  pos : Nat

/-- the tokens, and the offset of the first error -/
def lexGo : Nat → List UInt8 → Nat → List Tok × Option Nat
  | 0, _, _ => ([], none)
  | n + 1, l, pos =>
    if l = [] then ([], none)
    else if (step l).2 = 0 then ([], some pos)
    else (⟨(step l).1, l.take (step l).2, pos⟩ :: (lexGo n (l.drop (step l).2) (pos + (step l).2)).1, (lexGo n (l.drop (step l).2) (pos + (step l).2)).2)

def lexT (l : List UInt8) : List Tok × Option Nat := lexGo (l.length + 1) l 0

/- spans -/
theorem spanN_le (p : UInt8 → Bool) (l : List UInt8) : spanN p l ≤ l.length := by
  unfold spanN
  exact (List.takeWhile_sublist p).length_le
theorem spanN_cons_pos {p : UInt8 → Bool} {c : UInt8} {l : List UInt8} (h : p c = true) : spanN p (c :: l) = spanN p l + 1 := by simp [spanN, h]
theorem spanN_cons_neg {p : UInt8 → Bool} {c : UInt8} {l : List UInt8} (h : p c = false) : spanN p (c :: l) = 0 := by simp [spanN, h]
theorem spanN_nil (p : UInt8 → Bool) : spanN p [] = 0 := rfl

/-- the first n bytes are in the class just if n is at most the span -/
theorem all_take_iff (p : UInt8 → Bool) : ∀ (l : List UInt8) (n : Nat), n ≤ l.length → ((l.take n).all p = true ↔ n ≤ spanN p l)
  | [], n, h => by simp at h; subst h; simp [spanN]
  | c :: l, 0, _ => by simp
  | c :: l, n + 1, h => by
    have ih := all_take_iff p l n (by simpa using h)
    cases hc : p c with
    | true => rw [spanN_cons_pos hc]; simp [hc] at ih ⊢; exact ih
    | false => rw [spanN_cons_neg hc]; simp [hc]

theorem spanN_take (p : UInt8 → Bool) : ∀ (l : List UInt8) (q : Nat), spanN p (l.take q) = min q (spanN p l)
  | [], q => by simp [spanN]
  | c :: l, 0 => by simp [spanN]
  | c :: l, q + 1 => by
    have ih := spanN_take p l q
    cases hc : p c with
    | true => rw [List.take_succ_cons, spanN_cons_pos hc, spanN_cons_pos hc, ih]; omega
    | false => rw [List.take_succ_cons, spanN_cons_neg hc, spanN_cons_neg hc]; omega

/-- behind the span stands no byte of the class -/
theorem spanN_append (p : UInt8 → Bool) : ∀ (l r : List UInt8), (spanN p l < l.length ∨ spanN p r = 0) → spanN p (l ++ r) = spanN p l
  | [], r, h => by simp [spanN_nil] at h; simp [spanN_nil, h]
  | c :: l, r, h => by
    cases hc : p c with
    | true =>
      rw [spanN_cons_pos hc, List.length_cons] at h
      rw [List.cons_append, spanN_cons_pos hc, spanN_cons_pos hc, spanN_append p l r (by omega)]
    | false => rw [List.cons_append, spanN_cons_neg hc, spanN_cons_neg hc]

theorem signN_le (l : List UInt8) : signN l ≤ l.length := by
  unfold signN
  match l with
  | [] => decide
  | [a] =>
    have h : sign2.contains (List.take 2 [a]) = false := by simp [sign2]
    have h' : ¬ (List.take 3 [a] = [60, 61, 62]) := by simp
    rw [if_neg h', h]
    split
    · contradiction
    · split <;> simp
  | [a, b] =>
    have h' : ¬ (List.take 3 [a, b] = [60, 61, 62]) := by simp
    rw [if_neg h']
    split
    · simp
    · split <;> simp
  | a :: b :: c :: r =>
    split
    · simp
    · split
      · simp
      · split <;> simp

theorem step_le (l : List UInt8) : (step l).2 ≤ l.length := by
  unfold step
  dsimp only
  repeat' split
  all_goals first | exact spanN_le _ _ | exact signN_le _

end Go.Proofs.Ytlpmoklcdocmmaa
