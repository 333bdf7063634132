/- Expressions as trees, plain: which are valid, their values, their sizes. -/
import Derived.Test.YtlpmoklcdocmmaaAr
import Derived.Test.YtlpmoklcdocmmaaLexPlain4
namespace Go.Proofs.Ytlpmoklcdocmmaa

inductive T where
  | mk (k n : Int) (s : ByteArray) (ks : List T)

def plainN (n : Int) (s : ByteArray) : Bool := n == 0 && s.size == 0
def namedN (n : Int) (s : ByteArray) : Bool := n == 0 && nameB s.data.toList

def isN (k n : Int) (s : ByteArray) (bs : List Bool) : Bool :=
  if k = 1 then decide (0 ≤ n) && s.size == 0 && bs.length == 0
  else if k = 2 ∨ k = 4 ∨ k = 5 then namedN n s && bs.length == 0
  else if k = 3 then namedN n s && bs == [true]
  else if k = 6 ∨ k = 7 then plainN n s && bs == [true]
  else if 8 ≤ k ∧ k ≤ 23 then plainN n s && bs == [true, true]
  else false

mutual
def isT : T → Bool
  | .mk k n s ks => isN k n s (isL ks)
def isL : List T → List Bool
  | [] => []
  | t :: ts => isT t :: isL ts
end

abbrev Env := List (ByteArray × List Int)
def look : Env → ByteArray → Option (List Int)
  | [], _ => none
  | (x, c) :: l, s => if x = s then some c else look l s

def varV (env : Env) (k : Int) (s : ByteArray) (rs : List (Int × Int)) : Int × Int :=
  match look env s with
  | none => (0, 6)
  | some c =>
    if k = 2 then (if c.length = 1 then (c.getD 0 0, 0) else (0, 7))
    else if k = 3 then
      match rs with
      | [] => (0, 0)
      | r :: _ => if r.2 ≠ 0 then (0, r.2) else if r.1 < 0 ∨ (c.length : Int) ≤ r.1 then (0, 12) else (c.getD r.1.toNat 0, 0)
    else if k = 4 then (if c.length = 0 then (0, 13) else (c.getD (c.length - 1) 0, 0))
    else (c.length, 0)

def evalN (env : Env) (k n : Int) (s : ByteArray) (rs : List (Int × Int)) : Int × Int :=
  if k = 1 then (n, 0)
  else if k = 2 ∨ k = 3 ∨ k = 4 ∨ k = 5 then varV env k s rs
  else match rs with
    | [] => (0, 0)
    | [x] => if x.2 ≠ 0 then (0, x.2) else (unV k x.1, unE k)
    | x :: y :: _ => if x.2 ≠ 0 then (0, x.2) else if y.2 ≠ 0 then (0, y.2) else (applyV k x.1 y.1, applyE k y.1)

mutual
def evalT (env : Env) : T → Int × Int
  | .mk k n s ks => evalN env k n s (evalL env ks)
def evalL (env : Env) : List T → List (Int × Int)
  | [] => []
  | t :: ts => evalT env t :: evalL env ts
end

mutual
def smT : T → Int → Int → Bool × Int
  | .mk _ _ s ks, d, L => if L - 1 < 0 ∨ d = 0 ∨ 40 < s.size then (false, L - 1) else smL ks (d - 1) (L - 1)
def smL : List T → Int → Int → Bool × Int
  | [], _, L => (true, L)
  | t :: ts, d, L => if (smT t d L).1 = true then smL ts d (smT t d L).2 else (false, (smT t d L).2)
end

def greatB (t : T) (env : Env) : Bool := decide (10 < env.length) || !(smT t 24 200).1 || env.any (fun c => decide (20 < c.2.length))

mutual
def hasVar : T → Bool
  | .mk k _ _ ks => (decide (2 ≤ k) && decide (k ≤ 5)) || hasVarL ks
def hasVarL : List T → Bool
  | [] => false
  | t :: ts => hasVar t || hasVarL ts
end

mutual
def says (x : ByteArray) : T → Bool
  | .mk k _ s ks => (decide (2 ≤ k) && decide (k ≤ 5) && decide (s = x)) || saysL x ks
def saysL (x : ByteArray) : List T → Bool
  | [] => false
  | t :: ts => says x t || saysL x ts
end

theorem T.ind {P : T → Prop} (h : ∀ k n s ks, (∀ t ∈ ks, P t) → P (.mk k n s ks)) : ∀ t, P t := by
  intro t
  induction t using T.rec (motive_2 := fun ks => ∀ t ∈ ks, P t) with
  | mk k n s ks ih => exact h k n s ks ih
  | nil => rename_i t ht; cases ht
  | cons t ts h1 h2 =>
    rename_i t' ht
    rcases List.mem_cons.1 ht with rfl | ht
    · exact h1
    · exact h2 t' ht

mutual
theorem smT_bd : ∀ (t : T) (d L : Int), 0 ≤ L → -1 ≤ (smT t d L).2 ∧ (smT t d L).2 ≤ L ∧ ((smT t d L).1 = true → 0 ≤ (smT t d L).2)
  | .mk _ _ s ks, d, L => fun h => by
    rw [smT]
    split
    · exact ⟨by dsimp only; omega, by dsimp only; omega, fun h => by cases h⟩
    · have := smL_bd ks (d - 1) (L - 1) (by omega)
      exact ⟨this.1, by omega, this.2.2⟩
theorem smL_bd : ∀ (ks : List T) (d L : Int), 0 ≤ L → -1 ≤ (smL ks d L).2 ∧ (smL ks d L).2 ≤ L ∧ ((smL ks d L).1 = true → 0 ≤ (smL ks d L).2)
  | [], d, L => fun h => by rw [smL]; exact ⟨by dsimp only; omega, by dsimp only; omega, fun _ => h⟩
  | t :: ts, d, L => fun h => by
    rw [smL]
    have h1 := smT_bd t d L h
    split
    · rename_i ht
      have h2 := smL_bd ts d _ (h1.2.2 ht)
      exact ⟨h2.1, by omega, h2.2.2⟩
    · exact ⟨h1.1, h1.2.1, fun h => by cases h⟩
end

theorem drop_cons {α : Type} {l : List α} {k : Nat} {x : α} (h : l[k]? = some x) : l.drop k = x :: l.drop (k + 1) := by
  obtain ⟨hk, rfl⟩ := List.getElem?_eq_some_iff.1 h
  exact List.drop_eq_getElem_cons hk

theorem isL_len : ∀ ks : List T, (isL ks).length = ks.length
  | [] => rfl
  | t :: ts => by simp [isL, isL_len ts]
theorem evalL_len (env : Env) : ∀ ks : List T, (evalL env ks).length = ks.length
  | [] => rfl
  | t :: ts => by simp [evalL, evalL_len env ts]

theorem isL_get : ∀ (ks : List T) (i : Nat) (t : T), ks[i]? = some t → (isL ks)[i]? = some (isT t)
  | t :: ts, 0, t', h => by simp at h; subst h; simp [isL]
  | t :: ts, i + 1, t', h => by simp at h; simp [isL, isL_get ts i t' h]

/-- an error comes with the value 0 -/
theorem divV_zero {op x y : Int} (h : divE y ≠ 0) : divV op x y = 0 := by
  unfold divE at h; unfold divV
  split at h
  · rename_i hy; rw [hy]; rfl
  · exact absurd rfl h
theorem apply_zero {k x y : Int} (h : applyE k y ≠ 0) : applyV k x y = 0 := by
  unfold applyE at h
  split at h
  · rename_i hk
    rcases hk with rfl | rfl
    · simpa [applyV] using divV_zero h
    · simpa [applyV] using divV_zero h
  · split at h
    · exact absurd rfl h
    · rename_i h1 h2
      unfold applyV
      repeat (first | (rw [if_neg (by omega)]) | rfl)
theorem un_zero {k x : Int} (h : unE k ≠ 0) : unV k x = 0 := by
  unfold unE at h; unfold unV
  split at h
  · exact absurd rfl h
  · rw [if_neg (by omega), if_neg (by omega)]
theorem var_zero {env : Env} {k : Int} {s : ByteArray} {rs : List (Int × Int)} (h : (varV env k s rs).2 ≠ 0) : (varV env k s rs).1 = 0 := by
  unfold varV at h ⊢
  split
  · rfl
  · rename_i c hc
    rw [hc] at h
    simp only at h
    split
    · rename_i h2; rw [if_pos h2] at h
      split
      · rename_i h3; rw [if_pos h3] at h; exact absurd rfl h
      · rfl
    · rename_i h2; rw [if_neg h2] at h
      split
      · rename_i h3; rw [if_pos h3] at h
        cases rs with
        | nil => exact absurd rfl h
        | cons r rs =>
          simp only at h ⊢
          split
          · rfl
          · rename_i h4; rw [if_neg h4] at h
            split
            · rfl
            · rename_i h5; rw [if_neg h5] at h; exact absurd rfl h
      · rename_i h3; rw [if_neg h3] at h
        split
        · rename_i h4; rw [if_pos h4] at h
          split
          · rfl
          · rename_i h5; rw [if_neg h5] at h; exact absurd rfl h
        · rename_i h4; rw [if_neg h4] at h; exact absurd rfl h
theorem evalN_zero {env : Env} {k n : Int} {s : ByteArray} {rs : List (Int × Int)} (h : (evalN env k n s rs).2 ≠ 0) : (evalN env k n s rs).1 = 0 := by
  unfold evalN at h ⊢
  by_cases h1 : k = 1
  · rw [if_pos h1] at h; exact absurd rfl h
  rw [if_neg h1] at h ⊢
  by_cases h2 : k = 2 ∨ k = 3 ∨ k = 4 ∨ k = 5
  · rw [if_pos h2] at h ⊢; exact var_zero h
  rw [if_neg h2] at h ⊢
  match rs with
  | [] => rfl
  | [x] =>
    simp only at h ⊢
    by_cases h3 : x.2 ≠ 0
    · rw [if_pos h3]
    · rw [if_neg h3] at h ⊢; exact un_zero h
  | x :: y :: r =>
    simp only at h ⊢
    by_cases h3 : x.2 ≠ 0
    · rw [if_pos h3]
    · rw [if_neg h3] at h ⊢
      by_cases h4 : y.2 ≠ 0
      · rw [if_pos h4]
      · rw [if_neg h4] at h ⊢; exact apply_zero h
theorem evalT_zero {env : Env} {t : T} (h : (evalT env t).2 ≠ 0) : (evalT env t).1 = 0 := by
  cases t with
  | mk k n s ks => rw [evalT] at h ⊢; exact evalN_zero h

/-- what is not mentioned does not matter -/
theorem varV_look {e1 e2 : Env} {k : Int} {s : ByteArray} {rs : List (Int × Int)} (h : look e1 s = look e2 s) : varV e1 k s rs = varV e2 k s rs := by
  unfold varV; rw [h]
mutual
theorem evalT_says (x : ByteArray) (to : List Int) (env : Env) : ∀ t : T, says x t = false → evalT ((x, to) :: env) t = evalT env t
  | .mk k n s ks => fun h => by
    rw [says, Bool.or_eq_false_iff] at h
    rw [evalT, evalT, evalL_says x to env ks h.2]
    unfold evalN
    by_cases h1 : k = 1
    · rw [if_pos h1, if_pos h1]
    · rw [if_neg h1, if_neg h1]
      by_cases h2 : k = 2 ∨ k = 3 ∨ k = 4 ∨ k = 5
      · rw [if_pos h2, if_pos h2]
        refine varV_look ?_
        rw [look, if_neg]
        intro e
        have h3 := h.1
        have : (decide (2 ≤ k) && decide (k ≤ 5) && decide (s = x)) = true := by
          simp only [Bool.and_eq_true, decide_eq_true_eq]
          exact ⟨⟨by omega, by omega⟩, e.symm⟩
        rw [this] at h3
        cases h3
      · rw [if_neg h2, if_neg h2]
theorem evalL_says (x : ByteArray) (to : List Int) (env : Env) : ∀ ks : List T, saysL x ks = false → evalL ((x, to) :: env) ks = evalL env ks
  | [] => fun _ => rfl
  | t :: ts => fun h => by
    rw [saysL, Bool.or_eq_false_iff] at h
    rw [evalL, evalL, evalT_says x to env t h.1, evalL_says x to env ts h.2]
end

end Go.Proofs.Ytlpmoklcdocmmaa
