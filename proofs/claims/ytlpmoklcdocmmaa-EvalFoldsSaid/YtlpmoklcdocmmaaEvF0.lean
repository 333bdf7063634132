/- Folding, plain; folded expressions in memory. -/
import Derived.Test.YtlpmoklcdocmmaaEvP2
import Derived.Test.YtlpmoklcdocmmaaEvRows
namespace Go.Proofs.Ytlpmoklcdocmmaa
open Go.RowKit

abbrev F := T × Int × Bool
def litT (v : Int) : T := if 0 ≤ v then tN v else if v = -9223372036854775808 then .mk 8 0 ⟨#[]⟩ [tN 9223372036854775807, tN 1] else .mk 6 0 ⟨#[]⟩ [tN (-v)]
def cvN (k n : Int) (fs : List F) : Int × Bool :=
  if fs.all (·.2.2) = true then
    (if k = 1 then (n, true) else if k = 2 ∨ k = 3 ∨ k = 4 ∨ k = 5 then (0, false)
     else if k = 6 ∨ k = 7 then (match fs with | [] => (0, false) | f :: _ => (unV k f.2.1, unE k == 0))
     else (match fs with | f :: f' :: _ => (applyV k f.2.1 f'.2.1, applyE k f'.2.1 == 0) | _ => (0, false)))
  else (0, false)
def foldN (k n : Int) (s : ByteArray) (fs : List F) : F :=
  if (cvN k n fs).2 = true then (litT (cvN k n fs).1, (cvN k n fs).1, true) else (.mk k n s (fs.map (·.1)), 0, false)
mutual
def foldF : T → F
  | .mk k n s ks => foldN k n s (foldL ks)
def foldL : List T → List F
  | [] => []
  | t :: ts => foldF t :: foldL ts
end
theorem foldL_len : ∀ ks : List T, (foldL ks).length = ks.length
  | [] => rfl
  | t :: ts => by simp [foldL, foldL_len ts]
theorem foldL_get : ∀ (ks : List T) (i : Nat) (t : T), ks[i]? = some t → (foldL ks)[i]? = some (foldF t)
  | t :: ts, 0, t', h => by simp at h; subst h; simp [foldL]
  | t :: ts, i + 1, t', h => by simp at h; simp [foldL, foldL_get ts i t' h]

/-! the laws -/
theorem tN_isT {n : Int} (h : 0 ≤ n) : isT (tN n) = true := by
  rw [tN, isT, isN_1, decide_eq_true h]; rfl
theorem tN_eval (env : Env) (n : Int) : evalT env (tN n) = (n, 0) := by rw [tN, evalT]; rfl
theorem bin_isT' {op : Int} {x y : T} (ho : 8 ≤ op ∧ op ≤ 23) (hx : isT x = true) (hy : isT y = true) : isT (.mk op 0 ⟨#[]⟩ [x, y]) = true := by
  rw [isT, isL, isL, isL, hx, hy, isN_bin ho]
  rfl
theorem lit_isT (v : Int) : isT (litT v) = true := by
  unfold litT
  split
  · exact tN_isT (by assumption)
  · split
    · exact bin_isT' (by decide) (tN_isT (by decide)) (tN_isT (by decide))
    · rw [isT, isL, isL, tN_isT (by omega), isN_67 (.inl rfl)]; rfl
theorem lit_eval (env : Env) {v : Int} (hv : I64 v) : evalT env (litT v) = (v, 0) := by
  unfold litT
  split
  · exact tN_eval env v
  · split
    · rename_i h1 h2
      subst h2
      rw [evalT, evalL, evalL, evalL, tN_eval, tN_eval]
      unfold evalN
      rw [if_neg (by decide), if_neg (by decide)]
      show (if (0 : Int) ≠ 0 then _ else if (0 : Int) ≠ 0 then _ else _) = _
      rw [if_neg (by decide), if_neg (by decide)]
      decide +kernel
    · rename_i h1 h2
      rw [evalT, evalL, evalL, tN_eval]
      unfold evalN
      rw [if_neg (by decide), if_neg (by decide)]
      show (if (0 : Int) ≠ 0 then _ else _) = _
      rw [if_neg (by decide)]
      have e : unV 6 (-v) = v := by
        show wrap64 (- -v) = v
        unfold I64 at hv
        unfold wrap64
        omega
      exact Prod.ext e rfl

/-- what folding a valid expression gives -/
def Good (env : Env) (t : T) (f : F) : Prop :=
  isT f.1 = true ∧ evalT env f.1 = evalT env t ∧ I64 f.2.1 ∧ (f.2.2 = true → f.1 = litT f.2.1 ∧ evalT env t = (f.2.1, 0)) ∧ (f.2.2 = false → f.2.1 = 0) ∧ (hasVar t = false → (evalT env t).2 = 0 → f.2.2 = true)

theorem goods (env : Env) : ∀ (ks : List T), (∀ t ∈ ks, isT t = true → Good env t (foldF t)) → ∀ bs, isL ks = bs → (∀ b ∈ bs, b = true) → isL ((foldL ks).map (·.1)) = bs ∧ evalL env ((foldL ks).map (·.1)) = evalL env ks
  | [], _, bs, h, _ => by subst h; exact ⟨rfl, rfl⟩
  | t :: ts, ih, bs, h, hb => by
    subst h
    rw [isL] at hb
    have h1 : isT t = true := hb _ (by simp)
    have hg := ih t (by simp) h1
    obtain ⟨h2, h3⟩ := goods env ts (fun t ht => ih t (by simp [ht])) _ rfl (fun b hb' => hb b (by simp [hb']))
    refine ⟨?_, ?_⟩
    · rw [foldL, List.map_cons, isL, isL, h2, hg.1, h1]
    · rw [foldL, List.map_cons, evalL, evalL, h3, hg.2.1]
end Go.Proofs.Ytlpmoklcdocmmaa
