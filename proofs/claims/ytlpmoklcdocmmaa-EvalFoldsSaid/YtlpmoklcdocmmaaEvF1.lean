/- Folding a valid expression keeps its value; plain. -/
import Derived.Test.YtlpmoklcdocmmaaEvF0
namespace Go.Proofs.Ytlpmoklcdocmmaa
open Go.RowKit

theorem evalT_mk (env : Env) (k n : Int) (s : ByteArray) (ks : List T) : evalT env (.mk k n s ks) = evalN env k n s (evalL env ks) := by rw [evalT]
theorem evalN_un {env : Env} {k n : Int} {s : ByteArray} {x : Int × Int} (hk : k = 6 ∨ k = 7) : evalN env k n s [x] = if x.2 ≠ 0 then (0, x.2) else (unV k x.1, unE k) := by
  unfold evalN; rw [if_neg (by omega), if_neg (by omega)]
theorem evalN_bin {env : Env} {k n : Int} {s : ByteArray} {x y : Int × Int} (hk : 8 ≤ k ∧ k ≤ 23) : evalN env k n s [x, y] = if x.2 ≠ 0 then (0, x.2) else if y.2 ≠ 0 then (0, y.2) else (applyV k x.1 y.1, applyE k y.1) := by
  unfold evalN; rw [if_neg (by omega), if_neg (by omega)]

theorem fold_good (env : Env) {w : World} : ∀ (t : T) (v : Value), NodeAt w v t → isT t = true → Good env t (foldF t) := by
  intro t
  induction t using T.ind with
  | h k n s ks ih =>
    intro v hv hT
    obtain ⟨u, -, -, hnm, -, hkid⟩ := NodeAt.mk_iff.1 hv
    have hks : ∀ t ∈ ks, isT t = true → Good env t (foldF t) := fun t ht h => by
      obtain ⟨i, hi, rfl⟩ := List.mem_iff_getElem.1 ht
      obtain ⟨a, c, rfl, _, _, hq⟩ := hkid
      obtain ⟨g, o, rfl, _, hn⟩ := hq (by omega)
      obtain ⟨c0, c1, c2, c3, _, _, _, _, h4⟩ := hn.get i _ (List.getElem?_eq_getElem hi)
      exact ih _ ht _ h4 h
    rw [isT] at hT
    have hcs := isN_cases hT
    have hall : ∀ b ∈ isL ks, b = true := by
      rcases hcs with ⟨_, _, _, e⟩ | ⟨_, _, e⟩ | ⟨_, _, e⟩ | ⟨_, _, e⟩ | ⟨_, _, e⟩ <;> rw [e] <;> simp
    obtain ⟨g1, g2⟩ := goods env ks hks _ rfl hall
    have hA : isT (.mk k n s ((foldL ks).map (·.1))) = true := by rw [isT, g1]; exact hT
    have hE : evalT env (.mk k n s ((foldL ks).map (·.1))) = evalT env (.mk k n s ks) := by rw [evalT_mk, g2, ← evalT_mk]
    rw [foldF]
    -- not constant
    have hno : (cvN k n (foldL ks)).2 = false → (hasVar (.mk k n s ks) = false → (evalT env (.mk k n s ks)).2 = 0 → False) → Good env (.mk k n s ks) (foldN k n s (foldL ks)) := fun h1 h2 => by
      have e : foldN k n s (foldL ks) = (.mk k n s ((foldL ks).map (·.1)), 0, false) := by unfold foldN; rw [h1]; rfl
      rw [e]
      exact ⟨hA, hE, zero_in, (fun h => by cases h), fun _ => rfl, fun h3 h4 => (h2 h3 h4).elim⟩
    have hyes : ∀ x, cvN k n (foldL ks) = (x, true) → I64 x → evalT env (.mk k n s ks) = (x, 0) → Good env (.mk k n s ks) (foldN k n s (foldL ks)) := fun x h1 hx h2 => by
      have e : foldN k n s (foldL ks) = (litT x, x, true) := by unfold foldN; rw [h1]; rfl
      rw [e]
      exact ⟨lit_isT x, by rw [lit_eval env hx, h2], hx, fun _ => ⟨rfl, h2⟩, (fun h => by cases h), fun _ _ => rfl⟩
    rcases hcs with ⟨rfl, hn0, hs0, hb⟩ | ⟨hk, -, hb⟩ | ⟨rfl, -, hb⟩ | ⟨hk, -, hb⟩ | ⟨hk, -, hb⟩
    · have : ks = [] := List.eq_nil_of_length_eq_zero (by rw [← isL_len, hb]; rfl)
      subst this
      exact hyes n rfl hnm (by rw [evalT_mk]; rfl)
    · have : ks = [] := List.eq_nil_of_length_eq_zero (by rw [← isL_len, hb]; rfl)
      subst this
      refine hno ?_ (fun h _ => ?_)
      · unfold cvN
        rw [foldL, if_pos (by simp), if_neg (by omega), if_pos (by omega)]
      · rw [hasVar, Bool.or_eq_false_iff, Bool.and_eq_false_iff] at h
        rcases h.1 with h | h <;> (have := of_decide_eq_false h; omega)
    · obtain ⟨t1, rfl, ht1⟩ := isL_one hb
      refine hno ?_ (fun h _ => ?_)
      · unfold cvN
        split
        · rw [if_neg (by decide), if_pos (by decide)]
        · rfl
      · rw [hasVar, Bool.or_eq_false_iff] at h
        exact absurd h.1 (by decide)
    · obtain ⟨t1, rfl, ht1⟩ := isL_one hb
      have hg := hks t1 (by simp) ht1
      rw [foldL, foldL] at *
      by_cases hc : (foldF t1).2.2 = true
      · have h1 := (hg.2.2.2.1 hc).2
        refine hyes (unV k (foldF t1).2.1) ?_ (unV_in _ _) ?_
        · unfold cvN
          rw [if_pos (by simp [hc]), if_neg (by omega), if_neg (by omega), if_pos hk]
          have : unE k = 0 := by unfold unE; rw [if_pos hk]
          simp only [this]
          rfl
        · rw [evalT_mk, evalL, evalL, h1, evalN_un hk, if_neg (by simp)]
          have : unE k = 0 := by unfold unE; rw [if_pos hk]
          rw [this]
      · refine hno ?_ (fun h3 h4 => ?_)
        · unfold cvN
          rw [if_neg (by simpa using hc)]
        · rw [hasVar, Bool.or_eq_false_iff, hasVarL, Bool.or_eq_false_iff] at h3
          rw [evalT_mk, evalL, evalL, evalN_un hk] at h4
          by_cases hz : (evalT env t1).2 = 0
          · exact hc (hg.2.2.2.2.2 h3.2.1 hz)
          · rw [if_pos hz] at h4; exact hz h4
    · obtain ⟨t1, t2, rfl, ht1, ht2⟩ := isL_two hb
      have hg := hks t1 (by simp) ht1
      have hg2 := hks t2 (by simp) ht2
      rw [foldL, foldL, foldL] at *
      by_cases hc : (foldF t1).2.2 = true ∧ (foldF t2).2.2 = true
      · have h1 := (hg.2.2.2.1 hc.1).2
        have h2 := (hg2.2.2.2.1 hc.2).2
        have hcv : cvN k n [foldF t1, foldF t2] = (applyV k (foldF t1).2.1 (foldF t2).2.1, applyE k (foldF t2).2.1 == 0) := by
          unfold cvN
          rw [if_pos (by simp [hc.1, hc.2]), if_neg (by omega), if_neg (by omega), if_neg (by omega)]
        have hev : evalT env (.mk k n s [t1, t2]) = (applyV k (foldF t1).2.1 (foldF t2).2.1, applyE k (foldF t2).2.1) := by
          rw [evalT_mk, evalL, evalL, evalL, h1, h2, evalN_bin hk, if_neg (by simp), if_neg (by simp)]
        by_cases hz : applyE k (foldF t2).2.1 = 0
        · refine hyes (applyV k (foldF t1).2.1 (foldF t2).2.1) ?_ (applyV_in hg.2.2.1) ?_
          · rw [hcv, hz]; rfl
          · rw [hev, hz]
        · refine hno ?_ (fun _ h4 => ?_)
          · rw [hcv]; simpa using hz
          · rw [hev] at h4; exact hz h4
      · refine hno ?_ (fun h3 h4 => ?_)
        · unfold cvN
          rw [if_neg (by simpa using hc)]
        · rw [hasVar, Bool.or_eq_false_iff, hasVarL, Bool.or_eq_false_iff, hasVarL, Bool.or_eq_false_iff] at h3
          rw [evalT_mk, evalL, evalL, evalL, evalN_bin hk] at h4
          by_cases hz : (evalT env t1).2 = 0
          · rw [if_neg (by simpa using hz)] at h4
            by_cases hz2 : (evalT env t2).2 = 0
            · exact hc ⟨hg.2.2.2.2.2 h3.2.1 hz, hg2.2.2.2.2.2 h3.2.2.1 hz2⟩
            · rw [if_pos hz2] at h4; exact hz2 h4
          · rw [if_pos hz] at h4; exact hz h4
end Go.Proofs.Ytlpmoklcdocmmaa
