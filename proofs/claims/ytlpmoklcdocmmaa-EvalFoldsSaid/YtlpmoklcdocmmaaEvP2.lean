/- The values of expressions are 64-bit numbers. -/
import Derived.Test.YtlpmoklcdocmmaaEvG
namespace Go.Proofs.Ytlpmoklcdocmmaa
open Go.RowKit

theorem wrap_in (x : Int) : I64 (wrap64 x) := by unfold I64 wrap64; omega
theorem b2i_in (b : Bool) : I64 (b2i b) := by cases b <;> simp [b2i, I64]
theorem zero_in : I64 0 := by simp [I64]
theorem bits_in (op : BinOp) (x y : Int) : I64 (bits op .i64 x y) := by
  show I64 (IntKind.i64.wrap _)
  rw [IntKind.wrap_i64]
  unfold I64
  omega
theorem ite_in {p : Prop} [Decidable p] {a b : Int} (ha : I64 a) (hb : I64 b) : I64 (if p then a else b) := by
  by_cases h : p
  · rw [if_pos h]; exact ha
  · rw [if_neg h]; exact hb
theorem tmod_in {x : Int} (y : Int) (hx : I64 x) : I64 (x.tmod y) := by
  have h := Int.natAbs_tmod x y
  have h2 := Nat.mod_le x.natAbs y.natAbs
  unfold I64 at *
  rcases Int.le_total 0 x with h0 | h0
  · have h1 := Int.tmod_nonneg y h0
    omega
  · have h1 : x.tmod y = -((-x).tmod y) := by rw [Int.neg_tmod]; omega
    have h3 := Int.tmod_nonneg y (by omega : 0 ≤ -x)
    omega
theorem divV_in {op x y : Int} (hx : I64 x) : I64 (divV op x y) := by
  unfold divV
  split
  · exact zero_in
  · split
    · exact wrap_in _
    · exact tmod_in y hx
theorem applyV_in {k x y : Int} (hx : I64 x) : I64 (applyV k x y) := by
  unfold applyV
  exact ite_in (wrap_in _) (ite_in (wrap_in _) (ite_in (wrap_in _) (ite_in (divV_in hx) (ite_in (divV_in hx) (ite_in (bits_in _ _ _) (ite_in (bits_in _ _ _) (ite_in (bits_in _ _ _) (ite_in (b2i_in _) (ite_in (b2i_in _) (ite_in (b2i_in _) (ite_in (b2i_in _) (ite_in (b2i_in _) (ite_in (b2i_in _) (ite_in (b2i_in _) (ite_in (b2i_in _) zero_in)))))))))))))))
theorem unV_in (k x : Int) : I64 (unV k x) := by
  unfold unV
  exact ite_in (wrap_in _) (ite_in (b2i_in _) zero_in)

def EnvIn (env : Env) : Prop := ∀ c ∈ env, (∀ x ∈ c.2, I64 x) ∧ c.2.length ≤ 9223372036854775807
theorem look_in {env : Env} {s : ByteArray} {c : List Int} (h : EnvIn env) (hl : look env s = some c) : (∀ x ∈ c, I64 x) ∧ c.length ≤ 9223372036854775807 := by
  obtain ⟨k, x, h1, _⟩ := look_mem hl
  exact h _ (List.mem_of_getElem? h1)
theorem getD_in {c : List Int} (h : ∀ x ∈ c, I64 x) (i : Nat) : I64 (c.getD i 0) := by
  rw [List.getD_eq_getElem?_getD]
  cases hc : c[i]? with
  | none => exact zero_in
  | some x => exact h x (List.mem_of_getElem? hc)
theorem varV_in {env : Env} (h : EnvIn env) (k : Int) (s : ByteArray) (rs : List (Int × Int)) : I64 (varV env k s rs).1 := by
  unfold varV
  cases hl : look env s with
  | none => exact zero_in
  | some c =>
    obtain ⟨h1, h2⟩ := look_in h hl
    simp only
    split
    · split
      · exact getD_in h1 0
      · exact zero_in
    · split
      · split
        · exact zero_in
        · split
          · exact zero_in
          · split
            · exact zero_in
            · exact getD_in h1 _
      · split
        · split
          · exact zero_in
          · exact getD_in h1 _
        · simp only [I64]; omega
theorem evalT_in {env : Env} (h : EnvIn env) {w : World} : ∀ (t : T) (v : Value), NodeAt w v t → I64 (evalT env t).1 := by
  intro t
  induction t using T.ind with
  | h kd nm s ks ih =>
    intro v hv
    obtain ⟨u, -, -, hnm, -, hk⟩ := NodeAt.mk_iff.1 hv
    have hks : ∀ t ∈ ks, I64 (evalT env t).1 := fun t ht => by
      obtain ⟨i, hi, rfl⟩ := List.mem_iff_getElem.1 ht
      obtain ⟨a, c, rfl, _, _, hq⟩ := hk
      obtain ⟨g, o, rfl, _, hn⟩ := hq (by omega)
      obtain ⟨c0, c1, c2, c3, _, _, _, _, h4⟩ := hn.get i _ (List.getElem?_eq_getElem hi)
      exact ih _ ht _ h4
    rw [evalT]
    unfold evalN
    split
    · exact hnm
    · split
      · exact varV_in h kd s _
      · match ks, hks with
        | [], _ => exact zero_in
        | [x], hks =>
          rw [evalL, evalL]
          simp only
          split
          · exact zero_in
          · exact unV_in _ _
        | x :: y :: _, hks =>
          rw [evalL, evalL]
          simp only
          split
          · exact zero_in
          · split
            · exact zero_in
            · exact applyV_in (hks x (by simp))
theorem EnvAt.in_ {w : World} {v : Value} {env : Env} (h : EnvAt w v env) : EnvIn env := fun c hc => by
  obtain ⟨i, hi, rfl⟩ := List.mem_iff_getElem.1 hc
  obtain ⟨⟨a, cp, rfl, _, _, hq⟩, _⟩ := h
  obtain ⟨g, o, _, _, hn⟩ := hq (by omega)
  obtain ⟨_, u, _, ⟨⟨a', c', _, h1, h2, _⟩, h3⟩⟩ := hn i _ (List.getElem?_eq_getElem hi)
  exact ⟨h3, by unfold maxLen at h2; omega⟩
end Go.Proofs.Ytlpmoklcdocmmaa
