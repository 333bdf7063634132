/- The reference's checks are those of Apply. -/
import Derived.Test.YtpbbiidfahaamaaStX3
namespace Go.Proofs.Ytpbbiidfahaamaa
open Go.RowKit

theorem comps_iff {n : Nat} {c : Int} : c ∈ comps n ↔ -2 ≤ c ∧ c < n := by
  constructor
  · intro h
    rcases comps_mem h with rfl | rfl | h <;> omega
  · intro ⟨h1, h2⟩
    rcases (by omega : c = -1 ∨ c = -2 ∨ 0 ≤ c) with rfl | rfl | h
    · exact comps_in n
    · exact comps_out n
    · obtain ⟨i, rfl⟩ := Int.eq_ofNat_of_zero_le h
      exact comps_cell (by omega)

theorem step_range {n : Nat} {F : Int → Sq} {c : Chg} (h : c.cell < -2 ∨ n ≤ c.cell ∨ c.pos < -1 ∨ 4096 ≤ c.pos ∨ c.pos = -1 ∧ (c.new < 0 ∨ 4096 < c.new)) : (stepP n F c).1 = 2 := by
  unfold stepP
  by_cases hm : c.cell ∈ comps n
  · rw [if_pos hm]
    have := comps_iff.1 hm
    show (chgP c (F c.cell)).1 = 2
    unfold chgP
    by_cases h1 : c.pos < -1 ∨ 4096 ≤ c.pos
    · rw [if_pos h1]
    · rw [if_neg h1, if_pos (by omega), if_pos (by omega)]
  · rw [if_neg hm]
theorem step_len {n : Nat} {F : Int → Sq} {c : Chg} (h1 : -2 ≤ c.cell) (h2 : c.cell < n) (h3 : c.pos = -1) (h4 : 0 ≤ c.new) (h5 : c.new ≤ 4096) :
    (c.old ≠ (F c.cell).len → (stepP n F c).1 = 20) ∧ (c.old = (F c.cell).len → stepP n F c = (0, upd F c.cell ⟨c.new, (F c.cell).els⟩)) := by
  have hm : c.cell ∈ comps n := comps_iff.2 ⟨h1, h2⟩
  refine ⟨fun h => ?_, fun h => ?_⟩
  · unfold stepP
    rw [if_pos hm]
    show (chgP c (F c.cell)).1 = 20
    unfold chgP
    rw [if_neg (by omega), if_pos h3, if_neg (by omega), if_pos h]
  · have := chg_len h3 h4 h5 h
    rw [step_ok hm (by rw [this]), this]
theorem step_els {n : Nat} {F : Int → Sq} {c : Chg} (h1 : -2 ≤ c.cell) (h2 : c.cell < n) (h3 : 0 ≤ c.pos) (h4 : c.pos < 4096) :
    (c.old ≠ (F c.cell).els.getD c.pos.toNat 0 → (stepP n F c).1 = 20) ∧ (c.old = (F c.cell).els.getD c.pos.toNat 0 → (stepP n F c).1 = 0 ∧ ((stepP n F c).2 c.cell).len = (F c.cell).len ∧
      (∀ i, ((stepP n F c).2 c.cell).els.getD i 0 = if i = c.pos.toNat then c.new else (F c.cell).els.getD i 0) ∧ ∀ d, d ≠ c.cell → (stepP n F c).2 d = F d) := by
  have hm : c.cell ∈ comps n := comps_iff.2 ⟨h1, h2⟩
  refine ⟨fun h => ?_, fun h => ?_⟩
  · unfold stepP
    rw [if_pos hm]
    show (chgP c (F c.cell)).1 = 20
    unfold chgP
    rw [if_neg (by omega), if_neg (by omega), if_pos h]
  · obtain ⟨k1, k2, k3⟩ := chg_els h3 h4 h
    rw [step_ok hm k1]
    refine ⟨rfl, ?_, fun i => ?_, fun d hd => upd_ne hd _⟩
    · simp only [upd_self]; exact k2
    · simp only [upd_self]; exact k3 i

theorem apply_fail {s : St} {F : Int → Sq} {C : List Chg} {j : Nat} {x : Chg} (h : runL s.cells.length (seq0 s) (C.take j) = (0, F)) (hx : C[j]? = some x) {e : Nat} (h0 : (stepP s.cells.length F x).1 = e) (he : e ≠ 0) : applyP s C = (e, st0) := by
  have := run_fail h hx (by rw [h0]; exact he)
  unfold applyP
  rw [if_neg (by rw [this, h0]; exact he), this, h0]
theorem apply_bad {s : St} {F : Int → Sq} {C : List Chg} (h : runL s.cells.length (seq0 s) C = (0, F)) {k : Nat} (hk : k < s.cells.length + 2) (hn : okC F (cellN s.cells.length k) = false) : applyP s C = (20, st0) := by
  unfold applyP
  rw [h, if_pos rfl]
  unfold finP
  rw [if_neg]
  intro ha
  rw [List.all_eq_true] at ha
  have := ha _ (cellN_mem hk)
  rw [hn] at this
  cases this
theorem apply_good {s : St} {F : Int → Sq} {C : List Chg} (h : runL s.cells.length (seq0 s) C = (0, F)) (ho : ∀ k, k < s.cells.length + 2 → okC F (cellN s.cells.length k) = true) :
    applyP s C = (0, ⟨(compsL s.cells.length).map (outC F), (outC F (-1)).reverse, outC F (-2)⟩) := by
  unfold applyP
  rw [h, if_pos rfl]
  unfold finP
  rw [if_pos]
  rw [List.all_eq_true]
  intro c hc
  obtain ⟨h1, h2⟩ := cellN_idx hc
  rw [← h1]
  exact ho _ h2

/-- what list gives of a sequence like that one -/
theorem ok_yes {q : Sq} {ln : Int} {P : List Int} (h : Eqv ⟨ln, P⟩ q) {m : Nat} (hm : ln = m) (hl : m ≤ P.length) (hz : ∀ i, m ≤ i → i < P.length → P.getD i 0 = 0) : sqOut q = some (P.take m) := by
  refine sqOut_of (h.symm.trans ⟨?_, fun i => ?_⟩)
  · show ln = ((P.take m).length : Int)
    rw [List.length_take, hm]
    omega
  · show P.getD i 0 = (P.take m).getD i 0
    rcases Nat.lt_or_ge i m with h1 | h1
    · rw [List.getD_eq_getElem?_getD, List.getD_eq_getElem?_getD, List.getElem?_take_of_lt h1]
    · rw [List.getD_eq_getElem?_getD (l := List.take m P), List.getElem?_eq_none (l := List.take m P) (by rw [List.length_take]; omega)]
      rcases Nat.lt_or_ge i P.length with h2 | h2
      · exact hz i h1 h2
      · rw [List.getD_eq_getElem?_getD, List.getElem?_eq_none h2]
theorem ok_no {q : Sq} {ln : Int} {P : List Int} (h : Eqv ⟨ln, P⟩ q) {m : Nat} (hm : ln = m) {i : Nat} (hi : m ≤ i) (hz : P.getD i 0 ≠ 0) : sqOut q = none := by
  cases hs : sqOut q with
  | none => rfl
  | some l =>
    have h0 : 0 ≤ q.len := by rw [← h.1]; show 0 ≤ ln; omega
    have := sqOut_eqv hs h0
    have e1 := this.1
    rw [← h.1] at e1
    have e2 := this.2 i
    rw [← h.2] at e2
    simp only at e1 e2
    rw [List.getD_eq_getElem?_getD (l := l), List.getElem?_eq_none (l := l) (by omega)] at e2
    exact absurd e2 hz
theorem part_eqv (s : St) (c : Int) : Eqv ⟨((part s c).length : Nat), part s c ++ List.replicate 4096 0⟩ (seq0 s c) := by
  refine ⟨rfl, fun i => ?_⟩
  show (part s c ++ List.replicate 4096 0).getD i 0 = (part s c).getD i 0
  rw [List.getD_eq_getElem?_getD, List.getD_eq_getElem?_getD]
  rcases Nat.lt_or_ge i (part s c).length with h | h
  · rw [List.getElem?_append_left h]
  · rw [List.getElem?_append_right h, List.getElem?_eq_none h, List.getElem?_replicate]
    split <;> rfl

/-- the rows of the reference are the sequences -/
structure Like (n : Nat) (ln : Nat → Int) (P : Nat → List Int) (F : Int → Sq) : Prop where
  eqv : ∀ k, k < n + 2 → Eqv ⟨ln k, P k⟩ (F (cellN n k))
  lo : ∀ k, k < n + 2 → 0 ≤ ln k
  hi : ∀ k, k < n + 2 → ln k ≤ 4096
  plo : ∀ k, k < n + 2 → 4096 ≤ (P k).length
  phi : ∀ k, k < n + 2 → (P k).length ≤ 5000
  i64 : ∀ k, k < n + 2 → ∀ x ∈ P k, I64 x

theorem Like.start {s : St} (hs : Big s) (hp : ∀ c, (part s c).length ≤ 60) : Like s.cells.length (fun k => ((part s (cellN s.cells.length k)).length : Nat)) (fun k => part s (cellN s.cells.length k) ++ List.replicate 4096 0) (seq0 s) where
  eqv k _ := part_eqv s _
  lo k _ := Int.natCast_nonneg _
  hi k _ := by have := hp (cellN s.cells.length k); omega
  plo k _ := by rw [List.length_append, List.length_replicate]; omega
  phi k _ := by have := hp (cellN s.cells.length k); rw [List.length_append, List.length_replicate]; omega
  i64 k _ x hx := by
    rcases List.mem_append.1 hx with h | h
    · exact part_i64 hs.2.2 _ x h
    · rw [(List.mem_replicate.1 h).2]; exact ⟨by decide, by decide⟩

theorem idx_inj {n k : Nat} {c : Int} (h : cellN n k = c) : k = idx n c := by rw [← h, idx_cellN]

theorem Like.len {n : Nat} {ln : Nat → Int} {P : Nat → List Int} {F : Int → Sq} (h : Like n ln P F) {c : Chg} (h1 : -2 ≤ c.cell) (h2 : c.cell < n) (h4 : 0 ≤ c.new) (h5 : c.new ≤ 4096) :
    Like n (fun j => if j = idx n c.cell then c.new else ln j) P (upd F c.cell ⟨c.new, (F c.cell).els⟩) := by
  obtain ⟨k1, k2⟩ := cellN_idx (comps_iff.2 ⟨h1, h2⟩)
  refine ⟨fun k hk => ?_, fun k hk => ?_, fun k hk => ?_, h.plo, h.phi, h.i64⟩
  · by_cases e : k = idx n c.cell
    · subst e
      rw [if_pos rfl, k1, upd_self]
      have := h.eqv _ hk
      rw [k1] at this
      exact ⟨rfl, this.2⟩
    · rw [if_neg e, upd_ne (fun h => e (idx_inj h))]
      exact h.eqv k hk
  · split
    · exact h4
    · exact h.lo k hk
  · split
    · exact h5
    · exact h.hi k hk
theorem Like.els {n : Nat} {ln : Nat → Int} {P : Nat → List Int} {F G : Int → Sq} (h : Like n ln P F) {c : Chg} (h1 : -2 ≤ c.cell) (h2 : c.cell < n) (h3 : 0 ≤ c.pos) (h4 : c.pos < 4096) (hf : c.Fits)
    (hG : (G c.cell).len = (F c.cell).len ∧ (∀ i, (G c.cell).els.getD i 0 = if i = c.pos.toNat then c.new else (F c.cell).els.getD i 0) ∧ ∀ d, d ≠ c.cell → G d = F d) :
    Like n ln (fun j => if j = idx n c.cell then (P (idx n c.cell)).set c.pos.toNat c.new else P j) G := by
  obtain ⟨k1, k2⟩ := cellN_idx (comps_iff.2 ⟨h1, h2⟩)
  obtain ⟨g1, g2, g3⟩ := hG
  refine ⟨fun k hk => ?_, h.lo, h.hi, fun k hk => ?_, fun k hk => ?_, fun k hk => ?_⟩
  · by_cases e : k = idx n c.cell
    · subst e
      rw [if_pos rfl, k1]
      have := h.eqv _ hk
      rw [k1] at this
      refine ⟨this.1.trans g1.symm, fun i => ?_⟩
      rw [g2, ← this.2]
      exact set_get _ _ _ (by have := h.plo _ hk; omega) i
    · rw [if_neg e, g3 _ (fun h => e (idx_inj h))]
      exact h.eqv k hk
  · split
    · rw [List.length_set]; exact h.plo _ k2
    · exact h.plo k hk
  · split
    · rw [List.length_set]; exact h.phi _ k2
    · exact h.phi k hk
  · split
    · intro x hx
      rcases List.mem_or_eq_of_mem_set hx with h5 | h5
      · exact h.i64 _ k2 x h5
      · rw [h5]; exact hf.2.2.2
    · exact h.i64 k hk
end Go.Proofs.Ytpbbiidfahaamaa
