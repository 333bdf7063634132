/- The walk of weights. -/
import Derived.Test.YtklbaocgjegdfaaEnA2
namespace Go.Proofs.Ytklbaocgjegdfaa
open Go.RowKit Go.Shelf

/-- the row of weights, filled from place i on -/
def wArr (h : Int) (B : List Bd) (i : Nat) : Array Value := arr ((B.length + 1) * 2) fun j => if j / 2 < i then .int .i64 0 else if j % 2 = 0 then .int .i64 (rwP h (B.drop (j / 2))).lo else .int .i64 (rwP h (B.drop (j / 2))).hi
theorem rwP_drop {h : Int} {B : List Bd} {i : Nat} {b : Bd} (hb : B[i]? = some b) : rwP h (B.drop i) = ⟨(rwP h (B.drop (i + 1))).lo + b.lo, (rwP h (B.drop (i + 1))).hi + b.hi * h⟩ := by
  have hc : i < B.length := (List.getElem?_eq_some_iff.1 hb).1
  have hd : B.drop i = b :: B.drop (i + 1) := by
    rw [List.drop_eq_getElem_cons hc]
    congr 1
    exact (List.getElem?_eq_some_iff.1 hb).2
  rw [hd]
  rfl
theorem bdInfo : (Try.prog.info? 62).map (fun i => (i.zero, i.size, i.bytes)) = some (some (.agg #[.int .i64 0, .int .i64 0]), 2, 16) := by kernel_rfl
theorem make_bds (m : Nat) (hm : m ≤ 1000000) (W : World) :
    (Instr.makeSlice 57 (.int .i64 (m : Int)) (.int .i64 (m : Int))).run Try.prog W = .ok (.slice (some ⟨W.heap.size, 0, none⟩) m m) (W.alloc (.cells (madeCells (Value.cells (.agg #[.int .i64 0, .int .i64 0])) (m * 2)) 62)) := by
  obtain ⟨i0, hi, hz0, hz1, hz2⟩ := info_parts bdInfo
  have h := run_make (P := Try.prog) W 57 62 i0 (.agg #[.int .i64 0, .int .i64 0]) Try.underlying57 hi hz0 .i64 .i64 m m (by omega) (Int.le_refl _) (by rw [hz2]; omega) (by omega)
  simp only [Int.toNat_natCast] at h
  rw [h, hz1]
theorem made_bds (B : List Bd) (h : Int) : madeCells (Value.cells (.agg #[.int .i64 0, .int .i64 0])) ((B.length + 1) * 2) = wArr h B B.length := by
  apply Array.ext
  · simp [size_madeCells, wArr, arr]
  · intro i h1 h2
    have hi : i < (B.length + 1) * 2 := by simpa [wArr, arr] using h2
    simp only [wArr, arr, List.getElem_toArray, List.getElem_map, List.getElem_range, madeCells, Array.getElem_map, Array.getElem_range, Value.cells]
    have hd : B.drop B.length = [] := List.drop_length
    rcases (by omega : i % 2 = 0 ∨ i % 2 = 1) with e | e
    · by_cases hl : i / 2 < B.length
      · rw [if_pos hl]; simp [e]
      · have e2 : i / 2 = B.length := by omega
        rw [if_neg hl, if_pos e, e2, hd]; simp [e, rwP]
    · by_cases hl : i / 2 < B.length
      · rw [if_pos hl]; simp [e]
      · have e2 : i / 2 = B.length := by omega
        rw [if_neg hl, if_neg (by omega), e2, hd]; simp [e, rwP]
theorem wArr_get {h : Int} {B : List Bd} {i j : Nat} (hi : i ≤ j) (hj : j ≤ B.length) : (wArr h B i)[j * 2]? = some (.int .i64 (rwP h (B.drop j)).lo) ∧ (wArr h B i)[j * 2 + 1]? = some (.int .i64 (rwP h (B.drop j)).hi) := by
  unfold wArr
  rw [arr_get _ (by omega), arr_get _ (by omega)]
  have e1 : j * 2 / 2 = j := by omega
  have e2 : (j * 2 + 1) / 2 = j := by omega
  have e3 : ¬ j < i := by omega
  have e4 : j * 2 % 2 = 0 := by omega
  have e5 : ¬ (j * 2 + 1) % 2 = 0 := by omega
  simp only [e1, e2, if_neg e3, if_pos e4, if_neg e5]
  exact ⟨trivial, trivial⟩
theorem wArr_set {h : Int} {B : List Bd} {i : Nat} : ((wArr h B (i + 1)).setIfInBounds (i * 2) (.int .i64 (rwP h (B.drop i)).lo)).setIfInBounds (i * 2 + 1) (.int .i64 (rwP h (B.drop i)).hi) = wArr h B i := by
  unfold wArr
  rw [arr_set, arr_set]
  apply arr_congr
  intro j hj
  by_cases e1 : j = i * 2 + 1
  · rw [if_pos e1, if_neg (by omega), if_neg (by omega)]
    have : j / 2 = i := by omega
    rw [this]
  · rw [if_neg e1]
    by_cases e2 : j = i * 2
    · rw [if_pos e2, if_neg (by omega), if_pos (by omega)]
      have : j / 2 = i := by omega
      rw [this]
    · rw [if_neg e2]
      by_cases e3 : j / 2 < i + 1
      · rw [if_pos e3, if_pos (by omega)]
      · have e4 : ¬ j / 2 < i := by omega
        simp only [if_neg e3, if_neg e4]
end Go.Proofs.Ytklbaocgjegdfaa
