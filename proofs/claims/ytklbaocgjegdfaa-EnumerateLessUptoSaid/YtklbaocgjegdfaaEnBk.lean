/- A state that came in: how much it holds, where its bulk is bounded. -/
import Derived.Test.YtklbaocgjegdfaaRows
import Derived.Test.YtklbaocgjegdfaaEnX7
namespace Go.Proofs.Ytklbaocgjegdfaa
open Go.RowKit Go.ChangeShapes Go.WideShapes Go.Deep

theorem bulk_one {H : Type} (d : DataW H) : 1 ≤ Rows.uptoBulk d := by
  cases d with
  | lit l => cases l <;> simp [Rows.uptoBulk]
  | nil => simp [Rows.uptoBulk]
  | ptr d => simp [Rows.uptoBulk]
  | slice elems spare => simp [Rows.uptoBulk]
  | agg parts => simp [Rows.uptoBulk]
  | iface t d => simp [Rows.uptoBulk]
  | map entries => simp [Rows.uptoBulk]
  | held h => simp [Rows.uptoBulk]
theorem bulk_len {H : Type} (l : List (DataW H)) : l.length ≤ Rows.uptoBulkAll l := by
  induction l with
  | nil => simp [Rows.uptoBulkAll]
  | cons x r ih => have := bulk_one x; simp only [Rows.uptoBulkAll, List.length_cons]; omega
theorem bulk_slice {H : Type} (elems spare : List (DataW H)) : Rows.uptoBulkAll elems + 1 ≤ Rows.uptoBulk (.slice elems spare) := by
  simp only [Rows.uptoBulk]; omega
theorem bulk_part {H : Type} {d : DataW H} {l : List (DataW H)} (h : d ∈ l) : Rows.uptoBulk d ≤ Rows.uptoBulkAll l := by
  induction l with
  | nil => cases h
  | cons x r ih =>
    simp only [Rows.uptoBulkAll]
    rcases List.mem_cons.1 h with e | e
    · subst e; omega
    · have := ih e; omega
theorem bulk_append {H : Type} (l r : List (DataW H)) : Rows.uptoBulkAll (l ++ r) = Rows.uptoBulkAll l + Rows.uptoBulkAll r := by
  induction l with
  | nil => simp [Rows.uptoBulkAll]
  | cons x l ih => simp only [List.cons_append, Rows.uptoBulkAll, ih]; omega
theorem sumN_bulk {H : Type} (D : Nat → DataW H) : ∀ (L : List (List Int)), (∀ (i : Nat) (l : List Int), L[i]? = some l → l.length + 1 ≤ Rows.uptoBulk (D i)) → sumN L ≤ Rows.uptoBulkAll ((List.range L.length).map D) := by
  intro L
  induction L using snoc_ind with
  | h0 => intro _; simp [sumN]
  | h1 L a ih =>
    intro h
    have h1 := ih (fun i l hl => h i l (by rw [List.getElem?_append_left (List.getElem?_eq_some_iff.1 hl).1]; exact hl))
    have h2 := h L.length a (by simp)
    rw [List.length_append, List.length_singleton, List.range_succ, List.map_append, bulk_append]
    simp only [List.map_cons, List.map_nil, Rows.uptoBulkAll]
    have e : sumN (L ++ [a]) = sumN L + (a.length + 1) := by simp [sumN]
    rw [e]
    omega

section
variable {H : Type} {enc : TypeId × Value → H} {w : World} {sp : Nat → Bool} {held : Bool} {base : Nat}
theorem ints_bulk {fuel : Nat} {v : Value} {x : DataW H × List MemPlace} (h : DataW.trod enc Try.prog w base sp held fuel 33 [v] = some x) {l : List Int} (hl : IntsAt w v l) : l.length + 1 ≤ Rows.uptoBulk x.1 := by
  obtain ⟨⟨a0, c0, e0, -, -, -⟩, -⟩ := hl
  rcases open_slice1 Try.underlying33 cellsInt h with ⟨hcs, _⟩ | ⟨a, len, cap, m, n', V, D, Pl, hcs, _, _, _, _, hy, _⟩
  · simp at hcs
    rw [e0] at hcs
    injection hcs with _ e1
    have := bulk_one x.1
    omega
  · simp at hcs
    rw [e0] at hcs
    injection hcs with _ e1
    rw [hy]
    have h1 := bulk_slice ((List.range len).map D) ((List.range (m - len)).map fun j => D (len + j))
    have h2 := bulk_len ((List.range len).map D)
    rw [List.length_map, List.length_range] at h2
    simp only
    omega
theorem rows_bulk {fuel : Nat} {v : Value} {x : DataW H × List MemPlace} (h : DataW.trod enc Try.prog w base sp held fuel 32 [v] = some x) {L : List (List Int)} (hL : RowsAt w v L) : sumN L + 1 ≤ Rows.uptoBulk x.1 := by
  obtain ⟨a0, c0, e0, -, -, hq⟩ := hL
  rcases open_slice1 Try.underlying32 cellsInts h with ⟨hcs, _⟩ | ⟨a, len, cap, m, n', V, D, Pl, hcs, _, hl, hm, hmm, hy, hi⟩
  · simp at hcs
    rw [e0] at hcs
    injection hcs with _ e1
    have h0 : L = [] := List.eq_nil_of_length_eq_zero e1
    have := bulk_one x.1
    rw [h0]
    simpa [sumN] using this
  · simp at hcs
    rw [e0] at hcs
    injection hcs with ea e1
    rw [hy]
    have h1 := bulk_slice ((List.range len).map D) ((List.range (m - len)).map fun j => D (len + j))
    have hlm : len ≤ m := by rw [hmm]; split <;> omega
    have h2 := sumN_bulk D L (fun i l hl' => by
      have hil : i < L.length := (List.getElem?_eq_some_iff.1 hl').1
      obtain ⟨g, o, e2, -, hr⟩ := hq (by omega)
      obtain ⟨u, hu, hui⟩ := hr i l hl'
      obtain ⟨c1, c2⟩ := hi i (by omega)
      rw [ea] at e2
      injection e2 with e2
      rw [e2, Go.WideShapes.add_plain, hu] at c1
      injection c1 with c1
      rw [← c1] at c2
      exact ints_bulk c2 hui)
    rw [e1] at h2
    simp only
    omega
theorem st_bulk {r : Reach} {b0 : Nat} {v : Value} {d : DataW H} {p : List MemPlace} (hv : Value.okWide Try.prog w r b0 35 v) (h : DataW.Trod enc Try.prog w base sp held 35 v d p) (hz : Rows.uptoBulk d ≤ 1048576) :
    ∃ s, StAt w v s ∧ (s.cells.length + 2) * 24 ≤ 140737488355328 ∧ sumN (listsS s) ≤ 1099511627776 := by
  obtain ⟨v0, v1, v2, y0, y1, y2, n, rfl, rfl, _, h0, h1, h2⟩ := Joins.open_agg3 Try.underlying35 (by kernel_rfl) cellsSt hv h
  obtain ⟨L, hL⟩ := rows_open h0
  obtain ⟨l1, hl1⟩ := ints_open h1
  obtain ⟨l2, hl2⟩ := ints_open h2
  have b1 := rows_bulk h0 hL
  have b2 := ints_bulk h1 hl1
  have b3 := ints_bulk h2 hl2
  simp only [Rows.uptoBulk, Rows.uptoBulkAll] at hz
  have e : sumN (listsS ⟨L, l1, l2⟩) = sumN L + ((l1.length + 1) + (l2.length + 1)) := by simp [sumN, listsS]
  have hle : L.length ≤ sumN L := by
    unfold sumN
    have : ∀ (l : List (List Int)), l.length ≤ (l.map fun l => l.length + 1).sum := fun l => by
      induction l with
      | nil => simp
      | cons a l ih => simp only [List.length_cons, List.map_cons, List.sum_cons]; omega
    exact this L
  refine ⟨⟨L, l1, l2⟩, ⟨v0, v1, v2, rfl, hL, hl1, hl2⟩, ?_, ?_⟩
  · simp only; omega
  · rw [e]; omega
end
end Go.Proofs.Ytklbaocgjegdfaa
