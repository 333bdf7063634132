/- The rows of the reference's Apply in memory: lens and parts. -/
import Derived.Test.YtpbbiidfahaamaaStX0
import Derived.Test.YtpbbiidfahaamaaStP2
import Derived.Test.YtpbbiidfahaamaaStN2
namespace Go.Proofs.Ytpbbiidfahaamaa
open Go.RowKit

theorem wpList_append_zeros {w : World} {ops : Array Oper} {rest : List Oper} {o : Oper} {a : Act} {Q : Exit → Act → World → Prop} (hgd : o.guard = none) (s x : Operand)
    (ho : o.op = .call { callee := .builtin .append, args := #[s, x], argTypes := #[23, 3] })
    (base : Nat) (v : Value) (n : Nat) (xs : List Value) (hs : a.eval s = v) (hown : w.ownsRow base 3 1 v n xs) (m : Nat) (hx : a.eval x = .int .i64 m) (h0 : 0 < m) (hm : m ≤ 1000000) (hn : n ≤ 1000000) (hbase : base ≤ w.heap.size)
    (h : ∀ v' w', w'.ownsRow base 3 1 v' (n + m) (xs ++ List.replicate m (.int .i64 0)) → w.grownBy w' v.ownBlock → wpList Try.prog ops Q rest (a.put o.dst v') w') : wpList Try.prog ops Q (o :: rest) a w := by
  refine wpList_plain hgd fun K hK => ?_
  obtain ⟨v', w', hr, h2, h3, h4⟩ := run_append_zeros w o.type base v n xs hown m h0 hm hn hbase
  unfold Oper.wp execOp
  simp only [ho, resolve, invoke, builtin, Sem.run_bind, Sem.run_pure, Result.andThen_ok, List.map_toArray, List.map_cons, List.map_nil, hs, hx, hr]
  exact hK _ _ (h v' w' h2 h3)

/-- the k-th component -/
def cellN (n k : Nat) : Int := if k < n then (k : Int) else (n : Int) - 1 - k
theorem cellN_mem {n k : Nat} (h : k < n + 2) : cellN n k ∈ comps n := by
  unfold cellN comps compsL
  rw [List.mem_append, List.mem_map]
  split
  · exact .inl ⟨k, List.mem_range.2 (by assumption), rfl⟩
  · right
    rcases (by omega : k = n ∨ k = n + 1) with rfl | rfl
    · simp; omega
    · simp; omega
/-- where a component lies -/
def idx (n : Nat) (c : Int) : Nat := if c < 0 then n + (-1 - c).toNat else c.toNat
theorem cellN_idx {n : Nat} {c : Int} (h : c ∈ comps n) : cellN n (idx n c) = c ∧ idx n c < n + 2 := by
  rcases comps_mem h with rfl | rfl | ⟨h0, h1⟩
  · have e : idx n (-1) = n := by unfold idx; simp
    rw [e]
    unfold cellN
    rw [if_neg (by omega)]
    omega
  · have e : idx n (-2) = n + 1 := by unfold idx; simp
    rw [e]
    unfold cellN
    rw [if_neg (by omega)]
    omega
  · have e : idx n c = c.toNat := by unfold idx; rw [if_neg (by omega)]
    rw [e]
    unfold cellN
    rw [if_pos (by omega)]
    omega
theorem idx_cellN {n k : Nat} : idx n (cellN n k) = k := by
  unfold cellN idx
  split
  · rw [if_neg (by omega)]; omega
  · rw [if_pos (by omega)]; omega

/-- an array out of a function -/
def arr (M : Nat) (f : Nat → Value) : Array Value := ((List.range M).map f).toArray
theorem arr_size (M : Nat) (f : Nat → Value) : (arr M f).size = M := by simp [arr]
theorem arr_get {M j : Nat} (f : Nat → Value) (h : j < M) : (arr M f)[j]? = some (f j) := by simp [arr, h]
theorem arr_set {M k : Nat} (f : Nat → Value) (v : Value) : (arr M f).setIfInBounds k v = arr M (fun j => if j = k then v else f j) := by
  apply Array.ext
  · simp [arr]
  · intro i h1 h2
    have hi : i < M := by simpa [arr] using h2
    rw [Array.getElem_setIfInBounds (by simpa [arr] using hi)]
    simp only [arr, List.getElem_toArray, List.getElem_map, List.getElem_range]
    by_cases e : k = i
    · rw [if_pos e, if_pos e.symm]
    · rw [if_neg e, if_neg (fun h => e h.symm)]
theorem arr_rep (M : Nat) (v : Value) : Array.replicate M v = arr M (fun _ => v) := by
  apply Array.ext
  · simp [arr]
  · intro i h1 h2
    simp [arr]
theorem arr_congr {M : Nat} {f g : Nat → Value} (h : ∀ j, j < M → f j = g j) : arr M f = arr M g := by
  unfold arr
  rw [List.map_congr_left (fun j hj => h j (List.mem_range.1 hj))]

/-- m rows of ints of the call's own, no two in one block -/
structure Parts (B : Nat) (w : World) (m : Nat) (vs : Nat → Value) (P : Nat → List Int) : Prop where
  row : ∀ j, j < m → ∃ g c, vs j = .slice (some ⟨g, 0, none⟩) (P j).length c ∧ IntsNew B w (vs j) (P j)
  apart : ∀ i j, i < m → j < m → i ≠ j → (vs i).ownBlock ≠ (vs j).ownBlock

theorem Parts.nil (B : Nat) (w : World) (vs : Nat → Value) (P : Nat → List Int) : Parts B w 0 vs P := ⟨fun j h => by omega, fun i j h => by omega⟩
theorem Parts.touch {S : Nat → Prop} {B m : Nat} {w w' : World} {vs : Nat → Value} {P : Nat → List Int} (h : Parts B w m vs P) (ht : Touch S w w') (hS : ∀ j, B ≤ j → j < w.heap.size → ¬ S j) : Parts B w' m vs P :=
  ⟨fun j hj => by
    obtain ⟨g, c, e, hv⟩ := h.row j hj
    exact ⟨g, c, e, ht.own hv (fun b hb => by
      have := World.ownsRow.lt hv b hb
      exact hS b this.1 this.2)⟩, h.apart⟩
theorem Parts.next {B m : Nat} {w w' : World} {vs : Nat → Value} {P : Nat → List Int} (h : Parts B w m vs P) (hb : Below w.heap.size w w') : Parts B w' m vs P :=
  h.touch (S := fun j => w.heap.size ≤ j) (Touch.of_below hb) (fun j _ h1 h2 => by omega)
theorem Parts.add {B m : Nat} {w w' : World} {vs : Nat → Value} {P : Nat → List Int} (h : Parts B w m vs P) (hb : Below w.heap.size w w') (hB : B ≤ w.heap.size) {v : Value} {l : List Int} {g c : Nat} (hv : v = .slice (some ⟨g, 0, none⟩) l.length c) (hn : IntsNew w.heap.size w' v l) :
    Parts B w' (m + 1) (fun j => if j = m then v else vs j) (fun j => if j = m then l else P j) := by
  have h' := h.next hb
  have hg : w.heap.size ≤ g := by
    have := World.ownsRow.lt hn g (by rw [hv]; rfl)
    exact this.1
  have hlt : ∀ j, j < m → ∀ b, (vs j).ownBlock = some b → b < w.heap.size := fun j hj b hb => by
    obtain ⟨g, c, e, hv⟩ := h.row j hj
    exact (World.ownsRow.lt hv b hb).2
  refine ⟨fun j hj => ?_, fun i j hi hj hne => ?_⟩
  · by_cases e : j = m
    · simp only [if_pos e]
      exact ⟨g, c, hv, own_mono hn hB⟩
    · simp only [if_neg e]
      exact h'.row j (by omega)
  · by_cases e1 : i = m
    · have e2 : j ≠ m := by omega
      simp only [if_pos e1, if_neg e2]
      intro he
      have := hlt j (by omega) g (by rw [← he, hv]; rfl)
      omega
    · by_cases e2 : j = m
      · simp only [if_neg e1, if_pos e2]
        intro he
        have := hlt i (by omega) g (by rw [he, hv]; rfl)
        omega
      · simp only [if_neg e1, if_neg e2]
        exact h.apart i j (by omega) (by omega) hne
theorem Parts.set {B m : Nat} {w : World} {vs : Nat → Value} {P : Nat → List Int} (h : Parts B w m vs P) {k g c : Nat} (hk : k < m) (hv : vs k = .slice (some ⟨g, 0, none⟩) (P k).length c) (i : Nat) (x : Int) :
    Parts B (w.setCell ⟨g, i, none⟩ (.int .i64 x)) m vs (fun j => if j = k then (P k).set i x else P j) := by
  refine ⟨fun j hj => ?_, h.apart⟩
  obtain ⟨g', c', e, hn⟩ := h.row j hj
  by_cases ej : j = k
  · subst ej
    simp only [if_pos]
    rw [hv] at hn ⊢
    exact ⟨g, c, by rw [List.length_set], ints_set hn i x⟩
  · simp only [if_neg ej]
    refine ⟨g', c', e, (Touch.of_set w g i (.int .i64 x)).own hn (fun b hb he => ?_)⟩
    exact h.apart j k hj hk ej (by rw [hb, hv, he]; rfl)
theorem Parts.get {B m : Nat} {w : World} {vs : Nat → Value} {P : Nat → List Int} (h : Parts B w m vs P) {k : Nat} (hk : k < m) : ∃ g c, vs k = .slice (some ⟨g, 0, none⟩) (P k).length c ∧ (P k).length ≤ c ∧ B ≤ g ∧ g < w.heap.size ∧
    (∀ i, i < (P k).length → w.cell? ⟨g, i, none⟩ = some (.int .i64 ((P k).getD i 0))) ∧ (∀ i, w.frozen? ⟨g, i, none⟩ = false) ∧ IntsNew B w (.slice (some ⟨g, 0, none⟩) (P k).length c) (P k) := by
  obtain ⟨g, c, e, hn⟩ := h.row k hk
  rw [e] at hn
  have hlt := World.ownsRow.lt hn g rfl
  refine ⟨g, c, e, ?_, hlt.1, hlt.2, fun i hi => ?_, fun i => hn.frozenAt i, hn⟩
  · rcases hn.2 with ⟨h0, _⟩ | ⟨g', cap, cur, he, _, _, hc, _⟩
    · cases h0
    · injection he with _ _ e3
      omega
  · have := hn.cellAt i (by omega)
    rw [this, List.getD_eq_getElem?_getD, List.getElem?_eq_getElem hi]
    simp [intsV, hi]
end Go.Proofs.Ytpbbiidfahaamaa
