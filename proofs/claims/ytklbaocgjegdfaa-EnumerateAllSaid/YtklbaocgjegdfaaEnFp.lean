/- Which states a small box holds: EnumerateFits's law, plain. -/
import Derived.Test.YtklbaocgjegdfaaEnBx
import Derived.Test.YtklbaocgjegdfaaEnX5
namespace Go.Proofs.Ytklbaocgjegdfaa

theorem inBox_get {h : Int} : ∀ {B : List Bd} {X : List (List Int)}, inBox h B X ↔ X.length = B.length ∧ ∀ (i : Nat) (b : Bd) (l : List Int), B[i]? = some b → X[i]? = some l → b.lo ≤ l.length ∧ (l.length : Int) ≤ b.hi ∧ ∀ y ∈ l, rankP y < h := by
  intro B
  induction B with
  | nil =>
    intro X
    cases X with
    | nil => exact ⟨fun _ => ⟨rfl, fun i b l hb => by simp at hb⟩, fun _ => trivial⟩
    | cons a X => exact ⟨fun h => h.elim, fun h => by simp at h⟩
  | cons b B ih =>
    intro X
    cases X with
    | nil => exact ⟨fun h => h.elim, fun h => by simp at h⟩
    | cons a X =>
      constructor
      · rintro ⟨h1, h2⟩
        obtain ⟨i1, i2⟩ := ih.1 h2
        refine ⟨by simp [i1], fun i c l hc hl => ?_⟩
        cases i with
        | zero =>
          simp only [List.getElem?_cons_zero, Option.some.injEq] at hc hl
          subst hc hl
          exact h1
        | succ i =>
          simp only [List.getElem?_cons_succ] at hc hl
          exact i2 i c l hc hl
      · rintro ⟨h1, h2⟩
        refine ⟨h2 0 b a rfl rfl, ih.2 ⟨by simpa using h1, fun i c l hc hl => h2 (i + 1) c l hc hl⟩⟩
theorem fitAll_get {D : List Decl} {L : List (List Int)} : fitAll D L = true ↔ ∀ (i : Nat) (d : Decl) (l : List Int), D[i]? = some d → L[i]? = some l → fitD d l.length = true := by
  unfold fitAll
  rw [List.all_eq_true]
  constructor
  · intro h i d l hd hl
    exact h (d, l) (List.mem_of_getElem? (i := i) (by rw [List.getElem?_zip_eq_some]; exact ⟨hd, hl⟩))
  · intro h p hp
    obtain ⟨i, hi⟩ := List.getElem?_of_mem hp
    rw [List.getElem?_zip_eq_some] at hi
    exact h i p.1 p.2 hi.1 hi.2
theorem lensP_low {D : List Decl} {le inp : Int} {i : Nat} {d : Decl} (h : D[i]? = some d) : (lensP D le inp)[i]? = some (lenD le d) := by
  unfold lensP
  rw [List.getElem?_append_left (by simpa using (List.getElem?_eq_some_iff.1 h).1), List.getElem?_map, h]
  rfl
theorem lensP_top (D : List Decl) (le inp : Int) : (lensP D le inp)[D.length]? = some ⟨0, inp⟩ := by
  unfold lensP
  rw [List.getElem?_append_right (by simp)]
  simp

/-- one list is as the box wants it -/
def rowOk (D : List Decl) (v le : Nat) (i : Nat) (l : List Int) : Prop := (∀ x ∈ l, -(v : Int) ≤ x ∧ x ≤ v) ∧ (D.length ≤ i ∨ (∀ d, D[i]? = some d → d.kind ≠ 3) ∨ l.length ≤ le)
def base0 (D : List Decl) (inp : Nat) (s : St) : Prop := s.out.length = 0 ∧ s.inp.length ≤ inp ∧ fitsB D s = true

theorem inside_iff {D : List Decl} {v le inp : Nat} (h : SmallP D v le inp) (s : St) : (base0 D inp s ∧ ∀ (i : Nat) (l : List Int), (s.cells ++ [s.inp])[i]? = some l → rowOk D v le i l) ↔ s ∈ stsP D v le inp := by
  obtain ⟨C, I, O⟩ := s
  have hvb : D.length ≤ 32 ∧ ∀ d ∈ D, validD d = true := by
    have := h.val
    unfold validB at this
    rw [Bool.and_eq_true, decide_eq_true_eq, List.all_eq_true] at this
    exact this
  constructor
  · rintro ⟨⟨ho, hi, hf⟩, hr⟩
    have hO : O = [] := List.eq_nil_of_length_eq_zero ho
    subst hO
    unfold fitsB at hf
    simp only [Bool.and_eq_true, decide_eq_true_eq] at hf
    obtain ⟨⟨⟨⟨-, hc⟩, -⟩, -⟩, hfa⟩ := hf
    refine List.mem_map.2 ⟨C ++ [I], h.mem.2 (inBox_get.2 ⟨by rw [lensP_len]; simp [hc], fun i b l hb hl => ?_⟩), ?_⟩
    · have hro := hr i l hl
      refine ⟨?_, ?_, fun y hy => rank_lt.2 (hro.1 y hy)⟩ <;> rcases Nat.lt_or_ge i D.length with hlt | hge
      · obtain ⟨d, hd⟩ : ∃ d, D[i]? = some d := ⟨_, List.getElem?_eq_getElem hlt⟩
        rw [lensP_low hd] at hb
        injection hb with hb
        rw [List.getElem?_append_left (by omega)] at hl
        have := fitAll_get.1 hfa i d l hd hl
        subst hb
        unfold lenD
        unfold fitD at this
        split at this
        · rename_i hk; rw [if_pos hk]; simp
        · rename_i hk; rw [if_neg hk]; simp at this; simp only; omega
      · have e : i = D.length := by
          have := (List.getElem?_eq_some_iff.1 hl).1
          simp at this
          omega
        subst e
        rw [lensP_top] at hb
        injection hb with hb
        subst hb
        simp
      · obtain ⟨d, hd⟩ : ∃ d, D[i]? = some d := ⟨_, List.getElem?_eq_getElem hlt⟩
        rw [lensP_low hd] at hb
        injection hb with hb
        rw [List.getElem?_append_left (by omega)] at hl
        have := fitAll_get.1 hfa i d l hd hl
        subst hb
        unfold lenD
        unfold fitD at this
        split at this
        · rename_i hk
          rw [if_pos hk]
          rcases hro.2 with h1 | h1 | h1
          · omega
          · exact absurd hk (h1 d hd)
          · simp only; omega
        · rename_i hk; rw [if_neg hk]; simp at this; simp only; omega
      · have e : i = D.length := by
          have := (List.getElem?_eq_some_iff.1 hl).1
          simp at this
          omega
        subst e
        rw [lensP_top] at hb
        injection hb with hb
        subst hb
        rw [List.getElem?_append_right (by omega), hc, Nat.sub_self] at hl
        simp only [List.getElem?_cons_zero, Option.some.injEq] at hl
        subst hl
        simp only at hi ⊢
        omega
    · simp [mkSt]
  · intro hm
    obtain ⟨X, hX, hXs⟩ := List.mem_map.1 hm
    have hlen := h.len hX
    have hb := (inBox_get.1 (h.mem.1 hX)).2
    have hne : X ≠ [] := by rintro rfl; simp at hlen
    have hXe : X = C ++ [I] := by
      have e := List.dropLast_concat_getLast hne
      have e2 : X.getLastD [] = X.getLast hne := by rw [List.getLastD_eq_getLast?, List.getLast?_eq_some_getLast hne]; rfl
      unfold mkSt at hXs
      injection hXs with a1 a2 a3
      rw [← a1, ← a2, e2]
      exact e.symm
    have hO : O = [] := by
      unfold mkSt at hXs
      injection hXs with a1 a2 a3
      exact a3.symm
    subst hXe hO
    have hc : C.length = D.length := by simpa using hlen
    have htop := hb D.length _ I (lensP_top D le inp) (by rw [List.getElem?_append_right (by omega), hc, Nat.sub_self]; rfl)
    have hi1 := h.inp1000
    have hl1 := h.le1000
    refine ⟨⟨rfl, by have := htop.2.1; simp only at this ⊢; omega, ?_⟩, fun i l hl => ⟨fun x hx => ?_, ?_⟩⟩
    · unfold fitsB
      simp only [Bool.and_eq_true, decide_eq_true_eq]
      refine ⟨⟨⟨⟨h.val, hc⟩, by have := htop.2.1; simp only at this ⊢; omega⟩, by simp⟩, fitAll_get.2 fun i d l hd hl => ?_⟩
      have := hb i _ l (lensP_low hd) (by rw [List.getElem?_append_left (by have := (List.getElem?_eq_some_iff.1 hl).1; exact this)]; exact hl)
      unfold fitD
      unfold lenD at this
      split
      · rename_i hk
        rw [if_pos hk] at this
        simp only at this
        simp
        omega
      · rename_i hk
        rw [if_neg hk] at this
        simp only at this
        simp
        omega
    · rcases Nat.lt_or_ge i D.length with hlt | hge
      · obtain ⟨d, hd⟩ : ∃ d, D[i]? = some d := ⟨_, List.getElem?_eq_getElem hlt⟩
        exact rank_lt.1 ((hb i _ l (lensP_low hd) hl).2.2 x hx)
      · have e : i = D.length := by
          have := (List.getElem?_eq_some_iff.1 hl).1
          simp at this
          omega
        subst e
        exact rank_lt.1 ((hb _ _ l (lensP_top D le inp) hl).2.2 x hx)
    · rcases Nat.lt_or_ge i D.length with hlt | hge
      · obtain ⟨d, hd⟩ : ∃ d, D[i]? = some d := ⟨_, List.getElem?_eq_getElem hlt⟩
        by_cases hk : d.kind = 3
        · have := (hb i _ l (lensP_low hd) hl).2.1
          unfold lenD at this
          rw [if_pos hk] at this
          simp only at this
          exact .inr (.inr (by omega))
        · exact .inr (.inl fun d' hd' => by rw [hd] at hd'; injection hd' with e; subst e; exact hk)
      · exact .inl hge

section
variable {D : List Decl} {v le inp : Nat}
theorem SmallP.wts (h : SmallP D v le inp) {X : List (List Int)} (hX : X ∈ allP (2 * (v : Int) + 1) (lensP D le inp)) : 0 ≤ wtsP X ∧ wtsP X ≤ 9223372036854775807 := by
  have hc := h.cond
  have h1 := inBox_wt hc.h1 (h.mem.1 hX)
  have h2 := rw_bounds hc.h1 hc.h2 hc.b
  have h3 := hc.n
  omega
theorem SmallP.cmp (h : SmallP D v le inp) {s t : St} (hs : s ∈ stsP D v le inp) (ht : t ∈ stsP D v le inp) (hlt : stLt s t) : cmpP s t < 0 := by
  obtain ⟨X, Y, h1, h2, e1, e2, h3⟩ := hlt
  obtain ⟨X', hX, rfl⟩ := List.mem_map.1 hs
  obtain ⟨Y', hY, rfl⟩ := List.mem_map.1 ht
  have l1 := h.len hX
  have l2 := h.len hY
  obtain rfl := mkSt_inj (by omega) h1 e1
  obtain rfl := mkSt_inj (by omega) h2 e2
  exact (cmp_mkSt (by omega) h1 (h.wts hX) (h.wts hY)).2 h3
theorem SmallP.mid (h : SmallP D v le inp) {s : St} (hs : s ∈ stsP D v le inp) : MidS s := by
  obtain ⟨X, hX, rfl⟩ := List.mem_map.1 hs
  have hl := h.len hX
  obtain ⟨-, ha⟩ := inBox_all (h.mem.1 hX)
  intro l hl'
  rw [mkSt_lists (by omega)] at hl'
  have hv := h.v1000
  rcases List.mem_append.1 hl' with hm | hm
  · obtain ⟨b, hb, -, h2, h3⟩ := ha l hm
    have hb' := h.cond.b b hb
    intro y hy
    have := rank_lt.1 (h3 y hy)
    unfold Mid
    omega
  · rw [List.mem_singleton] at hm
    subst hm
    intro y hy
    cases hy
end
end Go.Proofs.Ytklbaocgjegdfaa
