/- The plain laws of changes: what a change does can be undone; the difference turns the one state into the other. -/
import Derived.Test.YtpbbiidfahaamaaStV7
namespace Go.Proofs.Ytpbbiidfahaamaa
open Go.RowKit

def swapC (c : Chg) : Chg := ⟨c.cell, c.pos, c.new, c.old⟩
/-- what Reverse gives -/
def reverseP (C : List Chg) : List Chg := (C.map swapC).reverse
theorem swapC_swapC (c : Chg) : swapC (swapC c) = c := rfl
theorem reverseP_reverseP (C : List Chg) : reverseP (reverseP C) = C := by
  unfold reverseP
  rw [List.map_reverse, List.reverse_reverse, List.map_map]
  exact List.map_id'' (fun c => rfl) C
theorem reverseP_len (C : List Chg) : (reverseP C).length = C.length := by simp [reverseP]
theorem swapC_fits {c : Chg} (h : c.Fits) : (swapC c).Fits := ⟨h.1, h.2.1, h.2.2.2, h.2.2.1⟩
theorem reverseP_fits {C : List Chg} (h : ∀ c ∈ C, c.Fits) : ∀ c ∈ reverseP C, c.Fits := by
  intro c hc
  unfold reverseP at hc
  rw [List.mem_reverse, List.mem_map] at hc
  obtain ⟨d, hd, rfl⟩ := hc
  exact swapC_fits (h d hd)
theorem reverseP_cons (c : Chg) (C : List Chg) : reverseP (c :: C) = reverseP C ++ [swapC c] := by simp [reverseP]

/-- the same sequence -/
def Eqv (q r : Sq) : Prop := q.len = r.len ∧ ∀ i, q.els.getD i 0 = r.els.getD i 0
theorem Eqv.refl (q : Sq) : Eqv q q := ⟨rfl, fun _ => rfl⟩
theorem Eqv.symm {q r : Sq} (h : Eqv q r) : Eqv r q := ⟨h.1.symm, fun i => (h.2 i).symm⟩
theorem Eqv.trans {q r s : Sq} (h : Eqv q r) (g : Eqv r s) : Eqv q s := ⟨h.1.trans g.1, fun i => (h.2 i).trans (g.2 i)⟩

theorem pad_get (n : Nat) (l : List Int) (i : Nat) : (pad n l).getD i 0 = l.getD i 0 := by
  unfold pad
  rw [List.getD_eq_getElem?_getD, List.getD_eq_getElem?_getD]
  rcases Nat.lt_or_ge i l.length with h | h
  · rw [List.getElem?_append_left h]
  · rw [List.getElem?_append_right h, List.getElem?_eq_none h, List.getElem?_replicate]
    split <;> rfl
theorem set_get (l : List Int) (k : Nat) (x : Int) (h : k < l.length) (i : Nat) : (l.set k x).getD i 0 = if i = k then x else l.getD i 0 := by
  rw [List.getD_eq_getElem?_getD, List.getD_eq_getElem?_getD, List.getElem?_set]
  by_cases e : i = k
  · subst e
    simp [h]
  · rw [if_neg (fun h' => e h'.symm), if_neg e]

theorem chg_els {c : Chg} {q : Sq} (h1 : 0 ≤ c.pos) (h2 : c.pos < 4096) (h3 : c.old = q.els.getD c.pos.toNat 0) :
    (chgP c q).1 = 0 ∧ (chgP c q).2.len = q.len ∧ ∀ i, (chgP c q).2.els.getD i 0 = if i = c.pos.toNat then c.new else q.els.getD i 0 := by
  have e : chgP c q = (0, ⟨q.len, (pad (c.pos.toNat + 1) q.els).set c.pos.toNat c.new⟩) := by
    unfold chgP
    rw [if_neg (by omega), if_neg (by omega), if_neg (fun h => h h3)]
  rw [e]
  refine ⟨rfl, rfl, fun i => ?_⟩
  simp only
  rw [set_get _ _ _ (by rw [pad_len]; omega), pad_get]
theorem chg_len {c : Chg} {q : Sq} (h1 : c.pos = -1) (h2 : 0 ≤ c.new) (h3 : c.new ≤ 4096) (h4 : c.old = q.len) : chgP c q = (0, ⟨c.new, q.els⟩) := by
  unfold chgP
  rw [if_neg (by omega), if_pos h1, if_neg (by omega), if_neg (fun h => h h4)]

theorem chg_cases {c : Chg} {q : Sq} (h : (chgP c q).1 = 0) :
    (c.pos = -1 ∧ 0 ≤ c.new ∧ c.new ≤ 4096 ∧ c.old = q.len) ∨ (0 ≤ c.pos ∧ c.pos < 4096 ∧ c.old = q.els.getD c.pos.toNat 0) := by
  unfold chgP at h
  split at h
  · cases h
  · split at h
    · split at h
      · cases h
      · split at h
        · cases h
        · left; rename_i a b d e; exact ⟨b, by omega, by omega, Classical.not_not.1 e⟩
    · split at h
      · cases h
      · right; rename_i a b d; exact ⟨by omega, by omega, Classical.not_not.1 d⟩

/-- a change that went well is undone by its reverse -/
theorem chg_back {c : Chg} {q r : Sq} (h : (chgP c q).1 = 0) (hl0 : 0 ≤ q.len) (hl1 : q.len ≤ 4096) (he : Eqv (chgP c q).2 r) : (chgP (swapC c) r).1 = 0 ∧ Eqv (chgP (swapC c) r).2 q := by
  rcases chg_cases h with ⟨h1, h2, h3, h4⟩ | ⟨h1, h2, h3⟩
  · rw [chg_len h1 h2 h3 h4] at he
    have e : chgP (swapC c) r = (0, ⟨c.old, r.els⟩) := chg_len (c := swapC c) h1 (by show 0 ≤ c.old; omega) (by show c.old ≤ 4096; omega) he.1
    rw [e]
    exact ⟨rfl, h4, fun i => (he.2 i).symm⟩
  · obtain ⟨_, g2, g3⟩ := chg_els h1 h2 h3
    have ho : (swapC c).old = r.els.getD (swapC c).pos.toNat 0 := by
      show c.new = r.els.getD c.pos.toNat 0
      rw [← he.2, g3, if_pos rfl]
    obtain ⟨k1, k2, k3⟩ := chg_els (c := swapC c) (q := r) h1 h2 ho
    refine ⟨k1, k2.trans (he.1.symm.trans g2), fun i => ?_⟩
    rw [k3]
    show (if i = c.pos.toNat then c.old else r.els.getD i 0) = q.els.getD i 0
    by_cases e : i = c.pos.toNat
    · rw [if_pos e, h3, e]
    · rw [if_neg e, ← he.2, g3, if_neg e]

theorem upd_self (F : Int → Sq) (c : Int) (q : Sq) : upd F c q c = q := if_pos rfl
theorem upd_ne {F : Int → Sq} {c x : Int} (h : x ≠ c) (q : Sq) : upd F c q x = F x := if_neg h

def Lens (F : Int → Sq) : Prop := ∀ c, 0 ≤ (F c).len ∧ (F c).len ≤ 4096
theorem Lens.upd {F : Int → Sq} (h : Lens F) {c : Chg} (hc : (chgP c (F c.cell)).1 = 0) : Lens (upd F c.cell (chgP c (F c.cell)).2) := by
  intro x
  by_cases e : x = c.cell
  · subst e
    rw [upd_self]
    rcases chg_cases hc with ⟨h1, h2, h3, h4⟩ | ⟨h1, h2, h3⟩
    · rw [chg_len h1 h2 h3 h4]; exact ⟨h2, h3⟩
    · rw [(chg_els h1 h2 h3).2.1]; exact h _
  · rw [upd_ne e]; exact h x

theorem step_cases {n : Nat} {F : Int → Sq} {c : Chg} (h : (stepP n F c).1 = 0) : c.cell ∈ comps n ∧ (chgP c (F c.cell)).1 = 0 ∧ (stepP n F c).2 = upd F c.cell (chgP c (F c.cell)).2 := by
  unfold stepP at h ⊢
  by_cases e : c.cell ∈ comps n
  · rw [if_pos e] at h ⊢
    exact ⟨e, h, rfl⟩
  · rw [if_neg e] at h
    cases h
theorem step_ok {n : Nat} {F : Int → Sq} {c : Chg} (e : c.cell ∈ comps n) (h : (chgP c (F c.cell)).1 = 0) : stepP n F c = (0, upd F c.cell (chgP c (F c.cell)).2) := by
  unfold stepP
  rw [if_pos e, h]

theorem run_one {n : Nat} {F : Int → Sq} {c : Chg} (e : c.cell ∈ comps n) (h : (chgP c (F c.cell)).1 = 0) : runL n F [c] = (0, upd F c.cell (chgP c (F c.cell)).2) := by
  simp only [runL, step_ok e h, if_pos]

theorem run_back {n : Nat} (C : List Chg) : ∀ {F G : Int → Sq}, Lens F → (runL n F C).1 = 0 → (∀ c ∈ comps n, Eqv ((runL n F C).2 c) (G c)) → (runL n G (reverseP C)).1 = 0 ∧ ∀ c ∈ comps n, Eqv ((runL n G (reverseP C)).2 c) (F c) := by
  induction C with
  | nil => intro F G _ _ h; exact ⟨rfl, fun c hc => (h c hc).symm⟩
  | cons c C ih =>
    intro F G hF h hE
    have hs : (stepP n F c).1 = 0 := by
      simp only [runL] at h
      split at h
      · assumption
      · exact h
    simp only [runL, if_pos hs] at h hE
    obtain ⟨hm, hc, e2⟩ := step_cases hs
    rw [e2] at h hE
    obtain ⟨k1, k2⟩ := ih (hF.upd hc) h hE
    rw [reverseP_cons, runL_append, if_pos k1]
    obtain ⟨b1, b2⟩ := chg_back hc (hF c.cell).1 (hF c.cell).2 (by have := k2 c.cell hm; rw [upd_self] at this; exact this.symm)
    rw [run_one (c := swapC c) hm b1]
    refine ⟨rfl, fun x hx => ?_⟩
    simp only
    by_cases ex : x = c.cell
    · subst ex
      rw [show (swapC c).cell = c.cell from rfl, upd_self]
      exact b2
    · rw [show (swapC c).cell = c.cell from rfl, upd_ne ex]
      have := k2 x hx
      rw [upd_ne ex] at this
      exact this

/-! what list gives -/
theorem sqOut_of {q : Sq} {l : List Int} (h : Eqv q ⟨l.length, l⟩) : sqOut q = some l := by
  have hn : q.len.toNat = l.length := by rw [h.1]; exact Int.toNat_natCast _
  have hg : ∀ i, (pad l.length q.els).getD i 0 = l.getD i 0 := fun i => by rw [pad_get]; exact h.2 i
  have hl : l.length ≤ (pad l.length q.els).length := by rw [pad_len]; omega
  unfold sqOut
  rw [hn, if_pos]
  · congr 1
    apply List.ext_getElem
    · rw [List.length_take]; omega
    · intro i h1 h2
      have := hg i
      rw [List.getD_eq_getElem?_getD, List.getD_eq_getElem?_getD, List.getElem?_eq_getElem (by omega), List.getElem?_eq_getElem h2] at this
      simpa using this
  · rw [List.all_eq_true]
    intro x hx
    obtain ⟨i, hi, rfl⟩ := List.mem_iff_getElem.1 hx
    rw [List.length_drop] at hi
    have := hg (l.length + i)
    rw [List.getD_eq_getElem?_getD, List.getD_eq_getElem?_getD, List.getElem?_eq_getElem (by omega), List.getElem?_eq_none (l := l) (by omega)] at this
    simpa using this
theorem sqOut_eqv {q : Sq} {l : List Int} (h : sqOut q = some l) (h0 : 0 ≤ q.len) : Eqv q ⟨l.length, l⟩ := by
  unfold sqOut at h
  split at h
  · rename_i ha
    injection h with h
    rw [List.all_eq_true] at ha
    have hl : l.length = q.len.toNat := by rw [← h, List.length_take, pad_len]; omega
    refine ⟨by show q.len = (l.length : Int); omega, fun i => ?_⟩
    show q.els.getD i 0 = l.getD i 0
    rw [← pad_get q.len.toNat, ← h]
    rw [List.getD_eq_getElem?_getD, List.getD_eq_getElem?_getD]
    rcases Nat.lt_or_ge i q.len.toNat with hi | hi
    · rw [List.getElem?_take_of_lt hi]
    · rw [List.getElem?_eq_none (l := List.take _ _) (by rw [List.length_take]; omega)]
      rcases Nat.lt_or_ge i (pad q.len.toNat q.els).length with h2 | h2
      · rw [List.getElem?_eq_getElem h2]
        have := ha ((pad q.len.toNat q.els)[i]) (List.mem_iff_getElem.2 ⟨i - q.len.toNat, by rw [List.length_drop]; omega, by rw [List.getElem_drop]; congr 1; omega⟩)
        simpa using this
      · rw [List.getElem?_eq_none h2]
  · cases h

theorem comps_cell {n i : Nat} (h : i < n) : (i : Int) ∈ comps n := by
  unfold comps compsL
  rw [List.mem_append, List.mem_map]
  exact .inl ⟨i, List.mem_range.2 h, rfl⟩
theorem comps_in (n : Nat) : (-1 : Int) ∈ comps n := by unfold comps; simp
theorem comps_out (n : Nat) : (-2 : Int) ∈ comps n := by unfold comps; simp
theorem part_cell (s : St) (i : Nat) : part s (i : Int) = s.cells.getD i [] := by
  unfold part
  rw [if_neg (by omega), if_neg (by omega), Int.toNat_natCast]
theorem part_in (s : St) : part s (-1) = s.inp.reverse := rfl
theorem part_out (s : St) : part s (-2) = s.out := rfl

theorem fin_of {s : St} {F : Int → Sq} (h : ∀ c ∈ comps s.cells.length, Eqv (F c) (seq0 s c)) : finP s.cells.length F = (0, s) := by
  have hs : ∀ c ∈ comps s.cells.length, sqOut (F c) = some (part s c) := fun c hc => sqOut_of (h c hc)
  unfold finP
  rw [if_pos (List.all_eq_true.2 fun c hc => by unfold okC; rw [hs c hc]; rfl)]
  have e1 : (compsL s.cells.length).map (outC F) = s.cells := by
    apply List.ext_getElem
    · simp [compsL]
    · intro i h1 h2
      simp only [compsL, List.map_map, List.getElem_map, List.getElem_range, Function.comp]
      unfold outC
      rw [hs _ (comps_cell h2), part_cell, List.getD_eq_getElem?_getD, List.getElem?_eq_getElem h2]
      rfl
  have e2 : (outC F (-1)).reverse = s.inp := by
    unfold outC
    rw [hs _ (comps_in _), part_in]
    simp
  have e3 : outC F (-2) = s.out := by
    unfold outC
    rw [hs _ (comps_out _), part_out]
    rfl
  rw [e1, e2, e3]
theorem fin_eqv {n : Nat} {s : St} {F : Int → Sq} (h : finP n F = (0, s)) (hF : ∀ c, 0 ≤ (F c).len) : s.cells.length = n ∧ ∀ c ∈ comps n, Eqv (F c) (seq0 s c) := by
  unfold finP at h
  split at h
  · rename_i ha
    injection h with _ h
    subst h
    rw [List.all_eq_true] at ha
    refine ⟨by simp [compsL], fun c hc => ?_⟩
    have h1 := ha c hc
    unfold okC at h1
    obtain ⟨l, hl⟩ := Option.isSome_iff_exists.1 h1
    have e : part ⟨(compsL n).map (outC F), (outC F (-1)).reverse, outC F (-2)⟩ c = l := by
      have ho : outC F c = l := by unfold outC; rw [hl]; rfl
      rcases comps_mem hc with rfl | rfl | ⟨h0, h1⟩
      · rw [part_in]; simp [ho]
      · rw [part_out]; exact ho
      · obtain ⟨i, rfl⟩ := Int.eq_ofNat_of_zero_le h0
        rw [part_cell]
        have hi : i < n := by omega
        rw [List.getD_eq_getElem?_getD, List.getElem?_map]
        simp only [compsL, List.getElem?_map, List.getElem?_range hi, Option.map_some, Option.getD_some]
        exact ho
    have := sqOut_eqv hl (hF c)
    unfold seq0
    rw [e]
    exact this
  · injection h with h
    cases h

/-- what was applied well, is undone by the reverse -/
theorem apply_back {s x : St} {C : List Chg} (hs : ∀ c, (part s c).length ≤ 4096) (h : applyP s C = (0, x)) (hL : ∀ c, 0 ≤ ((runL s.cells.length (seq0 s) C).2 c).len) : applyP x (reverseP C) = (0, s) := by
  unfold applyP at h
  split at h
  · rename_i h0
    obtain ⟨hc, he⟩ := fin_eqv h hL
    obtain ⟨k1, k2⟩ := run_back C (G := seq0 x) (fun c => ⟨by simp [seq0], by have := hs c; simp only [seq0]; omega⟩) h0 he
    unfold applyP
    rw [hc, if_pos k1]
    have := fin_of (s := s) (F := (runL s.cells.length (seq0 x) (reverseP C)).2) k2
    exact this
  · rename_i h0
    injection h with h _
    exact absurd h h0

/-- the result is not too great -/
theorem apply_big {s x : St} {C : List Chg} (hs : Big s) (hC : ∀ c ∈ C, c.Fits) (h : applyP s C = (0, x)) : Big x ∧ x.cells.length = s.cells.length := by
  have hG := Good.run C (n := s.cells.length) (Good.seq0 hs) hC
  unfold applyP at h
  split at h
  · obtain ⟨hc, he⟩ := fin_eqv h (fun c => (hG c).lo)
    have hpl : ∀ c ∈ comps s.cells.length, (part x c).length ≤ 4096 ∧ ∀ y ∈ part x c, I64 y := by
      intro c hm
      obtain ⟨e1, e2⟩ := he c hm
      have g := hG c
      refine ⟨by have := g.hi; rw [e1] at this; simp only [seq0] at this; omega, fun y hy => ?_⟩
      obtain ⟨i, hi, rfl⟩ := List.mem_iff_getElem.1 hy
      have := e2 i
      simp only [seq0] at this
      rw [List.getD_eq_getElem?_getD (l := part x c), List.getElem?_eq_getElem hi, List.getD_eq_getElem?_getD] at this
      simp only [Option.getD_some] at this
      rw [← this]
      rcases Nat.lt_or_ge i ((runL s.cells.length (seq0 s) C).2 c).els.length with h1 | h1
      · rw [List.getElem?_eq_getElem h1]
        exact g.i64 _ (List.getElem_mem h1)
      · rw [List.getElem?_eq_none h1]
        exact ⟨by decide, by decide⟩
    have hcell : ∀ i, i < x.cells.length → (x.cells.getD i []).length ≤ 4096 ∧ ∀ y ∈ x.cells.getD i [], I64 y := by
      intro i hi
      rw [← part_cell]
      exact hpl _ (comps_cell (by omega))
    refine ⟨⟨by have := hs.1; omega, fun c => ?_, ?_⟩, hc⟩
    · unfold part
      split
      · exact (hpl (-1) (comps_in _)).1
      · split
        · exact (hpl (-2) (comps_out _)).1
        · rcases Nat.lt_or_ge c.toNat x.cells.length with h1 | h1
          · exact (hcell _ h1).1
          · rw [List.getD_eq_getElem?_getD, List.getElem?_eq_none h1]; simp
    · have hin := (hpl (-1) (comps_in _)).2
      have hout := (hpl (-2) (comps_out _)).2
      rw [part_in] at hin
      rw [part_out] at hout
      exact ⟨fun l hl => by
        obtain ⟨i, hi, rfl⟩ := List.mem_iff_getElem.1 hl
        have := (hcell i hi).2
        rw [List.getD_eq_getElem?_getD, List.getElem?_eq_getElem hi] at this
        exact this, fun y hy => hin y (List.mem_reverse.2 hy), hout⟩
  · rename_i h0
    injection h with h _
    exact absurd h h0

/-! the difference -/
theorem run_els (n : Nat) (c : Int) (hc : c ∈ comps n) (x y : List Int) : ∀ (m : Nat) (F : Int → Sq), m ≤ 4096 → (∀ i, (F c).els.getD i 0 = x.getD i 0) →
    (runL n F (dEls c x y m)).1 = 0 ∧ ((runL n F (dEls c x y m)).2 c).len = (F c).len ∧ (∀ i, ((runL n F (dEls c x y m)).2 c).els.getD i 0 = if i < m then y.getD i 0 else x.getD i 0) ∧ ∀ d, d ≠ c → (runL n F (dEls c x y m)).2 d = F d := by
  intro m
  induction m with
  | zero => intro F _ h; exact ⟨rfl, rfl, fun i => by rw [if_neg (by omega)]; exact h i, fun _ _ => rfl⟩
  | succ m ih =>
    intro F hm h
    obtain ⟨h1, h2, h3, h4⟩ := ih F (by omega) h
    have e : dEls c x y (m + 1) = dEls c x y m ++ dOne c x y m := by simp [dEls, List.range_succ]
    rw [e, runL_append, if_pos h1]
    unfold dOne
    by_cases hxy : x.getD m 0 = y.getD m 0
    · rw [if_pos hxy]
      refine ⟨rfl, h2, fun i => ?_, h4⟩
      show ((runL n F (dEls c x y m)).2 c).els.getD i 0 = _
      rw [h3]
      by_cases e1 : i < m
      · rw [if_pos e1, if_pos (by omega)]
      · rw [if_neg e1]
        by_cases e2 : i = m
        · rw [if_pos (by omega), e2]; exact hxy
        · rw [if_neg (by omega)]
    · rw [if_neg hxy]
      generalize hG : (runL n F (dEls c x y m)).2 = G at *
      obtain ⟨k1, k2, k3⟩ := chg_els (c := ⟨c, (m : Int), x.getD m 0, y.getD m 0⟩) (q := G c) (by simp) (by simp only; omega) (by
        simp only [Int.toNat_natCast]
        rw [h3, if_neg (by omega)])
      rw [run_one (c := ⟨c, (m : Int), x.getD m 0, y.getD m 0⟩) hc k1]
      refine ⟨rfl, ?_, fun i => ?_, fun d hd => ?_⟩
      · simp only [upd_self]
        rw [k2]; exact h2
      · simp only [upd_self]
        rw [k3]
        simp only [Int.toNat_natCast]
        by_cases e1 : i = m
        · rw [if_pos e1, if_pos (by omega), e1]
        · rw [if_neg e1, h3]
          by_cases e2 : i < m
          · rw [if_pos e2, if_pos (by omega)]
          · rw [if_neg e2, if_neg (by omega)]
      · simp only
        rw [upd_ne hd]
        exact h4 d hd

theorem run_cell (n : Nat) (c : Int) (hc : c ∈ comps n) (x y : List Int) (hx : x.length ≤ 4096) (hy : y.length ≤ 4096) (F : Int → Sq) (hF : Eqv (F c) ⟨x.length, x⟩) :
    (runL n F (dCell c x y)).1 = 0 ∧ Eqv ((runL n F (dCell c x y)).2 c) ⟨y.length, y⟩ ∧ ∀ d, d ≠ c → (runL n F (dCell c x y)).2 d = F d := by
  have h1 : (runL n F (dLen c x y)).1 = 0 ∧ ((runL n F (dLen c x y)).2 c).len = y.length ∧ ((runL n F (dLen c x y)).2 c).els = (F c).els ∧ ∀ d, d ≠ c → (runL n F (dLen c x y)).2 d = F d := by
    unfold dLen
    by_cases e : x.length = y.length
    · rw [if_pos e]
      exact ⟨rfl, by rw [← e]; exact hF.1, rfl, fun _ _ => rfl⟩
    · rw [if_neg e]
      have k := chg_len (c := ⟨c, -1, x.length, y.length⟩) (q := F c) rfl (by simp) (by simp only; omega) hF.1.symm
      rw [run_one (c := ⟨c, -1, x.length, y.length⟩) hc (by rw [k]), k]
      exact ⟨rfl, by simp only [upd_self], by simp only [upd_self], fun d hd => upd_ne hd _⟩
  obtain ⟨a1, a2, a3, a4⟩ := h1
  unfold dCell
  rw [runL_append, if_pos a1]
  obtain ⟨b1, b2, b3, b4⟩ := run_els n c hc x y (max x.length y.length) (runL n F (dLen c x y)).2 (by omega) (fun i => by rw [a3]; exact hF.2 i)
  refine ⟨b1, ⟨b2.trans a2, fun i => ?_⟩, fun d hd => (b4 d hd).trans (a4 d hd)⟩
  rw [b3]
  show _ = y.getD i 0
  by_cases e : i < max x.length y.length
  · rw [if_pos e]
  · rw [if_neg e]
    rw [List.getD_eq_getElem?_getD, List.getD_eq_getElem?_getD, List.getElem?_eq_none (by omega), List.getElem?_eq_none (by omega)]

theorem run_diff (n : Nat) (a b : St) (ha : ∀ c, (part a c).length ≤ 4096) (hb : ∀ c, (part b c).length ≤ 4096) : ∀ (L : List Int), L.Nodup → (∀ c ∈ L, c ∈ comps n) → ∀ F : Int → Sq, (∀ c ∈ L, Eqv (F c) (seq0 a c)) →
    (runL n F (L.flatMap (diffAt a b))).1 = 0 ∧ (∀ c ∈ L, Eqv ((runL n F (L.flatMap (diffAt a b))).2 c) (seq0 b c)) ∧ ∀ d, d ∉ L → (runL n F (L.flatMap (diffAt a b))).2 d = F d := by
  intro L
  induction L with
  | nil => intro _ _ F _; exact ⟨rfl, fun c hc => by simp at hc, fun _ _ => rfl⟩
  | cons c L ih =>
    intro hn hm F hF
    obtain ⟨hc, hn⟩ := List.nodup_cons.1 hn
    obtain ⟨k1, k2, k3⟩ := run_cell n c (hm c (by simp)) (part a c) (part b c) (ha c) (hb c) F (hF c (by simp))
    obtain ⟨i1, i2, i3⟩ := ih hn (fun d hd => hm d (by simp [hd])) (runL n F (diffAt a b c)).2 (fun d hd => by
      have : d ≠ c := fun e => hc (e ▸ hd)
      show Eqv ((runL n F (dCell c (part a c) (part b c))).2 d) _
      rw [k3 d this]
      exact hF d (by simp [hd]))
    rw [List.flatMap_cons, runL_append, if_pos (show (runL n F (diffAt a b c)).1 = 0 from k1)]
    refine ⟨i1, fun d hd => ?_, fun d hd => ?_⟩
    · rcases List.mem_cons.1 hd with rfl | hd
      · rw [i3 d hc]; exact k2
      · exact i2 d hd
    · rw [List.mem_cons, not_or] at hd
      rw [i3 d hd.2]
      exact k3 d hd.1

theorem apply_diff {a b : St} (ha : ∀ c, (part a c).length ≤ 4096) (hb : ∀ c, (part b c).length ≤ 4096) (hl : a.cells.length = b.cells.length) : applyP a (diffP a b) = (0, b) := by
  have hD : diffP a b = (comps a.cells.length).flatMap (diffAt a b) := by unfold diffP; rw [if_pos hl]
  obtain ⟨h1, h2, _⟩ := run_diff a.cells.length a b ha hb _ (comps_nodup _) (fun _ h => h) (seq0 a) (fun _ _ => Eqv.refl _)
  unfold applyP
  rw [hD, if_pos h1, hl]
  exact fin_of (fun c hc => by have := h2 c (by rw [hl]; exact hc); rw [hl] at this; exact this)

theorem apply_nil (s : St) : applyP s [] = (0, s) := by
  unfold applyP
  rw [if_pos (show (runL s.cells.length (seq0 s) []).1 = 0 from rfl)]
  exact fin_of fun _ _ => Eqv.refl _

theorem diffP_self (a : St) : diffP a a = [] := by
  unfold diffP
  rw [if_pos rfl]
  apply List.flatMap_eq_nil_iff.2
  intro c _
  simp [diffAt, dCell, dLen, dEls, dOne]
theorem diffP_nil {a b : St} (ha : ∀ c, (part a c).length ≤ 4096) (hb : ∀ c, (part b c).length ≤ 4096) (hl : a.cells.length = b.cells.length) : diffP a b = [] ↔ a = b := by
  constructor
  · intro h
    have := apply_diff ha hb hl
    rw [h, apply_nil] at this
    injection this
  · rintro rfl
    exact diffP_self a
theorem part_small {s : St} (h : Small s) (c : Int) : (part s c).length ≤ 60 := by
  unfold part
  split
  · rw [List.length_reverse]; exact h.2.1
  · split
    · exact h.2.2.1
    · rw [List.getD_eq_getElem?_getD]
      rcases Nat.lt_or_ge c.toNat s.cells.length with h1 | h1
      · rw [List.getElem?_eq_getElem h1]; exact h.2.2.2 _ (List.getElem_mem h1)
      · rw [List.getElem?_eq_none h1]; simp
theorem Small.big {s : St} (h : Small s) (hi : InSt s) : Big s := ⟨h.1, fun c => by have := part_small h c; omega, hi⟩

/-- the two turns -/
theorem turns {a b : St} (ha : Big a) (hb : Big b) (hD : ∀ c ∈ diffP a b, c.Fits) (hl : a.cells.length = b.cells.length) : applyP a (diffP a b) = (0, b) ∧ applyP b (reverseP (diffP a b)) = (0, a) ∧ (diffP a b = [] ↔ a = b) :=
  ⟨apply_diff ha.2.1 hb.2.1 hl, apply_back ha.2.1 (apply_diff ha.2.1 hb.2.1 hl) (fun c => (Good.run _ (Good.seq0 ha) hD c).lo), diffP_nil ha.2.1 hb.2.1 hl⟩

end Go.Proofs.Ytpbbiidfahaamaa
