/- The reference list in plain words: each of the box once; how many; sorted it is All. -/
import Derived.Test.YtklbaocgjegdfaaEnQ1
namespace Go.Proofs.Ytklbaocgjegdfaa
open Go.RowKit
/-- the reference's lists: all of a length; of some lengths; one list for each place -/
def tupsP (v : Nat) : Nat → List (List Int)
  | 0 => [[]]
  | n + 1 => (tupsP v n).flatMap fun l => (List.range (2 * v + 1)).map fun (x : Nat) => l ++ [(x : Int) - v]
def betP (v lo n : Nat) : List (List Int) := (List.range n).flatMap fun i => tupsP v (lo + i)
def nOf (b : Bd) : Nat := (b.hi + 1 - b.lo).toNat
def addP (v : Nat) (S : List (List (List Int))) (b : Bd) : List (List (List Int)) := S.flatMap fun s => (betP v b.lo.toNat (nOf b)).map fun l => s ++ [l]
def boxesP (v : Nat) (B : List Bd) : List (List (List Int)) := B.foldl (addP v) [[]]

theorem rank_lt {v : Nat} {y : Int} : rankP y < 2 * v + 1 ↔ -(v : Int) ≤ y ∧ y ≤ v := by
  unfold rankP; split <;> omega
theorem mem_tupsP {v : Nat} : ∀ {n : Nat} {l : List Int}, l ∈ tupsP v n ↔ l.length = n ∧ ∀ y ∈ l, rankP y < 2 * v + 1 := by
  intro n
  induction n with
  | zero =>
    intro l
    simp only [tupsP, List.mem_singleton]
    constructor
    · rintro rfl; exact ⟨rfl, by simp⟩
    · rintro ⟨h, -⟩; exact List.eq_nil_of_length_eq_zero h
  | succ n ih =>
    intro l
    simp only [tupsP, List.mem_flatMap, List.mem_map, List.mem_range]
    constructor
    · rintro ⟨l', h1, x, hx, rfl⟩
      obtain ⟨i1, i2⟩ := ih.1 h1
      refine ⟨by simp [i1], fun y hy => ?_⟩
      rcases List.mem_append.1 hy with hy | hy
      · exact i2 y hy
      · rw [List.mem_singleton] at hy
        subst hy
        rw [rank_lt]; omega
    · rintro ⟨h1, h2⟩
      have hne : l ≠ [] := by rintro rfl; simp at h1
      have he := List.dropLast_concat_getLast hne
      have hr := rank_lt.1 (h2 (l.getLast hne) (List.getLast_mem hne))
      refine ⟨l.dropLast, ih.2 ⟨by simp [h1], fun y hy => h2 y ((List.dropLast_sublist l).subset hy)⟩, (l.getLast hne + v).toNat, by omega, ?_⟩
      have : (((l.getLast hne + v).toNat : Nat) : Int) - v = l.getLast hne := by omega
      rw [this, he]
theorem mem_betP {v lo n : Nat} {l : List Int} : l ∈ betP v lo n ↔ lo ≤ l.length ∧ l.length < lo + n ∧ ∀ y ∈ l, rankP y < 2 * v + 1 := by
  simp only [betP, List.mem_flatMap, List.mem_range, mem_tupsP]
  constructor
  · rintro ⟨i, hi, h1, h2⟩; exact ⟨by omega, by omega, h2⟩
  · rintro ⟨h1, h2, h3⟩; exact ⟨l.length - lo, by omega, by omega, h3⟩
theorem inBox_snoc {h : Int} : ∀ {B : List Bd} {b : Bd} {X : List (List Int)}, inBox h (B ++ [b]) X ↔ ∃ Y x, X = Y ++ [x] ∧ inBox h B Y ∧ b.lo ≤ x.length ∧ (x.length : Int) ≤ b.hi ∧ ∀ y ∈ x, rankP y < h := by
  intro B
  induction B with
  | nil =>
    intro b X
    cases X with
    | nil => simp [inBox]
    | cons x X =>
      cases X with
      | nil =>
        simp only [List.nil_append, inBox, and_true]
        constructor
        · intro hx; exact ⟨[], x, rfl, trivial, hx⟩
        · rintro ⟨Y, x', e, hY, hx⟩
          cases Y with
          | nil => simp at e; subst e; exact hx
          | cons _ _ => exact hY.elim
      | cons x2 X =>
        simp only [List.nil_append, inBox, and_false, false_iff]
        rintro ⟨Y, x', e, hY, hx⟩
        cases Y with
        | nil => simp at e
        | cons _ _ => exact hY.elim
  | cons a B ih =>
    intro b X
    cases X with
    | nil => simp [inBox]
    | cons x X =>
      simp only [List.cons_append, inBox]
      rw [ih]
      constructor
      · rintro ⟨h1, Y, z, rfl, h2, h3⟩
        exact ⟨x :: Y, z, rfl, ⟨h1, h2⟩, h3⟩
      · rintro ⟨Y, z, e, hY, h3⟩
        cases Y with
        | nil => exact hY.elim
        | cons y Y =>
          simp only [List.cons_append, List.cons.injEq] at e
          obtain ⟨rfl, rfl⟩ := e
          exact ⟨hY.1, Y, z, rfl, hY.2, h3⟩
theorem boxesP_snoc (v : Nat) (B : List Bd) (b : Bd) : boxesP v (B ++ [b]) = addP v (boxesP v B) b := by simp [boxesP, List.foldl_append]
theorem snoc_ind {α : Type} {P : List α → Prop} (h0 : P []) (h1 : ∀ l a, P l → P (l ++ [a])) (l : List α) : P l := by
  have : ∀ n (l : List α), l.length = n → P l := by
    intro n
    induction n with
    | zero => intro l hl; rw [List.eq_nil_of_length_eq_zero hl]; exact h0
    | succ n ih =>
      intro l hl
      have hne : l ≠ [] := by rintro rfl; simp at hl
      rw [← List.dropLast_concat_getLast hne]
      exact h1 _ _ (ih _ (by simp [hl]))
  exact this _ l rfl
theorem mem_boxesP {v : Nat} {B : List Bd} : (∀ b ∈ B, 0 ≤ b.lo) → ∀ X, X ∈ boxesP v B ↔ inBox (2 * v + 1) B X := by
  induction B using snoc_ind with
  | h0 =>
    intro _ X
    cases X with
    | nil => simp [boxesP, inBox]
    | cons _ _ => simp [boxesP, inBox]
  | h1 B b ih =>
    intro hB X
    have hb := hB b (by simp)
    rw [boxesP_snoc, inBox_snoc]
    simp only [addP, List.mem_flatMap, List.mem_map, mem_betP, nOf]
    constructor
    · rintro ⟨Y, hY, x, ⟨h1, h2, h3⟩, rfl⟩
      exact ⟨Y, x, rfl, (ih (fun c hc => hB c (by simp [hc])) Y).1 hY, by omega, by omega, h3⟩
    · rintro ⟨Y, x, rfl, hY, h1, h2, h3⟩
      exact ⟨Y, (ih (fun c hc => hB c (by simp [hc])) Y).2 hY, x, ⟨by omega, by omega, h3⟩, rfl⟩
/-- each once -/
theorem nodup_flatMap {α β : Type} {l : List α} {f : α → List β} (hl : l.Nodup) (h1 : ∀ a ∈ l, (f a).Nodup) (h2 : ∀ a ∈ l, ∀ b ∈ l, ∀ x, x ∈ f a → x ∈ f b → a = b) : (l.flatMap f).Nodup := by
  unfold List.Nodup
  rw [List.pairwise_flatMap]
  refine ⟨h1, hl.imp_of_mem fun {a b} ha hb hne x hx y hy e => ?_⟩
  subst e
  exact hne (h2 a ha b hb x hx hy)
theorem nodup_map {α β : Type} {l : List α} {f : α → β} (hl : l.Nodup) (h : ∀ a b, f a = f b → a = b) : (l.map f).Nodup := by
  unfold List.Nodup
  rw [List.pairwise_map]
  exact hl.imp fun {a b} hne e => hne (h a b e)
theorem snoc_inj {α : Type} {a b : List α} {x y : α} (h : a ++ [x] = b ++ [y]) : a = b ∧ x = y := by
  have h1 := List.append_inj h (by have := congrArg List.length h; simp at this; exact this)
  exact ⟨h1.1, by simpa using h1.2⟩
theorem tupsP_nodup (v n : Nat) : (tupsP v n).Nodup := by
  induction n with
  | zero => simp [tupsP]
  | succ n ih =>
    refine nodup_flatMap ih (fun l _ => nodup_map List.nodup_range fun a b h => ?_) fun l _ m _ x hx hy => ?_
    · have := (snoc_inj h).2; omega
    · simp only [List.mem_map] at hx hy
      obtain ⟨_, _, rfl⟩ := hx
      obtain ⟨_, _, e⟩ := hy
      exact (snoc_inj e).1.symm
theorem betP_nodup (v lo n : Nat) : (betP v lo n).Nodup := by
  refine nodup_flatMap List.nodup_range (fun i _ => tupsP_nodup _ _) fun i _ j _ x hx hy => ?_
  have h1 := (mem_tupsP.1 hx).1
  have h2 := (mem_tupsP.1 hy).1
  omega
theorem boxesP_nodup (v : Nat) (B : List Bd) : (boxesP v B).Nodup := by
  induction B using snoc_ind with
  | h0 => simp [boxesP]
  | h1 B b ih =>
    rw [boxesP_snoc]
    refine nodup_flatMap ih (fun s _ => nodup_map (betP_nodup _ _ _) fun a b h => (snoc_inj h).2) fun s _ t _ x hx hy => ?_
    simp only [List.mem_map] at hx hy
    obtain ⟨_, _, rfl⟩ := hx
    obtain ⟨_, _, e⟩ := hy
    exact (snoc_inj e).1.symm
/-- how many -/
def cntB (v : Nat) (b : Bd) : Nat := ((List.range (nOf b)).map fun i => (2 * v + 1) ^ (b.lo.toNat + i)).sum
def cntP (v : Nat) (B : List Bd) : Nat := B.foldl (fun n b => n * cntB v b) 1
theorem length_flatMap_const {α β : Type} (l : List α) (f : α → List β) (n : Nat) (h : ∀ a, (f a).length = n) : (l.flatMap f).length = l.length * n := by
  induction l with
  | nil => simp
  | cons a l ih => rw [List.flatMap_cons, List.length_append, h, ih, List.length_cons, Nat.add_mul, Nat.one_mul, Nat.add_comm]
theorem tupsP_length (v n : Nat) : (tupsP v n).length = (2 * v + 1) ^ n := by
  induction n with
  | zero => rfl
  | succ n ih =>
    simp only [tupsP]
    rw [length_flatMap_const _ _ (2 * v + 1) (fun a => by simp), ih, Nat.pow_succ]
theorem betP_length (v lo n : Nat) : (betP v lo n).length = ((List.range n).map fun i => (2 * v + 1) ^ (lo + i)).sum := by
  unfold betP
  rw [List.length_flatMap]
  simp only [tupsP_length]
theorem boxesP_length (v : Nat) (B : List Bd) : (boxesP v B).length = cntP v B := by
  induction B using snoc_ind with
  | h0 => rfl
  | h1 B b ih =>
    rw [boxesP_snoc]
    unfold addP
    rw [length_flatMap_const _ _ (cntB v b) (fun a => by rw [List.length_map, betP_length]; rfl), ih]
    simp [cntP, List.foldl_append]
theorem wlLt_irrefl (X : List (List Int)) : ¬ wlLt X X := by
  rintro (h | ⟨-, h⟩)
  · omega
  · unfold lsLt at h; rw [lexP_self] at h; omega
theorem wlLt_trans {X Y Z : List (List Int)} (h1 : wlLt X Y) (h2 : wlLt Y Z) : wlLt X Z := by
  rcases h1 with h1 | ⟨h1, h1'⟩ <;> rcases h2 with h2 | ⟨h2, h2'⟩
  · exact .inl (by omega)
  · exact .inl (by omega)
  · exact .inl (by omega)
  · exact .inr ⟨by omega, lexP_trans h1' h2'⟩
theorem wlLt_total {X Y : List (List Int)} (hl : X.length = Y.length) : X = Y ∨ wlLt X Y ∨ wlLt Y X := by
  rcases Int.lt_trichotomy (wtsP X) (wtsP Y) with h | h | h
  · exact .inr (.inl (.inl h))
  · rcases lexP_cases (lskey X) (lskey Y) with e | e | e
    · exact .inr (.inl (.inr ⟨h, by unfold lsLt; omega⟩))
    · refine .inl (lskey_zero (x := []) (y := []) hl ?_).1
      rwa [List.append_nil, List.append_nil]
    · refine .inr (.inr (.inr ⟨h.symm, ?_⟩))
      unfold lsLt
      rw [lexP_anti (lskey X) (lskey Y), e]
      decide
  · exact .inr (.inr (.inl h))
theorem allP_nodup {h : Int} (h1 : 1 ≤ h) {B : List Bd} (hB : ∀ b ∈ B, 0 ≤ b.lo) : (allP h B).Nodup := by
  refine (allP_sorted h1 hB).imp fun {a b} hab e => ?_
  subst e
  exact wlLt_irrefl _ hab
theorem all_perm {v : Nat} {B : List Bd} (hB : ∀ b ∈ B, 0 ≤ b.lo) : (allP (2 * v + 1) B).Perm (boxesP v B) := by
  rw [List.perm_ext_iff_of_nodup (allP_nodup (by omega) hB) (boxesP_nodup v B)]
  intro X
  rw [mem_allP (by omega) hB, mem_boxesP hB]
theorem allP_length {v : Nat} {B : List Bd} (hB : ∀ b ∈ B, 0 ≤ b.lo) : (allP (2 * v + 1) B).length = cntP v B := by
  rw [(all_perm hB).length_eq, boxesP_length]
/-- sorted, and the same: one list -/
theorem sorted_unique {α : Type} {R : α → α → Prop} (hir : ∀ x, ¬ R x x) (htr : ∀ x y z, R x y → R y z → R x z) : ∀ {l m : List α}, l.Pairwise R → m.Pairwise R → l.Perm m → l = m := by
  intro l
  induction l with
  | nil => intro m _ _ hp; exact (List.nil_perm.1 hp).symm ▸ rfl
  | cons a l ih =>
    intro m h1 h2 hp
    cases m with
    | nil => exact absurd hp.length_eq (by simp)
    | cons b m =>
      have e : a = b := by
        rcases List.mem_cons.1 (hp.subset (List.mem_cons_self (a := a))) with e | h
        · exact e
        · rcases List.mem_cons.1 (hp.symm.subset (List.mem_cons_self (a := b))) with e | h'
          · exact e.symm
          · exact absurd (htr _ _ _ ((List.pairwise_cons.1 h1).1 b h') ((List.pairwise_cons.1 h2).1 a h)) (hir a)
      subst e
      rw [ih (List.pairwise_cons.1 h1).2 (List.pairwise_cons.1 h2).2 (List.perm_cons a |>.1 hp)]
end Go.Proofs.Ytklbaocgjegdfaa
