/- The order of states, and All in plain words: sorted, and the lists of the box. -/
import Derived.Test.YtklbaocgjegdfaaEnP
namespace Go.Proofs.Ytklbaocgjegdfaa
open Go.RowKit
theorem rank_unrank {r : Int} (h : 0 ≤ r) : rankP (unrankP r) = r := by
  unfold unrankP
  rw [if_neg (by omega), Int.tmod_eq_emod_of_nonneg h, Int.tdiv_eq_ediv_of_nonneg h]
  unfold rankP
  split <;> split <;> omega
theorem rank_inj {x y : Int} (h : rankP x = rankP y) : x = y := by rw [← unrank_rank x, h, unrank_rank]

/-- the first difference decides -/
def lexP : List Int → List Int → Int
  | a :: x, b :: y => if a < b then -1 else if b < a then 1 else lexP x y
  | [], _ => 0
  | _ :: _, [] => 0
theorem lexP_nil_right (x : List Int) : lexP x [] = 0 := by cases x <;> rfl
theorem lexP_self (x : List Int) : lexP x x = 0 := by
  induction x with
  | nil => rfl
  | cons a x ih => simp [lexP, ih]
theorem lexP_anti (x : List Int) : ∀ y, lexP y x = -lexP x y := by
  induction x with
  | nil => intro y; rw [lexP_nil_right]; rfl
  | cons a x ih =>
    intro y
    cases y with
    | nil => rfl
    | cons b y =>
      simp only [lexP]
      rw [ih y]
      split <;> split <;> omega
theorem lexP_cases (x y : List Int) : lexP x y = -1 ∨ lexP x y = 0 ∨ lexP x y = 1 := by
  induction x generalizing y with
  | nil => exact .inr (.inl rfl)
  | cons a x ih =>
    cases y with
    | nil => exact .inr (.inl rfl)
    | cons b y =>
      simp only [lexP]
      split
      · exact .inl rfl
      · split
        · exact .inr (.inr rfl)
        · exact ih y
theorem lexP_trans {x y z : List Int} (h1 : lexP x y < 0) (h2 : lexP y z < 0) : lexP x z < 0 := by
  induction x generalizing y z with
  | nil => simp [lexP] at h1
  | cons a x ih =>
    cases y with
    | nil => simp [lexP] at h1
    | cons b y =>
      cases z with
      | nil => simp [lexP] at h2
      | cons c z =>
        simp only [lexP] at h1 h2 ⊢
        by_cases e1 : a < b
        · rw [if_pos e1] at h1
          by_cases e2 : b < c
          · rw [if_pos (by omega)]; decide
          · rw [if_neg e2] at h2
            by_cases e3 : c < b
            · rw [if_pos e3] at h2; omega
            · rw [if_pos (by omega)]; decide
        · rw [if_neg e1] at h1
          by_cases e2 : b < a
          · rw [if_pos e2] at h1; omega
          · rw [if_neg e2] at h1
            by_cases e3 : b < c
            · rw [if_pos (by omega)]; decide
            · rw [if_neg e3] at h2
              by_cases e4 : c < b
              · rw [if_pos e4] at h2; omega
              · rw [if_neg e4] at h2
                rw [if_neg (by omega), if_neg (by omega)]
                exact ih h1 h2
theorem lexP_append {p q : List Int} (hl : p.length = q.length) (x y : List Int) : lexP (p ++ x) (q ++ y) = if lexP p q = 0 then lexP x y else lexP p q := by
  induction p generalizing q with
  | nil =>
    cases q with
    | nil => simp [lexP]
    | cons _ _ => simp at hl
  | cons a p ih =>
    cases q with
    | nil => simp at hl
    | cons b q =>
      simp only [List.cons_append, lexP]
      rw [ih (by simpa using hl)]
      by_cases h1 : a < b
      · simp [h1]
      · by_cases h2 : b < a
        · simp [h1, h2]
        · simp [h1, h2]
theorem lexP_zero {p q : List Int} (hl : p.length = q.length) (h : lexP p q = 0) : p = q := by
  induction p generalizing q with
  | nil =>
    cases q with
    | nil => rfl
    | cons _ _ => simp at hl
  | cons a p ih =>
    cases q with
    | nil => simp at hl
    | cons b q =>
      simp only [lexP] at h
      by_cases h1 : a < b
      · simp [h1] at h
      · by_cases h2 : b < a
        · simp [h1, h2] at h
        · simp only [if_neg h1, if_neg h2] at h
          rw [ih (by simpa using hl) h, show a = b by omega]

/-- a list's part of a key -/
def lkey (l : List Int) : List Int := (l.length : Int) :: l.map rankP
def lskey (L : List (List Int)) : List Int := L.flatMap lkey
theorem lkey_append {l m : List Int} (x y : List Int) : lexP (lkey l ++ x) (lkey m ++ y) =
    if l.length < m.length then -1 else if m.length < l.length then 1 else if lexP (l.map rankP) (m.map rankP) = 0 then lexP x y else lexP (l.map rankP) (m.map rankP) := by
  unfold lkey
  simp only [List.cons_append, lexP]
  by_cases h1 : l.length < m.length
  · rw [if_pos (by omega), if_pos h1]
  · rw [if_neg (by omega), if_neg h1]
    by_cases h2 : m.length < l.length
    · rw [if_pos (by omega), if_pos h2]
    · rw [if_neg (by omega), if_neg h2]
      exact lexP_append (by simp; omega) _ _
theorem map_rank_inj {l m : List Int} (h : l.map rankP = m.map rankP) : l = m := by
  induction l generalizing m with
  | nil => cases m with
    | nil => rfl
    | cons _ _ => simp at h
  | cons a l ih => cases m with
    | nil => simp at h
    | cons b m =>
      simp only [List.map_cons, List.cons.injEq] at h
      rw [rank_inj h.1, ih h.2]
theorem lskey_zero {L M : List (List Int)} (hl : L.length = M.length) {x y : List Int} (h : lexP (lskey L ++ x) (lskey M ++ y) = 0) : L = M ∧ lexP x y = 0 := by
  induction L generalizing M with
  | nil => cases M with
    | nil => exact ⟨rfl, by simpa [lskey] using h⟩
    | cons _ _ => simp at hl
  | cons l L ih => cases M with
    | nil => simp at hl
    | cons m M =>
      have h' : lexP (lkey l ++ (lskey L ++ x)) (lkey m ++ (lskey M ++ y)) = 0 := by simpa [lskey] using h
      rw [lkey_append] at h'
      by_cases h1 : l.length < m.length
      · rw [if_pos h1] at h'; omega
      · rw [if_neg h1] at h'
        by_cases h2 : m.length < l.length
        · rw [if_pos h2] at h'; omega
        · rw [if_neg h2] at h'
          by_cases h3 : lexP (l.map rankP) (m.map rankP) = 0
          · rw [if_pos h3] at h'
            obtain ⟨e1, e2⟩ := ih (by simpa using hl) h'
            have e3 := map_rank_inj (lexP_zero (by simp; omega) h3)
            exact ⟨by rw [e1, e3], e2⟩
          · rw [if_neg h3] at h'; exact absurd h' h3

/-- weights -/
def wtP (l : List Int) : Int := l.length + (l.map rankP).sum
def wtsP (L : List (List Int)) : Int := (L.map wtP).sum
theorem wtP_cons (a : Int) (l : List Int) : wtP (a :: l) = rankP a + 1 + wtP l := by
  unfold wtP
  simp only [List.length_cons, List.map_cons, List.sum_cons]
  omega
theorem wtP_nil : wtP [] = 0 := rfl
theorem wtP_ge (l : List Int) : (l.length : Int) ≤ wtP l := by
  induction l with
  | nil => exact Int.le_refl _
  | cons a l ih =>
    rw [wtP_cons, List.length_cons]
    have := rankP_nonneg a
    omega
theorem wtP_le {h : Int} {l : List Int} (hl : ∀ y ∈ l, rankP y < h) : wtP l ≤ l.length * h := by
  induction l with
  | nil => simp [wtP]
  | cons a l ih =>
    rw [wtP_cons, List.length_cons]
    have h1 := hl a (by simp)
    have h2 := ih (fun y hy => hl y (by simp [hy]))
    have e : ((l.length + 1 : Nat) : Int) * h = l.length * h + h := by
      rw [Int.natCast_add, Int.add_mul]; omega
    rw [e]
    omega

/-- the lists of a box -/
def inBox (h : Int) : List Bd → List (List Int) → Prop
  | [], [] => True
  | b :: l, x :: X => (b.lo ≤ x.length ∧ (x.length : Int) ≤ b.hi ∧ ∀ y ∈ x, rankP y < h) ∧ inBox h l X
  | [], _ :: _ => False
  | _ :: _, [] => False
theorem inBox_wt {h : Int} (h1 : 1 ≤ h) : ∀ {B : List Bd} {X : List (List Int)}, inBox h B X → (rwP h B).lo ≤ wtsP X ∧ wtsP X ≤ (rwP h B).hi := by
  intro B
  induction B with
  | nil =>
    intro X hX
    cases X with
    | nil => exact ⟨Int.le_refl _, Int.le_refl _⟩
    | cons _ _ => exact hX.elim
  | cons b B ih =>
    intro X hX
    cases X with
    | nil => exact hX.elim
    | cons x X =>
      obtain ⟨⟨a1, a2, a3⟩, a4⟩ := hX
      obtain ⟨i1, i2⟩ := ih a4
      have w1 := wtP_ge x
      have w2 := wtP_le a3
      have w3 : (x.length : Int) * h ≤ b.hi * h := Int.mul_le_mul_of_nonneg_right a2 (by omega)
      have e : wtsP (x :: X) = wtP x + wtsP X := by simp [wtsP]
      simp only [rwP]
      omega

theorem mem_numsP {h : Int} {R : Bd} : ∀ {m : Nat} {left : Int} {x : List Int × Int}, x ∈ numsP h R m left ↔
    x.1.length = m ∧ (∀ y ∈ x.1, rankP y < h) ∧ x.2 = left - wtP x.1 ∧ (m = 0 ∨ R.lo ≤ x.2 ∧ x.2 ≤ R.hi) := by
  intro m
  induction m with
  | zero =>
    intro left x
    obtain ⟨ys, r⟩ := x
    simp only [numsP, List.mem_singleton, Prod.mk.injEq]
    constructor
    · rintro ⟨rfl, rfl⟩
      exact ⟨rfl, by simp, by simp [wtP], .inl trivial⟩
    · rintro ⟨e1, -, e2, -⟩
      have := List.eq_nil_of_length_eq_zero e1
      subst this
      exact ⟨rfl, by simpa [wtP] using e2⟩
  | succ m ih =>
    intro left x
    obtain ⟨ys, r⟩ := x
    simp only [numsP, List.mem_flatMap, List.mem_map, List.mem_range]
    obtain ⟨ls, hls⟩ : ∃ ls, max 0 (left - 1 - m * h - R.hi) = ls := ⟨_, rfl⟩
    obtain ⟨ms, hms⟩ : ∃ ms, min (h - 1) (left - 1 - m - R.lo) = ms := ⟨_, rfl⟩
    rw [hls, hms]
    constructor
    · rintro ⟨i, hi, z, hz, e⟩
      obtain ⟨zs, r'⟩ := z
      simp only [Prod.mk.injEq] at e
      obtain ⟨rfl, rfl⟩ := e
      obtain ⟨a1, a2, a3, a4⟩ := ih.1 hz
      simp only at a1 a2 a3 a4
      have hr := rank_unrank (r := ls + i) (by omega)
      refine ⟨by simp [a1], fun y hy => ?_, ?_, .inr ?_⟩
      · rcases List.mem_cons.1 hy with rfl | hy
        · rw [hr]; omega
        · exact a2 y hy
      · rw [wtP_cons, hr]; omega
      · rcases a4 with rfl | a4
        · have := List.eq_nil_of_length_eq_zero a1
          subst this
          rw [wtP_nil] at a3
          simp only [Int.natCast_zero, Int.zero_mul] at hls hms
          omega
        · exact a4
    · rintro ⟨a1, a2, a3, a4⟩
      cases ys with
      | nil => simp at a1
      | cons y zs =>
        simp only [List.length_cons, Nat.add_right_cancel_iff] at a1
        rw [wtP_cons] at a3
        have hy := a2 y (by simp)
        have hy0 := rankP_nonneg y
        have g1 := wtP_ge zs
        have g2 := wtP_le (fun z hz => a2 z (List.mem_cons_of_mem _ hz))
        rw [a1] at g1 g2
        have a4' : R.lo ≤ r ∧ r ≤ R.hi := by
          rcases a4 with h | h
          · omega
          · exact h
        have e1 : ls ≤ rankP y := by omega
        have e2 : rankP y ≤ ms := by omega
        refine ⟨(rankP y - ls).toNat, by omega, (zs, r), ih.2 ⟨a1, fun z hz => a2 z (List.mem_cons_of_mem _ hz), by simp only; omega, .inr a4'⟩, ?_⟩
        have e3 : ls + ((rankP y - ls).toNat : Int) = rankP y := by omega
        rw [e3, unrank_rank]

theorem mem_listsP {h : Int} (h1 : 1 ≤ h) : ∀ {B : List Bd}, (∀ b ∈ B, 0 ≤ b.lo) → ∀ {left : Int} {X : List (List Int)}, (rwP h B).lo ≤ left → left ≤ (rwP h B).hi → (X ∈ listsP h B left ↔ inBox h B X ∧ wtsP X = left) := by
  intro B
  induction B with
  | nil =>
    intro _ left X g1 g2
    simp only [rwP] at g1 g2
    simp only [listsP, List.mem_singleton]
    constructor
    · rintro rfl
      exact ⟨trivial, by simp [wtsP]; omega⟩
    · rintro ⟨a, -⟩
      cases X with
      | nil => rfl
      | cons _ _ => exact a.elim
  | cons b B ih =>
    intro hb left X g1 g2
    have hb0 := hb b (by simp)
    have ih' := fun left X => @ih (fun x hx => hb x (by simp [hx])) left X
    simp only [rwP] at g1 g2
    simp only [listsP, List.mem_flatMap, List.mem_map, List.mem_range]
    obtain ⟨R, hR⟩ : ∃ R, rwP h B = R := ⟨_, rfl⟩
    rw [hR] at g1 g2 ih' ⊢
    obtain ⟨ls, hls⟩ : ∃ ls, max b.lo ((left - R.hi + h - 1).tdiv h) = ls := ⟨_, rfl⟩
    obtain ⟨ms, hms⟩ : ∃ ms, min b.hi (left - R.lo) = ms := ⟨_, rfl⟩
    rw [hls, hms]
    have hdiv : ∀ n : Int, 0 ≤ n → ((left - R.hi + h - 1).tdiv h ≤ n ↔ left - R.hi ≤ n * h) := by
      intro n hn
      by_cases hs : 0 ≤ left - R.hi + h - 1
      · rw [Int.tdiv_eq_ediv_of_nonneg hs, ← Int.lt_add_one_iff, Int.ediv_lt_iff_lt_mul (by omega), Int.add_mul]
        omega
      · have hneg : (left - R.hi + h - 1).tdiv h ≤ 0 := by
          have : (left - R.hi + h - 1).tdiv h = -((-(left - R.hi + h - 1)).tdiv h) := by rw [Int.neg_tdiv, Int.neg_neg]
          rw [this]
          have h3 : 0 ≤ (-(left - R.hi + h - 1)).tdiv h := Int.tdiv_nonneg (by omega) (by omega)
          omega
        have : 0 ≤ n * h := Int.mul_nonneg hn (by omega)
        constructor
        · intro _; omega
        · intro _; omega
    constructor
    · rintro ⟨i, hi, x, hx, X', hX', rfl⟩
      obtain ⟨a1, a2, a3, a4⟩ := mem_numsP.1 hx
      have hn0 : 0 ≤ ls + i := by omega
      have hlen : (x.1.length : Int) = ls + i := by rw [a1]; omega
      have hr : R.lo ≤ x.2 ∧ x.2 ≤ R.hi := by
        rcases a4 with h0 | h0
        · have hz : ls + i = 0 := by omega
          have hd := (hdiv (ls + i) hn0).1 (by omega)
          rw [hz] at hd
          have hx0 : x.1 = [] := List.eq_nil_of_length_eq_zero (by omega)
          rw [hx0, wtP_nil] at a3
          omega
        · exact h0
      obtain ⟨i1, i2⟩ := (ih' _ _ hr.1 hr.2).1 hX'
      refine ⟨⟨⟨by omega, by omega, a2⟩, i1⟩, ?_⟩
      have e : wtsP (x.1 :: X') = wtP x.1 + wtsP X' := by simp [wtsP]
      omega
    · rintro ⟨hin, hw⟩
      cases X with
      | nil => exact hin.elim
      | cons x X =>
        obtain ⟨⟨a1, a2, a3⟩, a4⟩ := hin
        have e : wtsP (x :: X) = wtP x + wtsP X := by simp [wtsP]
        obtain ⟨i1, i2⟩ := inBox_wt h1 a4
        rw [hR] at i1 i2
        have w1 := wtP_ge x
        have w2 := wtP_le a3
        have hd := (hdiv x.length (by omega)).2 (by omega)
        have e1 : ls ≤ x.length := by omega
        have e2 : (x.length : Int) ≤ ms := by omega
        have e3 : ls + (((x.length : Int) - ls).toNat : Int) = x.length := by omega
        refine ⟨((x.length : Int) - ls).toNat, by omega, (x, left - wtP x), ?_, X, (ih' _ _ (by simp only; omega) (by simp only; omega)).2 ⟨a4, by simp only; omega⟩, rfl⟩
        rw [e3]
        exact mem_numsP.2 ⟨by simp, a3, rfl, .inr ⟨by simp only; omega, by simp only; omega⟩⟩
theorem mem_allP {h : Int} (h1 : 1 ≤ h) {B : List Bd} (hB : ∀ b ∈ B, 0 ≤ b.lo) {X : List (List Int)} : X ∈ allP h B ↔ inBox h B X := by
  simp only [allP, List.mem_flatMap, List.mem_range]
  constructor
  · rintro ⟨i, hi, hX⟩
    exact ((mem_listsP h1 hB (by omega) (by omega)).1 hX).1
  · intro hX
    obtain ⟨w1, w2⟩ := inBox_wt h1 hX
    refine ⟨(wtsP X - (rwP h B).lo).toNat, by omega, (mem_listsP h1 hB (by omega) (by omega)).2 ⟨hX, by omega⟩⟩

/-- the order of lists -/
def lsLt (X Y : List (List Int)) : Prop := lexP (lskey X) (lskey Y) < 0
theorem pairwise_range {R : Nat → Nat → Prop} {N : Nat} (h : ∀ i j, i < j → R i j) : (List.range N).Pairwise R := by
  have := List.pairwise_lt_range (n := N)
  exact this.imp (fun {a b} hab => h a b hab)
theorem pairwise_range_mem {R : Nat → Nat → Prop} {N : Nat} (h : ∀ i j, i < j → j < N → R i j) : (List.range N).Pairwise R := by
  have := List.pairwise_lt_range (n := N)
  refine this.imp_of_mem (fun {a b} ha hb hab => h a b hab (List.mem_range.1 hb))
theorem numsP_sorted {h : Int} {R : Bd} : ∀ {m : Nat} {left : Int}, (numsP h R m left).Pairwise (fun x y => lexP (x.1.map rankP) (y.1.map rankP) < 0) := by
  intro m
  induction m with
  | zero => intro left; simp [numsP]
  | succ m ih =>
    intro left
    simp only [numsP]
    obtain ⟨ls, hls⟩ : ∃ ls, max 0 (left - 1 - m * h - R.hi) = ls := ⟨_, rfl⟩
    rw [hls]
    rw [List.pairwise_flatMap]
    refine ⟨fun i _ => ?_, pairwise_range fun i j hij => ?_⟩
    · rw [List.pairwise_map]
      refine ih.imp fun {a b} hab => ?_
      simp only [List.map_cons, lexP]
      rw [if_neg (by omega), if_neg (by omega)]
      exact hab
    · intro x hx y hy
      simp only [List.mem_map] at hx hy
      obtain ⟨x', -, rfl⟩ := hx
      obtain ⟨y', -, rfl⟩ := hy
      simp only [List.map_cons, lexP]
      rw [rank_unrank (by omega), rank_unrank (by omega), if_pos (by omega)]
      decide
theorem listsP_sorted {h : Int} : ∀ {B : List Bd}, (∀ b ∈ B, 0 ≤ b.lo) → ∀ {left : Int}, (listsP h B left).Pairwise lsLt := by
  intro B
  induction B with
  | nil => intro _ left; simp [listsP]
  | cons b B ih =>
    intro hb left
    have hb0 := hb b (by simp)
    simp only [listsP]
    obtain ⟨R, hR⟩ : ∃ R, rwP h B = R := ⟨_, rfl⟩
    rw [hR]
    obtain ⟨ls, hls⟩ : ∃ ls, max b.lo ((left - R.hi + h - 1).tdiv h) = ls := ⟨_, rfl⟩
    rw [hls, List.pairwise_flatMap]
    have key : ∀ (x y : List Int) (X Y : List (List Int)), lexP (lskey (x :: X)) (lskey (y :: Y)) = lexP (lkey x ++ lskey X) (lkey y ++ lskey Y) := fun x y X Y => by simp [lskey]
    refine ⟨fun i _ => ?_, pairwise_range fun i j hij => ?_⟩
    · rw [List.pairwise_flatMap]
      refine ⟨fun x hx => ?_, ?_⟩
      · rw [List.pairwise_map]
        refine (ih (fun c hc => hb c (by simp [hc]))).imp fun {X Y} hXY => ?_
        unfold lsLt
        rw [key, lkey_append, if_neg (by omega), if_neg (by omega), if_pos (lexP_self _)]
        exact hXY
      · refine (numsP_sorted (h := h) (R := R)).imp_of_mem fun {x y} hx hy hxy => ?_
        intro X hX Y hY
        simp only [List.mem_map] at hX hY
        obtain ⟨X', -, rfl⟩ := hX
        obtain ⟨Y', -, rfl⟩ := hY
        have l1 := (mem_numsP.1 hx).1
        have l2 := (mem_numsP.1 hy).1
        unfold lsLt
        rw [key, lkey_append, if_neg (by omega), if_neg (by omega), if_neg (by omega)]
        exact hxy
    · intro X hX Y hY
      simp only [List.mem_flatMap, List.mem_map] at hX hY
      obtain ⟨x, hx, X', -, rfl⟩ := hX
      obtain ⟨y, hy, Y', -, rfl⟩ := hY
      have l1 := (mem_numsP.1 hx).1
      have l2 := (mem_numsP.1 hy).1
      unfold lsLt
      rw [key, lkey_append, if_pos (by omega)]
      decide
/-- by weight, then by the lists -/
def wlLt (X Y : List (List Int)) : Prop := wtsP X < wtsP Y ∨ wtsP X = wtsP Y ∧ lsLt X Y
theorem allP_sorted {h : Int} (h1 : 1 ≤ h) {B : List Bd} (hB : ∀ b ∈ B, 0 ≤ b.lo) : (allP h B).Pairwise wlLt := by
  unfold allP
  rw [List.pairwise_flatMap]
  refine ⟨fun i hi => ?_, pairwise_range_mem fun i j hij hj => ?_⟩
  · have hi' := List.mem_range.1 hi
    refine (listsP_sorted hB).imp_of_mem fun {X Y} hX hY hXY => .inr ⟨?_, hXY⟩
    rw [((mem_listsP h1 hB (by omega) (by omega)).1 hX).2, ((mem_listsP h1 hB (by omega) (by omega)).1 hY).2]
  · intro X hX Y hY
    refine .inl ?_
    rw [((mem_listsP h1 hB (by omega) (by omega)).1 hX).2, ((mem_listsP h1 hB (by omega) (by omega)).1 hY).2]
    omega
end Go.Proofs.Ytklbaocgjegdfaa
