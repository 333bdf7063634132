/- The order of states, and All in plain words: sorted, and the lists of the box. -/
import Derived.Test.YtklbaocgjegdfaaEnP
import Derived.IntWalk
namespace Go.Proofs.Ytklbaocgjegdfaa
open Go.RowKit
theorem rank_unrank {r : Int} (h : 0 ≤ r) : rankP (unrankP r) = r := by
  unfold unrankP
  rw [if_neg (by omega), Int.tmod_eq_emod_of_nonneg h, Int.tdiv_eq_ediv_of_nonneg h]
  unfold rankP
  split <;> split <;> omega
theorem rank_inj {x y : Int} (h : rankP x = rankP y) : x = y := by rw [← unrank_rank x, h, unrank_rank]

/-- the first difference decides -/
def lexP : List Int → List Int → Int
  | a :: x, b :: y => if a < b then -1 else if b < a then 1 else lexP x y
  | [], _ => 0
  | _ :: _, [] => 0
theorem lexP_nil_right (x : List Int) : lexP x [] = 0 := by cases x <;> rfl
theorem lexP_self (x : List Int) : lexP x x = 0 := by
  induction x with
  | nil => rfl
  | cons a x ih => simp [lexP, ih]
theorem lexP_anti (x : List Int) : ∀ y, lexP y x = -lexP x y := by
  induction x with
  | nil => intro y; rw [lexP_nil_right]; rfl
  | cons a x ih =>
    intro y
    cases y with
    | nil => rfl
    | cons b y =>
      simp only [lexP]
      rw [ih y]
      split <;> split <;> omega
theorem lexP_cases (x y : List Int) : lexP x y = -1 ∨ lexP x y = 0 ∨ lexP x y = 1 := by
  induction x generalizing y with
  | nil => exact .inr (.inl rfl)
  | cons a x ih =>
    cases y with
    | nil => exact .inr (.inl rfl)
    | cons b y =>
      simp only [lexP]
      split
      · exact .inl rfl
      · split
        · exact .inr (.inr rfl)
        · exact ih y
theorem lexP_trans {x y z : List Int} (h1 : lexP x y < 0) (h2 : lexP y z < 0) : lexP x z < 0 := by
  induction x generalizing y z with
  | nil => simp [lexP] at h1
  | cons a x ih =>
    cases y with
    | nil => simp [lexP] at h1
    | cons b y =>
      cases z with
      | nil => simp [lexP] at h2
      | cons c z =>
        simp only [lexP] at h1 h2 ⊢
        by_cases e1 : a < b
        · rw [if_pos e1] at h1
          by_cases e2 : b < c
          · rw [if_pos (by omega)]; decide
          · rw [if_neg e2] at h2
            by_cases e3 : c < b
            · rw [if_pos e3] at h2; omega
            · rw [if_pos (by omega)]; decide
        · rw [if_neg e1] at h1
          by_cases e2 : b < a
          · rw [if_pos e2] at h1; omega
          · rw [if_neg e2] at h1
            by_cases e3 : b < c
            · rw [if_pos (by omega)]; decide
            · rw [if_neg e3] at h2
              by_cases e4 : c < b
              · rw [if_pos e4] at h2; omega
              · rw [if_neg e4] at h2
                rw [if_neg (by omega), if_neg (by omega)]
                exact ih h1 h2
theorem lexP_append {p q : List Int} (hl : p.length = q.length) (x y : List Int) : lexP (p ++ x) (q ++ y) = if lexP p q = 0 then lexP x y else lexP p q := by
  induction p generalizing q with
  | nil =>
    cases q with
    | nil => simp [lexP]
    | cons _ _ => simp at hl
  | cons a p ih =>
    cases q with
    | nil => simp at hl
    | cons b q =>
      simp only [List.cons_append, lexP]
      rw [ih (by simpa using hl)]
      by_cases h1 : a < b
      · simp [h1]
      · by_cases h2 : b < a
        · simp [h1, h2]
        · simp [h1, h2]
theorem lexP_zero {p q : List Int} (hl : p.length = q.length) (h : lexP p q = 0) : p = q := by
  induction p generalizing q with
  | nil =>
    cases q with
    | nil => rfl
    | cons _ _ => simp at hl
  | cons a p ih =>
    cases q with
    | nil => simp at hl
    | cons b q =>
      simp only [lexP] at h
      by_cases h1 : a < b
      · simp [h1] at h
      · by_cases h2 : b < a
        · simp [h1, h2] at h
        · simp only [if_neg h1, if_neg h2] at h
          rw [ih (by simpa using hl) h, show a = b by omega]

/-- a list's part of a key -/
def lkey (l : List Int) : List Int := (l.length : Int) :: l.map rankP
def lskey (L : List (List Int)) : List Int := L.flatMap lkey
theorem lkey_append {l m : List Int} (x y : List Int) : lexP (lkey l ++ x) (lkey m ++ y) =
    if l.length < m.length then -1 else if m.length < l.length then 1 else if lexP (l.map rankP) (m.map rankP) = 0 then lexP x y else lexP (l.map rankP) (m.map rankP) := by
  unfold lkey
  simp only [List.cons_append, lexP]
  by_cases h1 : l.length < m.length
  · rw [if_pos (by omega), if_pos h1]
  · rw [if_neg (by omega), if_neg h1]
    by_cases h2 : m.length < l.length
    · rw [if_pos (by omega), if_pos h2]
    · rw [if_neg (by omega), if_neg h2]
      exact lexP_append (by simp; omega) _ _
theorem map_rank_inj {l m : List Int} (h : l.map rankP = m.map rankP) : l = m := by
  induction l generalizing m with
  | nil => cases m with
    | nil => rfl
    | cons _ _ => simp at h
  | cons a l ih => cases m with
    | nil => simp at h
    | cons b m =>
      simp only [List.map_cons, List.cons.injEq] at h
      rw [rank_inj h.1, ih h.2]
theorem lskey_zero {L M : List (List Int)} (hl : L.length = M.length) {x y : List Int} (h : lexP (lskey L ++ x) (lskey M ++ y) = 0) : L = M ∧ lexP x y = 0 := by
  induction L generalizing M with
  | nil => cases M with
    | nil => exact ⟨rfl, by simpa [lskey] using h⟩
    | cons _ _ => simp at hl
  | cons l L ih => cases M with
    | nil => simp at hl
    | cons m M =>
      have h' : lexP (lkey l ++ (lskey L ++ x)) (lkey m ++ (lskey M ++ y)) = 0 := by simpa [lskey] using h
      rw [lkey_append] at h'
      by_cases h1 : l.length < m.length
      · rw [if_pos h1] at h'; omega
      · rw [if_neg h1] at h'
        by_cases h2 : m.length < l.length
        · rw [if_pos h2] at h'; omega
        · rw [if_neg h2] at h'
          by_cases h3 : lexP (l.map rankP) (m.map rankP) = 0
          · rw [if_pos h3] at h'
            obtain ⟨e1, e2⟩ := ih (by simpa using hl) h'
            have e3 := map_rank_inj (lexP_zero (by simp; omega) h3)
            exact ⟨by rw [e1, e3], e2⟩
          · rw [if_neg h3] at h'; exact absurd h' h3

/-- weights -/
def wtP (l : List Int) : Int := l.length + (l.map rankP).sum
def wtsP (L : List (List Int)) : Int := (L.map wtP).sum
theorem wtP_cons (a : Int) (l : List Int) : wtP (a :: l) = rankP a + 1 + wtP l := by
  unfold wtP
  simp only [List.length_cons, List.map_cons, List.sum_cons]
  omega
theorem wtP_nil : wtP [] = 0 := rfl
theorem wtP_ge (l : List Int) : (l.length : Int) ≤ wtP l := by
  induction l with
  | nil => exact Int.le_refl _
  | cons a l ih =>
    rw [wtP_cons, List.length_cons]
    have := rankP_nonneg a
    omega
theorem wtP_le {h : Int} {l : List Int} (hl : ∀ y ∈ l, rankP y < h) : wtP l ≤ l.length * h := by
  induction l with
  | nil => simp [wtP]
  | cons a l ih =>
    rw [wtP_cons, List.length_cons]
    have h1 := hl a (by simp)
    have h2 := ih (fun y hy => hl y (by simp [hy]))
    have e : ((l.length + 1 : Nat) : Int) * h = l.length * h + h := by
      rw [Int.natCast_add, Int.add_mul]; omega
    rw [e]
    omega

/-- the lists of a box -/
def inBox (h : Int) : List Bd → List (List Int) → Prop
  | [], [] => True
  | b :: l, x :: X => (b.lo ≤ x.length ∧ (x.length : Int) ≤ b.hi ∧ ∀ y ∈ x, rankP y < h) ∧ inBox h l X
  | [], _ :: _ => False
  | _ :: _, [] => False
theorem inBox_wt {h : Int} (h1 : 1 ≤ h) : ∀ {B : List Bd} {X : List (List Int)}, inBox h B X → (rwP h B).lo ≤ wtsP X ∧ wtsP X ≤ (rwP h B).hi := by
  intro B
  induction B with
  | nil =>
    intro X hX
    cases X with
    | nil => exact ⟨Int.le_refl _, Int.le_refl _⟩
    | cons _ _ => exact hX.elim
  | cons b B ih =>
    intro X hX
    cases X with
    | nil => exact hX.elim
    | cons x X =>
      obtain ⟨⟨a1, a2, a3⟩, a4⟩ := hX
      obtain ⟨i1, i2⟩ := ih a4
      have w1 := wtP_ge x
      have w2 := wtP_le a3
      have w3 : (x.length : Int) * h ≤ b.hi * h := Int.mul_le_mul_of_nonneg_right a2 (by omega)
      have e : wtsP (x :: X) = wtP x + wtsP X := by simp [wtsP]
      simp only [rwP]
      omega

theorem mem_numsP {h : Int} {R : Bd} : ∀ {m : Nat} {left : Int} {x : List Int × Int}, x ∈ numsP h R m left ↔
    x.1.length = m ∧ (∀ y ∈ x.1, rankP y < h) ∧ x.2 = left - wtP x.1 ∧ (m = 0 ∨ R.lo ≤ x.2 ∧ x.2 ≤ R.hi) := by
  intro m
  induction m with
  | zero =>
    intro left x
    obtain ⟨ys, r⟩ := x
    simp only [numsP, List.mem_singleton, Prod.mk.injEq]
    constructor
    · rintro ⟨rfl, rfl⟩
      exact ⟨rfl, by simp, by simp [wtP], .inl trivial⟩
    · rintro ⟨e1, -, e2, -⟩
      have := List.eq_nil_of_length_eq_zero e1
      subst this
      exact ⟨rfl, by simpa [wtP] using e2⟩
  | succ m ih =>
    intro left x
    obtain ⟨ys, r⟩ := x
    simp only [numsP, List.mem_flatMap, List.mem_map, List.mem_range]
    obtain ⟨ls, hls⟩ : ∃ ls, max 0 (left - 1 - m * h - R.hi) = ls := ⟨_, rfl⟩
    obtain ⟨ms, hms⟩ : ∃ ms, min (h - 1) (left - 1 - m - R.lo) = ms := ⟨_, rfl⟩
    rw [hls, hms]
    constructor
    · rintro ⟨i, hi, z, hz, e⟩
      obtain ⟨zs, r'⟩ := z
      simp only [Prod.mk.injEq] at e
      obtain ⟨rfl, rfl⟩ := e
      obtain ⟨a1, a2, a3, a4⟩ := ih.1 hz
      simp only at a1 a2 a3 a4
      have hr := rank_unrank (r := ls + i) (by omega)
      refine ⟨by simp [a1], fun y hy => ?_, ?_, .inr ?_⟩
      · rcases List.mem_cons.1 hy with rfl | hy
        · rw [hr]; omega
        · exact a2 y hy
      · rw [wtP_cons, hr]; omega
      · rcases a4 with rfl | a4
        · have := List.eq_nil_of_length_eq_zero a1
          subst this
          rw [wtP_nil] at a3
          simp only [Int.natCast_zero, Int.zero_mul] at hls hms
          omega
        · exact a4
    · rintro ⟨a1, a2, a3, a4⟩
      cases ys with
      | nil => simp at a1
      | cons y zs =>
        simp only [List.length_cons, Nat.add_right_cancel_iff] at a1
        rw [wtP_cons] at a3
        have hy := a2 y (by simp)
        have hy0 := rankP_nonneg y
        have g1 := wtP_ge zs
        have g2 := wtP_le (fun z hz => a2 z (List.mem_cons_of_mem _ hz))
        rw [a1] at g1 g2
        have a4' : R.lo ≤ r ∧ r ≤ R.hi := by
          rcases a4 with h | h
          · omega
          · exact h
        have e1 : ls ≤ rankP y := by omega
        have e2 : rankP y ≤ ms := by omega
        refine ⟨(rankP y - ls).toNat, by omega, (zs, r), ih.2 ⟨a1, fun z hz => a2 z (List.mem_cons_of_mem _ hz), by simp only; omega, .inr a4'⟩, ?_⟩
        have e3 : ls + ((rankP y - ls).toNat : Int) = rankP y := by omega
        rw [e3, unrank_rank]

theorem mem_listsP {h : Int} (h1 : 1 ≤ h) : ∀ {B : List Bd}, (∀ b ∈ B, 0 ≤ b.lo) → ∀ {left : Int} {X : List (List Int)}, (rwP h B).lo ≤ left → left ≤ (rwP h B).hi → (X ∈ listsP h B left ↔ inBox h B X ∧ wtsP X = left) := by
  intro B
  induction B with
  | nil =>
    intro _ left X g1 g2
    simp only [rwP] at g1 g2
    simp only [listsP, List.mem_singleton]
    constructor
    · rintro rfl
      exact ⟨trivial, by simp [wtsP]; omega⟩
    · rintro ⟨a, -⟩
      cases X with
      | nil => rfl
      | cons _ _ => exact a.elim
  | cons b B ih =>
    intro hb left X g1 g2
    have hb0 := hb b (by simp)
    have ih' := fun left X => @ih (fun x hx => hb x (by simp [hx])) left X
    simp only [rwP] at g1 g2
    simp only [listsP, List.mem_flatMap, List.mem_map, List.mem_range]
    obtain ⟨R, hR⟩ : ∃ R, rwP h B = R := ⟨_, rfl⟩
    rw [hR] at g1 g2 ih' ⊢
    obtain ⟨ls, hls⟩ : ∃ ls, max b.lo ((left - R.hi + h - 1).tdiv h) = ls := ⟨_, rfl⟩
    obtain ⟨ms, hms⟩ : ∃ ms, min b.hi (left - R.lo) = ms := ⟨_, rfl⟩
    rw [hls, hms]
    have hdiv : ∀ n : Int, 0 ≤ n → ((left - R.hi + h - 1).tdiv h ≤ n ↔ left - R.hi ≤ n * h) := by
      intro n hn
      by_cases hs : 0 ≤ left - R.hi + h - 1
      · rw [Int.tdiv_eq_ediv_of_nonneg hs, ← Int.lt_add_one_iff, Int.ediv_lt_iff_lt_mul (by omega), Int.add_mul]
        omega
      · have hneg : (left - R.hi + h - 1).tdiv h ≤ 0 := by
          have : (left - R.hi + h - 1).tdiv h = -((-(left - R.hi + h - 1)).tdiv h) := by rw [Int.neg_tdiv, Int.neg_neg]
          rw [this]
          have h3 : 0 ≤ (-(left - R.hi + h - 1)).tdiv h := Int.tdiv_nonneg (by omega) (by omega)
          omega
        have : 0 ≤ n * h := Int.mul_nonneg hn (by omega)
        constructor
        · intro _; omega
        · intro _; omega
    constructor
    · rintro ⟨i, hi, x, hx, X', hX', rfl⟩
      obtain ⟨a1, a2, a3, a4⟩ := mem_numsP.1 hx
      have hn0 : 0 ≤ ls + i := by omega
      have hlen : (x.1.length : Int) = ls + i := by rw [a1]; omega
      have hr : R.lo ≤ x.2 ∧ x.2 ≤ R.hi := by
        rcases a4 with h0 | h0
        · have hz : ls + i = 0 := by omega
          have hd := (hdiv (ls + i) hn0).1 (by omega)
          rw [hz] at hd
          have hx0 : x.1 = [] := List.eq_nil_of_length_eq_zero (by omega)
          rw [hx0, wtP_nil] at a3
          omega
        · exact h0
      obtain ⟨i1, i2⟩ := (ih' _ _ hr.1 hr.2).1 hX'
      refine ⟨⟨⟨by omega, by omega, a2⟩, i1⟩, ?_⟩
      have e : wtsP (x.1 :: X') = wtP x.1 + wtsP X' := by simp [wtsP]
      omega
    · rintro ⟨hin, hw⟩
      cases X with
      | nil => exact hin.elim
      | cons x X =>
        obtain ⟨⟨a1, a2, a3⟩, a4⟩ := hin
        have e : wtsP (x :: X) = wtP x + wtsP X := by simp [wtsP]
        obtain ⟨i1, i2⟩ := inBox_wt h1 a4
        rw [hR] at i1 i2
        have w1 := wtP_ge x
        have w2 := wtP_le a3
        have hd := (hdiv x.length (by omega)).2 (by omega)
        have e1 : ls ≤ x.length := by omega
        have e2 : (x.length : Int) ≤ ms := by omega
        have e3 : ls + (((x.length : Int) - ls).toNat : Int) = x.length := by omega
        refine ⟨((x.length : Int) - ls).toNat, by omega, (x, left - wtP x), ?_, X, (ih' _ _ (by simp only; omega) (by simp only; omega)).2 ⟨a4, by simp only; omega⟩, rfl⟩
        rw [e3]
        exact mem_numsP.2 ⟨by simp, a3, rfl, .inr ⟨by simp only; omega, by simp only; omega⟩⟩
theorem mem_allP {h : Int} (h1 : 1 ≤ h) {B : List Bd} (hB : ∀ b ∈ B, 0 ≤ b.lo) {X : List (List Int)} : X ∈ allP h B ↔ inBox h B X := by
  simp only [allP, List.mem_flatMap, List.mem_range]
  constructor
  · rintro ⟨i, hi, hX⟩
    exact ((mem_listsP h1 hB (by omega) (by omega)).1 hX).1
  · intro hX
    obtain ⟨w1, w2⟩ := inBox_wt h1 hX
    refine ⟨(wtsP X - (rwP h B).lo).toNat, by omega, (mem_listsP h1 hB (by omega) (by omega)).2 ⟨hX, by omega⟩⟩

/-- the order of lists -/
def lsLt (X Y : List (List Int)) : Prop := lexP (lskey X) (lskey Y) < 0
theorem pairwise_range {R : Nat → Nat → Prop} {N : Nat} (h : ∀ i j, i < j → R i j) : (List.range N).Pairwise R := by
  have := List.pairwise_lt_range (n := N)
  exact this.imp (fun {a b} hab => h a b hab)
theorem pairwise_range_mem {R : Nat → Nat → Prop} {N : Nat} (h : ∀ i j, i < j → j < N → R i j) : (List.range N).Pairwise R := by
  have := List.pairwise_lt_range (n := N)
  refine this.imp_of_mem (fun {a b} ha hb hab => h a b hab (List.mem_range.1 hb))
theorem numsP_sorted {h : Int} {R : Bd} : ∀ {m : Nat} {left : Int}, (numsP h R m left).Pairwise (fun x y => lexP (x.1.map rankP) (y.1.map rankP) < 0) := by
  intro m
  induction m with
  | zero => intro left; simp [numsP]
  | succ m ih =>
    intro left
    simp only [numsP]
    obtain ⟨ls, hls⟩ : ∃ ls, max 0 (left - 1 - m * h - R.hi) = ls := ⟨_, rfl⟩
    rw [hls]
    rw [List.pairwise_flatMap]
    refine ⟨fun i _ => ?_, pairwise_range fun i j hij => ?_⟩
    · rw [List.pairwise_map]
      refine ih.imp fun {a b} hab => ?_
      simp only [List.map_cons, lexP]
      rw [if_neg (by omega), if_neg (by omega)]
      exact hab
    · intro x hx y hy
      simp only [List.mem_map] at hx hy
      obtain ⟨x', -, rfl⟩ := hx
      obtain ⟨y', -, rfl⟩ := hy
      simp only [List.map_cons, lexP]
      rw [rank_unrank (by omega), rank_unrank (by omega), if_pos (by omega)]
      decide
theorem listsP_sorted {h : Int} : ∀ {B : List Bd}, (∀ b ∈ B, 0 ≤ b.lo) → ∀ {left : Int}, (listsP h B left).Pairwise lsLt := by
  intro B
  induction B with
  | nil => intro _ left; simp [listsP]
  | cons b B ih =>
    intro hb left
    have hb0 := hb b (by simp)
    simp only [listsP]
    obtain ⟨R, hR⟩ : ∃ R, rwP h B = R := ⟨_, rfl⟩
    rw [hR]
    obtain ⟨ls, hls⟩ : ∃ ls, max b.lo ((left - R.hi + h - 1).tdiv h) = ls := ⟨_, rfl⟩
    rw [hls, List.pairwise_flatMap]
    have key : ∀ (x y : List Int) (X Y : List (List Int)), lexP (lskey (x :: X)) (lskey (y :: Y)) = lexP (lkey x ++ lskey X) (lkey y ++ lskey Y) := fun x y X Y => by simp [lskey]
    refine ⟨fun i _ => ?_, pairwise_range fun i j hij => ?_⟩
    · rw [List.pairwise_flatMap]
      refine ⟨fun x hx => ?_, ?_⟩
      · rw [List.pairwise_map]
        refine (ih (fun c hc => hb c (by simp [hc]))).imp fun {X Y} hXY => ?_
        unfold lsLt
        rw [key, lkey_append, if_neg (by omega), if_neg (by omega), if_pos (lexP_self _)]
        exact hXY
      · refine (numsP_sorted (h := h) (R := R)).imp_of_mem fun {x y} hx hy hxy => ?_
        intro X hX Y hY
        simp only [List.mem_map] at hX hY
        obtain ⟨X', -, rfl⟩ := hX
        obtain ⟨Y', -, rfl⟩ := hY
        have l1 := (mem_numsP.1 hx).1
        have l2 := (mem_numsP.1 hy).1
        unfold lsLt
        rw [key, lkey_append, if_neg (by omega), if_neg (by omega), if_neg (by omega)]
        exact hxy
    · intro X hX Y hY
      simp only [List.mem_flatMap, List.mem_map] at hX hY
      obtain ⟨x, hx, X', -, rfl⟩ := hX
      obtain ⟨y, hy, Y', -, rfl⟩ := hY
      have l1 := (mem_numsP.1 hx).1
      have l2 := (mem_numsP.1 hy).1
      unfold lsLt
      rw [key, lkey_append, if_pos (by omega)]
      decide
/-- by weight, then by the lists -/
def wlLt (X Y : List (List Int)) : Prop := wtsP X < wtsP Y ∨ wtsP X = wtsP Y ∧ lsLt X Y
theorem allP_sorted {h : Int} (h1 : 1 ≤ h) {B : List Bd} (hB : ∀ b ∈ B, 0 ≤ b.lo) : (allP h B).Pairwise wlLt := by
  unfold allP
  rw [List.pairwise_flatMap]
  refine ⟨fun i hi => ?_, pairwise_range_mem fun i j hij hj => ?_⟩
  · have hi' := List.mem_range.1 hi
    refine (listsP_sorted hB).imp_of_mem fun {X Y} hX hY hXY => .inr ⟨?_, hXY⟩
    rw [((mem_listsP h1 hB (by omega) (by omega)).1 hX).2, ((mem_listsP h1 hB (by omega) (by omega)).1 hY).2]
  · intro X hX Y hY
    refine .inl ?_
    rw [((mem_listsP h1 hB (by omega) (by omega)).1 hX).2, ((mem_listsP h1 hB (by omega) (by omega)).1 hY).2]
    omega
end Go.Proofs.Ytklbaocgjegdfaa

/- The reference list in plain words: each of the box once; how many; sorted it is All. -/
namespace Go.Proofs.Ytklbaocgjegdfaa
open Go.RowKit
/-- the reference's lists: all of a length; of some lengths; one list for each place -/
def tupsP (v : Nat) : Nat → List (List Int)
  | 0 => [[]]
  | n + 1 => (tupsP v n).flatMap fun l => (List.range (2 * v + 1)).map fun (x : Nat) => l ++ [(x : Int) - v]
def betP (v lo n : Nat) : List (List Int) := (List.range n).flatMap fun i => tupsP v (lo + i)
def nOf (b : Bd) : Nat := (b.hi + 1 - b.lo).toNat
def addP (v : Nat) (S : List (List (List Int))) (b : Bd) : List (List (List Int)) := S.flatMap fun s => (betP v b.lo.toNat (nOf b)).map fun l => s ++ [l]
def boxesP (v : Nat) (B : List Bd) : List (List (List Int)) := B.foldl (addP v) [[]]

theorem rank_lt {v : Nat} {y : Int} : rankP y < 2 * v + 1 ↔ -(v : Int) ≤ y ∧ y ≤ v := by
  unfold rankP; split <;> omega
theorem mem_tupsP {v : Nat} : ∀ {n : Nat} {l : List Int}, l ∈ tupsP v n ↔ l.length = n ∧ ∀ y ∈ l, rankP y < 2 * v + 1 := by
  intro n
  induction n with
  | zero =>
    intro l
    simp only [tupsP, List.mem_singleton]
    constructor
    · rintro rfl; exact ⟨rfl, by simp⟩
    · rintro ⟨h, -⟩; exact List.eq_nil_of_length_eq_zero h
  | succ n ih =>
    intro l
    simp only [tupsP, List.mem_flatMap, List.mem_map, List.mem_range]
    constructor
    · rintro ⟨l', h1, x, hx, rfl⟩
      obtain ⟨i1, i2⟩ := ih.1 h1
      refine ⟨by simp [i1], fun y hy => ?_⟩
      rcases List.mem_append.1 hy with hy | hy
      · exact i2 y hy
      · rw [List.mem_singleton] at hy
        subst hy
        rw [rank_lt]; omega
    · rintro ⟨h1, h2⟩
      have hne : l ≠ [] := by rintro rfl; simp at h1
      have he := List.dropLast_concat_getLast hne
      have hr := rank_lt.1 (h2 (l.getLast hne) (List.getLast_mem hne))
      refine ⟨l.dropLast, ih.2 ⟨by simp [h1], fun y hy => h2 y ((List.dropLast_sublist l).subset hy)⟩, (l.getLast hne + v).toNat, by omega, ?_⟩
      have : (((l.getLast hne + v).toNat : Nat) : Int) - v = l.getLast hne := by omega
      rw [this, he]
theorem mem_betP {v lo n : Nat} {l : List Int} : l ∈ betP v lo n ↔ lo ≤ l.length ∧ l.length < lo + n ∧ ∀ y ∈ l, rankP y < 2 * v + 1 := by
  simp only [betP, List.mem_flatMap, List.mem_range, mem_tupsP]
  constructor
  · rintro ⟨i, hi, h1, h2⟩; exact ⟨by omega, by omega, h2⟩
  · rintro ⟨h1, h2, h3⟩; exact ⟨l.length - lo, by omega, by omega, h3⟩
theorem inBox_snoc {h : Int} : ∀ {B : List Bd} {b : Bd} {X : List (List Int)}, inBox h (B ++ [b]) X ↔ ∃ Y x, X = Y ++ [x] ∧ inBox h B Y ∧ b.lo ≤ x.length ∧ (x.length : Int) ≤ b.hi ∧ ∀ y ∈ x, rankP y < h := by
  intro B
  induction B with
  | nil =>
    intro b X
    cases X with
    | nil => simp [inBox]
    | cons x X =>
      cases X with
      | nil =>
        simp only [List.nil_append, inBox, and_true]
        constructor
        · intro hx; exact ⟨[], x, rfl, trivial, hx⟩
        · rintro ⟨Y, x', e, hY, hx⟩
          cases Y with
          | nil => simp at e; subst e; exact hx
          | cons _ _ => exact hY.elim
      | cons x2 X =>
        simp only [List.nil_append, inBox, and_false, false_iff]
        rintro ⟨Y, x', e, hY, hx⟩
        cases Y with
        | nil => simp at e
        | cons _ _ => exact hY.elim
  | cons a B ih =>
    intro b X
    cases X with
    | nil => simp [inBox]
    | cons x X =>
      simp only [List.cons_append, inBox]
      rw [ih]
      constructor
      · rintro ⟨h1, Y, z, rfl, h2, h3⟩
        exact ⟨x :: Y, z, rfl, ⟨h1, h2⟩, h3⟩
      · rintro ⟨Y, z, e, hY, h3⟩
        cases Y with
        | nil => exact hY.elim
        | cons y Y =>
          simp only [List.cons_append, List.cons.injEq] at e
          obtain ⟨rfl, rfl⟩ := e
          exact ⟨hY.1, Y, z, rfl, hY.2, h3⟩
theorem boxesP_snoc (v : Nat) (B : List Bd) (b : Bd) : boxesP v (B ++ [b]) = addP v (boxesP v B) b := by simp [boxesP, List.foldl_append]
theorem snoc_ind {α : Type} {P : List α → Prop} (h0 : P []) (h1 : ∀ l a, P l → P (l ++ [a])) (l : List α) : P l := by
  have : ∀ n (l : List α), l.length = n → P l := by
    intro n
    induction n with
    | zero => intro l hl; rw [List.eq_nil_of_length_eq_zero hl]; exact h0
    | succ n ih =>
      intro l hl
      have hne : l ≠ [] := by rintro rfl; simp at hl
      rw [← List.dropLast_concat_getLast hne]
      exact h1 _ _ (ih _ (by simp [hl]))
  exact this _ l rfl
theorem mem_boxesP {v : Nat} {B : List Bd} : (∀ b ∈ B, 0 ≤ b.lo) → ∀ X, X ∈ boxesP v B ↔ inBox (2 * v + 1) B X := by
  induction B using snoc_ind with
  | h0 =>
    intro _ X
    cases X with
    | nil => simp [boxesP, inBox]
    | cons _ _ => simp [boxesP, inBox]
  | h1 B b ih =>
    intro hB X
    have hb := hB b (by simp)
    rw [boxesP_snoc, inBox_snoc]
    simp only [addP, List.mem_flatMap, List.mem_map, mem_betP, nOf]
    constructor
    · rintro ⟨Y, hY, x, ⟨h1, h2, h3⟩, rfl⟩
      exact ⟨Y, x, rfl, (ih (fun c hc => hB c (by simp [hc])) Y).1 hY, by omega, by omega, h3⟩
    · rintro ⟨Y, x, rfl, hY, h1, h2, h3⟩
      exact ⟨Y, (ih (fun c hc => hB c (by simp [hc])) Y).2 hY, x, ⟨by omega, by omega, h3⟩, rfl⟩
/-- each once -/
theorem nodup_flatMap {α β : Type} {l : List α} {f : α → List β} (hl : l.Nodup) (h1 : ∀ a ∈ l, (f a).Nodup) (h2 : ∀ a ∈ l, ∀ b ∈ l, ∀ x, x ∈ f a → x ∈ f b → a = b) : (l.flatMap f).Nodup := by
  unfold List.Nodup
  rw [List.pairwise_flatMap]
  refine ⟨h1, hl.imp_of_mem fun {a b} ha hb hne x hx y hy e => ?_⟩
  subst e
  exact hne (h2 a ha b hb x hx hy)
theorem nodup_map {α β : Type} {l : List α} {f : α → β} (hl : l.Nodup) (h : ∀ a b, f a = f b → a = b) : (l.map f).Nodup := by
  unfold List.Nodup
  rw [List.pairwise_map]
  exact hl.imp fun {a b} hne e => hne (h a b e)
theorem snoc_inj {α : Type} {a b : List α} {x y : α} (h : a ++ [x] = b ++ [y]) : a = b ∧ x = y := by
  have h1 := List.append_inj h (by have := congrArg List.length h; simp at this; exact this)
  exact ⟨h1.1, by simpa using h1.2⟩
theorem tupsP_nodup (v n : Nat) : (tupsP v n).Nodup := by
  induction n with
  | zero => simp [tupsP]
  | succ n ih =>
    refine nodup_flatMap ih (fun l _ => nodup_map List.nodup_range fun a b h => ?_) fun l _ m _ x hx hy => ?_
    · have := (snoc_inj h).2; omega
    · simp only [List.mem_map] at hx hy
      obtain ⟨_, _, rfl⟩ := hx
      obtain ⟨_, _, e⟩ := hy
      exact (snoc_inj e).1.symm
theorem betP_nodup (v lo n : Nat) : (betP v lo n).Nodup := by
  refine nodup_flatMap List.nodup_range (fun i _ => tupsP_nodup _ _) fun i _ j _ x hx hy => ?_
  have h1 := (mem_tupsP.1 hx).1
  have h2 := (mem_tupsP.1 hy).1
  omega
theorem boxesP_nodup (v : Nat) (B : List Bd) : (boxesP v B).Nodup := by
  induction B using snoc_ind with
  | h0 => simp [boxesP]
  | h1 B b ih =>
    rw [boxesP_snoc]
    refine nodup_flatMap ih (fun s _ => nodup_map (betP_nodup _ _ _) fun a b h => (snoc_inj h).2) fun s _ t _ x hx hy => ?_
    simp only [List.mem_map] at hx hy
    obtain ⟨_, _, rfl⟩ := hx
    obtain ⟨_, _, e⟩ := hy
    exact (snoc_inj e).1.symm
/-- how many -/
def cntB (v : Nat) (b : Bd) : Nat := ((List.range (nOf b)).map fun i => (2 * v + 1) ^ (b.lo.toNat + i)).sum
def cntP (v : Nat) (B : List Bd) : Nat := B.foldl (fun n b => n * cntB v b) 1
theorem length_flatMap_const {α β : Type} (l : List α) (f : α → List β) (n : Nat) (h : ∀ a, (f a).length = n) : (l.flatMap f).length = l.length * n := by
  induction l with
  | nil => simp
  | cons a l ih => rw [List.flatMap_cons, List.length_append, h, ih, List.length_cons, Nat.add_mul, Nat.one_mul, Nat.add_comm]
theorem tupsP_length (v n : Nat) : (tupsP v n).length = (2 * v + 1) ^ n := by
  induction n with
  | zero => rfl
  | succ n ih =>
    simp only [tupsP]
    rw [length_flatMap_const _ _ (2 * v + 1) (fun a => by simp), ih, Nat.pow_succ]
theorem betP_length (v lo n : Nat) : (betP v lo n).length = ((List.range n).map fun i => (2 * v + 1) ^ (lo + i)).sum := by
  unfold betP
  rw [List.length_flatMap]
  simp only [tupsP_length]
theorem boxesP_length (v : Nat) (B : List Bd) : (boxesP v B).length = cntP v B := by
  induction B using snoc_ind with
  | h0 => rfl
  | h1 B b ih =>
    rw [boxesP_snoc]
    unfold addP
    rw [length_flatMap_const _ _ (cntB v b) (fun a => by rw [List.length_map, betP_length]; rfl), ih]
    simp [cntP, List.foldl_append]
theorem wlLt_irrefl (X : List (List Int)) : ¬ wlLt X X := by
  rintro (h | ⟨-, h⟩)
  · omega
  · unfold lsLt at h; rw [lexP_self] at h; omega
theorem wlLt_trans {X Y Z : List (List Int)} (h1 : wlLt X Y) (h2 : wlLt Y Z) : wlLt X Z := by
  rcases h1 with h1 | ⟨h1, h1'⟩ <;> rcases h2 with h2 | ⟨h2, h2'⟩
  · exact .inl (by omega)
  · exact .inl (by omega)
  · exact .inl (by omega)
  · exact .inr ⟨by omega, lexP_trans h1' h2'⟩
theorem wlLt_total {X Y : List (List Int)} (hl : X.length = Y.length) : X = Y ∨ wlLt X Y ∨ wlLt Y X := by
  rcases Int.lt_trichotomy (wtsP X) (wtsP Y) with h | h | h
  · exact .inr (.inl (.inl h))
  · rcases lexP_cases (lskey X) (lskey Y) with e | e | e
    · exact .inr (.inl (.inr ⟨h, by unfold lsLt; omega⟩))
    · refine .inl (lskey_zero (x := []) (y := []) hl ?_).1
      rwa [List.append_nil, List.append_nil]
    · refine .inr (.inr (.inr ⟨h.symm, ?_⟩))
      unfold lsLt
      rw [lexP_anti (lskey X) (lskey Y), e]
      decide
  · exact .inr (.inr (.inl h))
theorem allP_nodup {h : Int} (h1 : 1 ≤ h) {B : List Bd} (hB : ∀ b ∈ B, 0 ≤ b.lo) : (allP h B).Nodup := by
  refine (allP_sorted h1 hB).imp fun {a b} hab e => ?_
  subst e
  exact wlLt_irrefl _ hab
theorem all_perm {v : Nat} {B : List Bd} (hB : ∀ b ∈ B, 0 ≤ b.lo) : (allP (2 * v + 1) B).Perm (boxesP v B) := by
  rw [List.perm_ext_iff_of_nodup (allP_nodup (by omega) hB) (boxesP_nodup v B)]
  intro X
  rw [mem_allP (by omega) hB, mem_boxesP hB]
theorem allP_length {v : Nat} {B : List Bd} (hB : ∀ b ∈ B, 0 ≤ b.lo) : (allP (2 * v + 1) B).length = cntP v B := by
  rw [(all_perm hB).length_eq, boxesP_length]
/-- sorted, and the same: one list -/
theorem sorted_unique {α : Type} {R : α → α → Prop} (hir : ∀ x, ¬ R x x) (htr : ∀ x y z, R x y → R y z → R x z) : ∀ {l m : List α}, l.Pairwise R → m.Pairwise R → l.Perm m → l = m := by
  intro l
  induction l with
  | nil => intro m _ _ hp; exact (List.nil_perm.1 hp).symm ▸ rfl
  | cons a l ih =>
    intro m h1 h2 hp
    cases m with
    | nil => exact absurd hp.length_eq (by simp)
    | cons b m =>
      have e : a = b := by
        rcases List.mem_cons.1 (hp.subset (List.mem_cons_self (a := a))) with e | h
        · exact e
        · rcases List.mem_cons.1 (hp.symm.subset (List.mem_cons_self (a := b))) with e | h'
          · exact e.symm
          · exact absurd (htr _ _ _ ((List.pairwise_cons.1 h1).1 b h') ((List.pairwise_cons.1 h2).1 a h)) (hir a)
      subst e
      rw [ih (List.pairwise_cons.1 h1).2 (List.pairwise_cons.1 h2).2 (List.perm_cons a |>.1 hp)]
end Go.Proofs.Ytklbaocgjegdfaa

/- The order of states in plain words; sorting by merging. -/
namespace Go.Proofs.Ytklbaocgjegdfaa
open Go.RowKit
/-- the order of states -/
def listsS (s : St) : List (List Int) := s.cells ++ [s.inp, s.out]
def keyP (s : St) : List Int := IntKind.i64.wrap (wtsP (listsS s)) :: (s.cells.length : Int) :: lskey (listsS s)
def cmpP (a b : St) : Int := lexP (keyP a) (keyP b)
theorem cmpP_self (a : St) : cmpP a a = 0 := lexP_self _
theorem cmpP_anti (a b : St) : cmpP b a = -cmpP a b := lexP_anti _ _
theorem cmpP_trans {a b c : St} (h1 : cmpP a b < 0) (h2 : cmpP b c < 0) : cmpP a c < 0 := lexP_trans h1 h2
theorem cmpP_zero {a b : St} (h : cmpP a b = 0) : a = b := by
  unfold cmpP keyP at h
  simp only [lexP] at h
  by_cases h1 : IntKind.i64.wrap (wtsP (listsS a)) < IntKind.i64.wrap (wtsP (listsS b))
  · rw [if_pos h1] at h; omega
  rw [if_neg h1] at h
  by_cases h2 : IntKind.i64.wrap (wtsP (listsS b)) < IntKind.i64.wrap (wtsP (listsS a))
  · rw [if_pos h2] at h; omega
  rw [if_neg h2] at h
  by_cases h3 : (a.cells.length : Int) < b.cells.length
  · rw [if_pos h3] at h; omega
  rw [if_neg h3] at h
  by_cases h4 : (b.cells.length : Int) < a.cells.length
  · rw [if_pos h4] at h; omega
  rw [if_neg h4] at h
  have hl : a.cells.length = b.cells.length := by omega
  have e := (lskey_zero (x := []) (y := []) (L := listsS a) (M := listsS b) (by simp [listsS, hl]) (by simpa using h)).1
  unfold listsS at e
  obtain ⟨e1, e2⟩ := List.append_inj e hl
  simp only [List.cons.injEq, and_true] at e2
  cases a; cases b
  simp_all
/-- of two states out of equally many lists -/
theorem wtsP_append (X Y : List (List Int)) : wtsP (X ++ Y) = wtsP X + wtsP Y := by simp [wtsP]
theorem mkSt_lists {X : List (List Int)} (h : 0 < X.length) : listsS (mkSt X) = X ++ [[]] := by
  have hne : X ≠ [] := by rintro rfl; simp at h
  unfold listsS mkSt
  have e := List.dropLast_concat_getLast hne
  have e2 : X.getLastD [] = X.getLast hne := by rw [List.getLastD_eq_getLast?, List.getLast?_eq_some_getLast hne]; rfl
  simp only [e2]
  conv => rhs; rw [← e]
  simp
theorem mkSt_inj {X Y : List (List Int)} (h1 : 0 < X.length) (h2 : 0 < Y.length) (h : mkSt X = mkSt Y) : X = Y := by
  have := congrArg listsS h
  rw [mkSt_lists h1, mkSt_lists h2] at this
  exact (List.append_inj' this rfl).1
theorem cmp_mkSt {X Y : List (List Int)} (hl : X.length = Y.length) (h0 : 0 < X.length) (hX : 0 ≤ wtsP X ∧ wtsP X ≤ 9223372036854775807) (hY : 0 ≤ wtsP Y ∧ wtsP Y ≤ 9223372036854775807) : cmpP (mkSt X) (mkSt Y) < 0 ↔ wlLt X Y := by
  unfold cmpP keyP
  rw [mkSt_lists h0, mkSt_lists (by omega), wtsP_append, wtsP_append]
  have e0 : wtsP [[]] = 0 := rfl
  have ec : ((mkSt X).cells.length : Int) = (mkSt Y).cells.length := by simp [mkSt, hl]
  rw [e0, Int.add_zero, Int.add_zero, IntWalk.i64_in _ (by omega), IntWalk.i64_in _ (by omega), ec]
  have ek : ∀ Z : List (List Int), lskey (Z ++ [[]]) = lskey Z ++ [0] := fun Z => by simp [lskey, lkey]
  simp only [lexP, ek, Int.lt_irrefl, if_false]
  by_cases h1 : wtsP X < wtsP Y
  · rw [if_pos h1]
    exact ⟨fun _ => .inl h1, fun _ => by decide⟩
  rw [if_neg h1]
  by_cases h2 : wtsP Y < wtsP X
  · rw [if_pos h2]
    constructor
    · intro h; omega
    · rintro (h | ⟨h, -⟩) <;> omega
  rw [if_neg h2]
  have h3 : wtsP X = wtsP Y := by omega
  have key : lexP (lskey X ++ [0]) (lskey Y ++ [0]) < 0 ↔ lexP (lskey X) (lskey Y) < 0 := by
    by_cases hz : lexP (lskey X) (lskey Y) = 0
    · have e := (lskey_zero (x := []) (y := []) hl (by simpa using hz)).1
      subst e
      simp [lexP_self]
    · have : ∀ (p q : List Int) (x y : List Int), lexP p q ≠ 0 → lexP (p ++ x) (q ++ y) = lexP p q := by
        intro p
        induction p with
        | nil => intro q x y h; exact absurd rfl h
        | cons a p ih =>
          intro q x y h
          cases q with
          | nil => exact absurd rfl h
          | cons b q =>
            simp only [List.cons_append, lexP] at h ⊢
            by_cases g1 : a < b
            · simp [g1]
            · by_cases g2 : b < a
              · simp [g1, g2]
              · simp only [if_neg g1, if_neg g2] at h ⊢
                exact ih q x y h
      rw [this _ _ _ _ hz]
  rw [key]
  constructor
  · intro h; exact .inr ⟨h3, h⟩
  · rintro (h | ⟨-, h⟩)
    · omega
    · exact h

/-- merging, and sorting by merging -/
def mergeP : Nat → List St → List St → List St
  | 0, a, b => a ++ b
  | n + 1, a, b =>
    match a, b with
    | [], b => b
    | a, [] => a
    | x :: a, y :: b => if cmpP y x < 0 then y :: mergeP n (x :: a) b else x :: mergeP n a (y :: b)
def sortP : Nat → List St → List St
  | 0, l => l
  | n + 1, l => if l.length < 2 then l else
    let a := sortP n (l.take (l.length / 2))
    let b := sortP n (l.drop (l.length / 2))
    mergeP (a.length + b.length) a b
theorem mergeP_perm : ∀ n a b, (mergeP n a b).Perm (a ++ b) := by
  intro n
  induction n with
  | zero => intro a b; exact .refl _
  | succ n ih =>
    intro a b
    cases a with
    | nil => exact .refl _
    | cons x a =>
      cases b with
      | nil => simp [mergeP]
      | cons y b =>
        simp only [mergeP]
        split
        · exact ((ih (x :: a) b).cons y).trans (List.perm_middle (l₁ := x :: a)).symm
        · exact (ih a (y :: b)).cons x
theorem sortP_perm : ∀ n l, (sortP n l).Perm l := by
  intro n
  induction n with
  | zero => intro l; exact .refl _
  | succ n ih =>
    intro l
    simp only [sortP]
    split
    · exact .refl _
    · refine (mergeP_perm _ _ _).trans (((ih _).append (ih _)).trans ?_)
      rw [List.take_append_drop]
def cle (a b : St) : Prop := cmpP a b ≤ 0
theorem cle_trans {a b c : St} (h1 : cle a b) (h2 : cle b c) : cle a c := by
  unfold cle at *
  rcases Int.lt_or_eq_of_le h1 with g1 | g1
  · rcases Int.lt_or_eq_of_le h2 with g2 | g2
    · exact Int.le_of_lt (cmpP_trans g1 g2)
    · rw [← cmpP_zero g2]; exact h1
  · rw [cmpP_zero g1]; exact h2
theorem mergeP_sorted : ∀ n a b, a.length + b.length ≤ n → a.Pairwise cle → b.Pairwise cle → (mergeP n a b).Pairwise cle := by
  intro n
  induction n with
  | zero =>
    intro a b h _ _
    have e1 := List.eq_nil_of_length_eq_zero (show a.length = 0 by omega)
    have e2 := List.eq_nil_of_length_eq_zero (show b.length = 0 by omega)
    subst e1 e2
    simp [mergeP]
  | succ n ih =>
    intro a b h ha hb
    cases a with
    | nil => exact hb
    | cons x a =>
      cases b with
      | nil => exact ha
      | cons y b =>
        simp only [List.length_cons] at h
        simp only [mergeP]
        have ha' := List.pairwise_cons.1 ha
        have hb' := List.pairwise_cons.1 hb
        by_cases hc : cmpP y x < 0
        · rw [if_pos hc]
          refine List.pairwise_cons.2 ⟨fun z hz => ?_, ih _ _ (by simp only [List.length_cons]; omega) ha hb'.2⟩
          have hz' := (mergeP_perm n (x :: a) b).subset hz
          rcases List.mem_append.1 hz' with hz' | hz'
          · rcases List.mem_cons.1 hz' with rfl | hz'
            · exact Int.le_of_lt hc
            · exact cle_trans (show cle y x from Int.le_of_lt hc) (ha'.1 z hz')
          · exact hb'.1 z hz'
        · rw [if_neg hc]
          have hxy : cle x y := by unfold cle; rw [cmpP_anti y x]; omega
          refine List.pairwise_cons.2 ⟨fun z hz => ?_, ih _ _ (by simp only [List.length_cons]; omega) ha'.2 hb⟩
          have hz' := (mergeP_perm n a (y :: b)).subset hz
          rcases List.mem_append.1 hz' with hz' | hz'
          · exact ha'.1 z hz'
          · rcases List.mem_cons.1 hz' with rfl | hz'
            · exact hxy
            · exact cle_trans hxy (hb'.1 z hz')
theorem sortP_sorted : ∀ n l, l.length ≤ n → (sortP n l).Pairwise cle := by
  intro n
  induction n with
  | zero =>
    intro l h
    have := List.eq_nil_of_length_eq_zero (show l.length = 0 by omega)
    subst this
    simp [sortP]
  | succ n ih =>
    intro l h
    simp only [sortP]
    split
    · rename_i h2
      match l, h2 with
      | [], _ => simp
      | [x], _ => simp
    · exact mergeP_sorted _ _ _ (Nat.le_refl _) (ih _ (by rw [List.length_take]; omega)) (ih _ (by rw [List.length_drop]; omega))
/-- a sorted list of states, each once, is the same in every spelling -/
theorem sortP_eq {n : Nat} {l m : List St} (hn : l.length ≤ n) (hm : m.Pairwise (fun a b => cmpP a b < 0)) (hp : m.Perm l) : sortP n l = m := by
  have hs := sortP_sorted n l hn
  have hq := (sortP_perm n l).trans hp.symm
  have hnd : (sortP n l).Nodup := hq.nodup_iff.2 (hm.imp fun {a b} hab e => by subst e; rw [cmpP_self] at hab; omega)
  refine sorted_unique (R := fun a b => cmpP a b < 0) (fun x h => by rw [cmpP_self] at h; omega) (fun x y z => cmpP_trans) ?_ hm hq
  refine (hs.and hnd).imp fun {a b} h => ?_
  rcases Int.lt_or_eq_of_le h.1 with g | g
  · exact g
  · exact absurd (cmpP_zero g) h.2
end Go.Proofs.Ytklbaocgjegdfaa
