/- The order of states in plain words; sorting by merging. -/
import Derived.IntWalk
import Derived.Test.YtklbaocgjegdfaaEnQ2
namespace Go.Proofs.Ytklbaocgjegdfaa
open Go.RowKit
/-- the order of states -/
def listsS (s : St) : List (List Int) := s.cells ++ [s.inp, s.out]
def keyP (s : St) : List Int := IntKind.i64.wrap (wtsP (listsS s)) :: (s.cells.length : Int) :: lskey (listsS s)
def cmpP (a b : St) : Int := lexP (keyP a) (keyP b)
theorem cmpP_self (a : St) : cmpP a a = 0 := lexP_self _
theorem cmpP_anti (a b : St) : cmpP b a = -cmpP a b := lexP_anti _ _
theorem cmpP_trans {a b c : St} (h1 : cmpP a b < 0) (h2 : cmpP b c < 0) : cmpP a c < 0 := lexP_trans h1 h2
theorem cmpP_zero {a b : St} (h : cmpP a b = 0) : a = b := by
  unfold cmpP keyP at h
  simp only [lexP] at h
  by_cases h1 : IntKind.i64.wrap (wtsP (listsS a)) < IntKind.i64.wrap (wtsP (listsS b))
  · rw [if_pos h1] at h; omega
  rw [if_neg h1] at h
  by_cases h2 : IntKind.i64.wrap (wtsP (listsS b)) < IntKind.i64.wrap (wtsP (listsS a))
  · rw [if_pos h2] at h; omega
  rw [if_neg h2] at h
  by_cases h3 : (a.cells.length : Int) < b.cells.length
  · rw [if_pos h3] at h; omega
  rw [if_neg h3] at h
  by_cases h4 : (b.cells.length : Int) < a.cells.length
  · rw [if_pos h4] at h; omega
  rw [if_neg h4] at h
  have hl : a.cells.length = b.cells.length := by omega
  have e := (lskey_zero (x := []) (y := []) (L := listsS a) (M := listsS b) (by simp [listsS, hl]) (by simpa using h)).1
  unfold listsS at e
  obtain ⟨e1, e2⟩ := List.append_inj e hl
  simp only [List.cons.injEq, and_true] at e2
  cases a; cases b
  simp_all
/-- of two states out of equally many lists -/
theorem wtsP_append (X Y : List (List Int)) : wtsP (X ++ Y) = wtsP X + wtsP Y := by simp [wtsP]
theorem mkSt_lists {X : List (List Int)} (h : 0 < X.length) : listsS (mkSt X) = X ++ [[]] := by
  have hne : X ≠ [] := by rintro rfl; simp at h
  unfold listsS mkSt
  have e := List.dropLast_concat_getLast hne
  have e2 : X.getLastD [] = X.getLast hne := by rw [List.getLastD_eq_getLast?, List.getLast?_eq_some_getLast hne]; rfl
  simp only [e2]
  conv => rhs; rw [← e]
  simp
theorem mkSt_inj {X Y : List (List Int)} (h1 : 0 < X.length) (h2 : 0 < Y.length) (h : mkSt X = mkSt Y) : X = Y := by
  have := congrArg listsS h
  rw [mkSt_lists h1, mkSt_lists h2] at this
  exact (List.append_inj' this rfl).1
theorem cmp_mkSt {X Y : List (List Int)} (hl : X.length = Y.length) (h0 : 0 < X.length) (hX : 0 ≤ wtsP X ∧ wtsP X ≤ 9223372036854775807) (hY : 0 ≤ wtsP Y ∧ wtsP Y ≤ 9223372036854775807) : cmpP (mkSt X) (mkSt Y) < 0 ↔ wlLt X Y := by
  unfold cmpP keyP
  rw [mkSt_lists h0, mkSt_lists (by omega), wtsP_append, wtsP_append]
  have e0 : wtsP [[]] = 0 := rfl
  have ec : ((mkSt X).cells.length : Int) = (mkSt Y).cells.length := by simp [mkSt, hl]
  rw [e0, Int.add_zero, Int.add_zero, IntWalk.i64_in _ (by omega), IntWalk.i64_in _ (by omega), ec]
  have ek : ∀ Z : List (List Int), lskey (Z ++ [[]]) = lskey Z ++ [0] := fun Z => by simp [lskey, lkey]
  simp only [lexP, ek, Int.lt_irrefl, if_false]
  by_cases h1 : wtsP X < wtsP Y
  · rw [if_pos h1]
    exact ⟨fun _ => .inl h1, fun _ => by decide⟩
  rw [if_neg h1]
  by_cases h2 : wtsP Y < wtsP X
  · rw [if_pos h2]
    constructor
    · intro h; omega
    · rintro (h | ⟨h, -⟩) <;> omega
  rw [if_neg h2]
  have h3 : wtsP X = wtsP Y := by omega
  have key : lexP (lskey X ++ [0]) (lskey Y ++ [0]) < 0 ↔ lexP (lskey X) (lskey Y) < 0 := by
    by_cases hz : lexP (lskey X) (lskey Y) = 0
    · have e := (lskey_zero (x := []) (y := []) hl (by simpa using hz)).1
      subst e
      simp [lexP_self]
    · have : ∀ (p q : List Int) (x y : List Int), lexP p q ≠ 0 → lexP (p ++ x) (q ++ y) = lexP p q := by
        intro p
        induction p with
        | nil => intro q x y h; exact absurd rfl h
        | cons a p ih =>
          intro q x y h
          cases q with
          | nil => exact absurd rfl h
          | cons b q =>
            simp only [List.cons_append, lexP] at h ⊢
            by_cases g1 : a < b
            · simp [g1]
            · by_cases g2 : b < a
              · simp [g1, g2]
              · simp only [if_neg g1, if_neg g2] at h ⊢
                exact ih q x y h
      rw [this _ _ _ _ hz]
  rw [key]
  constructor
  · intro h; exact .inr ⟨h3, h⟩
  · rintro (h | ⟨-, h⟩)
    · omega
    · exact h

/-- merging, and sorting by merging -/
def mergeP : Nat → List St → List St → List St
  | 0, a, b => a ++ b
  | n + 1, a, b =>
    match a, b with
    | [], b => b
    | a, [] => a
    | x :: a, y :: b => if cmpP y x < 0 then y :: mergeP n (x :: a) b else x :: mergeP n a (y :: b)
def sortP : Nat → List St → List St
  | 0, l => l
  | n + 1, l => if l.length < 2 then l else
    let a := sortP n (l.take (l.length / 2))
    let b := sortP n (l.drop (l.length / 2))
    mergeP (a.length + b.length) a b
theorem mergeP_perm : ∀ n a b, (mergeP n a b).Perm (a ++ b) := by
  intro n
  induction n with
  | zero => intro a b; exact .refl _
  | succ n ih =>
    intro a b
    cases a with
    | nil => exact .refl _
    | cons x a =>
      cases b with
      | nil => simp [mergeP]
      | cons y b =>
        simp only [mergeP]
        split
        · exact ((ih (x :: a) b).cons y).trans (List.perm_middle (l₁ := x :: a)).symm
        · exact (ih a (y :: b)).cons x
theorem sortP_perm : ∀ n l, (sortP n l).Perm l := by
  intro n
  induction n with
  | zero => intro l; exact .refl _
  | succ n ih =>
    intro l
    simp only [sortP]
    split
    · exact .refl _
    · refine (mergeP_perm _ _ _).trans (((ih _).append (ih _)).trans ?_)
      rw [List.take_append_drop]
def cle (a b : St) : Prop := cmpP a b ≤ 0
theorem cle_trans {a b c : St} (h1 : cle a b) (h2 : cle b c) : cle a c := by
  unfold cle at *
  rcases Int.lt_or_eq_of_le h1 with g1 | g1
  · rcases Int.lt_or_eq_of_le h2 with g2 | g2
    · exact Int.le_of_lt (cmpP_trans g1 g2)
    · rw [← cmpP_zero g2]; exact h1
  · rw [cmpP_zero g1]; exact h2
theorem mergeP_sorted : ∀ n a b, a.length + b.length ≤ n → a.Pairwise cle → b.Pairwise cle → (mergeP n a b).Pairwise cle := by
  intro n
  induction n with
  | zero =>
    intro a b h _ _
    have e1 := List.eq_nil_of_length_eq_zero (show a.length = 0 by omega)
    have e2 := List.eq_nil_of_length_eq_zero (show b.length = 0 by omega)
    subst e1 e2
    simp [mergeP]
  | succ n ih =>
    intro a b h ha hb
    cases a with
    | nil => exact hb
    | cons x a =>
      cases b with
      | nil => exact ha
      | cons y b =>
        simp only [List.length_cons] at h
        simp only [mergeP]
        have ha' := List.pairwise_cons.1 ha
        have hb' := List.pairwise_cons.1 hb
        by_cases hc : cmpP y x < 0
        · rw [if_pos hc]
          refine List.pairwise_cons.2 ⟨fun z hz => ?_, ih _ _ (by simp only [List.length_cons]; omega) ha hb'.2⟩
          have hz' := (mergeP_perm n (x :: a) b).subset hz
          rcases List.mem_append.1 hz' with hz' | hz'
          · rcases List.mem_cons.1 hz' with rfl | hz'
            · exact Int.le_of_lt hc
            · exact cle_trans (show cle y x from Int.le_of_lt hc) (ha'.1 z hz')
          · exact hb'.1 z hz'
        · rw [if_neg hc]
          have hxy : cle x y := by unfold cle; rw [cmpP_anti y x]; omega
          refine List.pairwise_cons.2 ⟨fun z hz => ?_, ih _ _ (by simp only [List.length_cons]; omega) ha'.2 hb⟩
          have hz' := (mergeP_perm n a (y :: b)).subset hz
          rcases List.mem_append.1 hz' with hz' | hz'
          · exact ha'.1 z hz'
          · rcases List.mem_cons.1 hz' with rfl | hz'
            · exact hxy
            · exact cle_trans hxy (hb'.1 z hz')
theorem sortP_sorted : ∀ n l, l.length ≤ n → (sortP n l).Pairwise cle := by
  intro n
  induction n with
  | zero =>
    intro l h
    have := List.eq_nil_of_length_eq_zero (show l.length = 0 by omega)
    subst this
    simp [sortP]
  | succ n ih =>
    intro l h
    simp only [sortP]
    split
    · rename_i h2
      match l, h2 with
      | [], _ => simp
      | [x], _ => simp
    · exact mergeP_sorted _ _ _ (Nat.le_refl _) (ih _ (by rw [List.length_take]; omega)) (ih _ (by rw [List.length_drop]; omega))
/-- a sorted list of states, each once, is the same in every spelling -/
theorem sortP_eq {n : Nat} {l m : List St} (hn : l.length ≤ n) (hm : m.Pairwise (fun a b => cmpP a b < 0)) (hp : m.Perm l) : sortP n l = m := by
  have hs := sortP_sorted n l hn
  have hq := (sortP_perm n l).trans hp.symm
  have hnd : (sortP n l).Nodup := hq.nodup_iff.2 (hm.imp fun {a b} hab e => by subst e; rw [cmpP_self] at hab; omega)
  refine sorted_unique (R := fun a b => cmpP a b < 0) (fun x h => by rw [cmpP_self] at h; omega) (fun x y z => cmpP_trans) ?_ hm hq
  refine (hs.and hnd).imp fun {a b} h => ?_
  rcases Int.lt_or_eq_of_le h.1 with g | g
  · exact g
  · exact absurd (cmpP_zero g) h.2
end Go.Proofs.Ytklbaocgjegdfaa
