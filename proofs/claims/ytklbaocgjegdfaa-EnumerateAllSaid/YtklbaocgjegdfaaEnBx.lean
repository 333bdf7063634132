/- The states of a small box: what they are; plain. -/
import Derived.Test.YtklbaocgjegdfaaEnCo
import Derived.Test.YtklbaocgjegdfaaEnC3
namespace Go.Proofs.Ytklbaocgjegdfaa

theorem inBox_all {h : Int} : ∀ {B : List Bd} {X : List (List Int)}, inBox h B X → X.length = B.length ∧ ∀ l ∈ X, ∃ b ∈ B, b.lo ≤ l.length ∧ (l.length : Int) ≤ b.hi ∧ ∀ y ∈ l, rankP y < h := by
  intro B
  induction B with
  | nil =>
    intro X hX
    cases X with
    | nil => exact ⟨rfl, fun l hl => by cases hl⟩
    | cons a X => exact hX.elim
  | cons b B ih =>
    intro X hX
    cases X with
    | nil => exact hX.elim
    | cons a X =>
      obtain ⟨h1, h2⟩ := hX
      obtain ⟨i1, i2⟩ := ih h2
      refine ⟨by simp [i1], fun l hl => ?_⟩
      rcases List.mem_cons.1 hl with rfl | hl
      · exact ⟨b, by simp, h1⟩
      · obtain ⟨c, hc, h3⟩ := i2 l hl
        exact ⟨c, by simp [hc], h3⟩
inductive Wider : List Bd → List Bd → Prop
  | nil : Wider [] []
  | cons {b b' : Bd} {B B' : List Bd} : (b'.lo ≤ b.lo ∧ b.hi ≤ b'.hi) → Wider B B' → Wider (b :: B) (b' :: B')
/-- what is in a box is in a wider one -/
theorem inBox_mono {h h' : Int} (hh : h ≤ h') : ∀ {B B' : List Bd} {X : List (List Int)}, Wider B B' → inBox h B X → inBox h' B' X := by
  intro B
  induction B with
  | nil =>
    intro B' X hB hX
    cases hB
    cases X with
    | nil => exact hX
    | cons a X => exact hX.elim
  | cons b B ih =>
    intro B' X hB hX
    cases hB with
    | cons hb hB =>
      cases X with
      | nil => exact hX.elim
      | cons a X =>
        obtain ⟨⟨h1, h2, h3⟩, h4⟩ := hX
        exact ⟨⟨Int.le_trans hb.1 h1, Int.le_trans h2 hb.2, fun y hy => Int.lt_of_lt_of_le (h3 y hy) hh⟩, ih hB h4⟩
theorem lens_wider {le le' inp inp' : Int} (h1 : le ≤ le') (h2 : inp ≤ inp') (D : List Decl) : Wider (lensP D le inp) (lensP D le' inp') := by
  unfold lensP
  induction D with
  | nil => exact .cons ⟨Int.le_refl _, h2⟩ .nil
  | cons d D ih =>
    refine .cons ?_ ih
    unfold lenD
    split
    · exact ⟨Int.le_refl _, h1⟩
    · exact ⟨Int.le_refl _, Int.le_refl _⟩

/-- the states of a box -/
def stsP (D : List Decl) (v le inp : Nat) : List St := (allP (2 * (v : Int) + 1) (lensP D le inp)).map mkSt
/-- one state before the other -/
def stLt (s t : St) : Prop := ∃ X Y, 0 < X.length ∧ 0 < Y.length ∧ s = mkSt X ∧ t = mkSt Y ∧ wlLt X Y
theorem stLt_irrefl (s : St) : ¬ stLt s s := by
  rintro ⟨X, Y, h1, h2, e1, e2, h3⟩
  obtain rfl := mkSt_inj h1 h2 (e1 ▸ e2)
  exact wlLt_irrefl _ h3
theorem stLt_trans {s t u : St} (h : stLt s t) (k : stLt t u) : stLt s u := by
  obtain ⟨X, Y, h1, h2, e1, e2, h3⟩ := h
  obtain ⟨Y', Z, k1, k2, f1, f2, k3⟩ := k
  obtain rfl := mkSt_inj h2 k1 (e2 ▸ f1)
  exact ⟨X, Z, h1, k2, e1, f2, wlLt_trans h3 k3⟩

section
variable {D : List Decl} {v le inp : Nat}
theorem SmallP.cond (h : SmallP D v le inp) : Cond (2 * (v : Int) + 1) (lensP D le inp) :=
  lens_cond h.val ⟨by omega, by have := h.v1000; omega⟩ ⟨by omega, by have := h.le1000; omega⟩ ⟨by omega, by have := h.inp1000; omega⟩
theorem SmallP.mem (h : SmallP D v le inp) {X : List (List Int)} : X ∈ allP (2 * (v : Int) + 1) (lensP D le inp) ↔ inBox (2 * (v : Int) + 1) (lensP D le inp) X := mem_allP h.cond.h1 h.cond.lo
theorem SmallP.len (h : SmallP D v le inp) {X : List (List Int)} (hX : X ∈ allP (2 * (v : Int) + 1) (lensP D le inp)) : X.length = D.length + 1 := by
  rw [(inBox_all (h.mem.1 hX)).1, lensP_len]
theorem SmallP.count (h : SmallP D v le inp) : (stsP D v le inp).length = cntP v (lensP D le inp) := by
  unfold stsP
  rw [List.length_map]
  exact allP_length h.cond.lo
theorem SmallP.count500 (h : SmallP D v le inp) : (stsP D v le inp).length ≤ 500 := by rw [h.count]; exact h.few
theorem SmallP.sorted (h : SmallP D v le inp) : (stsP D v le inp).Pairwise stLt := by
  unfold stsP
  rw [List.pairwise_map]
  refine (allP_sorted h.cond.h1 h.cond.lo).imp_of_mem fun {a b} ha hb hab => ⟨a, b, ?_, ?_, rfl, rfl, hab⟩
  · rw [h.len ha]; omega
  · rw [h.len hb]; omega
theorem SmallP.of (h : SmallP D v le inp) {x : St} (hx : x ∈ stsP D v le inp) : InSt x ∧ Sized x ∧ x.cells.length = D.length ∧ x.out = [] := by
  obtain ⟨X, hX, rfl⟩ := List.mem_map.1 hx
  have hl := h.len hX
  obtain ⟨-, ha⟩ := inBox_all (h.mem.1 hX)
  have hi : ∀ l ∈ X, (∀ y ∈ l, I64 y) ∧ l.length ≤ 1099511627776 := fun l hl => by
    obtain ⟨b, hb, -, h2, h3⟩ := ha l hl
    have hb' := h.cond.b b hb
    have hv := h.v1000
    refine ⟨fun y hy => ?_, by omega⟩
    have := rank_lt.1 (h3 y hy)
    unfold I64
    omega
  have hne : X ≠ [] := by rintro rfl; simp at hl
  have hlast : X.getLastD [] ∈ X := by
    rw [List.getLastD_eq_getLast?, List.getLast?_eq_some_getLast hne]
    exact List.getLast_mem hne
  refine ⟨⟨fun l hl => (hi l (List.dropLast_subset _ hl)).1, (hi _ hlast).1, fun y hy => by cases hy⟩, ⟨(hi _ hlast).2, by simp [mkSt], fun l hl => (hi l (List.dropLast_subset _ hl)).2⟩, ?_, rfl⟩
  simp [mkSt, hl]
theorem stsP_sub {v' le' inp' : Nat} (h : SmallP D v le inp) (h' : SmallP D v' le' inp') (hv : v ≤ v') (hl : le ≤ le') (hi : inp ≤ inp') : ∀ x ∈ stsP D v le inp, x ∈ stsP D v' le' inp' := by
  intro x hx
  obtain ⟨X, hX, rfl⟩ := List.mem_map.1 hx
  exact List.mem_map.2 ⟨X, h'.mem.2 (inBox_mono (by omega) (lens_wider (by omega) (by omega) D) (h.mem.1 hX)), rfl⟩
end

/-- how far the smaller box's list has been found -/
def Found (L pre : List St) (k : Nat) : Prop := k ≤ L.length ∧ ∀ x ∈ L.drop k, x ∉ pre
theorem Found.nil (L : List St) : Found L [] 0 := ⟨Nat.zero_le _, fun _ _ h => by cases h⟩
theorem Found.hit {L pre : List St} {k : Nat} {x : St} (h : Found L pre k) (hL : L.Pairwise stLt) (hk : L[k]? = some x) : Found L (pre ++ [x]) (k + 1) := by
  obtain ⟨hlt, e⟩ := List.getElem?_eq_some_iff.1 hk
  have hd : L.drop k = x :: L.drop (k + 1) := by rw [List.drop_eq_getElem_cons hlt, e]
  refine ⟨hlt, fun y hy hm => ?_⟩
  rcases List.mem_append.1 hm with hm | hm
  · exact h.2 y (by rw [hd]; exact List.mem_cons_of_mem _ hy) hm
  · rw [List.mem_singleton] at hm
    subst hm
    have := (List.Pairwise.sublist (List.drop_sublist k L) hL)
    rw [hd, List.pairwise_cons] at this
    exact stLt_irrefl _ (this.1 y hy)
theorem Found.miss {L M pre rest : List St} {k : Nat} {x : St} (h : Found L pre k) (hL : L.Pairwise stLt) (hM : M.Pairwise stLt) (hs : ∀ y ∈ L, y ∈ M) (hm : M = pre ++ x :: rest) (hk : ∀ y, L[k]? = some y → y ≠ x) : Found L (pre ++ [x]) k := by
  refine ⟨h.1, fun z hz hzm => ?_⟩
  rcases List.mem_append.1 hzm with hzm | hzm
  · exact h.2 z hz hzm
  rw [List.mem_singleton] at hzm
  subst hzm
  rcases Nat.lt_or_ge k L.length with hlt | hge
  · obtain ⟨y, hy⟩ : ∃ y, L[k]? = some y := ⟨_, List.getElem?_eq_getElem hlt⟩
    have hd : L.drop k = y :: L.drop (k + 1) := by rw [List.drop_eq_getElem_cons hlt, (List.getElem?_eq_some_iff.1 hy).2]
    have hyz := hk y hy
    rw [hd] at hz
    rcases List.mem_cons.1 hz with e | hz
    · exact hyz e.symm
    have hp := (List.Pairwise.sublist (List.drop_sublist k L) hL)
    rw [hd, List.pairwise_cons] at hp
    have hlt' := hp.1 z hz
    have hyM := hs y (List.mem_of_getElem? hy)
    rw [hm] at hyM hM
    rcases List.mem_append.1 hyM with h1 | h1
    · exact h.2 y (by rw [hd]; simp) h1
    · rcases List.mem_cons.1 h1 with h1 | h1
      · exact hyz h1
      · have := (List.pairwise_append.1 hM).2.1
        rw [List.pairwise_cons] at this
        exact stLt_irrefl _ (stLt_trans hlt' (this.1 y h1))
  · rw [List.drop_eq_nil_of_le hge] at hz
    cases hz
theorem Found.all {L M : List St} {k : Nat} (h : Found L M k) (hs : ∀ y ∈ L, y ∈ M) : k = L.length := by
  rcases Nat.lt_or_ge k L.length with hlt | hge
  · have hd : L.drop k = L[k] :: L.drop (k + 1) := List.drop_eq_getElem_cons hlt
    exact absurd (hs _ (List.getElem_mem hlt)) (h.2 _ (by rw [hd]; exact List.mem_cons_self))
  · exact Nat.le_antisymm h.1 hge
theorem take_next {M pre : List St} {x : St} (hp : pre = M.take pre.length) (hx : M[pre.length]? = some x) : M = pre ++ x :: M.drop (pre.length + 1) := by
  obtain ⟨hlt, e⟩ := List.getElem?_eq_some_iff.1 hx
  rw [← e, ← List.drop_eq_getElem_cons hlt]
  conv => lhs; rw [← List.take_append_drop pre.length M]
  rw [← hp]
theorem take_more {M pre : List St} {x : St} (hp : pre = M.take pre.length) (hx : M[pre.length]? = some x) : pre ++ [x] = M.take (pre ++ [x]).length := by
  rw [List.length_append, List.length_singleton, List.take_add_one, hx, ← hp]
  rfl

/-! the law's parameters -/
open Go.RowKit Go.ChangeShapes Go.WideShapes
theorem cellsBox : Try.prog.cellsOf 24 = 3 := by kernel_rfl
theorem cellsInt1 : Try.prog.cellsOf 3 = 1 := by kernel_rfl
theorem box_open {H : Type} {enc : TypeId × Value → H} {w : World} {sp : Nat → Bool} {held : Bool} {base : Nat} {r : Reach} {b0 : Nat} {v : Value} {d : DataW H} {p : List MemPlace} (hv : Value.okWide Try.prog w r b0 24 v) (h : DataW.Trod enc Try.prog w base sp held 24 v d p) :
    ∃ x y z : Int, v = .agg #[.int .i64 x, .int .i64 y, .int .i64 z] := by
  obtain ⟨v0, v1, v2, y0, y1, y2, n, rfl, _, _, h0, h1, h2⟩ := Joins.open_agg3 Try.underlying24 (by kernel_rfl) cellsBox hv h
  obtain ⟨x, e0, _, _⟩ := DataW.trod_int Try.underlying3 h0
  obtain ⟨y, e1, _, _⟩ := DataW.trod_int Try.underlying3 h1
  obtain ⟨z, e2, _, _⟩ := DataW.trod_int Try.underlying3 h2
  refine ⟨x, y, z, ?_⟩
  simp at e0 e1 e2
  rw [e0, e1, e2]
theorem u8_wf {x : Int} (h : (Lit.int .u8 x).wf = true) : 0 ≤ x ∧ x ≤ 255 := by
  obtain ⟨q, rfl, hq⟩ := u8_of h
  exact ⟨by omega, by omega⟩
end Go.Proofs.Ytklbaocgjegdfaa
