/- States that a law collects in a round: its own list of them. -/
import Derived.Test.YtklbaocgjegdfaaEnRo
import Derived.Test.YtklbaocgjegdfaaEnL3
namespace Go.Proofs.Ytklbaocgjegdfaa
open Go.RowKit Go.Shelf

/-- a row that the iterator does not touch -/
def RowOff (O : Nat → Prop) (v : Value) : Prop := ∀ j, O j → v.ownBlock ≠ some j
/-- a state in memory of the call's own, that the iterator does not touch -/
def StOff (b : Nat) (O : Nat → Prop) (W : World) (v : Value) (x : St) : Prop :=
  ∃ c i o vs, v = .agg #[c, i, o] ∧ (W.ownsRow b 33 1 c x.cells.length vs ∧ RowOff O c) ∧ (∀ (k : Nat) (l : List Int), x.cells[k]? = some l → ∃ u, vs[k]? = some u ∧ IntsNew b W u l ∧ RowOff O u) ∧
    (IntsNew b W i x.inp ∧ RowOff O i) ∧ (IntsNew b W o x.out ∧ RowOff O o)
theorem StOff.new {b : Nat} {O : Nat → Prop} {W : World} {v : Value} {x : St} (h : StOff b O W v x) : StNew b W v x := by
  obtain ⟨c, i, o, vs, rfl, h1, h2, h3, h4⟩ := h
  exact ⟨c, i, o, vs, rfl, ⟨h1.1, fun k l hk => by obtain ⟨u, a, b, -⟩ := h2 k l hk; exact ⟨u, a, b⟩⟩, h3.1, h4.1⟩
theorem rowOff_low {A : World} {O : Nat → Prop} {base : Nat} {e : TypeId} {size n : Nat} {v : Value} {xs : List Value} (h : A.ownsRow base e size v n xs) (hO : ∀ j, O j → j < base) : RowOff O v :=
  fun j hj he => by have := (h.lt j he).1; have := hO j hj; omega
theorem StOff.of_new {b : Nat} {O : Nat → Prop} {W : World} {v : Value} {x : St} (h : StNew b W v x) (hO : ∀ j, O j → j < b) : StOff b O W v x := by
  obtain ⟨c, i, o, vs, rfl, ⟨h1, h2⟩, h3, h4⟩ := h
  exact ⟨c, i, o, vs, rfl, ⟨h1, rowOff_low h1 hO⟩, fun k l hk => by obtain ⟨u, a, b⟩ := h2 k l hk; exact ⟨u, a, b, rowOff_low b hO⟩, ⟨h3, rowOff_low h3 hO⟩, h4, rowOff_low h4 hO⟩
theorem own_same {A B : World} {base base' : Nat} {e : TypeId} {size n : Nat} {v : Value} {xs : List Value} (h : A.ownsRow base e size v n xs) (hb : base' ≤ base) (hs : ∀ j cs, v.ownBlock = some j → base ≤ j → A.heap[j]? = some (.cells cs e) → B.heap[j]? = A.heap[j]?) : B.ownsRow base' e size v n xs := by
  refine ⟨h.1, ?_⟩
  rcases h.2 with hn | ⟨g, cap, cur, rfl, hbg, hg, r⟩
  · exact .inl hn
  · exact .inr ⟨g, cap, cur, rfl, by omega, (hs g cur rfl hbg hg).trans hg, r⟩
theorem StOff.same {b b' : Nat} {O O' : Nat → Prop} {A B : World} {v : Value} {x : St} (h : StOff b O A v x) (hb : b' ≤ b) (hs : ∀ j cs t, b ≤ j → (t = 3 ∨ t = 33) → A.heap[j]? = some (.cells cs t) → ¬ O j → B.heap[j]? = A.heap[j]?)
    (hO : ∀ j, O' j → O j ∨ A.heap.size ≤ j) : StOff b' O' B v x := by
  have hoff : ∀ {base : Nat} {e : TypeId} {size n : Nat} {v : Value} {xs : List Value}, A.ownsRow base e size v n xs → RowOff O v → RowOff O' v := fun h hr j hj he => by
    rcases hO j hj with h1 | h1
    · exact hr j h1 he
    · have := (h.lt j he).2; omega
  have hk : ∀ {e : TypeId} {n : Nat} {v : Value} {xs : List Value}, (e = 3 ∨ e = 33) → A.ownsRow b e 1 v n xs → RowOff O v → B.ownsRow b' e 1 v n xs := fun he h hr =>
    own_same h hb (fun j cs e1 e2 e3 => hs j cs _ e2 he e3 (fun ho => hr j ho e1))
  obtain ⟨c, i, o, vs, rfl, h1, h2, h3, h4⟩ := h
  exact ⟨c, i, o, vs, rfl, ⟨hk (.inr rfl) h1.1 h1.2, hoff h1.1 h1.2⟩, fun k l hl => by
    obtain ⟨u, a, b, d⟩ := h2 k l hl
    exact ⟨u, a, hk (.inl rfl) b d, hoff b d⟩, ⟨hk (.inl rfl) h3.1 h3.2, hoff h3.1 h3.2⟩, hk (.inl rfl) h4.1 h4.2, hoff h4.1 h4.2⟩
theorem StOff.next {b : Nat} {O : Nat → Prop} {A B : World} {v : Value} {x : St} (h : StOff b O A v x) (hb : Below A.heap.size A B) : StOff b O B v x :=
  h.same (Nat.le_refl _) (fun j _ _ _ _ hj _ => hb.block j (Array.getElem?_eq_some_iff.1 hj).1) (fun _ hj => .inl hj)
theorem StOff.row {b B : Nat} {O : Nat → Prop} {A A' : World} {v : Value} {x : St} {row : Option Nat} (h : StOff b O A v x) (hg : A.grownBy A' row) (hr : NoCells B A row) : StOff b O A' v x :=
  h.same (Nat.le_refl _) (fun j cs t _ _ hj _ => hg.block j (Array.getElem?_eq_some_iff.1 hj).1 (fun he => by
    obtain ⟨_, o, ho, hc⟩ := hr j he.symm
    rw [hj] at ho
    injection ho with ho
    subst ho
    cases hc)) (fun _ hj => .inl hj)
theorem StOff.grows {b : Nat} {O O' : Nat → Prop} {A A' : World} {v : Value} {x : St} (h : StOff b O A v x) (hg : Grows O O' A A') : StOff b O' A' v x :=
  h.same (Nat.le_refl _) (fun j cs t _ _ hj hn => hg.1.block j (Array.getElem?_eq_some_iff.1 hj).1 hn) (fun j hj => by
    rcases hg.2 j hj with h | h
    · exact .inl h
    · exact .inr h.1)
theorem StOff.set {b : Nat} {O : Nat → Prop} {A : World} {v : Value} {x : St} (h : StOff b O A v x) {g : Nat} (hg : g < b) (i : Nat) (u : Value) : StOff b O (A.setCell ⟨g, i, none⟩ u) v x :=
  h.same (Nat.le_refl _) (fun j cs t hj _ _ _ => Below.heap_setCell A ⟨g, i, none⟩ u j (fun e => by have e' : j = g := e; omega)) (fun _ hj => .inl hj)
theorem StOff.gr {b base : Nat} {O : Nat → Prop} {A A' : World} {v : Value} {x : St} {size n : Nat} {va : Value} {xs : List Value} (h : StOff b O A v x) (ha : A.ownsRow base 35 size va n xs) (hg : A.grownBy A' va.ownBlock) : StOff b O A' v x :=
  h.same (Nat.le_refl _) (fun j cs t _ ht hj _ => hg.block j (Array.getElem?_eq_some_iff.1 hj).1 (fun he => by
    have hb : Blk A j t cs := hj
    rcases ht with rfl | rfl
    · exact hb.own_ne ha (by decide) he
    · exact hb.own_ne ha (by decide) he)) (fun _ hj => .inl hj)

/-! the list -/
def flatS (ts : List (Value × Value × Value)) : List Value := ts.flatMap fun t => [t.1, t.2.1, t.2.2]
theorem flatS_snoc (ts : List (Value × Value × Value)) (t : Value × Value × Value) : flatS (ts ++ [t]) = flatS ts ++ [t.1, t.2.1, t.2.2] := by simp [flatS]
theorem flatS_length (ts : List (Value × Value × Value)) : (flatS ts).length = 3 * ts.length := by
  induction ts with
  | nil => rfl
  | cons t l ih => simp [flatS] at ih ⊢; omega
theorem flatS_get {ts : List (Value × Value × Value)} {k : Nat} {t : Value × Value × Value} (h : ts[k]? = some t) : (flatS ts)[3 * k]? = some t.1 ∧ (flatS ts)[3 * k + 1]? = some t.2.1 ∧ (flatS ts)[3 * k + 2]? = some t.2.2 := by
  induction ts generalizing k with
  | nil => simp at h
  | cons a l ih =>
    cases k with
    | zero =>
      simp only [List.getElem?_cons_zero, Option.some.injEq] at h
      subst h
      exact ⟨rfl, rfl, rfl⟩
    | succ k =>
      simp only [List.getElem?_cons_succ] at h
      have := ih h
      exact this

/-- what has been collected: in a row of their own -/
def Coll (lv : Nat) (O : Nat → Prop) (W : World) (v : Value) (pre : List St) : Prop :=
  ∃ ts, ts.length = pre.length ∧ W.ownsRow (lv + 1) 35 3 v pre.length (flatS ts) ∧ RowOff O v ∧ ∀ (k : Nat) (x : St), pre[k]? = some x → ∃ t : Value × Value × Value, ts[k]? = some t ∧ StOff (lv + 1) O W (.agg #[t.1, t.2.1, t.2.2]) x
theorem Coll.nil (lv : Nat) (O : Nat → Prop) (W : World) : Coll lv O W (.slice none 0 0) [] := ⟨[], rfl, World.ownsRow_nil _ _ _ _, (fun j _ h => by cases h), (fun k x h => by simp at h)⟩
theorem Coll.form {lv : Nat} {O : Nat → Prop} {W : World} {v : Value} {pre : List St} (h : Coll lv O W v pre) : ∃ a c, v = .slice a pre.length c := by
  obtain ⟨ts, -, h, -⟩ := h
  exact own_form h
theorem Coll.row {lv B : Nat} {O : Nat → Prop} {A A' : World} {v : Value} {pre : List St} {row : Option Nat} (h : Coll lv O A v pre) (hg : A.grownBy A' row) (hr : NoCells B A row) : Coll lv O A' v pre := by
  obtain ⟨ts, h0, h1, h2, h3⟩ := h
  exact ⟨ts, h0, own_row' h1 hg hr, h2, fun k x hk => by obtain ⟨t, a, b⟩ := h3 k x hk; exact ⟨t, a, b.row hg hr⟩⟩
theorem Coll.grows {lv : Nat} {O O' : Nat → Prop} {A A' : World} {v : Value} {pre : List St} (h : Coll lv O A v pre) (hg : Grows O O' A A') : Coll lv O' A' v pre := by
  obtain ⟨ts, h0, h1, h2, h3⟩ := h
  refine ⟨ts, h0, own_touch h1 hg.1 h2, fun j hj he => ?_, fun k x hk => by obtain ⟨t, a, b⟩ := h3 k x hk; exact ⟨t, a, b.grows hg⟩⟩
  rcases hg.2 j hj with h | h
  · exact h2 j h he
  · have := (h1.lt j he).2; omega
theorem Coll.next {lv : Nat} {O : Nat → Prop} {A A' : World} {v : Value} {pre : List St} (h : Coll lv O A v pre) (hb : Below A.heap.size A A') : Coll lv O A' v pre := by
  obtain ⟨ts, h0, h1, h2, h3⟩ := h
  exact ⟨ts, h0, own_below h1 hb, h2, fun k x hk => by obtain ⟨t, a, b⟩ := h3 k x hk; exact ⟨t, a, b.next hb⟩⟩
theorem Coll.set {lv : Nat} {O : Nat → Prop} {A : World} {v : Value} {pre : List St} (h : Coll lv O A v pre) {g : Nat} (hg : g ≤ lv) (i : Nat) (u : Value) : Coll lv O (A.setCell ⟨g, i, none⟩ u) v pre := by
  obtain ⟨ts, h0, h1, h2, h3⟩ := h
  exact ⟨ts, h0, own_far h1 (by omega) i u, h2, fun k x hk => by obtain ⟨t, a, b⟩ := h3 k x hk; exact ⟨t, a, b.set (by omega) i u⟩⟩
/-- one more -/
theorem Coll.more {lv g : Nat} {O : Nat → Prop} {A A' : World} {v v' x0 x1 x2 : Value} {pre : List St} {x : St} {ts : List (Value × Value × Value)} (h0 : ts.length = pre.length) (h1 : A.ownsRow (lv + 1) 35 3 v pre.length (flatS ts)) (h2 : RowOff O v)
    (h3 : ∀ (k : Nat) (x : St), pre[k]? = some x → ∃ t : Value × Value × Value, ts[k]? = some t ∧ StOff (lv + 1) O A (.agg #[t.1, t.2.1, t.2.2]) x) (hg : A.grownBy A' v.ownBlock) (hs : StOff g O A (.agg #[x0, x1, x2]) x) (hgl : lv + 1 ≤ g)
    (h4 : A'.ownsRow (lv + 1) 35 3 v' (pre.length + 1) (flatS ts ++ [x0, x1, x2])) (h5 : v'.ownBlock = v.ownBlock ∨ v'.ownBlock = some A.heap.size) (hO : ∀ j, O j → j < A.heap.size) : Coll lv O A' v' (pre ++ [x]) := by
  refine ⟨ts ++ [(x0, x1, x2)], by simp [h0], ?_, ?_, fun k y hk => ?_⟩
  · rw [flatS_snoc, List.length_append]
    exact h4
  · intro j hj he
    rcases h5 with h | h
    · exact h2 j hj (h ▸ he)
    · rw [h] at he
      injection he with he
      have := hO j hj
      omega
  · rcases Nat.lt_or_ge k pre.length with hlt | hge
    · rw [List.getElem?_append_left hlt] at hk
      obtain ⟨t, a, b⟩ := h3 k y hk
      exact ⟨t, by rw [List.getElem?_append_left (by omega)]; exact a, b.gr h1 hg⟩
    · rw [List.getElem?_append_right hge] at hk
      have e : k = pre.length := by
        rcases Nat.eq_or_lt_of_le hge with h | h
        · exact h.symm
        · rw [List.getElem?_eq_none (by simp; omega)] at hk; cases hk
      subst e
      rw [Nat.sub_self, List.getElem?_cons_zero] at hk
      injection hk with hk
      subst hk
      exact ⟨(x0, x1, x2), by rw [← h0, List.getElem?_append_right (Nat.le_refl _), Nat.sub_self]; rfl, (hs.gr h1 hg).same hgl (fun j _ _ _ _ _ _ => rfl) (fun _ hj => .inl hj)⟩
end Go.Proofs.Ytklbaocgjegdfaa

namespace Go.Proofs.Ytklbaocgjegdfaa
open Go.RowKit Go.Shelf
theorem stateInfo : (Try.prog.info? 35).map (fun i => (i.zero, i.size, i.bytes)) = some (some (.agg #[.slice none 0 0, .slice none 0 0, .slice none 0 0]), 3, 72) := by kernel_rfl

theorem cell_three_new (w : World) (a b c : Value) (t : TypeId) : ∀ (j : Nat) (u : Value), ([a, b, c] : List Value)[j]? = some u → (w.alloc (.cells #[a, b, c] t)).cell? (Addr.add ⟨w.heap.size, 0, none⟩ j) = some u := by
  intro j u hu
  rw [Go.WideShapes.add_plain, Nat.zero_add, (Blk.new w t #[a, b, c]).cell]
  simpa using hu
/-- between two rounds of a loop that collects clones in the list at n -/
structure CoI (w : World) (n : Nat) (pre : List St) (O : Nat → Prop) (W : World) : Prop where
  got : ∃ v, Blk W n 27 #[v] ∧ Coll n O W v pre
  old : ∀ j, O j → n + 1 ≤ j ∧ j < W.heap.size
  bel : Below n w W
  lt : n < w.heap.size
theorem CoI.own {w : World} {n B : Nat} (hB : n + 1 ≤ B) (O : Nat → Prop) : OwnFrom B (fun s W => CoI w n s O W) := by
  rintro pre A A' row ⟨⟨v, h2, h3⟩, h5, h6, h7⟩ hg hr
  exact ⟨⟨v, h2.row hg hr, h3.row hg hr⟩, fun j hj => ⟨(h5 j hj).1, Nat.lt_of_lt_of_le (h5 j hj).2 hg.size⟩, below_row h6 (by omega) hg hr (Nat.le_trans (Nat.le_of_lt h7) h6.size), h7⟩
theorem CoI.bides (w : World) (n : Nat) : Bides (CoI w n) := by
  rintro pre O O' A A' ⟨⟨v, h2, h3⟩, h5, h6, h7⟩ hgr
  obtain ⟨ht, hn⟩ := id hgr
  have hlt := h6.size
  have hlg := h2.lt
  refine ⟨⟨v, h2.touch ht (fun h => by have := (h5 _ h).1; omega), h3.grows hgr⟩, fun j hj => ?_, ?_, h7⟩
  · rcases hn j hj with h | h
    · exact ⟨(h5 j h).1, Nat.lt_of_lt_of_le (h5 j h).2 ht.size⟩
    · omega
  · exact ⟨ht.os.trans h6.os, ht.tape.trans h6.tape, ht.output.trans h6.output, Nat.le_trans h6.size ht.size, fun j hj => (ht.block j (by omega) (fun ho => by have := (h5 j ho).1; omega)).trans (h6.block j hj)⟩

/-- what a round leaves: the clone lies in A, the list's row has grown to w5 -/
theorem co_fin {w W A w5 : World} {n g : Nat} {pre : List St} {x : St} {O : Nat → Prop} {v v5 x0 x1 x2 : Value} {ts : List (Value × Value × Value)} (hI : CoI w n pre O W) (hb : Below W.heap.size W A) (hgot : Blk W n 27 #[v]) (h0 : ts.length = pre.length)
    (h1 : W.ownsRow (n + 1) 35 3 v pre.length (flatS ts)) (h2 : RowOff O v) (h3 : ∀ (k : Nat) (x : St), pre[k]? = some x → ∃ t : Value × Value × Value, ts[k]? = some t ∧ StOff (n + 1) O W (.agg #[t.1, t.2.1, t.2.2]) x)
    (hs : StNew g A (.agg #[x0, x1, x2]) x) (hg : W.heap.size ≤ g) (h4 : w5.ownsRow (n + 1) 35 3 v5 (pre.length + 1) (flatS ts ++ [x0, x1, x2])) (hgr : A.grownBy w5 v.ownBlock) (h5 : v5.ownBlock = v.ownBlock ∨ v5.ownBlock = some A.heap.size) (B : Nat) :
    Blk w5 n 27 #[v] ∧ KeepsFrom B W (w5.setCell ⟨n, 0, none⟩ v5) ∧ Leaves O W (w5.setCell ⟨n, 0, none⟩ v5) ∧ CoI w n (pre ++ [x]) O (w5.setCell ⟨n, 0, none⟩ v5) := by
  have hold := hI.old
  have hbel := hI.bel
  have hlt := hI.lt
  have hbs := hbel.size
  have hAs := hb.size
  have hgA := hgot.next hb
  have h1A := own_below h1 hb
  have n1 := hgA.own_ne h1A (by decide)
  have hg5 := hgA.grown hgr n1
  have hon := hold
  refine ⟨hg5, ?_, ?_, ⟨⟨v5, hg5.set 0 v5, ?_⟩, fun j hj => ?_, ?_, hlt⟩⟩
  · exact ((keeps_below hb B).trans (keeps_own h1A hgr B)).trans (keeps_set _ _ _ _ _)
  · refine ((leaves_below hb (fun j hj => (hold j hj).2)).trans (leaves_gr hgr (fun j hj => ⟨by have := (hold j hj).2; omega, fun e => h2 j hj e.symm⟩))).trans (leaves_set _ _ _ (fun h => by have := (hold _ h).1; omega))
  · refine (Coll.more (g := g) h0 h1A h2 (fun k y hk => ?_) hgr (StOff.of_new hs (fun j hj => by have := (hold j hj).2; omega)) (by omega) h4 h5 (fun j hj => by have := (hold j hj).2; omega)).set (Nat.le_refl _) 0 v5
    obtain ⟨t, a, b⟩ := h3 k y hk
    exact ⟨t, a, b.next hb⟩
  · have := hgr.size
    have h2 := hold j hj
    exact ⟨h2.1, by simp [World.setCell]; omega⟩
  · have h6 : Below n w w5 := (below_next hbel (by omega) hb).grown hgr (by omega) (fun k e => by have := (h1A.lt k e).1; omega)
    exact h6.setCell (p := ⟨n, 0, none⟩) (Nat.le_refl _) _
theorem Coll.get {lv : Nat} {O : Nat → Prop} {A : World} {v : Value} {pre : List St} (h : Coll lv O A v pre) {k : Nat} {x : St} (hk : pre[k]? = some x) :
    ∃ (g c : Nat) (c1 c2 c3 : Value), v = .slice (some ⟨g, 0, none⟩) pre.length c ∧ lv + 1 ≤ g ∧ g < A.heap.size ∧ StOff (lv + 1) O A (.agg #[c1, c2, c3]) x ∧ A.cell? ⟨g, k * 3, none⟩ = some c1 ∧ A.cell? ⟨g, k * 3 + 1, none⟩ = some c2 ∧ A.cell? ⟨g, k * 3 + 2, none⟩ = some c3 := by
  obtain ⟨ts, h0, h1, h2, h3⟩ := h
  obtain ⟨t, a, b⟩ := h3 k x hk
  have hlt := (List.getElem?_eq_some_iff.1 hk).1
  rcases id h1.2 with ⟨_, h0⟩ | ⟨g, cap, cur, rfl, hb, hg, _⟩
  · omega
  obtain ⟨f0, f1, f2⟩ := flatS_get a
  have c0 := World.ownsRow.cells h1 (g := g) rfl _ _ f0
  have c1 := World.ownsRow.cells h1 (g := g) rfl _ _ f1
  have c2 := World.ownsRow.cells h1 (g := g) rfl _ _ f2
  rw [Go.WideShapes.add_plain, Nat.zero_add, Nat.mul_comm] at c0 c1 c2
  exact ⟨g, _, t.1, t.2.1, t.2.2, rfl, hb, (Array.getElem?_eq_some_iff.1 hg).1, b, c0, c1, c2⟩
/-- the iterator is done with -/
theorem Coll.free {lv : Nat} {O : Nat → Prop} {A : World} {v : Value} {pre : List St} (h : Coll lv O A v pre) : Coll lv (fun _ => False) A v pre := by
  obtain ⟨ts, h0, h1, h2, h3⟩ := h
  exact ⟨ts, h0, h1, fun _ hj _ => hj.elim, fun k x hk => by
    obtain ⟨t, a, b⟩ := h3 k x hk
    exact ⟨t, a, b.same (Nat.le_refl _) (fun _ _ _ _ _ _ _ => rfl) (fun _ hj => hj.elim)⟩⟩
end Go.Proofs.Ytklbaocgjegdfaa
