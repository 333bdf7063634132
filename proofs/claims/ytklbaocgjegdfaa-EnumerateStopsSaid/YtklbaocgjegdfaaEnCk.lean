/- A round that collects a clone and then overwrites what it was handed: its plain part. -/
import Derived.Test.YtklbaocgjegdfaaEnCj
import Derived.Test.YtklbaocgjegdfaaEnFr
namespace Go.Proofs.Ytklbaocgjegdfaa
open Go.RowKit Go.Shelf

/-- the blocks in hand: the iterator's, and the argument's -/
def HandB (O : Nat → Prop) (b t : Nat) : Nat → Prop := fun j => O j ∨ b ≤ j ∧ j < t
/-- what lay in A lies there still -/
def Stays (A W : World) : Prop := A.heap.size ≤ W.heap.size ∧ ∀ (j : Nat) (cs : Array Value) (t : TypeId), A.heap[j]? = some (.cells cs t) → W.heap[j]? = A.heap[j]?
theorem Stays.of_below {A W : World} (h : Below A.heap.size A W) : Stays A W := ⟨h.size, fun j _ _ hj => h.block j (Array.getElem?_eq_some_iff.1 hj).1⟩
theorem Stays.next {A W W' : World} (h : Stays A W) (hb : Below W.heap.size W W') : Stays A W' :=
  ⟨Nat.le_trans h.1 hb.size, fun j cs t hj => (hb.block j (Nat.lt_of_lt_of_le (Array.getElem?_eq_some_iff.1 hj).1 h.1)).trans (h.2 j cs t hj)⟩
theorem Stays.row {A W W' : World} {B : Nat} {row : Option Nat} (h : Stays A W) (hg : W.grownBy W' row) (hr : NoCells B W row) : Stays A W' :=
  ⟨Nat.le_trans h.1 hg.size, fun j cs t hj => by
    have e := h.2 j cs t hj
    refine (hg.block j (Nat.lt_of_lt_of_le (Array.getElem?_eq_some_iff.1 hj).1 h.1) (fun he => ?_)).trans e
    obtain ⟨-, o, ho, hc⟩ := hr j he.symm
    rw [e, hj] at ho
    injection ho with ho
    subst ho
    cases hc⟩

theorem Coll.same {lv : Nat} {O O' : Nat → Prop} {A B : World} {v : Value} {pre : List St} (h : Coll lv O A v pre) (hs : Stays A B) (hO : ∀ j, O' j → O j ∨ A.heap.size ≤ j) : Coll lv O' B v pre := by
  obtain ⟨ts, h0, h1, h2, h3⟩ := h
  refine ⟨ts, h0, own_same h1 (Nat.le_refl _) (fun j cs _ _ hj => hs.2 j cs _ hj), fun j hj he => ?_, fun k x hk => ?_⟩
  · rcases hO j hj with h | h
    · exact h2 j h he
    · have := (h1.lt j he).2
      omega
  · obtain ⟨t, a, b⟩ := h3 k x hk
    exact ⟨t, a, b.same (Nat.le_refl _) (fun j cs t _ _ hj _ => hs.2 j cs t hj) hO⟩

theorem ck_wide {w A W : World} {n lv : Nat} {preA pre L : List St} {O : Nat → Prop} (hA : CoJ w n lv preA O A) (hs : Stays A W) (hI : CoJ w n lv pre O W) (h1 : preA = L.take preA.length) (h2 : pre = L.take pre.length) : CoJ w n lv pre (HandB O A.heap.size W.heap.size) W := by
  obtain ⟨v, hgot, hcoll⟩ := hA.got
  obtain ⟨v', hgot', hcoll'⟩ := hI.got
  have e : v = v' := by
    have := hs.2 n _ _ hgot
    unfold Blk at hgot hgot'
    rw [hgot, hgot'] at this
    simpa using this.symm
  subst e
  obtain ⟨a, c, e1⟩ := hcoll.form
  obtain ⟨a', c', e2⟩ := hcoll'.form
  rw [e1] at e2
  injection e2 with _ e3 _
  have e4 : preA = pre := by rw [h1, h2, e3]
  subst e4
  have hb := hA.bel.size
  refine ⟨⟨v, hgot', hcoll.same hs (fun j hj => ?_)⟩, fun j hj => ?_, hI.bel, hI.lt, hI.lv⟩
  · rcases hj with h | h
    · exact .inl h
    · exact .inr h.1
  · rcases hj with h | h
    · exact hI.old j h
    · exact ⟨by omega, h.2⟩

/-- a row of numbers that may be written: in the blocks from b on, ahead of t -/
def Wr (b t : Nat) (W : World) (u : Value) : Prop := ∃ (a : Option Addr) (n c : Nat), u = .slice a n c ∧ n ≤ maxLen ∧ (0 < n → ∃ (g : Nat) (cs : Array Value), a = some ⟨g, 0, none⟩ ∧ b ≤ g ∧ g < t ∧ n ≤ cs.size ∧ Blk W g 3 cs)
theorem Wr.of_new {b t : Nat} {W : World} {u : Value} {l : List Int} (h : IntsNew b W u l) (ht : W.heap.size ≤ t) : Wr b t W u := by
  rcases h.2 with ⟨rfl, h0⟩ | ⟨g, cap, cur, rfl, hb, hg, hn, hm, hc, -⟩
  · exact ⟨none, 0, 0, rfl, Nat.zero_le _, fun h => absurd h (by decide)⟩
  · exact ⟨_, l.length, cap, rfl, by omega, fun _ => ⟨g, cur, rfl, hb, by have := (Array.getElem?_eq_some_iff.1 hg).1; omega, by omega, hg⟩⟩
theorem Wr.next {b t : Nat} {W W' : World} {u : Value} (h : Wr b t W u) (hs : ∀ j, b ≤ j → j < t → W'.heap[j]? = W.heap[j]?) : Wr b t W' u := by
  obtain ⟨a, n, c, e, hm, h⟩ := h
  refine ⟨a, n, c, e, hm, fun hp => ?_⟩
  obtain ⟨g, cs, e1, e2, e3, e4, e5⟩ := h hp
  exact ⟨g, cs, e1, e2, e3, e4, (hs g e2 e3).trans e5⟩
theorem Wr.set {b t : Nat} {W : World} {u : Value} (h : Wr b t W u) (g i : Nat) (x : Value) : Wr b t (W.setCell ⟨g, i, none⟩ x) u := by
  obtain ⟨a, n, c, e, hm, h⟩ := h
  refine ⟨a, n, c, e, hm, fun hp => ?_⟩
  obtain ⟨g', cs, e1, e2, e3, e4, e5⟩ := h hp
  by_cases hg : g' = g
  · subst hg
    exact ⟨g', _, e1, e2, e3, by simpa using e4, e5.set i x⟩
  · exact ⟨g', cs, e1, e2, e3, e4, blk_st e5 hg⟩
/-- the state's rows, and its input -/
theorem Wr.of_st {b t : Nat} {W : World} {c i o : Value} {q : St} (h : StNew b W (.agg #[c, i, o]) q) (ht : W.heap.size ≤ t) : ∃ vs, W.ownsRow b 33 1 c q.cells.length vs ∧ (∀ x ∈ vs ++ [i], Wr b t W x) := by
  obtain ⟨c', i', o', vs, e, h1, h2, -⟩ := h
  injection e with e
  simp only [Array.mk.injEq, List.cons.injEq, and_true] at e
  obtain ⟨rfl, rfl, rfl⟩ := e
  refine ⟨vs, h1.1, fun x hx => ?_⟩
  rcases List.mem_append.1 hx with hx | hx
  · obtain ⟨j, hj⟩ := List.getElem?_of_mem hx
    have hlt := (List.getElem?_eq_some_iff.1 hj).1
    have hl := h1.1.1
    rw [Nat.mul_one] at hl
    obtain ⟨u, a, d⟩ := h1.2 j _ (List.getElem?_eq_getElem (by omega))
    rw [hj] at a
    injection a with a
    subst a
    exact Wr.of_new d ht
  · simp only [List.mem_cons, List.not_mem_nil, or_false] at hx
    subst hx
    exact Wr.of_new h2 ht
theorem Wr.one {b t : Nat} {W : World} {u : Value} (h : Wr b t W u) : u.oneCell' = true := by
  obtain ⟨a, n, c, rfl, -⟩ := h
  rfl

/-- the row of them -/
def WrRows (b t : Nat) (W : World) (a : Option Addr) (n : Nat) : Prop := ∃ g, a = some ⟨g, 0, none⟩ ∧ t ≤ g ∧ ∀ k, k < n → ∃ u, W.cell? ⟨g, k, none⟩ = some u ∧ Wr b t W u
theorem WrRows.of_own {b t B : Nat} {W : World} {a : Option Addr} {n c : Nat} {us : List Value} (h : W.ownsRow B 33 1 (.slice a n c) n us) (hn : 0 < n) (ht : t ≤ B) (hu : ∀ x ∈ us, Wr b t W x) : WrRows b t W a n := by
  obtain ⟨g, rfl, h1, h2, h3⟩ := own_get h hn
  refine ⟨g, rfl, by omega, fun k hk => ?_⟩
  have hl := h.1
  rw [Nat.mul_one] at hl
  have hk' : us[k]? = some us[k] := List.getElem?_eq_getElem (by omega)
  exact ⟨_, h3 k _ hk', hu _ (List.mem_of_getElem? hk')⟩
theorem WrRows.set {b t : Nat} {W : World} {a : Option Addr} {n : Nat} (h : WrRows b t W a n) {g : Nat} (hg : g < t) (i : Nat) (x : Value) : WrRows b t (W.setCell ⟨g, i, none⟩ x) a n := by
  obtain ⟨g', e, h1, h2⟩ := h
  refine ⟨g', e, h1, fun k hk => ?_⟩
  obtain ⟨u, h3, h4⟩ := h2 k hk
  exact ⟨u, by rw [← h3]; exact World.cell?_setCell_far W ⟨g, i, none⟩ _ x (by show g ≠ g'; omega), h4.set g i x⟩

theorem run_append_ownrow (w : World) (ty : TypeId) (base : Nat) (v : Value) (n : Nat) (xs : List Value) (hown : w.ownsRow base 33 1 v n xs) (b2 : Nat) (u : Value) (m : Nat) (us : List Value) (hu : w.ownsRow b2 33 1 u m us) (h1 : ∀ x ∈ us, x.oneCell' = true) (hn : (n + m) * 24 ≤ 140737488355328) (hbase : base ≤ w.heap.size) :
    ∃ v' w', (Builtin.append_ #[32, 32] ty #[v, u]).run Try.prog w = .ok v' w' ∧ w'.ownsRow base 33 1 v' (n + m) (xs ++ us) ∧ w.grownBy w' v.ownBlock := by
  obtain ⟨i0, hi, hz0, hz1, hz2⟩ := info_parts rowInfo
  rcases id hu.2 with ⟨rfl, rfl⟩ | ⟨g, cap, cur, rfl, -⟩
  · have hl : us = [] := List.eq_nil_of_length_eq_zero (by have := hu.1; omega)
    subst hl
    exact ⟨v, w, run_append_of_none w base _ ty _ i0 1 Try.underlying32 hi v n xs hown 0, by simpa using hown, World.grownBy.refl _ _⟩
  · obtain ⟨v', w', e1, e2, e3, _⟩ := run_append_own (P := Try.prog) w base 32 ty 33 i0 (.slice none 0 0) 1 24 Try.underlying32 hi hz0 hz1 hz2 rfl (by decide) v n xs hown ⟨g, 0, none⟩ m cap us hu.1 (fun j x hx => World.ownsRow.cells hu (g := g) rfl j x hx) h1 (by unfold maxLen; omega) hn hbase
    exact ⟨v', w', e1, e2, e3⟩
theorem step_append_ownrow (w : World) {ops : Array Oper} {o : Oper} {a : Act} {K : Act → World → Prop} {Q : Exit → Act → World → Prop} {E : Prop} (hgd : o.guard = none) (s x : Operand)
    (ho : o.op = .call { callee := .builtin .append, args := #[s, x], argTypes := #[32, 32] })
    (base : Nat) (v : Value) (n : Nat) (xs : List Value) (hs : a.eval s = v) (hown : w.ownsRow base 33 1 v n xs) (b2 : Nat) (u : Value) (m : Nat) (us : List Value) (hx : a.eval x = u) (hu : w.ownsRow b2 33 1 u m us) (h1 : ∀ x ∈ us, x.oneCell' = true) (hn : (n + m) * 24 ≤ 140737488355328) (hbase : base ≤ w.heap.size)
    (h : ∀ v' w', w'.ownsRow base 33 1 v' (n + m) (xs ++ us) → w.grownBy w' v.ownBlock → K (a.put o.dst v') w') :
    if Region.wanted o (yielded ops a.tmps) = true then Oper.wp Try.prog o a w K Q else E := by
  have hw : Region.wanted o (yielded ops a.tmps) = true := by simp [Region.wanted, hgd]
  rw [if_pos hw]
  obtain ⟨v', w', hrun, h3, h4⟩ := run_append_ownrow w o.type base v n xs hown b2 u m us hu h1 hn hbase
  unfold Oper.wp execOp
  simp only [ho, resolve, invoke, builtin, Sem.run_bind, Sem.run_pure, Result.andThen_ok, List.map_toArray, List.map_cons, List.map_nil, hs, hx, hrun]
  exact h v' w' h3 h4

/-- what the stores leave: all but the blocks from b on, ahead of t -/
structure Over (b t : Nat) (W W' : World) : Prop where
  touch : Touch (fun j => b ≤ j ∧ j < t) W W'
  keeps : ∀ B, KeepsFrom B W W'
theorem Over.refl (b t : Nat) (W : World) : Over b t W W := ⟨Touch.refl _ _, fun B => keeps_below (Below.refl _ _) B⟩
theorem Over.set {b t : Nat} {W W' : World} (h : Over b t W W') {g : Nat} (h1 : b ≤ g) (h2 : g < t) (i : Nat) (x : Value) : Over b t W (W'.setCell ⟨g, i, none⟩ x) :=
  ⟨h.touch.trans (Touch.of_set W' g i x) (fun j _ e => by subst e; exact ⟨h1, h2⟩), fun B => (h.keeps B).trans (keeps_set _ _ _ _ _)⟩

theorem cell_touch {S : Nat → Prop} {A B : World} (h : Touch S A B) {a : Addr} {u : Value} (hn : ¬ S a.block) (hc : A.cell? a = some u) : B.cell? a = some u := by
  have hb := h.block a.block (World.block_lt_of_cell? A a hc) hn
  unfold World.cell? at hc ⊢
  rw [hb]
  exact hc
/-- a list behind the block that is written -/
theorem Coll.far {n lv : Nat} {A B : World} {v : Value} {pre : List St} (h : Coll lv (fun _ => False) A v pre) (ht : Touch (fun j => j = n) A B) (hn : n ≤ lv) : Coll lv (fun _ => False) B v pre := by
  obtain ⟨ts, h0, h1, h2, h3⟩ := h
  refine ⟨ts, h0, own_same h1 (Nat.le_refl _) (fun j cs _ hb hj => ht.block j (Array.getElem?_eq_some_iff.1 hj).1 (by omega)), h2, fun k x hk => ?_⟩
  obtain ⟨t, a, b⟩ := h3 k x hk
  exact ⟨t, a, b.same (Nat.le_refl _) (fun j cs t hb _ hj _ => ht.block j (Array.getElem?_eq_some_iff.1 hj).1 (by omega)) (fun _ hj => hj.elim)⟩
/-- the round's end -/
theorem ck_fin {w A W wc wd wr : World} {n lv B : Nat} {preA pre : List St} {x : St} {O : Nat → Prop} (hA : CoJ w n lv preA O A) (hI : CoJ w n lv pre O W) (hk : KeepsFrom B W wc) (hl : Leaves (HandB O A.heap.size W.heap.size) W wc) (hc : CoJ w n lv (pre ++ [x]) (HandB O A.heap.size W.heap.size) wc) (hb : Below wc.heap.size wc wd) (ho : Over A.heap.size W.heap.size wd wr) :
    KeepsFrom B W wr ∧ Leaves O W wr ∧ CoJ w n lv (pre ++ [x]) O wr := by
  have hs := hl.1
  have hbs := hb.size
  refine ⟨(hk.trans (keeps_below hb B)).trans (ho.keeps B), ⟨Nat.le_trans hs (Nat.le_trans hbs ho.touch.size), fun j hj => ?_⟩, ?_⟩
  · have h1 := (hA.old j hj).2
    have h2 := (hI.old j hj).2
    exact ((ho.touch.block j (by omega) (fun h => by omega)).trans (hb.block j (by omega))).trans (hl.2 j (.inl hj))
  · refine CoJ.bides w n lv _ _ _ _ _ hc ⟨(Touch.of_below hb).trans (ho.touch.mono (fun j hj => .inr hj)) (fun _ _ h => h), fun j hj => .inl (.inl hj)⟩
end Go.Proofs.Ytklbaocgjegdfaa
