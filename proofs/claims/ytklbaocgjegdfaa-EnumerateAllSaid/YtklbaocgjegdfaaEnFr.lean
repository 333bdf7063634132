/- Append of rows that came in. -/
import Derived.Test.YtklbaocgjegdfaaEnBx
import Derived.Test.YtklbaocgjegdfaaStN2
namespace Go.Proofs.Ytklbaocgjegdfaa
open Go.RowKit Go.Shelf

/-- the rows' values as they lie -/
def RowsIn (w : World) (L : List (List Int)) (us : List Value) : Prop := us.length = L.length ∧ ∀ (i : Nat) (l : List Int), L[i]? = some l → ∃ u, us[i]? = some u ∧ IntsAt w u l
theorem RowsIn.below {w w' : World} {L : List (List Int)} {us : List Value} (h : RowsIn w L us) (hb : Below w.heap.size w w') : RowsIn w' L us :=
  ⟨h.1, fun i l hl => by obtain ⟨u, a, b⟩ := h.2 i l hl; exact ⟨u, a, b.below hb (Nat.le_refl _)⟩⟩

theorem run_append_rows (w : World) (ty : TypeId) (base : Nat) (v : Value) (n : Nat) (xs : List Value) (hown : w.ownsRow base 33 1 v n xs) (u : Value) (L : List (List Int)) (w0 : World) (hu : RowsAt w0 u L) (hb0 : Below w0.heap.size w0 w) (hn : (n + L.length) * 24 ≤ 140737488355328) (hbase : base ≤ w.heap.size) :
    ∃ us v' w', (Builtin.append_ #[32, 32] ty #[v, u]).run Try.prog w = .ok v' w' ∧ RowsIn w0 L us ∧ w'.ownsRow base 33 1 v' (n + L.length) (xs ++ us) ∧ w.grownBy w' v.ownBlock := by
  obtain ⟨i0, hi, hz0, hz1, hz2⟩ := info_parts rowInfo
  obtain ⟨a, c, rfl, _, _, hq⟩ := hu
  rcases Nat.eq_zero_or_pos L.length with h0 | hp
  · have hl : L = [] := List.eq_nil_of_length_eq_zero h0
    subst hl
    cases a with
    | none => exact ⟨[], v, w, run_append_of_none w base _ ty _ i0 1 Try.underlying32 hi v n xs hown c, ⟨rfl, by simp⟩, by simpa using hown, World.grownBy.refl _ _⟩
    | some ad =>
      obtain ⟨v', w', h1, h2, h3, _⟩ := run_append_own (P := Try.prog) w base 32 ty 33 i0 (.slice none 0 0) 1 24 Try.underlying32 hi hz0 hz1 hz2 rfl (by decide) v n xs hown ad 0 c [] rfl (by simp) (by simp) (by unfold maxLen; omega) (by simpa using hn) hbase
      exact ⟨[], v', w', h1, ⟨rfl, by simp⟩, h2, h3⟩
  · obtain ⟨g, o, rfl, hg, hc⟩ := hq hp
    have hcell : ∀ i, i < L.length → ∃ x, w.cell? ⟨g, o + i, none⟩ = some x ∧ IntsAt w0 x (L[i]?.getD []) := fun i hi => by
      obtain ⟨x, h1, h2⟩ := hc i _ (List.getElem?_eq_getElem hi)
      exact ⟨x, cell_below hb0 hg h1, by rw [List.getElem?_eq_getElem hi]; exact h2⟩
    obtain ⟨us, hus⟩ : ∃ us, us = (List.range L.length).map (fun i => (w.cell? ⟨g, o + i, none⟩).getD undef) := ⟨_, rfl⟩
    have hget : ∀ i, i < L.length → us[i]? = w.cell? ⟨g, o + i, none⟩ := fun i hi => by
      obtain ⟨x, h1, _⟩ := hcell i hi
      rw [hus, List.getElem?_map, List.getElem?_range hi, Option.map_some, h1]
      rfl
    have hlen : us.length = L.length := by rw [hus]; simp
    have hin : ∀ j x, us[j]? = some x → j < L.length := fun j x hx => by
      rw [← hlen]
      exact (List.getElem?_eq_some_iff.1 hx).1
    obtain ⟨v', w', h1, h2, h3, _⟩ := run_append_own (P := Try.prog) w base 32 ty 33 i0 (.slice none 0 0) 1 24 Try.underlying32 hi hz0 hz1 hz2 rfl (by decide) v n xs hown ⟨g, o, none⟩ L.length c us (by simp [hlen]) (fun j x hx => by
      rw [Go.WideShapes.add_plain, ← hget j (hin j x hx)]
      exact hx) (fun x hx => by
      obtain ⟨j, hj⟩ := List.getElem?_of_mem hx
      obtain ⟨y, e1, ⟨⟨ay, cy, rfl, _⟩, _⟩⟩ := hcell j (hin j x hj)
      rw [hget j (hin j x hj), e1] at hj
      injection hj with hj
      subst hj
      rfl) (by unfold maxLen; omega) hn hbase
    exact ⟨us, v', w', h1, ⟨hlen, fun i l hl => by
      have hi' := (List.getElem?_eq_some_iff.1 hl).1
      obtain ⟨x, e1, e2⟩ := hc i l hl
      exact ⟨x, by rw [hget i hi', cell_below hb0 hg e1], e2⟩⟩, h2, h3⟩

theorem step_append_rows (w : World) {ops : Array Oper} {o : Oper} {a : Act} {K : Act → World → Prop} {Q : Exit → Act → World → Prop} {E : Prop} (hgd : o.guard = none) (s x : Operand)
    (ho : o.op = .call { callee := .builtin .append, args := #[s, x], argTypes := #[32, 32] })
    (base : Nat) (v : Value) (n : Nat) (xs : List Value) (hs : a.eval s = v) (hown : w.ownsRow base 33 1 v n xs) (u : Value) (L : List (List Int)) (hx : a.eval x = u) (w0 : World) (hu : RowsAt w0 u L) (hb0 : Below w0.heap.size w0 w) (hn : (n + L.length) * 24 ≤ 140737488355328) (hbase : base ≤ w.heap.size)
    (h : ∀ us v' w', RowsIn w0 L us → w'.ownsRow base 33 1 v' (n + L.length) (xs ++ us) → w.grownBy w' v.ownBlock → K (a.put o.dst v') w') :
    if Region.wanted o (yielded ops a.tmps) = true then Oper.wp Try.prog o a w K Q else E := by
  have hw : Region.wanted o (yielded ops a.tmps) = true := by simp [Region.wanted, hgd]
  rw [if_pos hw]
  obtain ⟨us, v', w', hrun, h2, h3, h4⟩ := run_append_rows w o.type base v n xs hown u L w0 hu hb0 hn hbase
  unfold Oper.wp execOp
  simp only [ho, resolve, invoke, builtin, Sem.run_bind, Sem.run_pure, Result.andThen_ok, List.map_toArray, List.map_cons, List.map_nil, hs, hx, hrun]
  exact h us v' w' h2 h3 h4
/-- an own row of rows, read -/
theorem own_rows {w : World} {base : Nat} {v : Value} {L : List (List Int)} {us : List Value} (h : w.ownsRow base 33 1 v L.length us) (hr : RowsIn w L us) : RowsAt w v L := by
  rcases h.2 with ⟨rfl, h0⟩ | ⟨g, cap, cur, rfl, _, hg, hn, hm, hc, ht⟩
  · rw [List.eq_nil_of_length_eq_zero h0]
    exact ⟨none, 0, rfl, Nat.le_refl _, by unfold maxLen; omega, fun h => absurd h (by decide)⟩
  · refine ⟨_, cap, rfl, hn, hm, fun hp => ⟨g, 0, rfl, (Array.getElem?_eq_some_iff.1 hg).1, fun i l hl => ?_⟩⟩
    obtain ⟨u, h1, h2⟩ := hr.2 i l hl
    have hi' : i < L.length := (List.getElem?_eq_some_iff.1 hl).1
    exact ⟨u, by rw [Nat.zero_add, h.cellAt i (by omega), h1], h2⟩
theorem rowsIn_snoc {w : World} {L : List (List Int)} {us : List Value} {u : Value} {l : List Int} (h : RowsIn w L us) (hu : IntsAt w u l) : RowsIn w (L ++ [l]) (us ++ [u]) := by
  refine ⟨by simp [h.1], fun i l' hl => ?_⟩
  rcases Nat.lt_or_ge i L.length with hlt | hge
  · rw [List.getElem?_append_left hlt] at hl
    obtain ⟨x, a, b⟩ := h.2 i l' hl
    exact ⟨x, by rw [List.getElem?_append_left (by rw [h.1]; exact hlt)]; exact a, b⟩
  · rw [List.getElem?_append_right hge] at hl
    have e : i = L.length := by
      rcases Nat.eq_or_lt_of_le hge with h | h
      · exact h.symm
      · rw [List.getElem?_eq_none (by simp; omega)] at hl; cases hl
    subst e
    rw [Nat.sub_self, List.getElem?_cons_zero] at hl
    injection hl with hl
    subst hl
    exact ⟨u, by rw [List.getElem?_append_right (by rw [h.1]; exact Nat.le_refl _), h.1, Nat.sub_self]; rfl, hu⟩
theorem cell_one {w : World} {g : Nat} {x : Value} (h : w.cell? ⟨g, 0, none⟩ = some x) : ∀ (j : Nat) (u : Value), ([x] : List Value)[j]? = some u → w.cell? (Addr.add ⟨g, 0, none⟩ j) = some u := by
  intro j u hu
  cases j with
  | zero =>
    simp only [List.getElem?_cons_zero, Option.some.injEq] at hu
    subst hu
    rw [Go.WideShapes.add_plain]
    exact h
  | succ j => simp at hu
/-- a region that draws its order and makes memory, outside a round -/
theorem region_held {P : Program} {id : Nat} {ops : Array Oper} {Q : Exit → Act → World → Prop} {a : Act} {w : World} (S : World → Prop) (hm : P.follows .mixedOrders = true) (hS : S w.drew)
    (h : S w.drew → wpAnyH P .any ops (NormalOnly Q) S ops.size (Array.replicate ops.size false) a w.drew) : (Code.region id ops true).wp P Q a w :=
  Code.wp_mono (fun e a w h => by
    cases e <;> first | exact h | exact (h : False).elim) (wp_region_held hm (h hS))
end Go.Proofs.Ytklbaocgjegdfaa
