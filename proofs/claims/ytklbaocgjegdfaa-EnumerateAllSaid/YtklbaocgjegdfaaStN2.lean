/- append of numbers that came in; the walk of the law StateStarts. -/
import Derived.Test.YtklbaocgjegdfaaStN1
import Derived.Maps.AppendAt
namespace Go.Proofs.Ytklbaocgjegdfaa
open Go.RowKit

theorem run_append_of_none {P : Program} (w : World) (base : Nat) (t ty e : TypeId) (i : TypeInfo) (size : Nat) (ht : P.underlying t = some (.slice e)) (hi : P.info? e = some i)
    (v : Value) (n : Nat) (xs : List Value) (hown : w.ownsRow base e size v n xs) (c : Nat) : (Builtin.append_ #[t, t] ty #[v, .slice none 0 c]).run P w = .ok v w := by
  rcases hown.2 with ⟨rfl, rfl⟩ | ⟨g, cap, cur, rfl, _, _, hnc, _⟩
  · simp [Builtin.append_, run_underlying ht, sizeOf, typeInfo, hi, Builtin.lenOf, Builtin.firstCells]
  · simp [Builtin.append_, run_underlying ht, sizeOf, typeInfo, hi, Builtin.lenOf, Builtin.firstCells, hnc, storeCells]

theorem run_append_ints (w : World) (ty : TypeId) (base : Nat) (v : Value) (n : Nat) (xs : List Value) (hown : w.ownsRow base 3 1 v n xs) (u : Value) (l : List Int) (hu : IntsAt w u l) (hn : n + l.length ≤ 1099511627776) (hbase : base ≤ w.heap.size) :
    ∃ v' w', (Builtin.append_ #[33, 33] ty #[v, u]).run Try.prog w = .ok v' w' ∧ w'.ownsRow base 3 1 v' (n + l.length) (xs ++ intsV l) ∧ w.grownBy w' v.ownBlock := by
  obtain ⟨i0, hi, hz0, hz1, hz2⟩ := info_parts intInfo
  obtain ⟨⟨a, c, rfl, _, _, hq⟩, _⟩ := hu
  cases a with
  | none =>
    have h0 : l.length = 0 := by
      rcases Nat.eq_zero_or_pos l.length with h | h
      · exact h
      · obtain ⟨g, o, e, _⟩ := hq h
        cases e
    have hl : l = [] := List.eq_nil_of_length_eq_zero h0
    subst hl
    exact ⟨v, w, run_append_of_none w base _ ty _ i0 1 Try.underlying33 hi v n xs hown c, by simpa [intsV] using hown, World.grownBy.refl _ _⟩
  | some ad =>
    obtain ⟨v', w', h1, h2, h3, _⟩ := run_append_own (P := Try.prog) w base 33 ty 3 i0 (.int .i64 0) 1 8 Try.underlying33 hi hz0 hz1 hz2 rfl (by decide) v n xs hown ad l.length c (intsV l) (by simp [intsV]) (by
      intro j x hx
      have hj : j < l.length := by
        rcases Nat.lt_or_ge j l.length with hh | hh
        · exact hh
        · rw [List.getElem?_eq_none (by simpa [intsV] using hh)] at hx; cases hx
      obtain ⟨g, o, e, _, hc⟩ := hq (by omega)
      obtain rfl := Option.some.inj e
      rw [Go.WideShapes.add_plain, hc j _ (List.getElem?_eq_getElem hj)]
      simp only [intsV, List.getElem?_map, List.getElem?_eq_getElem hj, Option.map_some] at hx
      exact hx) (by
      intro x hx
      simp only [intsV, List.mem_map] at hx
      obtain ⟨y, _, rfl⟩ := hx
      rfl) (by unfold maxLen; omega) (by omega) hbase
    exact ⟨v', w', h1, h2, h3⟩

theorem wp_append_ints {w : World} {o : Oper} {a : Act} {K : Act → World → Prop} {Q : Exit → Act → World → Prop} (s x : Operand)
    (ho : o.op = .call { callee := .builtin .append, args := #[s, x], argTypes := #[33, 33] })
    (base : Nat) (v : Value) (n : Nat) (xs : List Value) (hs : a.eval s = v) (hown : w.ownsRow base 3 1 v n xs) (u : Value) (l : List Int) (hx : a.eval x = u) (hu : IntsAt w u l) (hn : n + l.length ≤ 1099511627776) (hbase : base ≤ w.heap.size)
    (h : ∀ v' w', w'.ownsRow base 3 1 v' (n + l.length) (xs ++ intsV l) → w.grownBy w' v.ownBlock → K (a.put o.dst v') w') : o.wp Try.prog a w K Q := by
  obtain ⟨v', w', hrun, h2, h3⟩ := run_append_ints w o.type base v n xs hown u l hu hn hbase
  unfold Oper.wp execOp
  simp only [ho, resolve, invoke, builtin, Sem.run_bind, Sem.run_pure, Result.andThen_ok, List.map_toArray, List.map_cons, List.map_nil, hs, hx, hrun]
  exact h v' w' h2 h3

theorem wpList_append_ints {w : World} {ops : Array Oper} {rest : List Oper} {o : Oper} {a : Act} {Q : Exit → Act → World → Prop} (hgd : o.guard = none) (s x : Operand)
    (ho : o.op = .call { callee := .builtin .append, args := #[s, x], argTypes := #[33, 33] })
    (base : Nat) (v : Value) (n : Nat) (xs : List Value) (hs : a.eval s = v) (hown : w.ownsRow base 3 1 v n xs) (u : Value) (l : List Int) (hx : a.eval x = u) (hu : IntsAt w u l) (hn : n + l.length ≤ 1099511627776) (hbase : base ≤ w.heap.size)
    (h : ∀ v' w', w'.ownsRow base 3 1 v' (n + l.length) (xs ++ intsV l) → w.grownBy w' v.ownBlock → wpList Try.prog ops Q rest (a.put o.dst v') w') : wpList Try.prog ops Q (o :: rest) a w :=
  wpList_plain hgd fun _ hK => wp_append_ints s x ho base v n xs hs hown u l hx hu hn hbase fun v' w' h2 h3 => hK _ _ (h v' w' h2 h3)

theorem step_append_ints (w : World) {ops : Array Oper} {o : Oper} {a : Act} {K : Act → World → Prop} {Q : Exit → Act → World → Prop} {E : Prop} (hgd : o.guard = none) (s x : Operand)
    (ho : o.op = .call { callee := .builtin .append, args := #[s, x], argTypes := #[33, 33] })
    (base : Nat) (v : Value) (n : Nat) (xs : List Value) (hs : a.eval s = v) (hown : w.ownsRow base 3 1 v n xs) (u : Value) (l : List Int) (hx : a.eval x = u) (hu : IntsAt w u l) (hn : n + l.length ≤ 1099511627776) (hbase : base ≤ w.heap.size)
    (h : ∀ v' w', w'.ownsRow base 3 1 v' (n + l.length) (xs ++ intsV l) → w.grownBy w' v.ownBlock → K (a.put o.dst v') w') :
    if Region.wanted o (yielded ops a.tmps) = true then Oper.wp Try.prog o a w K Q else E := by
  have hw : Region.wanted o (yielded ops a.tmps) = true := by simp [Region.wanted, hgd]
  rw [if_pos hw]
  exact wp_append_ints s x ho base v n xs hs hown u l hx hu hn hbase h

/-- an empty row literal -/
theorem own_empty (w : World) (base : Nat) (hb : base ≤ w.heap.size) : (w.alloc (.cells #[] 3)).ownsRow base 3 1 (.slice (some ⟨w.heap.size, 0, none⟩) 0 0) 0 [] :=
  World.ownsRow_lit w #[] 0 hb (by unfold maxLen; omega) rfl

theorem new_fits {D : List Decl} {l : List Int} (hv : validB D = true) (hl : l.length ≤ 4096) : fitsB D (newB D l) = true := by
  have h2 : ∀ d ∈ D, validD d = true := by
    unfold validB at hv
    rw [Bool.and_eq_true, List.all_eq_true] at hv
    exact hv.2
  unfold fitsB
  simp only [Bool.and_eq_true, decide_eq_true_eq]
  refine ⟨⟨⟨⟨hv, by simp [newB]⟩, hl⟩, by simp [newB]⟩, ?_⟩
  unfold fitAll
  rw [List.all_eq_true]
  rintro ⟨d, x⟩ hx
  have hz : x = zeroRow d := by
    have : (d, x) ∈ (D.zip (D.map zeroRow)) := hx
    rw [List.zip_map_right] at this
    simp only [List.mem_map] at this
    obtain ⟨⟨p, q⟩, hp, he⟩ := this
    simp only [Prod.map_apply, id_eq, Prod.mk.injEq] at he
    obtain ⟨rfl, rfl⟩ := he
    have := List.mem_iff_getElem.1 hp
    obtain ⟨i, hi, he⟩ := this
    simp only [List.getElem_zip, Prod.mk.injEq] at he
    rw [← he.1, ← he.2]
  have hd : d ∈ D := (List.of_mem_zip hx).1
  have hfb := fixed_bounds (h2 d hd)
  subst hz
  unfold fitD zeroRow
  simp only [List.length_replicate]
  split
  · rename_i h3
    have : fixedZ d = 0 := by
      have := h2 d hd
      unfold validD at this
      simp [h3] at this
      simp [fixedZ, h3, this]
    simp [this]
  · exact decide_eq_true (by omega)

theorem new_in {D : List Decl} {l : List Int} (hl : ∀ x ∈ l, I64 x) : InSt (newB D l) := by
  refine ⟨fun x hx y hy => ?_, hl, by simp [newB]⟩
  simp only [newB, List.mem_map] at hx
  obtain ⟨d, _, rfl⟩ := hx
  have : y = 0 := by
    unfold zeroRow at hy
    exact (List.mem_replicate.1 hy).2
  subst this
  simp [I64]

end Go.Proofs.Ytklbaocgjegdfaa
