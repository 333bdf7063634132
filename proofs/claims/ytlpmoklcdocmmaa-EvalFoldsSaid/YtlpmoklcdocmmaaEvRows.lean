/- Rows of numbers, and rows of such rows, that the call has made. -/
import Derived.Test.YtlpmoklcdocmmaaEvO
import Derived.Test.YtlpmoklcdocmmaaMem
import Derived.Laws.MakeOwn
import Derived.Deep.RegionLawGrows
namespace Go.Proofs.Ytlpmoklcdocmmaa
open Go.RowKit

theorem intInfo : (Try.prog.info? 3).map (fun i => (i.zero, i.size, i.bytes)) = some (some (.int .i64 0), 1, 8) := by kernel_rfl
theorem rowInfo : (Try.prog.info? 26).map (fun i => (i.zero, i.size, i.bytes)) = some (some (.slice none 0 0), 1, 24) := by kernel_rfl

def intsV (l : List Int) : List Value := l.map (Value.int .i64)

theorem IntsAt.of_own {w : World} {base : Nat} {v : Value} {l : List Int} (h : w.ownsRow base 3 1 v l.length (intsV l)) (hl : ∀ x ∈ l, I64 x) : IntsAt w v l := by
  refine ⟨?_, hl⟩
  rcases h.2 with ⟨rfl, h0⟩ | ⟨g, cap, cur, rfl, _, hg, hn, hm, hc, ht⟩
  · rw [h0]
    exact ⟨none, 0, rfl, Nat.le_refl _, by unfold maxLen; omega, fun h => absurd h (by decide)⟩
  · refine ⟨_, cap, rfl, hn, hm, fun hp => ⟨g, 0, rfl, (Array.getElem?_eq_some_iff.1 hg).1, fun i x hx => ?_⟩⟩
    rw [Nat.zero_add, cell_of_row w g i cur 3 (0, 0) hg]
    have hi : i < l.length := by
      rcases Nat.lt_or_ge i l.length with hh | hh
      · exact hh
      · rw [List.getElem?_eq_none hh] at hx; cases hx
    have := congrArg (fun z => z[i]?) ht
    simp only [List.getElem?_take, intsV, List.getElem?_map, hx, Option.map_some] at this
    rw [if_pos (by omega)] at this
    simpa using this

def IntsNew (B : Nat) (w : World) (u : Value) (l : List Int) : Prop := w.ownsRow B 3 1 u l.length (intsV l)
def RowsNew (B : Nat) (w : World) (c : Value) (vs : List Value) (L : List (List Int)) : Prop :=
  w.ownsRow B 26 1 c L.length vs ∧ ∀ (i : Nat) (l : List Int), L[i]? = some l → ∃ u, vs[i]? = some u ∧ IntsNew B w u l

theorem RowsNew.nil (B : Nat) (w : World) : RowsNew B w (.slice none 0 0) [] [] := ⟨World.ownsRow_nil _ _ _ _, by simp⟩
theorem RowsNew.next {B : Nat} {w w' : World} {c : Value} {vs : List Value} {L : List (List Int)} (h : RowsNew B w c vs L) (hb : Below w.heap.size w w') : RowsNew B w' c vs L :=
  ⟨own_below h.1 hb, fun i l hl => by
    obtain ⟨u, h1, h2⟩ := h.2 i l hl
    exact ⟨u, h1, own_below h2 hb⟩⟩
theorem IntsNew.next {B : Nat} {w w' : World} {u : Value} {l : List Int} (h : IntsNew B w u l) (hb : Below w.heap.size w w') : IntsNew B w' u l := own_below h hb
theorem IntsNew.far {B : Nat} {w : World} {u : Value} {l : List Int} (h : IntsNew B w u l) {g : Nat} (hg : g < B) (i : Nat) (x : Value) : IntsNew B (w.setCell ⟨g, i, none⟩ x) u l := own_far h hg i x
theorem RowsNew.far {B : Nat} {w : World} {c : Value} {vs : List Value} {L : List (List Int)} (h : RowsNew B w c vs L) {g : Nat} (hg : g < B) (i : Nat) (x : Value) : RowsNew B (w.setCell ⟨g, i, none⟩ x) c vs L :=
  ⟨own_far h.1 hg i x, fun j l hl => by
    obtain ⟨u, h1, h2⟩ := h.2 j l hl
    exact ⟨u, h1, h2.far hg i x⟩⟩
theorem RowsNew.len {B : Nat} {w : World} {c : Value} {vs : List Value} {L : List (List Int)} (h : RowsNew B w c vs L) : vs.length = L.length := by simpa using h.1.1
theorem RowsNew.snoc {B : Nat} {w w' : World} {c c' u : Value} {vs : List Value} {L : List (List Int)} {l : List Int} (h : RowsNew B w c vs L) (hu : IntsNew B w u l)
    (hown : w'.ownsRow B 26 1 c' (L.length + 1) (vs ++ [u])) (hg : w.grownBy w' c.ownBlock) : RowsNew B w' c' (vs ++ [u]) (L ++ [l]) := by
  refine ⟨by rw [List.length_append]; exact hown, fun i l' hl => ?_⟩
  have hlen := h.len
  rcases Nat.lt_or_ge i L.length with hi | hi
  · rw [List.getElem?_append_left hi] at hl
    obtain ⟨u', h1, h2⟩ := h.2 i l' hl
    exact ⟨u', by rw [List.getElem?_append_left (by omega)]; exact h1, h2.kept hg (own_own_ne h2 h.1 (by decide))⟩
  · rw [List.getElem?_append_right hi] at hl
    have : i - L.length = 0 := by
      rcases Nat.eq_zero_or_pos (i - L.length) with h0 | h0
      · exact h0
      · rw [List.getElem?_eq_none (by simp; omega)] at hl; cases hl
    rw [this] at hl
    simp only [List.getElem?_cons_zero, Option.some.injEq] at hl
    subst hl
    exact ⟨u, by rw [List.getElem?_append_right (by omega), show i - vs.length = 0 by omega]; rfl, hu.kept hg (own_own_ne hu h.1 (by decide))⟩

/-- numbers that came in, appended to an empty row literal -/
theorem run_clone_ints (w : World) (ty : TypeId) (base b : Nat) (hbl : Blk w b 3 #[]) (hbase : base ≤ b) (u : Value) (l : List Int) (hu : IntsAt w u l) (hn : l.length ≤ 1099511627776) :
    ∃ v' w', (Builtin.append_ #[26, 26] ty #[.slice (some ⟨b, 0, none⟩) 0 0, u]).run Try.prog w = .ok v' w' ∧ w'.ownsRow base 3 1 v' l.length (intsV l) ∧ Below w.heap.size w w' := by
  obtain ⟨i0, hi, hz0, hz1, hz2⟩ := info_parts intInfo
  obtain ⟨⟨a, c, rfl, _, _, hq⟩, _⟩ := hu
  have hlt := hbl.lt
  rcases Nat.eq_zero_or_pos l.length with h0 | h0
  · have hl : l = [] := List.eq_nil_of_length_eq_zero h0
    subst hl
    refine ⟨.slice (some ⟨b, 0, none⟩) 0 0, w, ?_, ⟨by simp [intsV], .inr ⟨b, 0, #[], rfl, hbase, hbl, Nat.le_refl _, by unfold maxLen; omega, rfl, rfl⟩⟩, Below.refl _ _⟩
    cases a <;> simp [Builtin.append_, run_underlying (P := Try.prog) Try.underlying26, sizeOf, typeInfo, hi, Builtin.lenOf, Builtin.firstCells, loadCells, loadCellsFrom, storeCells]
  · obtain ⟨g, o, rfl, _, hc⟩ := hq h0
    obtain ⟨v', w', h1, h2, h3⟩ := run_append_arg_grows (P := Try.prog) w 26 ty 3 i0 (.int .i64 0) 1 8 Try.underlying26 hi hz0 hz1 hz2 rfl (by decide) ⟨b, 0, none⟩ 0 0 [] rfl (by simp) ⟨g, o, none⟩ l.length c (intsV l) (by simp [intsV]) (by
      intro j x hx
      have hj : j < l.length := by
        rcases Nat.lt_or_ge j l.length with hh | hh
        · exact hh
        · rw [List.getElem?_eq_none (by simpa [intsV] using hh)] at hx; cases hx
      rw [Go.WideShapes.add_plain, hc j _ (List.getElem?_eq_getElem hj)]
      simp only [intsV, List.getElem?_map, List.getElem?_eq_getElem hj, Option.map_some] at hx
      exact hx) (by omega) (by unfold maxLen; omega) (by omega)
    rw [Nat.zero_add, List.nil_append] at h2
    exact ⟨v', w', h1, own_mono h2 (by omega), h3.os, h3.tape, h3.output, h3.size, fun k hk => h3.block k hk (by simp)⟩

theorem wpList_clone_ints {w : World} {ops : Array Oper} {rest : List Oper} {o : Oper} {a : Act} {Q : Exit → Act → World → Prop} (hgd : o.guard = none) (s x : Operand)
    (ho : o.op = .call { callee := .builtin .append, args := #[s, x], argTypes := #[26, 26] })
    (base b : Nat) (hs : a.eval s = .slice (some ⟨b, 0, none⟩) 0 0) (hbl : Blk w b 3 #[]) (hbase : base ≤ b) (u : Value) (l : List Int) (hx : a.eval x = u) (hu : IntsAt w u l) (hn : l.length ≤ 1099511627776)
    (h : ∀ v' w', w'.ownsRow base 3 1 v' l.length (intsV l) → Below w.heap.size w w' → wpList Try.prog ops Q rest (a.put o.dst v') w') : wpList Try.prog ops Q (o :: rest) a w :=
  wpList_plain hgd fun _ hK => by
    obtain ⟨v', w', hrun, h2, h3⟩ := run_clone_ints w o.type base b hbl hbase u l hu hn
    unfold Oper.wp execOp
    simp only [ho, resolve, invoke, builtin, Sem.run_bind, Sem.run_pure, Result.andThen_ok, List.map_toArray, List.map_cons, List.map_nil, hs, hx, hrun]
    exact hK _ _ (h v' w' h2 h3)

/-- a row of rows that is read at j -/
theorem rows_cell {B : Nat} {w : World} {c : Value} {vs : List Value} {L : List (List Int)} (h : RowsNew B w c vs L) {j : Nat} (hj : j < L.length) : ∃ g cc u, c = .slice (some ⟨g, 0, none⟩) L.length cc ∧ L.length ≤ cc ∧ vs[j]? = some u ∧ w.cell? ⟨g, j, none⟩ = some u ∧ IntsNew B w u L[j] := by
  obtain ⟨u, hu, hi⟩ := h.2 j _ (List.getElem?_eq_getElem hj)
  rcases h.1.2 with ⟨rfl, h0⟩ | ⟨g', cap, cur', rfl, hB, hg, hn, hm, hc, ht⟩
  · omega
  · exact ⟨g', cap, u, rfl, hn, hu, by rw [h.1.cellAt j (by omega)]; exact hu, hi⟩
end Go.Proofs.Ytlpmoklcdocmmaa
