/- Numbers that came in, appended to an empty row literal: one step. -/
import Derived.Test.YtpbbiidfahaamaaStC1
import Derived.Deep.RegionLawGrows
namespace Go.Proofs.Ytpbbiidfahaamaa
open Go.RowKit

/-- numbers that came in, appended to an empty row literal -/
theorem run_clone_ints (w : World) (ty : TypeId) (base b : Nat) (hbl : Blk w b 3 #[]) (hbase : base ≤ b) (u : Value) (l : List Int) (hu : IntsAt w u l) (hn : l.length ≤ 1099511627776) :
    ∃ v' w', (Builtin.append_ #[23, 23] ty #[.slice (some ⟨b, 0, none⟩) 0 0, u]).run Try.prog w = .ok v' w' ∧ w'.ownsRow base 3 1 v' l.length (intsV l) ∧ Below w.heap.size w w' := by
  obtain ⟨i0, hi, hz0, hz1, hz2⟩ := info_parts intInfo
  obtain ⟨⟨a, c, rfl, _, _, hq⟩, _⟩ := hu
  have hlt := hbl.lt
  rcases Nat.eq_zero_or_pos l.length with h0 | h0
  · have hl : l = [] := List.eq_nil_of_length_eq_zero h0
    subst hl
    refine ⟨.slice (some ⟨b, 0, none⟩) 0 0, w, ?_, ⟨by simp [intsV], .inr ⟨b, 0, #[], rfl, hbase, hbl, Nat.le_refl _, by unfold maxLen; omega, rfl, rfl⟩⟩, Below.refl _ _⟩
    cases a <;> simp [Builtin.append_, run_underlying (P := Try.prog) Try.underlying23, sizeOf, typeInfo, hi, Builtin.lenOf, Builtin.firstCells, loadCells, loadCellsFrom, storeCells]
  · obtain ⟨g, o, rfl, _, hc⟩ := hq h0
    obtain ⟨v', w', h1, h2, h3⟩ := run_append_arg_grows (P := Try.prog) w 23 ty 3 i0 (.int .i64 0) 1 8 Try.underlying23 hi hz0 hz1 hz2 rfl (by decide) ⟨b, 0, none⟩ 0 0 [] rfl (by simp) ⟨g, o, none⟩ l.length c (intsV l) (by simp [intsV]) (by
      intro j x hx
      have hj : j < l.length := by
        rcases Nat.lt_or_ge j l.length with hh | hh
        · exact hh
        · rw [List.getElem?_eq_none (by simpa [intsV] using hh)] at hx; cases hx
      rw [Go.WideShapes.add_plain, hc j _ (List.getElem?_eq_getElem hj)]
      simp only [intsV, List.getElem?_map, List.getElem?_eq_getElem hj, Option.map_some] at hx
      exact hx) (by omega) (by unfold maxLen; omega) (by omega)
    rw [Nat.zero_add, List.nil_append] at h2
    exact ⟨v', w', h1, own_mono h2 (by omega), h3.os, h3.tape, h3.output, h3.size, fun k hk => h3.block k hk (by simp)⟩

theorem step_clone_ints (w : World) {ops : Array Oper} {o : Oper} {a : Act} {K : Act → World → Prop} {Q : Exit → Act → World → Prop} {E : Prop} (hgd : o.guard = none) (s x : Operand)
    (ho : o.op = .call { callee := .builtin .append, args := #[s, x], argTypes := #[23, 23] })
    (base b : Nat) (hs : a.eval s = .slice (some ⟨b, 0, none⟩) 0 0) (hbl : Blk w b 3 #[]) (hbase : base ≤ b) (u : Value) (l : List Int) (hx : a.eval x = u) (hu : IntsAt w u l) (hn : l.length ≤ 1099511627776)
    (h : ∀ v' w', w'.ownsRow base 3 1 v' l.length (intsV l) → Below w.heap.size w w' → K (a.put o.dst v') w') :
    if Region.wanted o (yielded ops a.tmps) = true then Oper.wp Try.prog o a w K Q else E := by
  have hw : Region.wanted o (yielded ops a.tmps) = true := by simp [Region.wanted, hgd]
  rw [if_pos hw]
  obtain ⟨v', w', hrun, h2, h3⟩ := run_clone_ints w o.type base b hbl hbase u l hu hn
  unfold Oper.wp execOp
  simp only [ho, resolve, invoke, builtin, Sem.run_bind, Sem.run_pure, Result.andThen_ok, List.map_toArray, List.map_cons, List.map_nil, hs, hx, hrun]
  exact h v' w' h2 h3

theorem Blk.new' {w : World} {b : Nat} {t : TypeId} {cs : Array Value} (h : w.heap.size = b) : Blk (w.alloc (.cells cs t)) b t cs := by subst h; exact Blk.new _ _ _
theorem Blk.al {w : World} {b : Nat} {t : TypeId} {cs : Array Value} (h : Blk w b t cs) (ob : Obj) : Blk (w.alloc ob) b t cs := h.next (below_alloc _ _)
theorem Blk.dr {w : World} {b : Nat} {t : TypeId} {cs : Array Value} (h : Blk w b t cs) : Blk w.drew b t cs := h
theorem below_al {B : Nat} {W cur : World} (h : Below B W cur) (hB : B ≤ W.heap.size) (ob : Obj) : Below B W (cur.alloc ob) := h.alloc (Nat.le_trans hB h.size) ob
theorem IntsNew.al {B : Nat} {w : World} {u : Value} {l : List Int} (h : IntsNew B w u l) (ob : Obj) : IntsNew B (w.alloc ob) u l := own_below h (below_alloc _ _)
theorem IntsNew.dr {B : Nat} {w : World} {u : Value} {l : List Int} (h : IntsNew B w u l) : IntsNew B w.drew u l := h

end Go.Proofs.Ytpbbiidfahaamaa
