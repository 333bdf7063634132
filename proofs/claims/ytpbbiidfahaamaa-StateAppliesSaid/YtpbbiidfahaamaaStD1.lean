/- Walks: slices.Reverse on a row of the call's own; the components of a state. -/
import Derived.Test.YtpbbiidfahaamaaStW6
import Derived.Lib.OwnBridge
import Derived.Deep.Onto
namespace Go.Proofs.Ytpbbiidfahaamaa
open Go.RowKit Go.Lib Go.Sort

theorem reverse_any (base : Nat) (l : List Int) (v : Value) (w : World) (h : w.ownsRow base 3 1 v l.length (intsV l)) (hl : l.length ≤ 1099511627776) :
    Calls Try.prog 53 #[v] w fun e w' => e = .returned (.tuple #[]) ∧ w'.ownsRow base 3 1 v l.length (intsV l.reverse) ∧ Below base w w' := by
  rcases Joins.ownsRow_forms h with ⟨rfl, h0⟩ | ⟨g, cap, rfl⟩
  · have : l = [] := List.eq_nil_of_length_eq_zero h0
    subst this
    refine (Try.slices_Reverse_int_empty none 0 w).mono ?_
    rintro e w' ⟨rfl, rfl⟩
    exact ⟨rfl, h, Below.refl _ _⟩
  · have hh := h
    obtain ⟨g', cap', e1, hb, _, _, _, _, hH⟩ := holds_of_ownsRow (enc := Value.int .i64) (zs := l) h (by simp)
    have e2 : g = g' := by simpa using (Value.slice.inj e1).1
    subst e2
    refine (Try.slices_Reverse_int g 0 cap l w hH (by omega)).mono ?_
    rintro e w' ⟨rfl, q, rfl⟩
    refine ⟨rfl, ?_, below_putRow (Below.refl _ _) hb⟩
    have := ownsRow_putRow (enc := Value.int .i64) (q := q) (ys := l.reverse) hh (by simp) (Nat.le_refl _)
    rw [List.take_of_length_le (by simp)] at this
    exact this

/-- a component, in the order in which changes count its elements -/
def part (s : St) (cell : Int) : List Int := if cell = -1 then s.inp.reverse else if cell = -2 then s.out else s.cells.getD cell.toNat []

/-- the box of a state's three slices -/
def BoxAt (w : World) (b : Nat) (s : St) : Prop :=
  b < w.heap.size ∧ ∃ c i o, w.cell? ⟨b, 0, none⟩ = some c ∧ w.cell? ⟨b, 1, none⟩ = some i ∧ w.cell? ⟨b, 2, none⟩ = some o ∧ RowsAt w c s.cells ∧ IntsAt w i s.inp ∧ IntsAt w o s.out

theorem BoxAt.below {w w' : World} {b : Nat} {s : St} (h : BoxAt w b s) {B : Nat} (hb : Below B w w') (hB : w.heap.size ≤ B) : BoxAt w' b s := by
  obtain ⟨h0, c, i, o, h1, h2, h3, h4, h5, h6⟩ := h
  exact ⟨Nat.lt_of_lt_of_le h0 hb.size, c, i, o, cell_below hb (by omega) h1, cell_below hb (by omega) h2, cell_below hb (by omega) h3, h4.below hb hB, h5.below hb hB, h6.below hb hB⟩

def Sized (s : St) : Prop := s.inp.length ≤ 1099511627776 ∧ s.out.length ≤ 1099511627776 ∧ ∀ l ∈ s.cells, l.length ≤ 1099511627776

set_option maxRecDepth 100000 in
set_option maxHeartbeats 1000000 in
theorem elem_any (s : St) (b : Nat) (cell : Int) (w : World) (h : BoxAt w b s) (hz : Sized s) (hc : cell = -1 ∨ cell = -2 ∨ 0 ≤ cell ∧ cell < s.cells.length) :
    Calls Try.prog 55 #[.int .i64 cell, .pointer (some ⟨b, 0, none⟩)] w fun e w' => ∃ u, e = .returned u ∧ w'.ownsRow w.heap.size 3 1 u (part s cell).length (intsV (part s cell)) ∧ Below w.heap.size w w' := by
  obtain ⟨h0, c, i, o, h1, h2, h3, h4, h5, h6⟩ := h
  rcases hc with rfl | rfl | ⟨hc1, hc2⟩
  · have hp : part s (-1) = s.inp.reverse := rfl
    rw [hp]
    have H5 := Lib.hid h5
    have HZ := Lib.hid hz
    clear h4 h5 h6 hz hp
    go_enter Try.func55, Try.ntmps55
    go_wp2_with fail
    refine (clone_any s.inp _ _ H5.out HZ.out.1).mono ?_
    rintro e w1 ⟨u1, rfl, hown1, hb1⟩
    have Hown1 := Lib.hid hown1
    have Hb1 := Lib.hid hb1
    clear hown1 hb1
    go_wp2_with fail
    refine (reverse_any w.heap.size s.inp _ _ Hown1.out HZ.out.1).mono ?_
    rintro e w2 ⟨rfl, hown2, hb2⟩
    have Hown2 := Lib.hid hown2
    have Hb2 := Lib.hid (Hb1.out.trans hb2)
    clear hown2 hb2
    go_wp2
    go_ret
    exact ⟨_, rfl, by rw [List.length_reverse]; exact Hown2.out, Hb2.out⟩
  · have hp : part s (-2) = s.out := rfl
    rw [hp]
    have H6 := Lib.hid h6
    have HZ := Lib.hid hz
    clear h4 h5 h6 hz hp
    go_enter Try.func55, Try.ntmps55
    go_wp2_with fail
    refine (clone_any s.out _ _ H6.out HZ.out.2.1).mono ?_
    rintro e w1 ⟨u1, rfl, hown1, hb1⟩
    have Hown1 := Lib.hid hown1
    have Hb1 := Lib.hid hb1
    clear hown1 hb1
    go_wp2
    go_ret
    exact ⟨_, rfl, Hown1.out, Hb1.out⟩
  · obtain ⟨k, rfl⟩ := Int.eq_ofNat_of_zero_le hc1
    have hk : k < s.cells.length := by omega
    have hl : s.cells[k]? = some s.cells[k] := List.getElem?_eq_getElem hk
    have hp : part s (k : Int) = s.cells[k] := by
      unfold part
      rw [if_neg (by omega), if_neg (by omega), Int.toNat_natCast, List.getD_eq_getElem?_getD, hl]
      rfl
    rw [hp]
    have hlz := hz.2.2 _ (List.getElem_mem hk)
    generalize s.cells[k] = l at *
    obtain ⟨a, cc, rfl, hn, hm, hq⟩ := h4
    obtain ⟨g, off, rfl, hg, hq⟩ := hq (by omega)
    obtain ⟨u, hu, hi⟩ := hq k l hl
    have HI := Lib.hid hi
    have HLZ := Lib.hid hlz
    have j1 : ((k : Int) == -1) = false := by simp
    have j2 : ((k : Int) == -2) = false := by simp
    generalize s.cells.length = n at *
    have hk' : (k : Int) < (n : Int) := by omega
    clear h5 h6 hz hp hq hi hlz hl hc1 hc2
    go_enter Try.func55, Try.ntmps55
    go_wp2_with fail
    refine (clone_any l _ _ HI.out HLZ.out).mono ?_
    rintro e w1 ⟨u1, rfl, hown1, hb1⟩
    have Hown1 := Lib.hid hown1
    have Hb1 := Lib.hid hb1
    clear hown1 hb1
    go_wp2
    go_ret
    exact ⟨_, rfl, Hown1.out, Hb1.out⟩

end Go.Proofs.Ytpbbiidfahaamaa
