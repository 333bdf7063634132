/- slices.Clone at the two kinds of rows; make of a row of rows. -/
import Derived.Test.YtichiccohmeecaaDoorWhK2
namespace Go.Proofs.YtichiccohmeecaaDoor
open Go.RowKit

def CloR (l : List Int) (w : World) (e : Ending) (w' : World) : Prop := ∃ v', e = .returned v' ∧ w'.ownsRow w.heap.size 3 1 v' l.length (intsV l) ∧ Below w.heap.size w w'
def CloA (l : List (Int × Bool)) (w : World) (e : Ending) (w' : World) : Prop := ∃ v', e = .returned v' ∧ w'.ownsRow w.heap.size 53 2 v' l.length (actsV l) ∧ Below w.heap.size w w'

theorem clone_ints {P : Nat → Prop} {w : World} {v : Value} {l : List Int} (h : IntsIn P w v l) (hl : l.length ≤ 1000000000) :
    Calls Tryd.prog 19 #[v] w (CloR l w) := by
  obtain ⟨⟨a, c, rfl, h1, h2, h3⟩, h4⟩ := h
  rcases Nat.eq_zero_or_pos l.length with h0 | h0
  · obtain rfl := List.eq_nil_of_length_eq_zero h0
    cases a with
    | none =>
      refine (Tryd.slices_Clone_int_nil _ _ w).mono ?_
      rintro e w' ⟨rfl, rfl⟩
      exact ⟨_, rfl, World.ownsRow_nil _ _ _ _, Below.refl _ _⟩
    | some ad =>
      refine (Tryd.slices_Clone_int_zero ad c w).mono ?_
      rintro e w' ⟨v', rfl, ho, _, hb⟩
      exact ⟨v', rfl, ho, hb⟩
  · obtain ⟨g, o, rfl, hg, hp, hc⟩ := h3 h0
    refine (Tryd.slices_Clone_int g o l.length c l w (Nat.le_refl _) (by omega) (fun j hj => ?_)).mono ?_
    · rw [hc j _ (List.getElem?_eq_getElem hj), List.getD_eq_getElem?_getD, List.getElem?_eq_getElem hj]
      rfl
    · rintro e w' ⟨v', rfl, ho, _, hb⟩
      rw [List.take_length] at ho
      exact ⟨v', rfl, ho, hb⟩

theorem run_eql_acts : ∀ (w : World) (a : Option Addr) (n c n' c' : Nat), (binOp .eql 28 (.slice a n c) (.slice none n' c')).run Tryd.prog w = .ok (.bool a.isNone) w := fun w a n c n' c' => Lib.run_eql_slice_nil w _ _ a n c n' c' Tryd.underlying28
set_option maxRecDepth 100000 in
theorem clone_acts {P : Nat → Prop} {w : World} {v : Value} {l : List (Int × Bool)} (h : ActsIn P w v l) (hl : l.length ≤ 1000000000) :
    Calls Tryd.prog 20 #[v] w (CloA l w) := by
  have HI := Lib.hid h
  obtain ⟨⟨a, c, rfl, h1, h2, h3⟩, h4⟩ := h
  have q := run_eql_acts
  have n63 : l.length ≤ 9223372036854775807 := by omega
  cases a with
  | none =>
    have h0 : l.length = 0 := by
      rcases Nat.eq_zero_or_pos l.length with h | h
      · exact h
      · obtain ⟨g, o, e, _⟩ := h3 h
        cases e
    obtain rfl := List.eq_nil_of_length_eq_zero h0
    clear HI h1 h2 h3 h4 n63 hl
    go_enter Tryd.func20, Tryd.ntmps20
    go_wp2
    go_ret
    exact ⟨_, rfl, World.ownsRow_nil _ _ _ _, Below.refl _ _⟩
  | some ad =>
    obtain ⟨i0, hi, hz0, hz1, hz2⟩ := info_parts actInfo
    have HL := Lib.hid hl
    have HOL : Hid (∀ j u, (actsV l)[j]? = some u → (w.alloc (.cells #[] 53)).cell? (ad.add j) = some u) := Lib.hid (fun j u hu => by
      have hx := HI.out.olds ad rfl j u hu
      obtain ⟨⟨a', c', he, k1, k2, k3⟩, _⟩ := HI.out
      injection he with e1 e2 e3
      have hj : 0 < l.length := by
        have := (List.getElem?_eq_some_iff.1 hu).1
        rw [actsV_len] at this
        omega
      obtain ⟨g, o, e, hg, _, _⟩ := k3 hj
      rw [← e1] at e
      injection e with e
      subst e
      rw [Go.WideShapes.add_plain] at hx ⊢
      exact cell_lo (below_alloc w _) hg hx)
    have H1 : Hid (∀ u ∈ actsV l, u.oneCell' = true) := Lib.hid (fun u hu => by
      simp only [actsV, List.mem_flatMap, List.mem_cons, List.not_mem_nil, or_false] at hu
      obtain ⟨x, _, rfl | rfl⟩ := hu <;> rfl)
    obtain ⟨n, hn⟩ : ∃ n, l.length = n := ⟨_, rfl⟩
    have HN := Lib.hid hn
    rw [hn] at n63 ⊢
    clear HI h1 h2 h3 h4 hl hn
    go_enter Tryd.func20, Tryd.ntmps20
    go_wp2_with (at_builtin; refine wpList_append_own _ rfl (.tmp 5) (.tmp 6) 28 rfl w.heap.size 53 i0 (.agg #[.int .i64 0, .bool false]) 2 16 Tryd.underlying28 hi hz0 hz1 hz2 rfl (by decide) (.slice (some ⟨w.heap.size, 0, none⟩) 0 0) 0 [] rfl (World.ownsRow_made w #[] 0 (Nat.le_refl _) (Nat.zero_le _) rfl) ad n c (actsV l) rfl (by rw [actsV_len, HN.out]) HOL.out H1.out (by have := HL.out; have := HN.out; unfold maxLen; omega) (by have := HL.out; have := HN.out; omega) (by simp) ?_)
    intro v' w1 hown hgrow hnil
    have HO := Lib.hid hown
    have HB : Hid (Below w.heap.size w w1) := Lib.hid (((Below.refl _ w).alloc (Nat.le_refl _) _).grown hgrow (by simp) (by intro k hk; simp [Value.ownBlock] at hk; omega))
    clear hown hgrow hnil
    go_wp2
    go_ret
    refine ⟨v', rfl, ?_, HB.out⟩
    have := HO.out
    rw [HN.out]
    simpa using this

theorem rowInfo : (Tryd.prog.info? 26).map (fun i => (i.zero, i.size, i.bytes)) = some (some (.slice none 0 0), 1, 24) := by kernel_rfl
theorem make_rows (m : Nat) (hm : m ≤ 1000000) (W : World) :
    (Instr.makeSlice 27 (.int .i64 (m : Int)) (.int .i64 (m : Int))).run Tryd.prog W = .ok (.slice (some ⟨W.heap.size, 0, none⟩) m m) (W.alloc (.cells (arr m (fun _ => Value.slice none 0 0)) 26)) := by
  obtain ⟨i0, hi, hz0, hz1, hz2⟩ := info_parts rowInfo
  have h := run_make (P := Tryd.prog) W 27 26 i0 (.slice none 0 0) Tryd.underlying27 hi hz0 .i64 .i64 m m (by omega) (Int.le_refl _) (by rw [hz2]; omega) (by omega)
  simp only [Int.toNat_natCast] at h
  rw [h, hz1, Nat.mul_one]
  have e : madeCells (Value.cells (.slice none 0 0)) m = arr m (fun _ => Value.slice none 0 0) := by
    rw [← arr_rep]
    apply Array.toList_inj.1
    rw [Array.toList_replicate]
    exact toList_madeCells_one _ _
  rw [e]

end Go.Proofs.YtichiccohmeecaaDoor
