/- The walk of Lex. -/
import Derived.Test.YtgnnkddneoghmaaLexW2
import Derived.Maps.AppendAt
import Derived.Laws.DeepStrings4
namespace Go.Proofs.Ytgnnkddneoghmaa
open Go.RowKit

def tokCell (t : Tok) : List Value := [.int .u8 t.kind, .string ⟨t.text.toArray⟩, .int .i64 t.pos]
def tokCells (l : List Tok) : List Value := l.flatMap tokCell
theorem tokCells_snoc (l : List Tok) (t : Tok) : tokCells (l ++ [t]) = tokCells l ++ [.int .u8 t.kind, .string ⟨t.text.toArray⟩, .int .i64 t.pos] := by
  simp [tokCells, tokCell]

/-- what Lex returns: tokens, offset, error number -/
def outT (l : List UInt8) : List Tok × Nat × Nat :=
  if 65536 < l.length then ([], 0, 5) else match (lexP l 0).2 with
    | none => ((lexP l 0).1, 0, 0)
    | some p => ([], p, 3)

theorem tokInfo : (Try.prog.info? 33).map (fun i => (i.zero, i.size, i.bytes)) = some (some (.agg #[.int .u8 0, .string ByteArray.empty, .int .i64 0]), 3, 32) := by kernel_rfl

theorem cell_three_new (w : World) (x y z : Value) (t : TypeId) : ∀ j u, [x, y, z][j]? = some u → (w.alloc (.cells #[x, y, z] t)).cell? ((⟨w.heap.size, 0, none⟩ : Addr).add j) = some u := by
  intro j u h
  have ha : (⟨w.heap.size, 0, none⟩ : Addr).add j = ⟨w.heap.size, j, none⟩ := by unfold Addr.add; split <;> simp_all
  rw [ha, World.cell?_alloc_at _ _ _ _ rfl]
  simpa using h

theorem extract_tok (s : ByteArray) (k m : Nat) : s.extract k (k + m) = ⟨((s.data.toList.drop k).take m).toArray⟩ := by
  have h := Lib.extract_data s k (k + m)
  rw [Nat.add_sub_cancel_left] at h
  rw [← h]

theorem slice_mid {P : Program} {t : TypeId} (ht : P.underlying t = some .string) (s : ByteArray) (k m : Nat) (h : k + m ≤ s.size) (W : World) :
    (Instr.slice t (.string s) (some (.int .i64 (k : Int))) (some (.int .i64 ((k : Int) + (m : Int)))) none).run P W = .ok (.string (s.extract k (k + m))) W := by
  rw [run_slice_string_if W t s .i64 .i64 (k : Int) ((k : Int) + (m : Int)) ht, if_pos ⟨by omega, by omega⟩, if_pos ⟨by omega, by omega⟩]
  rw [show ((k : Int) + (m : Int)).toNat = k + m from by omega, Int.toNat_natCast]

theorem extract_end (s : ByteArray) (k : Nat) : (s.extract k s.size).data.toList = s.data.toList.drop k := by
  rw [Lib.extract_data, List.take_of_length_le]
  rw [List.length_drop]
  simp

set_option maxHeartbeats 1000000 in
theorem lex_any (s : ByteArray) (hs : s.size ≤ maxLen) (w : World) :
    Calls Try.prog 13 #[.string s] w fun e w' => ∃ v, e = .returned (.tuple #[v, .int .i64 (outT s.data.toList).2.1, .int .i64 (outT s.data.toList).2.2]) ∧
      w'.ownsRow w.heap.size 33 3 v (outT s.data.toList).1.length (tokCells (outT s.data.toList).1) ∧ Below w.heap.size w w' := by
  have HS := Lib.hid hs
  unfold maxLen at hs
  have hsz : s.data.toList.length = s.size := by simp
  obtain ⟨i0, hi, hz0, hz1, hz2⟩ := info_parts tokInfo
  by_cases hbig : 65536 < s.size
  · have ho : outT s.data.toList = ([], 0, 5) := by unfold outT; rw [if_pos (by omega)]
    rw [ho]
    clear hsz ho
    have hb' : (65536 : Int) < (s.size : Int) := by omega
    go_enter Try.func13, Try.ntmps13
    go_wp2
    go_ret3
    exact ⟨_, rfl, World.ownsRow_nil _ _ _ _, Below.refl _ _⟩
  · have hb' : (s.size : Int) ≤ 65536 := by omega
    have ho : outT s.data.toList = match (lexP s.data.toList 0).2 with
      | none => ((lexP s.data.toList 0).1, 0, 0)
      | some p => ([], p, 3) := by unfold outT; rw [if_neg (by omega)]
    have HO := Lib.hid ho
    have HZ := Lib.hid hsz
    clear hsz ho hbig
    generalize outT s.data.toList = out at *
    go_enter Try.func13, Try.ntmps13
    go_wp2
    go_loopg [5, 6] (s.size) (fun n v i wr => ∃ (k : Nat) (A : List Tok), k + n = s.size ∧ i = .int .i64 k ∧
      Hid (lexP s.data.toList 0 = (A ++ (lexP (s.data.toList.drop k) k).1, (lexP (s.data.toList.drop k) k).2)) ∧ A.length ≤ k ∧
      wr.ownsRow w.heap.size 33 3 v A.length (tokCells A) ∧ Below w.heap.size w wr)
    case atStart => exact ⟨0, [], by omega, rfl, by simp [Hid], Nat.le_refl _, World.ownsRow_nil _ _ _ _, Below.refl _ _⟩
    case round =>
      obtain ⟨k, A, hk, rfl, HL, hA, hown, hb⟩ := hrel
      have Hk := Lib.hid hk
      have hks : k ≤ s.size := by omega
      clear hk
      have hsz := hb.size
      by_cases hlt : k < s.size
      · have hx := extract_end s k
        have hxs : (s.extract k s.size).size = s.size - k := by simp
        have hne : s.data.toList.drop k ≠ [] := by
          intro e
          have := congrArg List.length e
          rw [List.length_drop, HZ.out] at this
          simp at this
          omega
        have HX := Lib.hid hx
        have HXS := Lib.hid hxs
        have HNE := Lib.hid hne
        have Hown := Lib.hid hown
        have Hb := Lib.hid hb
        clear hx hxs hne hown hb
        generalize hst : step (s.data.toList.drop k) = st
        obtain ⟨kd, m⟩ := st
        have hm : k + m ≤ s.size := by
          have := step_le (s.data.toList.drop k)
          rw [hst, List.length_drop, HZ.out] at this
          omega
        have HST := Lib.hid hst
        clear hst
        by_cases hm0 : m = 0
        · subst hm0
          go_wp2_with (go_at_call 23; refine (first_any _ (by rw [HXS.out]; have := HS.out; omega) (by rw [HXS.out]; omega) _).mono ?_; rw [HX.out, HST.out]; rintro e w' ⟨rfl, rfl⟩)
          go_ret3
          have hl := HL.out
          rw [lexP_err HNE.out (by rw [HST.out])] at hl
          have ho := HO.out
          rw [hl] at ho
          simp only at ho
          subst ho
          exact ⟨_, rfl, World.ownsRow_nil _ _ _ _, Hb.out⟩
        · have hm1 : ((m : Int) == 0) = false := by simp; omega
          clear hm0
          have hsl := fun W => slice_mid Try.underlying9 s k m hm W
          go_wp2_with (first
            | (go_at_call 23; refine (first_any _ (by rw [HXS.out]; have := HS.out; omega) (by rw [HXS.out]; omega) _).mono ?_; rw [HX.out, HST.out]; rintro e w' ⟨rfl, rfl⟩)
            | (at_builtin; refine wpList_append_own _ rfl (.tmp 26) (.tmp 36) 23 rfl w.heap.size 33 i0 (.agg #[.int .u8 0, .string ByteArray.empty, .int .i64 0]) 3 32 Try.underlying23 hi hz0 hz1 hz2 rfl (by decide) _ _ _ rfl (Hown.out.alloc _) ⟨wr.heap.size, 0, none⟩ 1 1 [.int .u8 kd, .string (s.extract k (k + m)), .int .i64 k] rfl rfl ?c1 ?c2 ?c3 ?c4 ?c5 ?_))
          case c1 => exact cell_three_new _ _ _ _ _
          case c2 => intro u hu; simp only [List.mem_cons, List.not_mem_nil, or_false] at hu; rcases hu with rfl | rfl | rfl <;> rfl
          case c3 => unfold maxLen; omega
          case c4 => omega
          case c5 => simp; omega
          intro v' w1 hown1 hgrow _
          have hb1 : Below w.heap.size w w1 := (Hb.out.alloc hsz _).grown hgrow (by simp; omega) (fun j hj => (Hown.out.lt j hj).1)
          clear hgrow Hown
          have Hown1 := Lib.hid hown1
          have Hb1 := Lib.hid hb1
          clear hown1 hb1
          go_wp2
          have hk := Hk.out
          have hm2 : m ≠ 0 := by simpa using hm1
          have hl := HL.out
          rw [lexP_cons HNE.out (by rw [HST.out]; exact hm2), HST.out, List.drop_drop] at hl
          go_roundg (s.size - (k + m))
          case measure => omega
          case rel =>
            refine ⟨k + m, A ++ [⟨kd, (s.data.toList.drop k).take m, k⟩], by omega, by go_num, ?_, ?_, ?_, Hb1.out⟩
            · unfold Hid; rw [hl]; simp
            · simp; omega
            · rw [tokCells_snoc, List.length_append, ← extract_tok]
              exact Hown1.out
      · have hke : k = s.size := by omega
        subst hke
        have hl := HL.out
        rw [List.drop_of_length_le (by rw [HZ.out]; exact Nat.le_refl _), lexP_nil, List.append_nil] at hl
        have ho := HO.out
        rw [hl] at ho
        simp only at ho
        subst ho
        have Hown := Lib.hid hown
        have Hb := Lib.hid hb
        clear hl hown hb
        go_wp2
        go_ret3
        exact ⟨_, rfl, Hown.out, Hb.out⟩

end Go.Proofs.Ytgnnkddneoghmaa
