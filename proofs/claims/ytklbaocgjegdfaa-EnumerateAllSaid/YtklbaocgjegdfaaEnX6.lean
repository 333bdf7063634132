/- The walk of the reference's Compare. -/
import Derived.Test.YtklbaocgjegdfaaEnX4
import Derived.Test.YtklbaocgjegdfaaEnRo
import Derived.Deep.RegionHeld3
import Derived.Deep.CutRange
namespace Go.Proofs.Ytklbaocgjegdfaa
open Go.RowKit

/-- the rows that lists gives: their elements lie where they lay -/
def ListsIn (w : World) (s : St) (vs : List Value) : Prop := ∀ (i : Nat) (l : List Int), (listsS s)[i]? = some l → ∃ u, vs[i]? = some u ∧ IntsAt w u l
def ListsOut (w0 w : World) (s : St) (e : Ending) (w' : World) : Prop := ∃ r vs, e = .returned r ∧ w'.ownsRow w.heap.size 33 1 r (s.cells.length + 2) vs ∧ ListsIn w0 s vs ∧ Below w.heap.size w w'

set_option maxRecDepth 100000 in
set_option maxHeartbeats 8000000 in
theorem lists_own (s : St) (v : Value) (w0 w : World) (h : StAt w0 v s) (hb0 : Below w0.heap.size w0 w) (hn : (s.cells.length + 2) * 24 ≤ 140737488355328) :
    Calls Try.prog 35 #[v] w (ListsOut w0 w s) := by
  obtain ⟨c, i, o, rfl, hc, hi, ho⟩ := h
  obtain ⟨W, hW⟩ : ∃ W, W = w.alloc (.cells #[c, i, o] 35) := ⟨_, rfl⟩
  have hB0 : Below w.heap.size w W := by rw [hW]; exact below_alloc _ _
  have hBK : Blk W w.heap.size 35 #[c, i, o] := by rw [hW]; exact Blk.new _ _ _
  have HI := Lib.hid hi
  have HO := Lib.hid ho
  obtain ⟨a, cc, rfl, hc1, hc2, hq⟩ := hc
  have HQ := Lib.hid hq
  obtain ⟨⟨ai, ci, rfl, -, -, -⟩, -⟩ := id hi
  obtain ⟨⟨ao, co, rfl, -, -, -⟩, -⟩ := id ho
  obtain ⟨n, hnn⟩ : ∃ n, s.cells.length = n := ⟨_, rfl⟩
  obtain ⟨ni, hni⟩ : ∃ n, s.inp.length = n := ⟨_, rfl⟩
  obtain ⟨no, hno⟩ : ∃ n, s.out.length = n := ⟨_, rfl⟩
  rw [hnn] at HQ hc1 hBK hW hn ⊢
  rw [hni] at HI hBK hW ⊢
  rw [hno] at HO hBK hW ⊢
  have HN := Lib.hid hnn
  have h63 : (n : Int) ≤ 5864062014804 := by omega
  have hn0 : (0 : Int) ≤ (n : Int) := Int.natCast_nonneg _
  have hlt0 := hBK.lt
  have HBK := Lib.hid hBK
  have HW := Lib.hid hW
  have HB0 := Lib.hid hB0
  have HBW := Lib.hid (hb0.trans (hB0.mono hb0.size))
  obtain ⟨j0, hj, hz0, hz1, hz2⟩ := info_parts rowInfo
  clear hq hnn hni hno hi ho hc1 hc2 hBK hB0 hW hb0
  go_enter Try.func35, Try.ntmps35
  go_upto_region 1 with (fail)
  rw [← HW.out]
  clear HW
  go_wp2
  go_loopg [3, 4] n (fun q r i wr => ∃ (k : Nat) (vs : List Value), k + q = n ∧ i = .int .i64 k ∧ wr.ownsRow W.heap.size 33 1 r k vs ∧ (∀ (j : Nat) (l : List Int), (s.cells.take k)[j]? = some l → ∃ u, vs[j]? = some u ∧ IntsAt w0 u l) ∧ Below W.heap.size W wr)
  case atStart => exact ⟨0, [], by omega, rfl, World.ownsRow_nil _ _ _ _, by simp, Below.refl _ _⟩
  case round =>
    obtain ⟨k, vs, hk, rfl, hown, hvs, hb⟩ := hrel
    have Hk := Lib.hid hk
    have hkn : k ≤ n := by omega
    have HOWN := Lib.hid hown
    have HVS := Lib.hid hvs
    have HB := Lib.hid hb
    have hsz := hb.size
    have hlen : vs.length = k := by simpa using hown.1
    have HLEN := Lib.hid hlen
    have b0 := (HBK.out.next hb).cell 0
    have b1 := (HBK.out.next hb).cell 1
    have b2 := (HBK.out.next hb).cell 2
    simp only [List.getElem?_toArray, List.getElem?_cons_zero, List.getElem?_cons_succ] at b0 b1 b2
    obtain ⟨ar, cr, rfl⟩ := own_form hown
    clear hk hown hvs hb hlen
    by_cases hlt : k < n
    · have hlt' : (k : Int) < (n : Int) := by omega
      obtain ⟨g, off, rfl, hg, hq⟩ := HQ.out (by omega)
      obtain ⟨l, hl⟩ := get_lt HN.out.symm hlt
      obtain ⟨u, hu, hui⟩ := hq k l hl
      have m0 := cell_below (HBW.out.trans (HB.out.mono HBW.out.size)) hg hu
      obtain ⟨⟨au, cu, rfl, -, -, -⟩, -⟩ := id hui
      have HUI := Lib.hid hui
      have HL := Lib.hid hl
      have u1 : IntKind.i64.wrap ((k : Int) + 1) = (k : Int) + 1 := IntWalk.i64_in _ (by omega)
      clear hq hl hu hui
      go_wp2_with (at_builtin; refine wpList_append_own _ rfl (.tmp 12) (.tmp 18) 32 rfl W.heap.size 33 j0 (.slice none 0 0) 1 24 Try.underlying32 hj hz0 hz1 hz2 rfl (by decide) (.slice ar k cr) k vs rfl (HOWN.out.alloc _) ⟨wr.heap.size, 0, none⟩ 1 1 [.slice au l.length cu] rfl rfl (cell_one_new _ _ _) (by simp [Value.oneCell']) (by unfold maxLen; omega) (by omega) (by simp; omega) ?_; intro v5 w5 hown5 hgr5 _)
      have hb5 : Below W.heap.size W w5 := (HB.out.alloc hsz _).grown hgr5 (by simp; omega) (fun j hj => (HOWN.out.lt j hj).1)
      have HB5 := Lib.hid hb5
      have HOWN5 := Lib.hid hown5
      clear hb5 hown5 hgr5
      go_wp2
      have hk := Hk.out
      go_roundg (n - (k + 1))
      case measure => omega
      case rel =>
        refine ⟨k + 1, vs ++ [.slice au l.length cu], by omega, by go_num, HOWN5.out, fun j l' hl' => ?_, HB5.out⟩
        have hln := HLEN.out
        have hjk : j < k + 1 := by
          have := (List.getElem?_eq_some_iff.1 hl').1
          rw [List.length_take] at this
          omega
        rcases Nat.lt_or_ge j k with hjk' | hjk'
        · rw [List.getElem?_take, if_pos hjk] at hl'
          obtain ⟨u, h1, h2⟩ := HVS.out j l' (by rw [List.getElem?_take, if_pos hjk']; exact hl')
          exact ⟨u, by rw [List.getElem?_append_left (by omega)]; exact h1, h2⟩
        · have hj : j = k := by omega
          subst hj
          rw [List.getElem?_take, if_pos hjk, HL.out] at hl'
          injection hl' with hl'
          subst hl'
          exact ⟨_, by rw [List.getElem?_append_right (by omega), hln, Nat.sub_self]; rfl, HUI.out⟩
    · have hge : ¬ (k : Int) < (n : Int) := by omega
      have hke : n = k := by omega
      subst hke
      go_wp2_with (at_builtin; refine wpList_append_own _ rfl (.tmp 20) (.tmp 25) 32 rfl W.heap.size 33 j0 (.slice none 0 0) 1 24 Try.underlying32 hj hz0 hz1 hz2 rfl (by decide) (.slice ar n cr) n vs rfl (HOWN.out.alloc _) ⟨wr.heap.size, 0, none⟩ 2 2 [.slice ai ni ci, .slice ao no co] rfl rfl (news_two _ _ _ _) (by simp [Value.oneCell']) (by unfold maxLen; omega) (by omega) (by simp; omega) ?_; intro v5 w5 hown5 hgr5 _)
      have hb5 : Below W.heap.size W w5 := (HB.out.alloc hsz _).grown hgr5 (by simp; omega) (fun j hj => (HOWN.out.lt j hj).1)
      have hrows : ListsIn w0 s (vs ++ [.slice ai ni ci, .slice ao no co]) := by
        intro j l hl'
        have hln := HLEN.out
        unfold listsS at hl'
        rcases Nat.lt_or_ge j n with hj | hj
        · rw [List.getElem?_append_left (by rw [HN.out]; exact hj)] at hl'
          obtain ⟨u, h1, h2⟩ := HVS.out j l (by rw [List.getElem?_take, if_pos hj]; exact hl')
          exact ⟨u, by rw [List.getElem?_append_left (by omega)]; exact h1, h2⟩
        · rw [List.getElem?_append_right (by rw [HN.out]; exact hj), HN.out] at hl'
          rcases Nat.lt_or_ge (j - n) 2 with h2 | h2
          · rcases (by omega : j - n = 0 ∨ j - n = 1) with h0 | h0
            · rw [h0] at hl'
              simp only [List.getElem?_cons_zero, Option.some.injEq] at hl'
              subst hl'
              exact ⟨_, by rw [List.getElem?_append_right (by omega), hln, h0]; rfl, HI.out⟩
            · rw [h0] at hl'
              simp only [List.getElem?_cons_zero, List.getElem?_cons_succ, Option.some.injEq] at hl'
              subst hl'
              exact ⟨_, by rw [List.getElem?_append_right (by omega), hln, h0]; rfl, HO.out⟩
          · rw [List.getElem?_eq_none (by simpa using h2)] at hl'
            cases hl'
      have hown6 := own_mono hown5 HB0.out.size
      obtain ⟨a5, c5, rfl⟩ := own_form hown5
      have HR := Lib.hid hrows
      have HO6 := Lib.hid hown6
      have HB5 := Lib.hid (HB0.out.trans (hb5.mono HB0.out.size))
      clear hrows hb5 hown5 hgr5 hown6
      go_wp2
      go_ret
      exact ⟨_, _, rfl, by rw [HN.out]; exact HO6.out, HR.out, HB5.out⟩
end Go.Proofs.Ytklbaocgjegdfaa
