/- The walk of the reference's Fits. -/
import Derived.Test.YtklbaocgjegdfaaEnX2
namespace Go.Proofs.Ytklbaocgjegdfaa
open Go.RowKit

def lenSum (L : List (List Int)) : Int := (L.map fun l => (l.length : Int)).sum
def FitP (s : St) : Prop := MidS s ∧ wrap64 (lenSum (listsS s)) ≤ 65536
theorem lenSum_take {L : List (List Int)} {k : Nat} {l : List Int} (h : L[k]? = some l) : lenSum (L.take (k + 1)) = lenSum (L.take k) + l.length := by
  unfold lenSum
  rw [List.take_add_one, h, List.map_append, List.sum_append]
  simp
def FitPost (s : St) (w : World) (e : Ending) (w' : World) : Prop := ∃ b, e = .returned (.bool b) ∧ (b = true ↔ FitP s) ∧ Below w.heap.size w w'

set_option maxRecDepth 100000 in
set_option maxHeartbeats 8000000 in
theorem rfitsr_any (s : St) (v : Value) (w : World) (h : StAt w v s) (hn : (s.cells.length + 2) * 24 ≤ 140737488355328) :
    Calls Try.prog 19 #[v] w (FitPost s w) := by
  obtain ⟨c, i, o, rfl, hc, hi, ho⟩ := id h
  obtain ⟨ac, cc, rfl, -, -, -⟩ := id hc
  obtain ⟨⟨ai, ci, rfl, -, -, -⟩, -⟩ := id hi
  obtain ⟨⟨ao, co, rfl, -, -, -⟩, -⟩ := id ho
  obtain ⟨W, hW⟩ : ∃ W, W = w.alloc (.cells #[.slice ac s.cells.length cc, .slice ai s.inp.length ci, .slice ao s.out.length co] 35) := ⟨_, rfl⟩
  have hB0 : Below w.heap.size w W := by rw [hW]; exact below_alloc _ _
  have hBK : Blk W w.heap.size 35 #[.slice ac s.cells.length cc, .slice ai s.inp.length ci, .slice ao s.out.length co] := by rw [hW]; exact Blk.new _ _ _
  have HL := Lib.hid (lists_any s _ W (h.below hB0 (Nat.le_refl _)) hn)
  have y0 := hBK.cell 0
  have y1 := hBK.cell 1
  have y2 := hBK.cell 2
  simp only [List.getElem?_toArray, List.getElem?_cons_zero, List.getElem?_cons_succ] at y0 y1 y2
  have HW := Lib.hid hW
  have HB0 := Lib.hid hB0
  have hlen : (listsS s).length = s.cells.length + 2 := by simp [listsS]
  have hn' : ((listsS s).length : Int) ≤ 5864062014806 := by omega
  have HFP : Hid (FitP s ↔ (∀ l ∈ listsS s, MidL l) ∧ wrap64 (lenSum (listsS s)) ≤ 65536) := Iff.rfl
  obtain ⟨L, hL⟩ : ∃ L, listsS s = L := ⟨_, rfl⟩
  rw [hL] at HL HFP hn'
  generalize s.cells.length = n0 at *
  generalize s.inp.length = n1 at *
  generalize s.out.length = n2 at *
  obtain ⟨n, hnl⟩ : ∃ n, L.length = n := ⟨_, rfl⟩
  rw [hnl] at hn'
  have HN := Lib.hid hnl
  obtain ⟨S, hS⟩ : ∃ S : Nat → Int, S = fun i => wrap64 (lenSum (L.take i)) := ⟨_, rfl⟩
  have HS0 : Hid (S 0 = 0) := by unfold Hid; rw [hS]; simp [lenSum, wrap64]
  have HSI : Hid (∀ i l, L[i]? = some l → S (i + 1) = wrap64 (S i + l.length)) := fun i l hl => by
    rw [hS]
    simp only
    rw [lenSum_take hl]
    simp only [← wrapEq]
    rw [wrap_add]
  have HSN : Hid (S n = wrap64 (lenSum L)) := by
    unfold Hid
    rw [hS]
    simp only
    rw [List.take_of_length_le (by rw [HN.out]; exact Nat.le_refl _)]
  have HMD : Hid (∀ (i j : Nat) l x, L[i]? = some l → l[j]? = some x → ¬ Mid x → ¬ FitP s) := fun i j l x hl hx hm hf => hm ((HFP.out.1 hf).1 l (List.mem_of_getElem? hl) x (List.mem_of_getElem? hx))
  clear hS hnl hL hW hB0 hBK h hc hi ho hlen
  go_enter Try.func19, Try.ntmps19
  go_upto_region 1 with (fail)
  rw [← HW.out]
  clear HW
  go_wp2_with fail
  refine HL.out.mono ?_
  rintro e w1 ⟨r, rfl, hrows, hb1⟩
  have HB1 := Lib.hid (below_next HB0.out (Nat.le_refl _) hb1)
  obtain ⟨ar, cr, rfl, -, -, hq⟩ := hrows
  rw [HN.out] at hq ⊢
  have HQ := Lib.hid hq
  clear hb1 hq y0 y1 y2 HL
  go_wp2
  go_loopg [4, 5] n (fun q t i wr => ∃ k : Nat, k + q = n ∧ i = .int .i64 k ∧ t = .int .i64 (S k) ∧ (∀ l ∈ L.take k, MidL l) ∧ w1 = wr)
  case atStart => exact ⟨0, by omega, rfl, by rw [HS0.out], by simp, rfl⟩
  case round =>
    obtain ⟨i, hk, rfl, rfl, hmid, rfl⟩ := hrel
    have Hk := Lib.hid hk
    have hkn : i ≤ n := by omega
    have HMI := Lib.hid hmid
    clear hk hmid
    by_cases hlt : i < n
    · have hlt' : (i : Int) < (n : Int) := by omega
      obtain ⟨g, o, rfl, hg, hq⟩ := HQ.out (by omega)
      obtain ⟨l, hl⟩ := get_lt HN.out.symm hlt
      obtain ⟨u, hu, hui⟩ := hq i l hl
      have HLI := Lib.hid hl
      obtain ⟨⟨au, cu, rfl, hc1, hc2, hq2⟩, -⟩ := hui
      have HQ2 := Lib.hid hq2
      have hsi := HSI.out i l hl
      obtain ⟨m, hm⟩ : ∃ m, l.length = m := ⟨_, rfl⟩
      rw [hm] at hu HQ2 hc1 hsi
      have HM' := Lib.hid hm
      have HSI1 := Lib.hid hsi
      have h63 : (m : Int) ≤ 9223372036854775807 := by unfold maxLen at hc2; omega
      have u1 : IntKind.i64.wrap ((i : Int) + 1) = (i : Int) + 1 := IntWalk.i64_in _ (by omega)
      obtain ⟨si, hsv⟩ : ∃ si, S i = si := ⟨_, rfl⟩
      rw [hsv] at HSI1 ⊢
      have hm0 : (0 : Int) ≤ (m : Int) := Int.natCast_nonneg _
      clear hq hl hq2 hm hc1 hc2 hsi hsv
      go_wp2
      obtain ⟨si2, hs2⟩ : ∃ x, wrap64 (si + (m : Int)) = x := ⟨_, rfl⟩
      have HSI2 : Hid (S (i + 1) = si2) := by unfold Hid; rw [← hs2]; exact HSI1.out
      rw [hs2]
      clear hs2 HSI1
      go_loopg [6] m (fun q k wr => ∃ j : Nat, j + q = m ∧ k = .int .i64 j ∧ (∀ x ∈ l.take j, Mid x) ∧ w1 = wr)
      case atStart => exact ⟨0, by omega, rfl, by simp, rfl⟩
      case round =>
        obtain ⟨j, hj, rfl, hmj, rfl⟩ := hrel
        have Hj := Lib.hid hj
        have hjm : j ≤ m := by omega
        have HMJ := Lib.hid hmj
        clear hj hmj
        by_cases hjl : j < m
        · have hjl' : (j : Int) < (m : Int) := by omega
          obtain ⟨g2, o2, rfl, hg2, hq2⟩ := HQ2.out (by omega)
          obtain ⟨x, hx⟩ := get_lt HM'.out.symm hjl
          have hx2 := hq2 j x hx
          have HX := Lib.hid hx
          have u2 : IntKind.i64.wrap ((j : Int) + 1) = (j : Int) + 1 := IntWalk.i64_in _ (by omega)
          clear hq2 hx
          by_cases hx1 : 1099511627776 < x
          · have HF : Hid (¬ FitP s) := HMD.out i j l x HLI.out HX.out (fun h => by unfold Mid at h; omega)
            go_wp2
            go_ret
            exact ⟨false, rfl, ⟨(fun h => by cases h), fun h => absurd h HF.out⟩, HB1.out⟩
          · by_cases hx0 : x < -1099511627776
            · have HF : Hid (¬ FitP s) := HMD.out i j l x HLI.out HX.out (fun h => by unfold Mid at h; omega)
              go_wp2
              go_ret
              exact ⟨false, rfl, ⟨(fun h => by cases h), fun h => absurd h HF.out⟩, HB1.out⟩
            · have HMX : Hid (Mid x) := ⟨by omega, by omega⟩
              go_wp2
              have hj := Hj.out
              go_roundg (m - (j + 1))
              case measure => omega
              case rel =>
                refine ⟨j + 1, by omega, by go_num, fun z hz => ?_, rfl⟩
                rw [List.take_add_one, HX.out] at hz
                rcases List.mem_append.1 hz with hz | hz
                · exact HMJ.out z hz
                · simp at hz; subst hz; exact HMX.out
        · have hge : ¬ (j : Int) < (m : Int) := by omega
          have hke : j = m := by omega
          subst hke
          have HML : Hid (MidL l) := fun z hz => HMJ.out z (by rw [List.take_of_length_le (by rw [HM'.out]; exact Nat.le_refl _)]; exact hz)
          go_wp2
          have hk := Hk.out
          go_roundg (n - (i + 1))
          case measure => omega
          case rel =>
            refine ⟨i + 1, by omega, by go_num, by rw [HSI2.out], fun l' hl' => ?_, rfl⟩
            rw [List.take_add_one, HLI.out] at hl'
            rcases List.mem_append.1 hl' with hz | hz
            · exact HMI.out l' hz
            · simp at hz; subst hz; exact HML.out
    · have hge : ¬ (i : Int) < (n : Int) := by omega
      have hke : i = n := by omega
      subst hke
      have HAM : Hid (∀ l ∈ L, MidL l) := fun l hl => HMI.out l (by rw [List.take_of_length_le (by rw [HN.out]; exact Nat.le_refl _)]; exact hl)
      have HR : Hid (S i ≤ 65536 ↔ FitP s) := by
        unfold Hid
        rw [HSN.out, HFP.out]
        exact ⟨fun h => ⟨HAM.out, h⟩, fun h => h.2⟩
      obtain ⟨sn, hsn⟩ : ∃ sn, S i = sn := ⟨_, rfl⟩
      rw [hsn] at HR ⊢
      clear hsn
      go_wp2
      go_ret
      exact ⟨decide (sn ≤ 65536), rfl, by rw [decide_eq_true_eq]; exact HR.out, HB1.out⟩
end Go.Proofs.Ytklbaocgjegdfaa
