/- The walk of the law LexerFull. -/
import Derived.Test.YtgnnkddneoghmaaLexW4
import Derived.Deep.OwnRows
import Derived.Laws.IdiomStrings
namespace Go.Proofs.Ytgnnkddneoghmaa
open Go.RowKit

theorem span_blank (n : Nat) : spanN blankB (List.replicate n 32) = n := by
  induction n with
  | zero => rfl
  | succ n ih => rw [List.replicate_succ, spanN_cons_pos (by decide), ih]

theorem lex_blanks {n : Nat} (h : 0 < n) : lexP (List.replicate n 32) 0 = ([⟨4, List.replicate n 32, 0⟩], none) := by
  obtain ⟨m, rfl⟩ : ∃ m, n = m + 1 := ⟨n - 1, by omega⟩
  have hs : step (List.replicate (m + 1) 32) = (4, m + 1) := by
    rw [List.replicate_succ, step_blank (by decide), span_blank]
  rw [lexP_cons (by simp) (by rw [hs]; simp), hs]
  simp [lexP_nil]

theorem out_blanks {l : List UInt8} {n : Nat} (hn : n = 65536) (h : l = List.replicate n 32) : outT l = ([⟨4, l, 0⟩], 0, 0) := by
  subst h
  unfold outT
  rw [if_neg (by rw [List.length_replicate]; omega), lex_blanks (by omega)]

theorem out_big {l : List UInt8} (h : 65536 < l.length) : outT l = ([], 0, 5) := by
  unfold outT
  rw [if_pos h]

theorem b_data (l : List UInt8) : (⟨l.toArray⟩ : ByteArray).data.toList = l := by simp
theorem b_size (l : List UInt8) : (⟨l.toArray⟩ : ByteArray).size = l.length := by simp [ByteArray.size]

theorem add0 (g j : Nat) : (⟨g, 0, none⟩ : Addr).add j = ⟨g, j, none⟩ := by unfold Addr.add; split <;> simp_all

theorem byteInfo : (Try.prog.info? 5).map (fun i => (i.zero, i.size, i.bytes)) = some (some (.int .u8 0), 1, 1) := by kernel_rfl

theorem row_set {w : World} {g : Nat} {cur : Array Value} {e : TypeId} (h : w.heap[g]? = some (.cells cur e (0, 0))) (k : Nat) (v : Value) :
    (w.setCell ⟨g, k, none⟩ v).heap[g]? = some (.cells (cur.setIfInBounds k v) e (0, 0)) := by
  simp [World.setCell, Array.getElem?_modify, h]

theorem conv_of_row {w : World} {g : Nat} {cur : Array Value} {cap : Nat} (l : List UInt8) (h : w.heap[g]? = some (.cells cur 5 (0, 0))) (hc : ∀ j (hj : j < l.length), cur[j]? = some (.int .u8 (l[j].toNat : Int))) :
    (convert 35 9 (.slice (some ⟨g, 0, none⟩) l.length cap)).run Try.prog w = .ok (.string ⟨l.toArray⟩) w :=
  run_convert_bytes_back w 35 9 5 ⟨g, 0, none⟩ cap l Try.underlying35 Try.underlying5 Try.underlying9 fun j hj => by
    rw [add0, cell_of_row w g j cur 5 (0, 0) h, hc j hj]

set_option maxRecDepth 100000 in
set_option maxHeartbeats 2000000 in
theorem full_any (c : Int) (wc : (Lit.int .u8 c).wf = true) (m : Int) (wm : (Lit.int .u8 m).wf = true) (w : World) :
    Calls Try.prog 6 #[.int .u8 c, .int .u8 m] w fun e w' => e = .returned (.bool true) ∧ Below w.heap.size w w' := by
  have hc : 0 ≤ c ∧ c ≤ 255 := by simpa [Lit.wf, IntKind.min, IntKind.max, IntKind.signed, IntKind.bits] using wc
  have hm : 0 ≤ m ∧ m ≤ 255 := by simpa [Lit.wf, IntKind.min, IntKind.max, IntKind.signed, IntKind.bits] using wm
  obtain ⟨m, rfl⟩ := Int.eq_ofNat_of_zero_le hm.1
  have hm2 : m ≤ 255 := by omega
  obtain ⟨n, hn⟩ : ∃ n, n = 65537 + m := ⟨_, rfl⟩
  have h17 : 65537 + (m : Int) = (n : Int) := by omega
  have hn1 : 65537 ≤ n := by omega
  have hn2 : n ≤ 65792 := by omega
  have hn3 : (65537 : Int) ≤ (n : Int) := by omega
  have HN := Lib.hid hn
  have HC := Lib.hid hc
  clear wc wm hm hn hc
  have hmk := fun W => run_make_row' 35 5 (.int .u8 0) 1 Try.underlying35 byteInfo rfl .i64 .i64 n (by omega) (by omega) W
  go_enter Try.func6, Try.ntmps6
  go_wp2_with (go_at_call 12; refine (awake_any _).mono ?_; rintro e w0 ⟨rfl, hb0⟩; have Hb0 := Lib.hid hb0; clear hb0)
  obtain ⟨g, hg⟩ : ∃ g, g = w0.heap.size := ⟨_, rfl⟩
  have hgw : w.heap.size ≤ g := by rw [hg]; exact Hb0.out.size
  rw [← hg]
  have HG := Lib.hid hg
  clear hg
  go_loopg [6] n (fun q i wr => ∃ k : Nat, k + q = n ∧ i = .int .i64 k ∧ ∃ cur, wr.heap[g]? = some (.cells cur 5 (0, 0)) ∧ cur.size = n ∧ (∀ j, j < k → cur[j]? = some (.int .u8 32)) ∧ Below w.heap.size w wr)
  case atStart =>
    refine ⟨0, by omega, rfl, madeCells #[.int .u8 0] n, ?_, size_madeCells _ _, fun j hj => by omega, Hb0.out.alloc Hb0.out.size _⟩
    rw [HG.out]; exact heap_alloc_new _ _
  case round =>
    obtain ⟨k, hk, rfl, cur, hrow, hcs, hcur, hb⟩ := hrel
    have Hk := Lib.hid hk
    have hkn : k ≤ n := by omega
    have Hrow := Lib.hid hrow
    have Hcs := Lib.hid hcs
    have Hcur := Lib.hid hcur
    have Hb := Lib.hid hb
    clear hk hrow hcs hcur hb
    by_cases hlt : k < n
    · have hlt' : (k : Int) < (n : Int) := by omega
      have hkc : k < cur.size := by rw [Hcs.out]; exact hlt
      have c0 : wr.cell? ⟨g, k, none⟩ = some cur[k] := by rw [cell_of_row wr g k cur 5 (0, 0) Hrow.out, Array.getElem?_eq_getElem hkc]
      have f0 : wr.frozen? ⟨g, k, none⟩ = false := by simp [World.frozen?, Hrow.out]
      generalize cur[k] = x at c0
      go_wp2
      have hk := Hk.out
      go_roundg (n - (k + 1))
      case measure => omega
      case rel =>
        refine ⟨k + 1, by omega, by go_num, _, row_set Hrow.out k _, by simp [Hcs.out], fun j hj => ?_, Hb.out.setCell hgw _⟩
        rw [Array.getElem?_setIfInBounds]
        split
        · first | rfl | rw [if_pos (by omega)]
        · exact Hcur.out j (by omega)
    · have hge : ¬ (k : Int) < (n : Int) := by omega
      have hke : k = n := by omega
      have hcv : (convert 35 9 (.slice (some ⟨g, 0, none⟩) 65536 n)).run Try.prog wr = .ok (.string ⟨(List.replicate 65536 (32 : UInt8)).toArray⟩) wr := by
        have := conv_of_row (cap := n) (List.replicate 65536 (32 : UInt8)) Hrow.out (fun j hj => by
          rw [List.length_replicate] at hj
          rw [List.getElem_replicate]
          exact Hcur.out j (by omega))
        rwa [List.length_replicate] at this
      obtain ⟨S, hS⟩ : ∃ S : ByteArray, S = ⟨(List.replicate 65536 (32 : UInt8)).toArray⟩ := ⟨_, rfl⟩
      rw [← hS] at hcv
      have hSl : S.data.toList = List.replicate 65536 32 := by rw [hS, b_data]
      have hSz : S.size ≤ maxLen := by rw [hS, b_size, List.length_replicate]; unfold maxLen; omega
      have HSo := Lib.hid (out_blanks rfl hSl)
      have HSz := Lib.hid hSz
      clear hS hSl hSz
      go_wp2_with fail
      refine (lex_any S HSz.out _).mono ?_
      rw [HSo.out]
      rintro e w2 ⟨v1, rfl, hown1, hb1⟩
      simp only at hown1 ⊢
      rcases RowAt.of_own hown1 with ⟨h0, _⟩ | ⟨_, g1, c1, rfl, _, _, _, _⟩
      · simp at h0
      simp only [List.length_cons, List.length_nil, Nat.zero_add]
      have hgr : g < wr.heap.size := (Array.getElem?_eq_some_iff.1 Hrow.out).1
      have hrow2 : w2.heap[g]? = some (.cells cur 5 (0, 0)) := (hb1.block g hgr).trans Hrow.out
      have Hrow2 := Lib.hid hrow2
      have Hb1 := Lib.hid (Hb.out.trans (hb1.mono Hb.out.size))
      have h0n : 0 < cur.size := by rw [Hcs.out]; omega
      have c0' : w2.cell? ⟨g, 0, none⟩ = some cur[0] := by rw [cell_of_row w2 g 0 cur 5 (0, 0) hrow2, Array.getElem?_eq_getElem h0n]
      obtain ⟨x0, c0⟩ : ∃ x0, w2.cell? ⟨g, 0, none⟩ = some x0 := ⟨_, c0'⟩
      have f0 : w2.frozen? ⟨g, 0, none⟩ = false := by simp [World.frozen?, hrow2]
      have hl2 : (UInt8.ofNat c.toNat :: List.replicate (n - 1) 32).length = n := by rw [List.length_cons, List.length_replicate]; omega
      have hcv2 : (convert 35 9 (.slice (some ⟨g, 0, none⟩) n n)).run Try.prog (w2.setCell ⟨g, 0, none⟩ (.int .u8 c)) = .ok (.string ⟨(UInt8.ofNat c.toNat :: List.replicate (n - 1) (32 : UInt8)).toArray⟩) (w2.setCell ⟨g, 0, none⟩ (.int .u8 c)) := by
        have := conv_of_row (cap := n) (UInt8.ofNat c.toNat :: List.replicate (n - 1) (32 : UInt8)) (row_set Hrow2.out 0 (.int .u8 c)) (fun j hj => by
          rw [hl2] at hj
          rw [Array.getElem?_setIfInBounds]
          cases j with
          | zero =>
            have := HC.out
            rw [if_pos rfl, if_pos h0n]
            simp only [List.getElem_cons_zero]
            rw [show (UInt8.ofNat c.toNat).toNat = c.toNat from by rw [UInt8.toNat_ofNat']; omega]
            rw [show ((c.toNat : Nat) : Int) = c from by omega]
          | succ j =>
            rw [if_neg (by omega), Hcur.out (j + 1) (by omega)]
            simp)
        rwa [hl2] at this
      obtain ⟨S2, hS2⟩ : ∃ S : ByteArray, S = ⟨(UInt8.ofNat c.toNat :: List.replicate (n - 1) (32 : UInt8)).toArray⟩ := ⟨_, rfl⟩
      rw [← hS2] at hcv2
      have hS2l : S2.data.toList.length = n := by rw [hS2, b_data]; exact hl2
      have hS2z : S2.size ≤ maxLen := by unfold maxLen; have : S2.size = S2.data.toList.length := by simp
                                         omega
      have HSo2 := Lib.hid (out_big (l := S2.data.toList) (by omega))
      have HSz2 := Lib.hid hS2z
      have hgs2 : g < w2.heap.size := (Array.getElem?_eq_some_iff.1 hrow2).1
      clear c0' hS2 hS2l hS2z hrow2 hown1 hb1 hl2 hcv h0n hke
      go_wp2_with fail
      refine (lex_any S2 HSz2.out _).mono ?_
      rw [HSo2.out]
      rintro e w3 ⟨v3, rfl, hown3, hb3⟩
      simp only at hown3 ⊢
      rcases RowAt.of_own hown3 with ⟨_, a3, c3, rfl⟩ | ⟨h0, _⟩
      · have Hb3 := Lib.hid ((Hb1.out.setCell hgw (.int .u8 c)).trans (hb3.mono (by have := Hb1.out.size; simp [World.setCell]; omega)))
        clear hown3 hb3
        go_wp2
        go_ret
        exact ⟨rfl, Hb3.out⟩
      · simp at h0

end Go.Proofs.Ytgnnkddneoghmaa
