/- Walks: is a program great; are a node's parts as they must be; is a tree an expression. -/
import Derived.Test.YtlpmoklcdocmmaaEvW1
namespace Go.Proofs.Ytlpmoklcdocmmaa
open Go.RowKit

theorem empty_of {s : ByteArray} (h : s.size = 0) : s.toList.isEmpty = true := by
  rw [Lib.toList_data]
  cases s with
  | mk d =>
    have h' : d.size = 0 := h
    have : d = #[] := Array.eq_empty_of_size_eq_zero h'
    subst this; rfl
theorem nonempty_of {s : ByteArray} (h : ¬ s.size = 0) : s.toList.isEmpty = false := by
  rw [Lib.toList_data]
  cases s with
  | mk d =>
    have h' : ¬ d.size = 0 := h
    cases hd : d.toList with
    | nil => rw [← Array.length_toList, hd] at h'; exact absurd rfl h'
    | cons x xs => rfl

def great5 (t : T) : Bool := !(smT t 24 200).1

set_option maxRecDepth 100000 in
set_option maxHeartbeats 1000000 in
theorem great_any (t : T) (v : Value) (w : World) (h : NodeAt w v t) :
    Calls Try.prog 40 #[v] w fun e w' => e = .returned (.bool (great5 t)) ∧ Below w.heap.size w w' := by
  obtain ⟨c0, c1, c2, c3, rfl⟩ : ∃ c0 c1 c2 c3, v = .agg #[c0, c1, c2, c3] := by
    cases t with
    | mk k n s ks => obtain ⟨u, e, _⟩ := NodeAt.mk_iff.1 h; exact ⟨_, _, _, _, e⟩
  obtain ⟨kd, nm, s, a, n, c, rfl, rfl, rfl, rfl⟩ := h.form
  have hb1 : Below w.heap.size w ((w.alloc (.cells #[.int .u8 kd, .int .i64 nm, .string s, .slice a n c] 24)).alloc (.cells #[.int .i64 200] 3)) := ((Below.refl _ _).alloc (Nat.le_refl _) _).alloc (by simp) _
  have hk1 : Blk ((w.alloc (.cells #[.int .u8 kd, .int .i64 nm, .string s, .slice a n c] 24)).alloc (.cells #[.int .i64 200] 3)) (w.heap.size + 1) 3 #[.int .i64 200] := Blk.new' (by simp)
  have HC := Lib.hid (small_any t _ w _ (w.heap.size + 1) 24 200 h hb1 (by omega) hk1 (by omega) (by omega) (by omega) (by omega))
  have HB1 := Lib.hid hb1
  have HG : great5 t = !(smT t 24 200).1 := rfl
  rw [HG]
  generalize smT t 24 200 = p at *
  clear h hb1 hk1 HG
  go_enter Try.func40, Try.ntmps40
  go_wp2_with fail
  refine HC.out.mono ?_
  rintro e w2 ⟨rfl, _, hg2⟩
  have HB2 := Lib.hid (HB1.out.grown hg2 HB1.out.size (fun j hj => by cases hj; omega))
  clear hg2 HC
  go_wp2
  go_ret
  exact ⟨rfl, HB2.out⟩

set_option maxRecDepth 100000 in
set_option maxHeartbeats 1000000 in
theorem pgreat_any (t : T) (kd nm : Int) (s : ByteArray) (a : Option Addr) (n c : Nat) (w : World) (h : NodeAt w (.agg #[.int .u8 kd, .int .i64 nm, .string s, .slice a n c]) t) :
    Calls Try.prog 28 #[.agg #[.slice none 0 0, .slice none 0 0, .int .u8 kd, .int .i64 nm, .string s, .slice a n c]] w fun e w' => e = .returned (.int .i64 (b2i (great5 t))) ∧ Below w.heap.size w w' := by
  have hb1 := below_alloc w (.cells #[.slice none 0 0, .slice none 0 0, .int .u8 kd, .int .i64 nm, .string s, .slice a n c] 57)
  have hk1 := Blk.new w 57 #[.slice none 0 0, .slice none 0 0, .int .u8 kd, .int .i64 nm, .string s, .slice a n c]
  have HC := Lib.hid (great_any t _ _ (h.below hb1 (Nat.le_refl _)))
  have HB1 := Lib.hid hb1
  have HK1 := Lib.hid hk1
  generalize great5 t = r at *
  clear h hb1 hk1
  go_enter Try.func28, Try.ntmps28
  go_wp2_with fail
  refine HC.out.mono ?_
  rintro e w2 ⟨rfl, hb2⟩
  have HB2 := Lib.hid (below_next HB1.out (Nat.le_refl _) hb2)
  have hk2 := HK1.out.next hb2
  have k0 := hk2.cell 0
  have k1 := hk2.cell 1
  clear hb2 HC hk2
  cases r with
  | true =>
    go_wp2
    go_ret
    exact ⟨rfl, HB2.out⟩
  | false =>
    go_wp2
    go_loopg [27] 0 (fun q i wr => q = 0 ∧ i = .int .i64 0 ∧ wr = w2)
    case atStart => exact ⟨rfl, rfl, rfl⟩
    case round =>
      obtain ⟨rfl, rfl, rfl⟩ := hrel
      go_wp2
      obtain ⟨wo, hwo⟩ : ∃ wo : World, wo = wr := ⟨_, rfl⟩
      subst hwo
      go_loopg [39] 0 (fun q i wr => q = 0 ∧ i = .int .i64 0 ∧ wr = wo)
      case atStart => exact ⟨rfl, rfl, rfl⟩
      case round =>
        obtain ⟨rfl, rfl, rfl⟩ := hrel
        go_wp2
        go_ret
        exact ⟨rfl, HB2.out⟩

set_option maxRecDepth 100000 in
set_option maxHeartbeats 1000000 in
theorem plain_any (kd nm : Int) (s : ByteArray) (u : Value) (w : World) :
    Calls Try.prog 31 #[.agg #[.int .u8 kd, .int .i64 nm, .string s, u]] w fun e w' => e = .returned (.bool (plainN nm s)) ∧ Below w.heap.size w w' := by
  have HB := Lib.hid (below_alloc w (.cells #[.int .u8 kd, .int .i64 nm, .string s, u] 24))
  by_cases h0 : nm = 0
  · subst h0
    by_cases h1 : s.size = 0
    · have e1 : s.toList.isEmpty = true := empty_of h1
      have hr : plainN 0 s = true := by simp [plainN, h1]
      rw [hr]
      clear h1 hr
      go_enter Try.func31, Try.ntmps31
      go_wp2_with fail
      go_ret
      exact ⟨rfl, HB.out⟩
    · have e1 : s.toList.isEmpty = false := nonempty_of h1
      have hr : plainN 0 s = false := by simp [plainN, h1]
      rw [hr]
      clear h1 hr
      go_enter Try.func31, Try.ntmps31
      go_wp2_with fail
      go_ret
      exact ⟨rfl, HB.out⟩
  · have e1 : (nm == 0) = false := by simpa using h0
    have hr : plainN nm s = false := by simp [plainN, h0]
    rw [hr]
    clear h0 hr
    go_enter Try.func31, Try.ntmps31
    go_wp2_with fail
    go_ret
    exact ⟨rfl, HB.out⟩

set_option maxRecDepth 100000 in
set_option maxHeartbeats 1000000 in
theorem named_any (kd nm : Int) (s : ByteArray) (hs : s.size ≤ maxLen) (u : Value) (w : World) :
    Calls Try.prog 29 #[.agg #[.int .u8 kd, .int .i64 nm, .string s, u]] w fun e w' => e = .returned (.bool (namedN nm s)) ∧ Below w.heap.size w w' := by
  have HB := Lib.hid (below_alloc w (.cells #[.int .u8 kd, .int .i64 nm, .string s, u] 24))
  by_cases h0 : nm = 0
  · subst h0
    have HC := Lib.hid (name_any s hs (w.alloc (.cells #[.int .u8 kd, .int .i64 0, .string s, u] 24)))
    have hr : namedN 0 s = nameB s.data.toList := by simp [namedN]
    rw [hr]
    generalize nameB s.data.toList = r at *
    clear hr hs
    go_enter Try.func29, Try.ntmps29
    go_wp2_with fail
    refine HC.out.mono ?_
    rintro e w2 ⟨rfl, hb2⟩
    have HB2 := Lib.hid (below_next HB.out (Nat.le_refl _) hb2)
    clear hb2 HC
    go_wp2
    go_ret
    exact ⟨rfl, HB2.out⟩
  · have e1 : (nm == 0) = false := by simpa using h0
    have hr : namedN nm s = false := by simp [namedN, h0]
    rw [hr]
    clear h0 hr hs
    go_enter Try.func29, Try.ntmps29
    go_wp2_with fail
    go_ret
    exact ⟨rfl, HB.out⟩

theorem cf_isexpr (args : Array Value) (w : World) : (callFunc 13 args).run Try.prog w = .ok (.enter 13 args) w := by kernel_rfl

theorem take_rep {l : List Bool} {k : Nat} (h : l.take k = List.replicate k true) (hk : l[k]? = some true) : l.take (k + 1) = List.replicate (k + 1) true := by
  rw [List.take_add_one, h, hk, List.replicate_succ']; rfl

set_option maxRecDepth 100000 in
set_option maxHeartbeats 2000000 in
theorem kids_any (kd nm : Int) (s : ByteArray) (u : Value) (ks : List T) (w : World) (hq : KidsAt w u ks) (g0 m : Nat) (hm2 : m ≤ 2) (hc : ∀ i, i < m → w.cell? ⟨g0, i, none⟩ = some (.func (.func 13) #[] #[])) (hg0 : g0 < w.heap.size)
    (ih : ∀ t ∈ ks, ∀ (v : Value) (w : World), NodeAt w v t → Calls Try.prog 13 #[v] w fun e w' => e = .returned (.bool (isT t)) ∧ Below w.heap.size w w') :
    Calls Try.prog 30 #[.agg #[.int .u8 kd, .int .i64 nm, .string s, u], .slice (some ⟨g0, 0, none⟩) m m] w fun e w' => e = .returned (.bool (isL ks == List.replicate m true)) ∧ Below w.heap.size w w' := by
  obtain ⟨a, c, rfl, hn, hm, hq⟩ := hq
  have IH := Lib.hid ih
  have HQ := Lib.hid hq
  have HCF := Lib.hid hc
  have hb1 := below_alloc w (.cells #[.int .u8 kd, .int .i64 nm, .string s, .slice a ks.length c] 24)
  have hk1 := Blk.new w 24 #[.int .u8 kd, .int .i64 nm, .string s, .slice a ks.length c]
  obtain ⟨n, hnk⟩ : ∃ n, n = ks.length := ⟨_, rfl⟩
  have hil : (isL ks).length = n := by rw [isL_len, hnk]
  obtain ⟨R, hR⟩ : ∃ R, R = (isL ks == List.replicate m true) := ⟨_, rfl⟩
  rw [← hnk] at hb1 hk1 hn ⊢
  rw [← hR]
  have hn63 : n ≤ 9223372036854775807 := by unfold maxLen at hm; omega
  have HB1 := Lib.hid hb1
  have HK1 := Lib.hid hk1
  have HN := Lib.hid hnk
  have HR := Lib.hid hR
  have HIL := Lib.hid hil
  clear ih hq hc hb1 hk1 hnk hil hR hn hm
  by_cases hnm : n = m
  · have HNM := Lib.hid hnm
    have e1 : ((n : Int) != (m : Int)) = false := by simp [hnm]
    have e2 : ((n : Int) == (m : Int)) = true := by simp [hnm]
    have hnm' : (n : Int) = m := by omega
    clear hnm hnm'
    go_enter Try.func30, Try.ntmps30
    go_wp2_with fail
    have hszW : w.heap.size + 1 ≤ (w.alloc (.cells #[.int .u8 kd, .int .i64 nm, .string s, .slice a n c] 24)).heap.size := by simp
    generalize w.alloc (.cells #[.int .u8 kd, .int .i64 nm, .string s, .slice a n c] 24) = W at *
    have k3 := HK1.out.cell 3
    go_loopg [15] m (fun q i wr => ∃ k : Nat, k + q = m ∧ i = .int .i64 k ∧ Hid ((isL ks).take k = List.replicate k true) ∧ Below W.heap.size W wr)
    case atStart => exact ⟨0, by omega, rfl, rfl, Below.refl _ _⟩
    case round =>
      obtain ⟨k, hk, rfl, hal, hb⟩ := hrel
      have Hk := Lib.hid hk
      have hkn : k ≤ m := by omega
      have Hb := Lib.hid hb
      clear hk hb
      have hsz := Hb.out.size
      by_cases hlt : k < m
      · have hlt' : (k : Int) < (m : Int) := by omega
        have hlt2 : (k : Int) < (n : Int) := by have := HNM.out; omega
        have hk0 : (0 : Int) ≤ (k : Int) := by omega
        have hkn' : k < ks.length := by rw [← HN.out, HNM.out]; exact hlt
        obtain ⟨g, off, rfl, hg, hq⟩ := HQ.out (by omega)
        obtain ⟨t, ht, htm⟩ := kid_get (ks := ks) (k := k) hkn'
        obtain ⟨kd', nm', s', a', n', c', q0, q1, q2, q3, q4⟩ := hq.getF k t ht
        have hbw : Below w.heap.size w wr := HB1.out.trans (Hb.out.mono HB1.out.size)
        have m0 := cell_below hbw hg q0
        have m1 := cell_below hbw hg q1
        have m2 := cell_below hbw hg q2
        have m3 := cell_below hbw hg q3
        have mf := cell_below hbw hg0 (HCF.out k hlt)
        have mk3 : wr.cell? ⟨w.heap.size, 3, none⟩ = some (.slice (some ⟨g, off, none⟩) n c) := cell_below Hb.out (by omega) k3
        have HC := Lib.hid (IH.out t htm _ wr (q4.below hbw (Nat.le_refl _)))
        have HG := Lib.hid (isL_get ks k t ht)
        have hcf := cf_isexpr
        clear hq q0 q1 q2 q3 q4 ht htm hbw hkn'
        go_wp2_with fail
        refine HC.out.mono ?_
        generalize isT t = r at *
        rintro e w2 ⟨rfl, hb2⟩
        have HB2 := Lib.hid (below_next Hb.out (Nat.le_refl _) hb2)
        clear hb2 HC
        cases r with
        | true =>
          have HAL := Lib.hid (take_rep hal.out HG.out)
          clear HG hal
          go_wp2
          have hk := Hk.out
          go_roundg (m - (k + 1))
          case measure => omega
          case rel => exact ⟨k + 1, by omega, by go_num, HAL.out, HB2.out⟩
        | false =>
          have hr : R = false := by
            rw [HR.out, beq_eq_false_iff_ne]
            intro e
            have := HG.out
            rw [e, List.getElem?_replicate] at this
            split at this <;> simp at this
          subst hr
          clear HG hal
          go_wp2
          go_ret
          exact ⟨rfl, HB1.out.trans (HB2.out.mono HB1.out.size)⟩
      · have hge : ¬ (k : Int) < (m : Int) := by omega
        have hr : R = true := by
          rw [HR.out, beq_iff_eq]
          have := hal.out
          rw [List.take_of_length_le (by rw [HIL.out, HNM.out]; omega)] at this
          rw [this, show k = m by omega]
        subst hr
        clear hal
        go_wp2
        go_ret
        exact ⟨rfl, HB1.out.trans (Hb.out.mono HB1.out.size)⟩
  · have e1 : ((n : Int) != (m : Int)) = true := by simp; omega
    have e2 : ((n : Int) == (m : Int)) = false := by simp; omega
    have hr : R = false := by
      rw [HR.out, beq_eq_false_iff_ne]
      intro e
      have := HIL.out
      rw [e, List.length_replicate] at this
      omega
    subst hr
    clear hnm
    go_enter Try.func30, Try.ntmps30
    go_wp2_with fail
    go_ret
    exact ⟨rfl, HB1.out⟩
end Go.Proofs.Ytlpmoklcdocmmaa
