/- Walks: literal; folded expressions in memory. -/
import Derived.Test.YtlpmoklcdocmmaaEvF1b
namespace Go.Proofs.Ytlpmoklcdocmmaa
open Go.RowKit

def NodeR (B : Nat) (t : T) (w : World) (e : Ending) (w' : World) : Prop := ∃ kd nm s a n c, e = .returned (.agg #[.int .u8 kd, .int .i64 nm, .string s, .slice a n c]) ∧ NodeP (PB B w.heap.size w') w' (.agg #[.int .u8 kd, .int .i64 nm, .string s, .slice a n c]) t ∧ Below w.heap.size w w'

def set4 (w : World) (g : Nat) (x y z u : Value) : World := (((w.setCell ⟨g, 0, none⟩ x).setCell ⟨g, 1, none⟩ y).setCell ⟨g, 2, none⟩ z).setCell ⟨g, 3, none⟩ u
theorem set4_blk {w : World} {g : Nat} {t : TypeId} {a b c d : Value} (h : Blk w g t #[a, b, c, d]) (x y z u : Value) : Blk (set4 w g x y z u) g t #[x, y, z, u] := (((h.set 0 x).set 1 y).set 2 z).set 3 u
theorem set4_size (w : World) (g : Nat) (x y z u : Value) : (set4 w g x y z u).heap.size = w.heap.size := by simp [set4]
theorem set4_below {B : Nat} {W w : World} (h : Below B W w) {g : Nat} (hg : B ≤ g) (x y z u : Value) : Below B W (set4 w g x y z u) :=
  (((h.setCell (p := ⟨g, 0, none⟩) hg x).setCell (p := ⟨g, 1, none⟩) hg y).setCell (p := ⟨g, 2, none⟩) hg z).setCell (p := ⟨g, 3, none⟩) hg u

theorem litpos_any (v : Int) (h0 : 0 ≤ v) (hv : I64 v) (w : World) : Calls Try.prog 48 #[.int .i64 v] w fun e w' => e = .returned (.agg #[.int .u8 1, .int .i64 v, .string ⟨#[]⟩, .slice none 0 0]) ∧ Below w.heap.size w w' := by
  have HV := Lib.hid hv
  clear hv
  go_enter Try.func48, Try.ntmps48
  go_wp2_with fail
  exact bodyPost_ret (results_node1 rfl _ _ _ _ _ _ _ rfl (Blk.new _ _ _)) rfl ⟨rfl, below_alloc _ _⟩

set_option maxRecDepth 100000 in
set_option maxHeartbeats 2000000 in
theorem lit_any (v : Int) (hv : I64 v) (B : Nat) (w : World) : Calls Try.prog 48 #[.int .i64 v] w (NodeR B (litT v) w) := by
  by_cases h0 : 0 ≤ v
  · refine (litpos_any v h0 hv w).mono ?_
    rintro e w' ⟨rfl, hb⟩
    have : litT v = tN v := if_pos h0
    rw [this]
    exact ⟨_, _, _, _, _, _, rfl, natp _ _ v hv, hb⟩
  have h0' : v < 0 := by omega
  by_cases h1 : v = -9223372036854775808
  · have hl : litT v = .mk 8 0 ⟨#[]⟩ [tN 9223372036854775807, tN 1] := by unfold litT; rw [if_neg h0, if_pos h1]
    rw [hl]
    subst h1
    clear hl h0 h0' hv
    go_enter Try.func48, Try.ntmps48
    go_wp2_with fail
    refine (litpos_any 9223372036854775807 (by decide) (by simp [I64]) _).mono ?_
    rintro e w1 ⟨rfl, hb1⟩
    have HB1 := Lib.hid (below_next (below_alloc w (.cells #[.int .u8 0, .int .i64 0, .string ⟨#[]⟩, .slice none 0 0] 24)) (Nat.le_refl _) hb1)
    have hk1 := (Blk.new w 24 #[.int .u8 0, .int .i64 0, .string ⟨#[]⟩, .slice none 0 0]).next hb1
    have HK1 := Lib.hid hk1
    clear hb1 hk1
    go_wp2_with fail
    refine (litpos_any 1 (by decide) (by simp [I64]) _).mono ?_
    rintro e w2 ⟨rfl, hb2⟩
    have HB2 := Lib.hid (below_next HB1.out (Nat.le_refl _) hb2)
    have hk2 := HK1.out.next hb2
    have k0 := hk2.cell 0
    have k1 := hk2.cell 1
    have k2 := hk2.cell 2
    have k3 := hk2.cell 3
    have f0 := hk2.free 0
    have f1 := hk2.free 1
    have f2 := hk2.free 2
    have f3 := hk2.free 3
    have hlt2 : w.heap.size < w2.heap.size := hk2.lt
    have HK2 := Lib.hid hk2
    clear hb2 hk2
    go_wp2_with fail
    have hset := set4_blk HK2.out (.int .u8 8) (.int .i64 0) (.string ⟨#[]⟩) (.slice (some ⟨w2.heap.size, 0, none⟩) 2 2)
    have hsz := set4_size w2 w.heap.size (.int .u8 8) (.int .i64 0) (.string ⟨#[]⟩) (.slice (some ⟨w2.heap.size, 0, none⟩) 2 2)
    have hbel := set4_below HB2.out (Nat.le_refl _) (.int .u8 8) (.int .i64 0) (.string ⟨#[]⟩) (.slice (some ⟨w2.heap.size, 0, none⟩) 2 2)
    refine bodyPost_ret (results_node1 rfl _ _ w.heap.size _ _ _ _ rfl (hset.al _)) rfl ⟨_, _, _, _, _, _, rfl, NodeP.mk_iff.2 ⟨_, rfl, by decide, by simp [I64], by decide, ?_⟩, hbel.alloc (by rw [hsz]; omega) _⟩
    exact kids2_p (Blk.new' hsz) (.inr ⟨Nat.le_of_lt HK2.out.lt, _, Blk.new' hsz⟩) (natp _ _ _ (by simp [I64])) (natp _ _ _ (by simp [I64]))
  · have hl : litT v = .mk 6 0 ⟨#[]⟩ [tN (-v)] := by unfold litT; rw [if_neg h0, if_neg h1]
    rw [hl]
    have e1 : (v == -9223372036854775808) = false := by simpa using h1
    have hn : I64 (-v) ∧ 0 ≤ -v := by unfold I64 at *; omega
    have hlo : -9223372036854775807 ≤ v := by unfold I64 at *; omega
    have HC := Lib.hid (litpos_any (-v) hn.2 hn.1)
    have HN := Lib.hid hn
    clear hl h0 h1 hn hv
    go_enter Try.func48, Try.ntmps48
    go_wp2_with fail
    refine (HC.out _).mono ?_
    rintro e w2 ⟨rfl, hb2⟩
    have HB2 := Lib.hid (below_next (below_alloc w (.cells #[.int .u8 0, .int .i64 0, .string ⟨#[]⟩, .slice none 0 0] 24)) (Nat.le_refl _) hb2)
    have hk2 := (Blk.new w 24 #[.int .u8 0, .int .i64 0, .string ⟨#[]⟩, .slice none 0 0]).next hb2
    have k0 := hk2.cell 0
    have k1 := hk2.cell 1
    have k2 := hk2.cell 2
    have k3 := hk2.cell 3
    have f0 := hk2.free 0
    have f1 := hk2.free 1
    have f2 := hk2.free 2
    have f3 := hk2.free 3
    have hlt2 : w.heap.size < w2.heap.size := hk2.lt
    have HK2 := Lib.hid hk2
    clear hb2 hk2
    go_wp2_with fail
    have hset := set4_blk HK2.out (.int .u8 6) (.int .i64 0) (.string ⟨#[]⟩) (.slice (some ⟨w2.heap.size, 0, none⟩) 1 1)
    have hsz := set4_size w2 w.heap.size (.int .u8 6) (.int .i64 0) (.string ⟨#[]⟩) (.slice (some ⟨w2.heap.size, 0, none⟩) 1 1)
    have hbel := set4_below HB2.out (Nat.le_refl _) (.int .u8 6) (.int .i64 0) (.string ⟨#[]⟩) (.slice (some ⟨w2.heap.size, 0, none⟩) 1 1)
    refine bodyPost_ret (results_node1 rfl _ _ w.heap.size _ _ _ _ rfl (hset.al _)) rfl ⟨_, _, _, _, _, _, rfl, NodeP.mk_iff.2 ⟨_, rfl, by decide, by simp [I64], by decide, ?_⟩, hbel.alloc (by rw [hsz]; omega) _⟩
    exact kids1_p (Blk.new' hsz) (.inr ⟨Nat.le_of_lt HK2.out.lt, _, Blk.new' hsz⟩) (natp _ _ _ HN.out.1)
end Go.Proofs.Ytlpmoklcdocmmaa
