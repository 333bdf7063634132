/- The walk of Great. -/
import Derived.Test.YtlpmoklcdocmmaaEvA
namespace Go.Proofs.Ytlpmoklcdocmmaa
open Go.RowKit

def longB (c : ByteArray × List Int) : Bool := decide (20 < c.2.length)
def greatE (t : T) (env : Env) : Bool := decide (10 < env.length) || great5 t || env.any longB

theorem any_drop {α : Type} {p : α → Bool} {l : List α} {k : Nat} {x : α} (h : l[k]? = some x) : (l.drop k).any p = (p x || (l.drop (k + 1)).any p) := by
  rw [drop_cons h, List.any_cons]

set_option maxRecDepth 100000 in
set_option maxHeartbeats 2000000 in
theorem greate_any (t : T) (env : Env) (v l : Value) (w : World) (h : NodeAt w v t) (hl : EnvAt w l env) :
    Calls Try.prog 12 #[v, l] w fun e w' => e = .returned (.int .i64 (b2i (greatE t env))) ∧ Below w.heap.size w w' := by
  obtain ⟨kd, nm, s, a, n, c, rfl⟩ := node_form h
  obtain ⟨⟨ea, ec, rfl, hn, hm, hq⟩, -⟩ := hl
  have hb1 := below_alloc w (.cells #[.int .u8 kd, .int .i64 nm, .string s, .slice a n c] 24)
  have HC := Lib.hid (pgreat_any t kd nm s a n c _ (h.below hb1 (Nat.le_refl _)))
  have HB1 := Lib.hid hb1
  have HQ := Lib.hid hq
  obtain ⟨m, hmk⟩ : ∃ m, m = env.length := ⟨_, rfl⟩
  have hm63 : m ≤ 9223372036854775807 := by unfold maxLen at hm; omega
  have HG : Hid (greatE t env = (decide (10 < m) || great5 t || env.any longB)) := by rw [hmk]; rfl
  rw [← hmk] at hn ⊢
  have HM := Lib.hid hmk
  generalize greatE t env = R at *
  generalize great5 t = r at *
  clear h hb1 hq hm hmk
  by_cases h10 : 10 < m
  · have h10' : (10 : Int) < (m : Int) := by omega
    have hr : R = true := by rw [HG.out, decide_eq_true h10]; rfl
    subst hr
    clear HG HC
    go_enter Try.func12, Try.ntmps12
    go_wp2_with fail
    go_ret
    exact ⟨rfl, HB1.out⟩
  have h10' : (m : Int) ≤ 10 := by omega
  have hg2 := HG.out
  rw [decide_eq_false h10, Bool.false_or] at hg2
  have HG2 := Lib.hid hg2
  clear HG hg2
  cases r with
  | true =>
    have hr : R = true := by rw [HG2.out]; rfl
    subst hr
    clear HG2
    go_enter Try.func12, Try.ntmps12
    go_wp2_with fail
    refine HC.out.mono ?_
    rintro e w2 ⟨rfl, hb2⟩
    have HB2 := Lib.hid (below_next HB1.out (Nat.le_refl _) hb2)
    clear hb2 HC
    have e1 : ((b2i true) == 1) = true := rfl
    go_wp2_with fail
    go_ret
    exact ⟨rfl, HB2.out⟩
  | false =>
    go_enter Try.func12, Try.ntmps12
    go_wp2_with fail
    refine HC.out.mono ?_
    rintro e w2 ⟨rfl, hb2⟩
    have HB2 := Lib.hid (below_next HB1.out (Nat.le_refl _) hb2)
    clear hb2 HC
    have e1 : ((b2i false) == 1) = false := rfl
    go_wp2_with fail
    have hR : R = env.any longB := by rw [HG2.out, Bool.false_or]
    have HR := Lib.hid hR
    clear hR HG2
    go_loopg [18] m (fun q i wr => ∃ k : Nat, k + q = m ∧ i = .int .i64 k ∧ Hid ((env.drop k).any longB = R) ∧ Below w.heap.size w wr)
    case atStart => exact ⟨0, by omega, rfl, HR.out.symm, HB2.out⟩
    case round =>
      obtain ⟨k, hk, rfl, hal, hb⟩ := hrel
      have Hk := Lib.hid hk
      have hkn : k ≤ m := by omega
      have Hb := Lib.hid hb
      clear hk hb
      have hsz := Hb.out.size
      by_cases hlt : k < m
      · have hlt' : (k : Int) < (m : Int) := by omega
        have hkn' : k < env.length := by rw [← HM.out]; exact hlt
        obtain ⟨g, off, rfl, hg, hq⟩ := HQ.out (by omega)
        obtain ⟨⟨x, cl⟩, hx⟩ : ∃ p, env[k]? = some p := ⟨_, List.getElem?_eq_getElem hkn'⟩
        obtain ⟨q0, u, q1, hi⟩ := hq k _ hx
        obtain ⟨⟨ua, uc, rfl, -, -, -⟩, -⟩ := hi
        simp only at q0 q1
        have m0 := cell_below Hb.out hg q0
        have m1 := cell_below Hb.out hg q1
        have hal2 := hal.out
        rw [any_drop hx, longB] at hal2
        simp only at hal2
        have HAL2 := Lib.hid hal2
        generalize cl.length = cn at *
        clear hq hx q0 q1 hal hal2 hkn'
        by_cases h20 : 20 < cn
        · have h20' : (20 : Int) < (cn : Int) := by omega
          have hr : R = true := by have := HAL2.out; rw [decide_eq_true h20] at this; exact this.symm
          subst hr
          clear HAL2
          go_wp2_with fail
          go_ret
          exact ⟨rfl, Hb.out.alloc hsz _⟩
        · have h20' : (cn : Int) ≤ 20 := by omega
          have hal3 := HAL2.out
          rw [decide_eq_false h20, Bool.false_or] at hal3
          have HAL3 := Lib.hid hal3
          clear HAL2 hal3
          go_wp2_with fail
          have hk := Hk.out
          go_roundg (m - (k + 1))
          case measure => omega
          case rel => exact ⟨k + 1, by omega, by go_num, HAL3.out, Hb.out.alloc hsz _⟩
      · have hge : ¬ (k : Int) < (m : Int) := by omega
        have hr : R = false := by
          have := hal.out
          rw [List.drop_eq_nil_of_le (by rw [← HM.out]; omega)] at this
          exact this.symm
        subst hr
        clear hal
        go_wp2_with fail
        go_ret
        exact ⟨rfl, Hb.out⟩
end Go.Proofs.Ytlpmoklcdocmmaa
