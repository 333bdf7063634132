/- Walks: valid, the reference's Valid, fixed. -/
import Derived.Test.YtklbaocgjegdfaaStW1
namespace Go.Proofs.Ytklbaocgjegdfaa
open Go.RowKit

def validD (d : Decl) : Bool := ((d.kind == 1 || d.kind == 3) && d.len == 0) || (d.kind == 2 && decide (1 ≤ d.len) && decide (d.len ≤ 16))
def validB (D : List Decl) : Bool := decide (D.length ≤ 32) && D.all validD

set_option maxRecDepth 100000 in
set_option maxHeartbeats 2000000 in
theorem valid_any (D : List Decl) (v : Value) (w : World) (h : DeclsAt w v D) :
    Calls Try.prog 43 #[v] w fun e w' => e = .returned (.bool (validB D)) ∧ Below w.heap.size w w' := by
  obtain ⟨⟨a, c, rfl, hn, hm, hc⟩, hfit⟩ := h
  obtain ⟨n, hnn⟩ : ∃ n, n = D.length := ⟨_, rfl⟩
  rw [← hnn] at hn hc ⊢
  have HC := Lib.hid hc
  have HN := Lib.hid hnn
  have hn63 : n ≤ 9223372036854775807 := by unfold maxLen at hm; omega
  obtain ⟨R, hR⟩ : ∃ R, R = validB D := ⟨_, rfl⟩
  rw [← hR]
  have hRR : R = (decide (n ≤ 32) && D.all validD) := by rw [hR, hnn]; rfl
  have HR := Lib.hid hRR
  have HFIT := Lib.hid hfit
  clear hR hRR hc hnn hn hm hfit
  by_cases h32 : 32 < n
  · have h32' : (32 : Int) < (n : Int) := by omega
    have hr : R = false := by rw [HR.out, decide_eq_false (by omega)]; rfl
    subst hr
    go_enter Try.func43, Try.ntmps43
    go_wp2
    go_ret
    exact ⟨rfl, Below.refl _ _⟩
  have h32' : (n : Int) ≤ 32 := by omega
  go_enter Try.func43, Try.ntmps43
  go_wp2
  go_loopg [10] n (fun q i wr => ∃ k : Nat, k + q = n ∧ i = .int .i64 k ∧ Hid ((D.take k).all validD = true) ∧ Below w.heap.size w wr)
  case atStart => exact ⟨0, by omega, rfl, rfl, Below.refl _ _⟩
  case round =>
    obtain ⟨k, hk, rfl, hal, hb⟩ := hrel
    have Hk := Lib.hid hk
    have hkn : k ≤ n := by omega
    have Hb := Lib.hid hb
    clear hk hb
    have hsz := Hb.out.size
    by_cases hlt : k < n
    · have hlt' : (k : Int) < (n : Int) := by omega
      obtain ⟨g, off, rfl, hg, hq⟩ := HC.out (by omega)
      obtain ⟨d, hd⟩ := get_lt HN.out hlt
      obtain ⟨q0, q1, q2⟩ := hq k d hd
      have m0 := cell_below Hb.out hg q0
      have m1 := cell_below Hb.out hg q1
      have m2 := cell_below Hb.out hg q2
      have HAT := Lib.hid (all_take validD hd)
      have haf := all_false validD hd
      have hkd := (HFIT.out d (List.mem_of_getElem? hd)).2.1
      clear hq hd q0 q1 q2
      obtain ⟨nm, kd, ln⟩ := d
      simp only at m0 m1 m2 hkd
      have HAF : Hid (validD ⟨nm, kd, ln⟩ = false → R = false) := fun h => by rw [HR.out, haf h]; simp
      clear haf
      by_cases k1 : kd = 1
      · subst k1
        by_cases l0 : ln = 0
        · subst l0
          have hv : validD ⟨nm, 1, 0⟩ = true := rfl
          have HV := Lib.hid hv
          clear hv
          go_wp2
          have hk := Hk.out
          go_roundg (n - (k + 1))
          case measure => omega
          case rel => exact ⟨k + 1, by omega, by go_num, by unfold Hid; rw [HAT.out, hal.out, HV.out]; rfl, Hb.out.alloc hsz _⟩
        · have l1 : (ln == 0) = false := by simpa using l0
          have l2 : (ln != 0) = true := by simpa using l0
          have hv : validD ⟨nm, 1, ln⟩ = false := by simp [validD, l0]
          clear l0
          have hr : R = false := HAF.out hv
          subst hr
          clear hv
          go_wp2
          go_ret
          exact ⟨rfl, Hb.out.alloc hsz _⟩
      by_cases k3 : kd = 3
      · subst k3
        by_cases l0 : ln = 0
        · subst l0
          have hv : validD ⟨nm, 3, 0⟩ = true := rfl
          have HV := Lib.hid hv
          clear hv
          go_wp2
          have hk := Hk.out
          go_roundg (n - (k + 1))
          case measure => omega
          case rel => exact ⟨k + 1, by omega, by go_num, by unfold Hid; rw [HAT.out, hal.out, HV.out]; rfl, Hb.out.alloc hsz _⟩
        · have l1 : (ln == 0) = false := by simpa using l0
          have l2 : (ln != 0) = true := by simpa using l0
          have hv : validD ⟨nm, 3, ln⟩ = false := by simp [validD, l0]
          clear l0
          have hr : R = false := HAF.out hv
          subst hr
          clear hv
          go_wp2
          go_ret
          exact ⟨rfl, Hb.out.alloc hsz _⟩
      by_cases k2 : kd = 2
      · subst k2
        by_cases l1 : ln < 1
        · have hv : validD ⟨nm, 2, ln⟩ = false := by simp [validD]; omega
          have l2 : ¬ 1 ≤ ln := by omega
          have hr : R = false := HAF.out hv
          subst hr
          clear hv
          go_wp2
          go_ret
          exact ⟨rfl, Hb.out.alloc hsz _⟩
        by_cases l2 : 16 < ln
        · have hv : validD ⟨nm, 2, ln⟩ = false := by simp [validD]; omega
          have l3 : 1 ≤ ln := by omega
          have l4 : ¬ ln ≤ 16 := by omega
          have hr : R = false := HAF.out hv
          subst hr
          clear hv
          go_wp2
          go_ret
          exact ⟨rfl, Hb.out.alloc hsz _⟩
        have l3 : 1 ≤ ln := by omega
        have l4 : ln ≤ 16 := by omega
        have hv : validD ⟨nm, 2, ln⟩ = true := by simp [validD]; omega
        have HV := Lib.hid hv
        clear hv
        go_wp2
        have hk := Hk.out
        go_roundg (n - (k + 1))
        case measure => omega
        case rel => exact ⟨k + 1, by omega, by go_num, by unfold Hid; rw [HAT.out, hal.out, HV.out]; rfl, Hb.out.alloc hsz _⟩
      have hv : validD ⟨nm, kd, ln⟩ = false := by simp [validD, k1, k2, k3]
      have j1 : ((kd : Int) == 1) = false := by simp; omega
      have j2 : ((kd : Int) == 2) = false := by simp; omega
      have j3 : ((kd : Int) == 3) = false := by simp; omega
      clear k1 k2 k3
      have hr : R = false := HAF.out hv
      subst hr
      clear hv
      go_wp2
      go_ret
      exact ⟨rfl, Hb.out.alloc hsz _⟩
    · have hge : ¬ (k : Int) < (n : Int) := by omega
      have hall := hal.out
      rw [List.take_of_length_le (by rw [← HN.out]; omega)] at hall
      have hr : R = true := by rw [HR.out, hall, decide_eq_true (by omega)]; rfl
      subst hr
      go_wp2
      go_ret
      exact ⟨rfl, Hb.out⟩

def fixedZ (d : Decl) : Int := if d.kind = 1 then 1 else d.len
theorem fixed_any (nm : ByteArray) (kd : Nat) (ln : Int) (w : World) :
    Calls Try.prog 44 #[.agg #[.string nm, .int .u8 kd, .int .i64 ln]] w fun e w' => e = .returned (.int .i64 (fixedZ ⟨nm, kd, ln⟩)) ∧ Below w.heap.size w w' := by
  by_cases k1 : kd = 1
  · subst k1
    have hf : fixedZ ⟨nm, 1, ln⟩ = 1 := rfl
    rw [hf]
    go_enter Try.func44, Try.ntmps44
    go_wp2
    go_ret
    exact ⟨rfl, below_alloc _ _⟩
  · have hf : fixedZ ⟨nm, kd, ln⟩ = ln := by simp [fixedZ, k1]
    rw [hf]
    have j1 : ((kd : Int) == 1) = false := by simp; omega
    go_enter Try.func44, Try.ntmps44
    go_wp2
    go_ret
    exact ⟨rfl, below_alloc _ _⟩

end Go.Proofs.Ytklbaocgjegdfaa
