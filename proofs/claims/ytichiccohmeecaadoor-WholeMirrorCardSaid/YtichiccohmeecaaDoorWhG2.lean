/- The walk of image.fault. -/
import Derived.Test.YtichiccohmeecaaDoorWhG1
namespace Go.Proofs.YtichiccohmeecaaDoor
open Go.RowKit

theorem isjump_q {op : Nat} {B : Bool} (h : jumpB op = B) (w : World) : Calls Tryd.prog 34 #[.int .u8 op] w fun e w' => e = .returned (.bool B) ∧ w' = w :=
  (isjump_any op w).mono fun _ _ ⟨h1, h2⟩ => ⟨by rw [h1, h], h2.symm⟩
theorem island_q {op : Nat} {B : Bool} (h : landB op = B) (w : World) : Calls Tryd.prog 35 #[.int .u8 op] w fun e w' => e = .returned (.bool B) ∧ w' = w :=
  (island_any op w).mono fun _ _ ⟨h1, h2⟩ => ⟨by rw [h1, h], h2.symm⟩

def FaultR (r : Int) (w : World) (e : Ending) (w' : World) : Prop := e = .returned (.int .i64 r) ∧ Below w.heap.size w w'

set_option maxRecDepth 100000 in
set_option maxHeartbeats 16000000 in
theorem fault_any {P : Nat → Prop} (C : List Ins) (vc : Value) (k : Nat) (reg : Nat → Int) (h cr : Nat) (ins : Bool) (w : World) (hC : CodeIn P w vc C) (hT : TabAt w) (hk : k < C.length) (hr : Blk w h 3 (arr C.length (fun j => .int .i64 (reg j)))) :
    Calls Tryd.prog 39 #[vc, .int .i64 k, .slice (some ⟨h, 0, none⟩) C.length cr, .bool ins] w (FaultR (faultP C k (fun j => reg j.toNat) ins) w) := by
  have HCI := Lib.hid hC
  obtain ⟨a, cp, rfl, hn, hm, hq⟩ := hC
  obtain ⟨n, hnl⟩ : ∃ n, n = C.length := ⟨_, rfl⟩
  rw [← hnl] at hn hq hr HCI hk ⊢
  have hn63 : n ≤ 9223372036854775807 := by unfold maxLen at hm; omega
  have HNL := Lib.hid hnl
  have HRG := Lib.hid hr
  have hh := hr.lt
  obtain ⟨x, hx⟩ := get_lt hnl hk
  obtain ⟨g, o, rfl, hg, hp, hcell⟩ := hq (by omega)
  obtain ⟨c0, c1, c2, c3, c4⟩ := hcell k x hx
  have HT := Lib.hid hT
  have HX := Lib.hid hx
  have HC := Lib.hid hcell
  have hkn : (k : Int) < (n : Int) := by omega
  have hk0 : (0 : Int) ≤ (k : Int) := Int.natCast_nonneg _
  have hat := (partner_eq hx).2
  obtain ⟨R, hR⟩ : ∃ R, faultP C k (fun j => reg j.toNat) ins = R := ⟨_, rfl⟩
  rw [hR]
  unfold faultP at hR
  rw [hat] at hR
  obtain ⟨xo, xa, xb, xc, xd⟩ := x
  dsimp only at c0 c1 c2 c3 c4 hR
  clear hq hn hm hT hnl hcell hp hat hr
  cases hv : validI ⟨xo, xa, xb, xc, xd⟩ with
  | false =>
    rw [if_pos hv] at hR
    have HV := Lib.hid hv
    subst hR
    clear hv hx
    have HA : Hid (Below w.heap.size w (w.alloc (.cells #[.int .u8 xo, .int .i64 xa, .int .i64 xb, .int .i64 xc, .int .i64 xd] 45))) := Lib.hid (below_alloc w _)
    go_enter Tryd.func39, Tryd.ntmps39
    go_wp2_with fail
    refine (valid_any ⟨_, xa, xb, xc, xd⟩ _ (HT.out.below HA.out)).mono ?_
    rintro e w1 ⟨rfl, hb⟩
    rw [HV.out]
    have HB1 := Lib.hid (below_next HA.out (Nat.le_refl _) hb)
    obtain ⟨bc1, bf1⟩ := bcell hb
    have hz1 : w.heap.size < w1.heap.size := by have := hb.size; have := HA.out.size; first | omega | (simp at *; omega)
    have hg1 : g < w1.heap.size := by omega
    have hh1 : h < w1.heap.size := by omega
    have HA : Hid (Below w.heap.size w w1) := HB1
    clear hb
    go_wp2_with fail
    go_ret
    exact ⟨rfl, HA.out⟩
  | true =>
    rw [if_neg (by rw [hv]; decide)] at hR
    have HV := Lib.hid hv
    clear hv
    cases hs : targ ⟨xo, xa, xb, xc, xd⟩ with
    | none =>
      rw [hs] at hR
      have HS := Lib.hid hs
      subst hR
      clear hs hx
      have HA : Hid (Below w.heap.size w (w.alloc (.cells #[.int .u8 xo, .int .i64 xa, .int .i64 xb, .int .i64 xc, .int .i64 xd] 45))) := Lib.hid (below_alloc w _)
      go_enter Tryd.func39, Tryd.ntmps39
      go_wp2_with fail
      refine (valid_any ⟨_, xa, xb, xc, xd⟩ _ (HT.out.below HA.out)).mono ?_
      rintro e w1 ⟨rfl, hb⟩
      rw [HV.out]
      have HB1 := Lib.hid (below_next HA.out (Nat.le_refl _) hb)
      obtain ⟨bc1, bf1⟩ := bcell hb
      have hz1 : w.heap.size < w1.heap.size := by have := hb.size; have := HA.out.size; first | omega | (simp at *; omega)
      have hg1 : g < w1.heap.size := by omega
      have hh1 : h < w1.heap.size := by omega
      have HA : Hid (Below w.heap.size w w1) := HB1
      clear hb
      go_wp2_with fail
      refine (target_any ⟨_, xa, xb, xc, xd⟩ _).mono ?_
      rintro e w2 ⟨rfl, hb⟩
      rw [HS.out]
      have HB2 := Lib.hid (below_next HA.out (Nat.le_refl _) hb)
      obtain ⟨bc2, bf2⟩ := bcell hb
      have hz2 : w.heap.size < w2.heap.size := by have := hb.size; have := HA.out.size; first | omega | (simp at *; omega)
      have hg2 : g < w2.heap.size := by omega
      have hh2 : h < w2.heap.size := by omega
      have HA : Hid (Below w.heap.size w w2) := HB2
      clear hb
      go_wp2_with fail
      go_ret
      exact ⟨rfl, HA.out⟩
    | some t =>
      rw [hs] at hR
      dsimp only at hR
      have HS := Lib.hid hs
      clear hs
      by_cases hc : xo = 30 ∨ xo = 31
      · rw [if_pos hc] at hR
        cases hp : partner C t with
        | none =>
          rw [hp] at hR
          have HP := Lib.hid hp
          obtain rfl : 23 = R := hR
          clear hp hx
          rcases hc with rfl | rfl
          · have HA : Hid (Below w.heap.size w (w.alloc (.cells #[.int .u8 30, .int .i64 xa, .int .i64 xb, .int .i64 xc, .int .i64 xd] 45))) := Lib.hid (below_alloc w _)
            go_enter Tryd.func39, Tryd.ntmps39
            go_wp2_with fail
            refine (valid_any ⟨_, xa, xb, xc, xd⟩ _ (HT.out.below HA.out)).mono ?_
            rintro e w1 ⟨rfl, hb⟩
            rw [HV.out]
            have HB1 := Lib.hid (below_next HA.out (Nat.le_refl _) hb)
            obtain ⟨bc1, bf1⟩ := bcell hb
            have hz1 : w.heap.size < w1.heap.size := by have := hb.size; have := HA.out.size; first | omega | (simp at *; omega)
            have hg1 : g < w1.heap.size := by omega
            have hh1 : h < w1.heap.size := by omega
            have HA : Hid (Below w.heap.size w w1) := HB1
            clear hb
            go_wp2_with fail
            refine (target_any ⟨_, xa, xb, xc, xd⟩ _).mono ?_
            rintro e w2 ⟨rfl, hb⟩
            rw [HS.out]
            have HB2 := Lib.hid (below_next HA.out (Nat.le_refl _) hb)
            obtain ⟨bc2, bf2⟩ := bcell hb
            have hz2 : w.heap.size < w2.heap.size := by have := hb.size; have := HA.out.size; first | omega | (simp at *; omega)
            have hg2 : g < w2.heap.size := by omega
            have hh2 : h < w2.heap.size := by omega
            have HA : Hid (Below w.heap.size w w2) := HB2
            clear hb
            go_wp2_with fail
            have HA : Hid (Below w.heap.size w (w2.alloc (.cells #[.slice (some ⟨g, o, none⟩) n cp, .int .i64 0, .int .i64 0] 24))) := Lib.hid (HB2.out.alloc HB2.out.size _)
            refine (partner_any C _ _ _ t _ (HCI.out.below HA.out) (HT.out.below HA.out)).mono ?_
            rintro e w3 ⟨rfl, hb⟩
            rw [HP.out]
            have HB3 := Lib.hid (below_next HA.out (Nat.le_refl _) hb)
            obtain ⟨bc3, bf3⟩ := bcell hb
            have hz3 : w.heap.size < w3.heap.size := by have := hb.size; have := HA.out.size; first | omega | (simp at *; omega)
            have hg3 : g < w3.heap.size := by omega
            have hh3 : h < w3.heap.size := by omega
            have HA : Hid (Below w.heap.size w w3) := HB3
            clear hb
            go_wp2_with fail
            go_ret
            exact ⟨rfl, HA.out⟩
          · have HA : Hid (Below w.heap.size w (w.alloc (.cells #[.int .u8 31, .int .i64 xa, .int .i64 xb, .int .i64 xc, .int .i64 xd] 45))) := Lib.hid (below_alloc w _)
            go_enter Tryd.func39, Tryd.ntmps39
            go_wp2_with fail
            refine (valid_any ⟨_, xa, xb, xc, xd⟩ _ (HT.out.below HA.out)).mono ?_
            rintro e w1 ⟨rfl, hb⟩
            rw [HV.out]
            have HB1 := Lib.hid (below_next HA.out (Nat.le_refl _) hb)
            obtain ⟨bc1, bf1⟩ := bcell hb
            have hz1 : w.heap.size < w1.heap.size := by have := hb.size; have := HA.out.size; first | omega | (simp at *; omega)
            have hg1 : g < w1.heap.size := by omega
            have hh1 : h < w1.heap.size := by omega
            have HA : Hid (Below w.heap.size w w1) := HB1
            clear hb
            go_wp2_with fail
            refine (target_any ⟨_, xa, xb, xc, xd⟩ _).mono ?_
            rintro e w2 ⟨rfl, hb⟩
            rw [HS.out]
            have HB2 := Lib.hid (below_next HA.out (Nat.le_refl _) hb)
            obtain ⟨bc2, bf2⟩ := bcell hb
            have hz2 : w.heap.size < w2.heap.size := by have := hb.size; have := HA.out.size; first | omega | (simp at *; omega)
            have hg2 : g < w2.heap.size := by omega
            have hh2 : h < w2.heap.size := by omega
            have HA : Hid (Below w.heap.size w w2) := HB2
            clear hb
            go_wp2_with fail
            have HA : Hid (Below w.heap.size w (w2.alloc (.cells #[.slice (some ⟨g, o, none⟩) n cp, .int .i64 0, .int .i64 0] 24))) := Lib.hid (HB2.out.alloc HB2.out.size _)
            refine (partner_any C _ _ _ t _ (HCI.out.below HA.out) (HT.out.below HA.out)).mono ?_
            rintro e w3 ⟨rfl, hb⟩
            rw [HP.out]
            have HB3 := Lib.hid (below_next HA.out (Nat.le_refl _) hb)
            obtain ⟨bc3, bf3⟩ := bcell hb
            have hz3 : w.heap.size < w3.heap.size := by have := hb.size; have := HA.out.size; first | omega | (simp at *; omega)
            have hg3 : g < w3.heap.size := by omega
            have hh3 : h < w3.heap.size := by omega
            have HA : Hid (Below w.heap.size w w3) := HB3
            clear hb
            go_wp2_with fail
            go_ret
            exact ⟨rfl, HA.out⟩
        | some e =>
          rw [hp] at hR
          have HP := Lib.hid hp
          obtain ⟨j, rfl, hj⟩ := nat_of (partner_iff.1 hp).1
          rw [← HNL.out] at hj
          obtain ⟨y, hy⟩ := get_lt HNL.out hj
          obtain ⟨d0, -⟩ := HC.out j y hy
          rw [(partner_eq hy).2] at hR
          have hjn : (j : Int) < (n : Int) := by omega
          have hj0 : (0 : Int) ≤ (j : Int) := Int.natCast_nonneg _
          obtain ⟨yo, ya, yb, yc, yd⟩ := y
          dsimp only at d0 hR
          clear hp hx hy
          by_cases h32 : yo = 32
          · subst h32
            obtain rfl : 0 = R := hR
            rcases hc with rfl | rfl
            · have HA : Hid (Below w.heap.size w (w.alloc (.cells #[.int .u8 30, .int .i64 xa, .int .i64 xb, .int .i64 xc, .int .i64 xd] 45))) := Lib.hid (below_alloc w _)
              go_enter Tryd.func39, Tryd.ntmps39
              go_wp2_with fail
              refine (valid_any ⟨_, xa, xb, xc, xd⟩ _ (HT.out.below HA.out)).mono ?_
              rintro e w1 ⟨rfl, hb⟩
              rw [HV.out]
              have HB1 := Lib.hid (below_next HA.out (Nat.le_refl _) hb)
              obtain ⟨bc1, bf1⟩ := bcell hb
              have hz1 : w.heap.size < w1.heap.size := by have := hb.size; have := HA.out.size; first | omega | (simp at *; omega)
              have hg1 : g < w1.heap.size := by omega
              have hh1 : h < w1.heap.size := by omega
              have HA : Hid (Below w.heap.size w w1) := HB1
              clear hb
              go_wp2_with fail
              refine (target_any ⟨_, xa, xb, xc, xd⟩ _).mono ?_
              rintro e w2 ⟨rfl, hb⟩
              rw [HS.out]
              have HB2 := Lib.hid (below_next HA.out (Nat.le_refl _) hb)
              obtain ⟨bc2, bf2⟩ := bcell hb
              have hz2 : w.heap.size < w2.heap.size := by have := hb.size; have := HA.out.size; first | omega | (simp at *; omega)
              have hg2 : g < w2.heap.size := by omega
              have hh2 : h < w2.heap.size := by omega
              have HA : Hid (Below w.heap.size w w2) := HB2
              clear hb
              go_wp2_with fail
              have HA : Hid (Below w.heap.size w (w2.alloc (.cells #[.slice (some ⟨g, o, none⟩) n cp, .int .i64 0, .int .i64 0] 24))) := Lib.hid (HB2.out.alloc HB2.out.size _)
              refine (partner_any C _ _ _ j _ (HCI.out.below HA.out) (HT.out.below HA.out)).mono ?_
              rintro e w3 ⟨rfl, hb⟩
              rw [HP.out]
              have HB3 := Lib.hid (below_next HA.out (Nat.le_refl _) hb)
              obtain ⟨bc3, bf3⟩ := bcell hb
              have hz3 : w.heap.size < w3.heap.size := by have := hb.size; have := HA.out.size; first | omega | (simp at *; omega)
              have hg3 : g < w3.heap.size := by omega
              have hh3 : h < w3.heap.size := by omega
              have HA : Hid (Below w.heap.size w w3) := HB3
              clear hb
              go_wp2_with fail
              go_ret
              exact ⟨rfl, HA.out⟩
            · have HA : Hid (Below w.heap.size w (w.alloc (.cells #[.int .u8 31, .int .i64 xa, .int .i64 xb, .int .i64 xc, .int .i64 xd] 45))) := Lib.hid (below_alloc w _)
              go_enter Tryd.func39, Tryd.ntmps39
              go_wp2_with fail
              refine (valid_any ⟨_, xa, xb, xc, xd⟩ _ (HT.out.below HA.out)).mono ?_
              rintro e w1 ⟨rfl, hb⟩
              rw [HV.out]
              have HB1 := Lib.hid (below_next HA.out (Nat.le_refl _) hb)
              obtain ⟨bc1, bf1⟩ := bcell hb
              have hz1 : w.heap.size < w1.heap.size := by have := hb.size; have := HA.out.size; first | omega | (simp at *; omega)
              have hg1 : g < w1.heap.size := by omega
              have hh1 : h < w1.heap.size := by omega
              have HA : Hid (Below w.heap.size w w1) := HB1
              clear hb
              go_wp2_with fail
              refine (target_any ⟨_, xa, xb, xc, xd⟩ _).mono ?_
              rintro e w2 ⟨rfl, hb⟩
              rw [HS.out]
              have HB2 := Lib.hid (below_next HA.out (Nat.le_refl _) hb)
              obtain ⟨bc2, bf2⟩ := bcell hb
              have hz2 : w.heap.size < w2.heap.size := by have := hb.size; have := HA.out.size; first | omega | (simp at *; omega)
              have hg2 : g < w2.heap.size := by omega
              have hh2 : h < w2.heap.size := by omega
              have HA : Hid (Below w.heap.size w w2) := HB2
              clear hb
              go_wp2_with fail
              have HA : Hid (Below w.heap.size w (w2.alloc (.cells #[.slice (some ⟨g, o, none⟩) n cp, .int .i64 0, .int .i64 0] 24))) := Lib.hid (HB2.out.alloc HB2.out.size _)
              refine (partner_any C _ _ _ j _ (HCI.out.below HA.out) (HT.out.below HA.out)).mono ?_
              rintro e w3 ⟨rfl, hb⟩
              rw [HP.out]
              have HB3 := Lib.hid (below_next HA.out (Nat.le_refl _) hb)
              obtain ⟨bc3, bf3⟩ := bcell hb
              have hz3 : w.heap.size < w3.heap.size := by have := hb.size; have := HA.out.size; first | omega | (simp at *; omega)
              have hg3 : g < w3.heap.size := by omega
              have hh3 : h < w3.heap.size := by omega
              have HA : Hid (Below w.heap.size w w3) := HB3
              clear hb
              go_wp2_with fail
              go_ret
              exact ⟨rfl, HA.out⟩
          · have e32 : ((yo : Int) != 32) = true := by simp; omega
            have e32' : (yo == 32) = false := by simpa using h32
            rw [e32'] at hR
            obtain rfl : 23 = R := hR
            clear e32' h32
            rcases hc with rfl | rfl
            · have HA : Hid (Below w.heap.size w (w.alloc (.cells #[.int .u8 30, .int .i64 xa, .int .i64 xb, .int .i64 xc, .int .i64 xd] 45))) := Lib.hid (below_alloc w _)
              go_enter Tryd.func39, Tryd.ntmps39
              go_wp2_with fail
              refine (valid_any ⟨_, xa, xb, xc, xd⟩ _ (HT.out.below HA.out)).mono ?_
              rintro e w1 ⟨rfl, hb⟩
              rw [HV.out]
              have HB1 := Lib.hid (below_next HA.out (Nat.le_refl _) hb)
              obtain ⟨bc1, bf1⟩ := bcell hb
              have hz1 : w.heap.size < w1.heap.size := by have := hb.size; have := HA.out.size; first | omega | (simp at *; omega)
              have hg1 : g < w1.heap.size := by omega
              have hh1 : h < w1.heap.size := by omega
              have HA : Hid (Below w.heap.size w w1) := HB1
              clear hb
              go_wp2_with fail
              refine (target_any ⟨_, xa, xb, xc, xd⟩ _).mono ?_
              rintro e w2 ⟨rfl, hb⟩
              rw [HS.out]
              have HB2 := Lib.hid (below_next HA.out (Nat.le_refl _) hb)
              obtain ⟨bc2, bf2⟩ := bcell hb
              have hz2 : w.heap.size < w2.heap.size := by have := hb.size; have := HA.out.size; first | omega | (simp at *; omega)
              have hg2 : g < w2.heap.size := by omega
              have hh2 : h < w2.heap.size := by omega
              have HA : Hid (Below w.heap.size w w2) := HB2
              clear hb
              go_wp2_with fail
              have HA : Hid (Below w.heap.size w (w2.alloc (.cells #[.slice (some ⟨g, o, none⟩) n cp, .int .i64 0, .int .i64 0] 24))) := Lib.hid (HB2.out.alloc HB2.out.size _)
              refine (partner_any C _ _ _ j _ (HCI.out.below HA.out) (HT.out.below HA.out)).mono ?_
              rintro e w3 ⟨rfl, hb⟩
              rw [HP.out]
              have HB3 := Lib.hid (below_next HA.out (Nat.le_refl _) hb)
              obtain ⟨bc3, bf3⟩ := bcell hb
              have hz3 : w.heap.size < w3.heap.size := by have := hb.size; have := HA.out.size; first | omega | (simp at *; omega)
              have hg3 : g < w3.heap.size := by omega
              have hh3 : h < w3.heap.size := by omega
              have HA : Hid (Below w.heap.size w w3) := HB3
              clear hb
              go_wp2_with fail
              go_ret
              exact ⟨rfl, HA.out⟩
            · have HA : Hid (Below w.heap.size w (w.alloc (.cells #[.int .u8 31, .int .i64 xa, .int .i64 xb, .int .i64 xc, .int .i64 xd] 45))) := Lib.hid (below_alloc w _)
              go_enter Tryd.func39, Tryd.ntmps39
              go_wp2_with fail
              refine (valid_any ⟨_, xa, xb, xc, xd⟩ _ (HT.out.below HA.out)).mono ?_
              rintro e w1 ⟨rfl, hb⟩
              rw [HV.out]
              have HB1 := Lib.hid (below_next HA.out (Nat.le_refl _) hb)
              obtain ⟨bc1, bf1⟩ := bcell hb
              have hz1 : w.heap.size < w1.heap.size := by have := hb.size; have := HA.out.size; first | omega | (simp at *; omega)
              have hg1 : g < w1.heap.size := by omega
              have hh1 : h < w1.heap.size := by omega
              have HA : Hid (Below w.heap.size w w1) := HB1
              clear hb
              go_wp2_with fail
              refine (target_any ⟨_, xa, xb, xc, xd⟩ _).mono ?_
              rintro e w2 ⟨rfl, hb⟩
              rw [HS.out]
              have HB2 := Lib.hid (below_next HA.out (Nat.le_refl _) hb)
              obtain ⟨bc2, bf2⟩ := bcell hb
              have hz2 : w.heap.size < w2.heap.size := by have := hb.size; have := HA.out.size; first | omega | (simp at *; omega)
              have hg2 : g < w2.heap.size := by omega
              have hh2 : h < w2.heap.size := by omega
              have HA : Hid (Below w.heap.size w w2) := HB2
              clear hb
              go_wp2_with fail
              have HA : Hid (Below w.heap.size w (w2.alloc (.cells #[.slice (some ⟨g, o, none⟩) n cp, .int .i64 0, .int .i64 0] 24))) := Lib.hid (HB2.out.alloc HB2.out.size _)
              refine (partner_any C _ _ _ j _ (HCI.out.below HA.out) (HT.out.below HA.out)).mono ?_
              rintro e w3 ⟨rfl, hb⟩
              rw [HP.out]
              have HB3 := Lib.hid (below_next HA.out (Nat.le_refl _) hb)
              obtain ⟨bc3, bf3⟩ := bcell hb
              have hz3 : w.heap.size < w3.heap.size := by have := hb.size; have := HA.out.size; first | omega | (simp at *; omega)
              have hg3 : g < w3.heap.size := by omega
              have hh3 : h < w3.heap.size := by omega
              have HA : Hid (Below w.heap.size w w3) := HB3
              clear hb
              go_wp2_with fail
              go_ret
              exact ⟨rfl, HA.out⟩
      · rw [if_neg hc] at hR
        have e30 : ((xo : Int) == 30) = false := by simp; omega
        have e31 : ((xo : Int) == 31) = false := by simp; omega
        clear hc
        cases hp : partner C k with
        | none =>
          rw [hp] at hR
          have HP := Lib.hid hp
          obtain rfl : 23 = R := hR
          clear hp hx
          have HA : Hid (Below w.heap.size w (w.alloc (.cells #[.int .u8 xo, .int .i64 xa, .int .i64 xb, .int .i64 xc, .int .i64 xd] 45))) := Lib.hid (below_alloc w _)
          go_enter Tryd.func39, Tryd.ntmps39
          go_wp2_with fail
          refine (valid_any ⟨_, xa, xb, xc, xd⟩ _ (HT.out.below HA.out)).mono ?_
          rintro e w1 ⟨rfl, hb⟩
          rw [HV.out]
          have HB1 := Lib.hid (below_next HA.out (Nat.le_refl _) hb)
          obtain ⟨bc1, bf1⟩ := bcell hb
          have hz1 : w.heap.size < w1.heap.size := by have := hb.size; have := HA.out.size; first | omega | (simp at *; omega)
          have hg1 : g < w1.heap.size := by omega
          have hh1 : h < w1.heap.size := by omega
          have HA : Hid (Below w.heap.size w w1) := HB1
          clear hb
          go_wp2_with fail
          refine (target_any ⟨_, xa, xb, xc, xd⟩ _).mono ?_
          rintro e w2 ⟨rfl, hb⟩
          rw [HS.out]
          have HB2 := Lib.hid (below_next HA.out (Nat.le_refl _) hb)
          obtain ⟨bc2, bf2⟩ := bcell hb
          have hz2 : w.heap.size < w2.heap.size := by have := hb.size; have := HA.out.size; first | omega | (simp at *; omega)
          have hg2 : g < w2.heap.size := by omega
          have hh2 : h < w2.heap.size := by omega
          have HA : Hid (Below w.heap.size w w2) := HB2
          clear hb
          go_wp2_with fail
          have HA : Hid (Below w.heap.size w (w2.alloc (.cells #[.slice (some ⟨g, o, none⟩) n cp, .int .i64 0, .int .i64 0] 24))) := Lib.hid (HB2.out.alloc HB2.out.size _)
          refine (partner_any C _ _ _ k _ (HCI.out.below HA.out) (HT.out.below HA.out)).mono ?_
          rintro e w3 ⟨rfl, hb⟩
          rw [HP.out]
          have HB3 := Lib.hid (below_next HA.out (Nat.le_refl _) hb)
          obtain ⟨bc3, bf3⟩ := bcell hb
          have hz3 : w.heap.size < w3.heap.size := by have := hb.size; have := HA.out.size; first | omega | (simp at *; omega)
          have hg3 : g < w3.heap.size := by omega
          have hh3 : h < w3.heap.size := by omega
          have HA : Hid (Below w.heap.size w w3) := HB3
          clear hb
          go_wp2_with fail
          go_ret
          exact ⟨rfl, HA.out⟩
        | some u =>
          obtain rfl : u = t := by
            have h1 := (partner_iff.1 hp).2.2.1
            rw [(partner_eq hx).2] at h1
            exact Option.some.inj (h1.symm.trans HS.out)
          rw [hp] at hR
          have HP := Lib.hid hp
          obtain ⟨j, rfl, hj⟩ := nat_of (partner_iff.1 hp).2.1
          rw [← HNL.out] at hj
          have hjn : (j : Int) < (n : Int) := by omega
          have hj0 : (0 : Int) ≤ (j : Int) := Int.natCast_nonneg _
          have r1 : w.cell? ⟨h, k, none⟩ = some (.int .i64 (reg k)) := (HRG.out.cell k).trans (arr_get _ hk)
          have r2 : w.cell? ⟨h, j, none⟩ = some (.int .i64 (reg j)) := (HRG.out.cell j).trans (arr_get _ hj)
          simp only [Int.toNat_natCast] at hR
          obtain ⟨rk, hrk⟩ : ∃ rk, reg k = rk := ⟨_, rfl⟩
          obtain ⟨rj, hrj⟩ : ∃ rj, reg j = rj := ⟨_, rfl⟩
          rw [hrk] at r1
          rw [hrj] at r2
          simp only [hrk, hrj] at hR
          clear hp hx hrk hrj
          rw [if_neg (by simp)] at hR
          by_cases h32 : xo = 32
          · subst h32
            have HJ : Hid (jumpB 32 = false) := Lib.hid rfl
            have HL : Hid (landB 32 = false) := Lib.hid rfl
            cases ins with
            | true =>
              obtain rfl : 20 = R := hR
              have HA : Hid (Below w.heap.size w (w.alloc (.cells #[.int .u8 32, .int .i64 xa, .int .i64 xb, .int .i64 xc, .int .i64 xd] 45))) := Lib.hid (below_alloc w _)
              go_enter Tryd.func39, Tryd.ntmps39
              go_wp2_with fail
              refine (valid_any ⟨_, xa, xb, xc, xd⟩ _ (HT.out.below HA.out)).mono ?_
              rintro e w1 ⟨rfl, hb⟩
              rw [HV.out]
              have HB1 := Lib.hid (below_next HA.out (Nat.le_refl _) hb)
              obtain ⟨bc1, bf1⟩ := bcell hb
              have hz1 : w.heap.size < w1.heap.size := by have := hb.size; have := HA.out.size; first | omega | (simp at *; omega)
              have hg1 : g < w1.heap.size := by omega
              have hh1 : h < w1.heap.size := by omega
              have HA : Hid (Below w.heap.size w w1) := HB1
              clear hb
              go_wp2_with fail
              refine (target_any ⟨_, xa, xb, xc, xd⟩ _).mono ?_
              rintro e w2 ⟨rfl, hb⟩
              rw [HS.out]
              have HB2 := Lib.hid (below_next HA.out (Nat.le_refl _) hb)
              obtain ⟨bc2, bf2⟩ := bcell hb
              have hz2 : w.heap.size < w2.heap.size := by have := hb.size; have := HA.out.size; first | omega | (simp at *; omega)
              have hg2 : g < w2.heap.size := by omega
              have hh2 : h < w2.heap.size := by omega
              have HA : Hid (Below w.heap.size w w2) := HB2
              clear hb
              go_wp2_with fail
              have HA : Hid (Below w.heap.size w (w2.alloc (.cells #[.slice (some ⟨g, o, none⟩) n cp, .int .i64 0, .int .i64 0] 24))) := Lib.hid (HB2.out.alloc HB2.out.size _)
              refine (partner_any C _ _ _ k _ (HCI.out.below HA.out) (HT.out.below HA.out)).mono ?_
              rintro e w3 ⟨rfl, hb⟩
              rw [HP.out]
              have HB3 := Lib.hid (below_next HA.out (Nat.le_refl _) hb)
              obtain ⟨bc3, bf3⟩ := bcell hb
              have hz3 : w.heap.size < w3.heap.size := by have := hb.size; have := HA.out.size; first | omega | (simp at *; omega)
              have hg3 : g < w3.heap.size := by omega
              have hh3 : h < w3.heap.size := by omega
              have HA : Hid (Below w.heap.size w w3) := HB3
              clear hb
              go_wp2_with fail
              go_ret
              exact ⟨rfl, HA.out⟩
            | false =>
              obtain rfl : 0 = R := hR
              have HA : Hid (Below w.heap.size w (w.alloc (.cells #[.int .u8 32, .int .i64 xa, .int .i64 xb, .int .i64 xc, .int .i64 xd] 45))) := Lib.hid (below_alloc w _)
              go_enter Tryd.func39, Tryd.ntmps39
              go_wp2_with fail
              refine (valid_any ⟨_, xa, xb, xc, xd⟩ _ (HT.out.below HA.out)).mono ?_
              rintro e w1 ⟨rfl, hb⟩
              rw [HV.out]
              have HB1 := Lib.hid (below_next HA.out (Nat.le_refl _) hb)
              obtain ⟨bc1, bf1⟩ := bcell hb
              have hz1 : w.heap.size < w1.heap.size := by have := hb.size; have := HA.out.size; first | omega | (simp at *; omega)
              have hg1 : g < w1.heap.size := by omega
              have hh1 : h < w1.heap.size := by omega
              have HA : Hid (Below w.heap.size w w1) := HB1
              clear hb
              go_wp2_with fail
              refine (target_any ⟨_, xa, xb, xc, xd⟩ _).mono ?_
              rintro e w2 ⟨rfl, hb⟩
              rw [HS.out]
              have HB2 := Lib.hid (below_next HA.out (Nat.le_refl _) hb)
              obtain ⟨bc2, bf2⟩ := bcell hb
              have hz2 : w.heap.size < w2.heap.size := by have := hb.size; have := HA.out.size; first | omega | (simp at *; omega)
              have hg2 : g < w2.heap.size := by omega
              have hh2 : h < w2.heap.size := by omega
              have HA : Hid (Below w.heap.size w w2) := HB2
              clear hb
              go_wp2_with fail
              have HA : Hid (Below w.heap.size w (w2.alloc (.cells #[.slice (some ⟨g, o, none⟩) n cp, .int .i64 0, .int .i64 0] 24))) := Lib.hid (HB2.out.alloc HB2.out.size _)
              refine (partner_any C _ _ _ k _ (HCI.out.below HA.out) (HT.out.below HA.out)).mono ?_
              rintro e w3 ⟨rfl, hb⟩
              rw [HP.out]
              have HB3 := Lib.hid (below_next HA.out (Nat.le_refl _) hb)
              obtain ⟨bc3, bf3⟩ := bcell hb
              have hz3 : w.heap.size < w3.heap.size := by have := hb.size; have := HA.out.size; first | omega | (simp at *; omega)
              have hg3 : g < w3.heap.size := by omega
              have hh3 : h < w3.heap.size := by omega
              have HA : Hid (Below w.heap.size w w3) := HB3
              clear hb
              go_wp2_with fail
              go_quiet ((first | (go_at_call 34; exact Calls.quiet_of_same (isjump_q HJ.out _)) | (go_at_call 35; exact Calls.quiet_of_same (island_q HL.out _))))
              go_wp2
              go_ret
              exact ⟨rfl, drewN_below HA.out _⟩
          have e32 : ((xo : Int) == 32) = false := by simp; omega
          have e32' : (xo == 32) = false := by simpa using h32
          rw [e32', Bool.false_and, if_neg (by decide)] at hR
          clear h32 e32'
          cases hj' : jumpB xo with
          | true =>
            have HJ := Lib.hid hj'
            rw [hj', Bool.true_or, Bool.true_and] at hR
            clear hj'
            by_cases hrr : rk = rj
            · subst hrr
              obtain rfl : 0 = R := by simpa using hR
              have HL : Hid (landB xo = landB xo) := Lib.hid rfl
              have HA : Hid (Below w.heap.size w (w.alloc (.cells #[.int .u8 xo, .int .i64 xa, .int .i64 xb, .int .i64 xc, .int .i64 xd] 45))) := Lib.hid (below_alloc w _)
              go_enter Tryd.func39, Tryd.ntmps39
              go_wp2_with fail
              refine (valid_any ⟨_, xa, xb, xc, xd⟩ _ (HT.out.below HA.out)).mono ?_
              rintro e w1 ⟨rfl, hb⟩
              rw [HV.out]
              have HB1 := Lib.hid (below_next HA.out (Nat.le_refl _) hb)
              obtain ⟨bc1, bf1⟩ := bcell hb
              have hz1 : w.heap.size < w1.heap.size := by have := hb.size; have := HA.out.size; first | omega | (simp at *; omega)
              have hg1 : g < w1.heap.size := by omega
              have hh1 : h < w1.heap.size := by omega
              have HA : Hid (Below w.heap.size w w1) := HB1
              clear hb
              go_wp2_with fail
              refine (target_any ⟨_, xa, xb, xc, xd⟩ _).mono ?_
              rintro e w2 ⟨rfl, hb⟩
              rw [HS.out]
              have HB2 := Lib.hid (below_next HA.out (Nat.le_refl _) hb)
              obtain ⟨bc2, bf2⟩ := bcell hb
              have hz2 : w.heap.size < w2.heap.size := by have := hb.size; have := HA.out.size; first | omega | (simp at *; omega)
              have hg2 : g < w2.heap.size := by omega
              have hh2 : h < w2.heap.size := by omega
              have HA : Hid (Below w.heap.size w w2) := HB2
              clear hb
              go_wp2_with fail
              have HA : Hid (Below w.heap.size w (w2.alloc (.cells #[.slice (some ⟨g, o, none⟩) n cp, .int .i64 0, .int .i64 0] 24))) := Lib.hid (HB2.out.alloc HB2.out.size _)
              refine (partner_any C _ _ _ k _ (HCI.out.below HA.out) (HT.out.below HA.out)).mono ?_
              rintro e w3 ⟨rfl, hb⟩
              rw [HP.out]
              have HB3 := Lib.hid (below_next HA.out (Nat.le_refl _) hb)
              obtain ⟨bc3, bf3⟩ := bcell hb
              have hz3 : w.heap.size < w3.heap.size := by have := hb.size; have := HA.out.size; first | omega | (simp at *; omega)
              have hg3 : g < w3.heap.size := by omega
              have hh3 : h < w3.heap.size := by omega
              have HA : Hid (Below w.heap.size w w3) := HB3
              clear hb
              go_wp2_with fail
              go_quiet ((first | (go_at_call 34; exact Calls.quiet_of_same (isjump_q HJ.out _)) | (go_at_call 35; exact Calls.quiet_of_same (island_q HL.out _))))
              go_wp2
              go_ret
              exact ⟨rfl, drewN_below HA.out _⟩
            · have er : (rk != rj) = true := by simpa using hrr
              rw [er] at hR
              obtain rfl : 20 = R := hR
              have HL : Hid (landB xo = landB xo) := Lib.hid rfl
              clear hrr
              have HA : Hid (Below w.heap.size w (w.alloc (.cells #[.int .u8 xo, .int .i64 xa, .int .i64 xb, .int .i64 xc, .int .i64 xd] 45))) := Lib.hid (below_alloc w _)
              go_enter Tryd.func39, Tryd.ntmps39
              go_wp2_with fail
              refine (valid_any ⟨_, xa, xb, xc, xd⟩ _ (HT.out.below HA.out)).mono ?_
              rintro e w1 ⟨rfl, hb⟩
              rw [HV.out]
              have HB1 := Lib.hid (below_next HA.out (Nat.le_refl _) hb)
              obtain ⟨bc1, bf1⟩ := bcell hb
              have hz1 : w.heap.size < w1.heap.size := by have := hb.size; have := HA.out.size; first | omega | (simp at *; omega)
              have hg1 : g < w1.heap.size := by omega
              have hh1 : h < w1.heap.size := by omega
              have HA : Hid (Below w.heap.size w w1) := HB1
              clear hb
              go_wp2_with fail
              refine (target_any ⟨_, xa, xb, xc, xd⟩ _).mono ?_
              rintro e w2 ⟨rfl, hb⟩
              rw [HS.out]
              have HB2 := Lib.hid (below_next HA.out (Nat.le_refl _) hb)
              obtain ⟨bc2, bf2⟩ := bcell hb
              have hz2 : w.heap.size < w2.heap.size := by have := hb.size; have := HA.out.size; first | omega | (simp at *; omega)
              have hg2 : g < w2.heap.size := by omega
              have hh2 : h < w2.heap.size := by omega
              have HA : Hid (Below w.heap.size w w2) := HB2
              clear hb
              go_wp2_with fail
              have HA : Hid (Below w.heap.size w (w2.alloc (.cells #[.slice (some ⟨g, o, none⟩) n cp, .int .i64 0, .int .i64 0] 24))) := Lib.hid (HB2.out.alloc HB2.out.size _)
              refine (partner_any C _ _ _ k _ (HCI.out.below HA.out) (HT.out.below HA.out)).mono ?_
              rintro e w3 ⟨rfl, hb⟩
              rw [HP.out]
              have HB3 := Lib.hid (below_next HA.out (Nat.le_refl _) hb)
              obtain ⟨bc3, bf3⟩ := bcell hb
              have hz3 : w.heap.size < w3.heap.size := by have := hb.size; have := HA.out.size; first | omega | (simp at *; omega)
              have hg3 : g < w3.heap.size := by omega
              have hh3 : h < w3.heap.size := by omega
              have HA : Hid (Below w.heap.size w w3) := HB3
              clear hb
              go_wp2_with fail
              go_quiet ((first | (go_at_call 34; exact Calls.quiet_of_same (isjump_q HJ.out _)) | (go_at_call 35; exact Calls.quiet_of_same (island_q HL.out _))))
              go_wp2
              go_ret
              exact ⟨rfl, drewN_below HA.out _⟩
          | false =>
            have HJ := Lib.hid hj'
            rw [hj', Bool.false_or] at hR
            clear hj'
            cases hl' : landB xo with
            | true =>
              have HL := Lib.hid hl'
              rw [hl', Bool.true_and] at hR
              clear hl'
              by_cases hrr : rk = rj
              · subst hrr
                obtain rfl : 0 = R := by simpa using hR
                have HA : Hid (Below w.heap.size w (w.alloc (.cells #[.int .u8 xo, .int .i64 xa, .int .i64 xb, .int .i64 xc, .int .i64 xd] 45))) := Lib.hid (below_alloc w _)
                go_enter Tryd.func39, Tryd.ntmps39
                go_wp2_with fail
                refine (valid_any ⟨_, xa, xb, xc, xd⟩ _ (HT.out.below HA.out)).mono ?_
                rintro e w1 ⟨rfl, hb⟩
                rw [HV.out]
                have HB1 := Lib.hid (below_next HA.out (Nat.le_refl _) hb)
                obtain ⟨bc1, bf1⟩ := bcell hb
                have hz1 : w.heap.size < w1.heap.size := by have := hb.size; have := HA.out.size; first | omega | (simp at *; omega)
                have hg1 : g < w1.heap.size := by omega
                have hh1 : h < w1.heap.size := by omega
                have HA : Hid (Below w.heap.size w w1) := HB1
                clear hb
                go_wp2_with fail
                refine (target_any ⟨_, xa, xb, xc, xd⟩ _).mono ?_
                rintro e w2 ⟨rfl, hb⟩
                rw [HS.out]
                have HB2 := Lib.hid (below_next HA.out (Nat.le_refl _) hb)
                obtain ⟨bc2, bf2⟩ := bcell hb
                have hz2 : w.heap.size < w2.heap.size := by have := hb.size; have := HA.out.size; first | omega | (simp at *; omega)
                have hg2 : g < w2.heap.size := by omega
                have hh2 : h < w2.heap.size := by omega
                have HA : Hid (Below w.heap.size w w2) := HB2
                clear hb
                go_wp2_with fail
                have HA : Hid (Below w.heap.size w (w2.alloc (.cells #[.slice (some ⟨g, o, none⟩) n cp, .int .i64 0, .int .i64 0] 24))) := Lib.hid (HB2.out.alloc HB2.out.size _)
                refine (partner_any C _ _ _ k _ (HCI.out.below HA.out) (HT.out.below HA.out)).mono ?_
                rintro e w3 ⟨rfl, hb⟩
                rw [HP.out]
                have HB3 := Lib.hid (below_next HA.out (Nat.le_refl _) hb)
                obtain ⟨bc3, bf3⟩ := bcell hb
                have hz3 : w.heap.size < w3.heap.size := by have := hb.size; have := HA.out.size; first | omega | (simp at *; omega)
                have hg3 : g < w3.heap.size := by omega
                have hh3 : h < w3.heap.size := by omega
                have HA : Hid (Below w.heap.size w w3) := HB3
                clear hb
                go_wp2_with fail
                go_quiet ((first | (go_at_call 34; exact Calls.quiet_of_same (isjump_q HJ.out _)) | (go_at_call 35; exact Calls.quiet_of_same (island_q HL.out _))))
                go_wp2
                go_ret
                exact ⟨rfl, drewN_below HA.out _⟩
              · have er : (rk != rj) = true := by simpa using hrr
                rw [er] at hR
                obtain rfl : 20 = R := hR
                clear hrr
                have HA : Hid (Below w.heap.size w (w.alloc (.cells #[.int .u8 xo, .int .i64 xa, .int .i64 xb, .int .i64 xc, .int .i64 xd] 45))) := Lib.hid (below_alloc w _)
                go_enter Tryd.func39, Tryd.ntmps39
                go_wp2_with fail
                refine (valid_any ⟨_, xa, xb, xc, xd⟩ _ (HT.out.below HA.out)).mono ?_
                rintro e w1 ⟨rfl, hb⟩
                rw [HV.out]
                have HB1 := Lib.hid (below_next HA.out (Nat.le_refl _) hb)
                obtain ⟨bc1, bf1⟩ := bcell hb
                have hz1 : w.heap.size < w1.heap.size := by have := hb.size; have := HA.out.size; first | omega | (simp at *; omega)
                have hg1 : g < w1.heap.size := by omega
                have hh1 : h < w1.heap.size := by omega
                have HA : Hid (Below w.heap.size w w1) := HB1
                clear hb
                go_wp2_with fail
                refine (target_any ⟨_, xa, xb, xc, xd⟩ _).mono ?_
                rintro e w2 ⟨rfl, hb⟩
                rw [HS.out]
                have HB2 := Lib.hid (below_next HA.out (Nat.le_refl _) hb)
                obtain ⟨bc2, bf2⟩ := bcell hb
                have hz2 : w.heap.size < w2.heap.size := by have := hb.size; have := HA.out.size; first | omega | (simp at *; omega)
                have hg2 : g < w2.heap.size := by omega
                have hh2 : h < w2.heap.size := by omega
                have HA : Hid (Below w.heap.size w w2) := HB2
                clear hb
                go_wp2_with fail
                have HA : Hid (Below w.heap.size w (w2.alloc (.cells #[.slice (some ⟨g, o, none⟩) n cp, .int .i64 0, .int .i64 0] 24))) := Lib.hid (HB2.out.alloc HB2.out.size _)
                refine (partner_any C _ _ _ k _ (HCI.out.below HA.out) (HT.out.below HA.out)).mono ?_
                rintro e w3 ⟨rfl, hb⟩
                rw [HP.out]
                have HB3 := Lib.hid (below_next HA.out (Nat.le_refl _) hb)
                obtain ⟨bc3, bf3⟩ := bcell hb
                have hz3 : w.heap.size < w3.heap.size := by have := hb.size; have := HA.out.size; first | omega | (simp at *; omega)
                have hg3 : g < w3.heap.size := by omega
                have hh3 : h < w3.heap.size := by omega
                have HA : Hid (Below w.heap.size w w3) := HB3
                clear hb
                go_wp2_with fail
                go_quiet ((first | (go_at_call 34; exact Calls.quiet_of_same (isjump_q HJ.out _)) | (go_at_call 35; exact Calls.quiet_of_same (island_q HL.out _))))
                go_wp2
                go_ret
                exact ⟨rfl, drewN_below HA.out _⟩
            | false =>
              have HL := Lib.hid hl'
              rw [hl', Bool.false_and] at hR
              obtain rfl : 0 = R := hR
              clear hl'

              have HA : Hid (Below w.heap.size w (w.alloc (.cells #[.int .u8 xo, .int .i64 xa, .int .i64 xb, .int .i64 xc, .int .i64 xd] 45))) := Lib.hid (below_alloc w _)
              go_enter Tryd.func39, Tryd.ntmps39
              go_wp2_with fail
              refine (valid_any ⟨_, xa, xb, xc, xd⟩ _ (HT.out.below HA.out)).mono ?_
              rintro e w1 ⟨rfl, hb⟩
              rw [HV.out]
              have HB1 := Lib.hid (below_next HA.out (Nat.le_refl _) hb)
              obtain ⟨bc1, bf1⟩ := bcell hb
              have hz1 : w.heap.size < w1.heap.size := by have := hb.size; have := HA.out.size; first | omega | (simp at *; omega)
              have hg1 : g < w1.heap.size := by omega
              have hh1 : h < w1.heap.size := by omega
              have HA : Hid (Below w.heap.size w w1) := HB1
              clear hb
              go_wp2_with fail
              refine (target_any ⟨_, xa, xb, xc, xd⟩ _).mono ?_
              rintro e w2 ⟨rfl, hb⟩
              rw [HS.out]
              have HB2 := Lib.hid (below_next HA.out (Nat.le_refl _) hb)
              obtain ⟨bc2, bf2⟩ := bcell hb
              have hz2 : w.heap.size < w2.heap.size := by have := hb.size; have := HA.out.size; first | omega | (simp at *; omega)
              have hg2 : g < w2.heap.size := by omega
              have hh2 : h < w2.heap.size := by omega
              have HA : Hid (Below w.heap.size w w2) := HB2
              clear hb
              go_wp2_with fail
              have HA : Hid (Below w.heap.size w (w2.alloc (.cells #[.slice (some ⟨g, o, none⟩) n cp, .int .i64 0, .int .i64 0] 24))) := Lib.hid (HB2.out.alloc HB2.out.size _)
              refine (partner_any C _ _ _ k _ (HCI.out.below HA.out) (HT.out.below HA.out)).mono ?_
              rintro e w3 ⟨rfl, hb⟩
              rw [HP.out]
              have HB3 := Lib.hid (below_next HA.out (Nat.le_refl _) hb)
              obtain ⟨bc3, bf3⟩ := bcell hb
              have hz3 : w.heap.size < w3.heap.size := by have := hb.size; have := HA.out.size; first | omega | (simp at *; omega)
              have hg3 : g < w3.heap.size := by omega
              have hh3 : h < w3.heap.size := by omega
              have HA : Hid (Below w.heap.size w w3) := HB3
              clear hb
              go_wp2_with fail
              go_quiet ((first | (go_at_call 34; exact Calls.quiet_of_same (isjump_q HJ.out _)) | (go_at_call 35; exact Calls.quiet_of_same (island_q HL.out _))))
              go_wp2
              go_ret
              exact ⟨rfl, drewN_below HA.out _⟩

end Go.Proofs.YtichiccohmeecaaDoor
