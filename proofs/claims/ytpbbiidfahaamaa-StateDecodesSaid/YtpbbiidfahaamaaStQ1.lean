/- Walks of the reference's Number, Numbers. -/
import Derived.Test.YtpbbiidfahaamaaStN2
import Derived.Test.YtpbbiidfahaamaaStP1
namespace Go.Proofs.Ytpbbiidfahaamaa
open Go.RowKit

theorem byteAt_val (n : Int) (k : Nat) {x : Int} (h : x = n / 2 ^ (8 * (8 - 1 - k)) % 256) : Value.int .u8 x = Value.int .u8 ((byteAt n 8 k).toNat : Int) := by
  rw [byteAt_int, h]

theorem u64_byte (n : Int) (j : Nat) (hj : j ≤ 7) : IntKind.u64.wrap n / 2 ^ (8 * j) % 256 = n / 2 ^ (8 * j) % 256 := by
  rw [IntKind.wrap_u64]
  match j, hj with
  | 0, _ => simp only [Nat.mul_zero, Int.pow_zero]; omega
  | 1, _ => have e : (2 : Int) ^ (8 * 1) = 256 := by decide
            rw [e]; omega
  | 2, _ => have e : (2 : Int) ^ (8 * 2) = 65536 := by decide
            rw [e]; omega
  | 3, _ => have e : (2 : Int) ^ (8 * 3) = 16777216 := by decide
            rw [e]; omega
  | 4, _ => have e : (2 : Int) ^ (8 * 4) = 4294967296 := by decide
            rw [e]; omega
  | 5, _ => have e : (2 : Int) ^ (8 * 5) = 1099511627776 := by decide
            rw [e]; omega
  | 6, _ => have e : (2 : Int) ^ (8 * 6) = 281474976710656 := by decide
            rw [e]; omega
  | 7, _ => have e : (2 : Int) ^ (8 * 7) = 72057594037927936 := by decide
            rw [e]; omega

theorem bytes_take {n : Int} {k : Nat} (h : k < 8) : (bytesOf n 8).take (k + 1) = (bytesOf n 8).take k ++ [byteAt n 8 k] := by
  rw [List.take_add_one]
  congr 1
  simp [bytesOf, h]

set_option maxRecDepth 100000 in
set_option maxHeartbeats 4000000 in
theorem rnumber_any (n : Int) (w : World) :
    Calls Try.prog 57 #[.int .i64 n] w fun e w' => ∃ u, e = .returned u ∧ w'.ownsRow w.heap.size 5 1 u 8 (bytesV (bytesOf n 8)) ∧ Below w.heap.size w w' := by
  obtain ⟨i0, hi, hz0, hz1, hz2⟩ := info_parts byteInfo
  go_enter Try.func57, Try.ntmps57
  go_wp2
  go_loopg [3, 4] 8 (fun q u i wr => ∃ (r : Nat) (x : Int), r = q ∧ r ≤ 8 ∧ i = .int .i64 x ∧ x = (r : Int) - 1 ∧ wr.ownsRow w.heap.size 5 1 u (8 - r) (bytesV ((bytesOf n 8).take (8 - r))) ∧ Below w.heap.size w wr)
  case atStart => exact ⟨8, 7, rfl, by omega, rfl, by omega, World.ownsRow_nil _ _ _ _, Below.refl _ _⟩
  case round =>
    obtain ⟨r, x, hr, hr8, rfl, hx, hown, hb⟩ := hrel
    have HR := Lib.hid hr
    have Hown := Lib.hid hown
    have Hb := Lib.hid hb
    have hsz := hb.size
    clear hr hown hb
    cases r with
    | zero =>
      obtain rfl : x = -1 := by omega
      have hown := Hown.out
      rw [Nat.sub_zero, List.take_of_length_le (by simp [bytesOf])] at hown
      have HO := Lib.hid hown
      clear hx hown Hown
      go_wp2
      go_ret
      exact ⟨_, rfl, HO.out, Hb.out⟩
    | succ j =>
      obtain rfl : x = (j : Int) := by omega
      clear hx
      have hj7 : (j : Int) ≤ 7 := by omega
      have hT := bytes_take (n := n) (show 8 - (j + 1) < 8 by omega)
      have e1 : 8 - (j + 1) + 1 = 8 - j := by omega
      rw [e1] at hT
      have HT := Lib.hid hT
      clear hT e1
      have hval : Value.int .u8 (IntKind.u64.wrap n / 2 ^ (8 * j) % 256) = Value.int .u8 ((byteAt n 8 (8 - (j + 1))).toNat : Int) := by
        rw [byteAt_int, show 8 - 1 - (8 - (j + 1)) = j by omega, u64_byte n j (by omega)]
      have HVAL := Lib.hid hval
      have hm : 8 - (j + 1) ≤ 8 := by omega
      clear hval
      generalize hmm : 8 - (j + 1) = m at *
      have HM := Lib.hid hmm
      clear hmm
      go_wp2_with (at_builtin; refine wpList_append_own _ rfl (.tmp 9) (.tmp 16) 47 rfl w.heap.size 5 i0 (.int .u8 0) 1 1 Try.underlying47 hi hz0 hz1 hz2 rfl (by decide) _ _ _ rfl (Hown.out.alloc _) ⟨wr.heap.size, 0, none⟩ 1 1 [.int .u8 (IntKind.u64.wrap n / 2 ^ (8 * j) % 256)] rfl rfl ?c1 ?c2 ?c3 ?c4 ?c5 ?_)
      case c1 => exact cell_one_new _ _ _
      case c2 => intro u hu; simp only [List.mem_cons, List.not_mem_nil, or_false] at hu; rcases hu with rfl; rfl
      case c3 => unfold maxLen; omega
      case c4 => omega
      case c5 => simp; omega
      intro v' w1 hown1 hgrow _
      have hb1 := (Hb.out.alloc hsz (.cells #[.int .u8 (IntKind.u64.wrap n / 2 ^ (8 * j) % 256)] 5)).grown hgrow (by simp; omega) (fun j hj => (Hown.out.lt j hj).1)
      have Hown1 := Lib.hid hown1
      have Hb1 := Lib.hid hb1
      clear hgrow hown1 hb1
      go_wp2
      have hr := HR.out
      go_roundg j
      case measure => omega
      case rel =>
        refine ⟨j, _, rfl, by omega, rfl, rfl, ?_, Hb1.out⟩
        have e1 : 8 - j = m + 1 := by have := HM.out; omega
        rw [e1]
        have hT := HT.out
        rw [e1] at hT
        rw [hT]
        have e : bytesV ((bytesOf n 8).take m ++ [byteAt n 8 m]) = bytesV ((bytesOf n 8).take m) ++ [.int .u8 (IntKind.u64.wrap n / 2 ^ (8 * j) % 256)] := by
          rw [HVAL.out]; simp [bytesV]
        rw [e]
        exact Hown1.out
end Go.Proofs.Ytpbbiidfahaamaa
