/- Plain facts on wrapping sums, exclusive or, quotients and remainders; no program in sight. -/
import Derived.Test.YtgoaplmmeciamaaW1
namespace Go.Proofs.Ytgoaplmmeciamaa
open Go.RowKit

/-- the range of an int -/
def I64 (x : Int) : Prop := -9223372036854775808 ≤ x ∧ x ≤ 9223372036854775807

theorem i64_of_wf {x : Int} (h : (Lit.int .i64 x).wf = true) : I64 x := by
  simpa [I64, Lit.wf, IntKind.min, IntKind.max, IntKind.signed, IntKind.bits] using h
theorem u8_of_wf {x : Int} (h : (Lit.int .u8 x).wf = true) : 0 ≤ x ∧ x ≤ 255 := by
  simpa [Lit.wf, IntKind.min, IntKind.max, IntKind.signed, IntKind.bits] using h

theorem ofInt_inj {x z : Int} (hx : I64 x) (hz : I64 z) (h : BitVec.ofInt 64 x = BitVec.ofInt 64 z) : x = z := by
  have h' := congrArg BitVec.toInt h
  rw [BitVec.toInt_ofInt, BitVec.toInt_ofInt] at h'
  unfold I64 at hx hz
  rw [Int.bmod_def, Int.bmod_def] at h'
  have e : ((2 ^ 64 : Nat) : Int) = 18446744073709551616 := by decide
  rw [e] at h'
  omega

theorem wrap_toNat_inj {a b : BitVec 64} (h : IntKind.i64.wrap (a.toNat : Int) = IntKind.i64.wrap (b.toNat : Int)) : a = b := by
  have ha := a.isLt
  have hb := b.isLt
  rw [IntKind.wrap_i64, IntKind.wrap_i64] at h
  exact BitVec.eq_of_toNat_eq (by omega)

theorem ofInt_wrap (a : BitVec 64) : BitVec.ofInt 64 (IntKind.i64.wrap (a.toNat : Int)) = a := by
  have ha := a.isLt
  apply BitVec.eq_of_toNat_eq
  rw [BitVec.toNat_ofInt, IntKind.wrap_i64]
  have e : ((2 ^ 64 : Nat) : Int) = 18446744073709551616 := by decide
  rw [e]
  omega

theorem bits_xor (x y : Int) : bits .xor .i64 x y = IntKind.i64.wrap (((BitVec.ofInt 64 x ^^^ BitVec.ofInt 64 y).toNat : Nat) : Int) := rfl

theorem xor_inj {x z y : Int} (hx : I64 x) (hz : I64 z) (h : bits .xor .i64 x y = bits .xor .i64 z y) : x = z := by
  rw [bits_xor, bits_xor] at h
  have h1 := wrap_toNat_inj h
  have h2 := congrArg (· ^^^ BitVec.ofInt 64 y) h1
  simp only [BitVec.xor_assoc, BitVec.xor_self, BitVec.xor_zero] at h2
  exact ofInt_inj hx hz h2

theorem xor_back {x y : Int} (hx : I64 x) : bits .xor .i64 (bits .xor .i64 x y) y = x := by
  rw [bits_xor, bits_xor, ofInt_wrap, BitVec.xor_assoc, BitVec.xor_self, BitVec.xor_zero, BitVec.toNat_ofInt, IntKind.wrap_i64]
  have e : ((2 ^ 64 : Nat) : Int) = 18446744073709551616 := by decide
  rw [e]
  unfold I64 at hx
  omega

theorem add_inj {x z y : Int} (hx : I64 x) (hz : I64 z) (h : wrap64 (x + y) = wrap64 (z + y)) : x = z := by
  unfold wrap64 at h; unfold I64 at hx hz; omega
theorem sub_inj {x z y : Int} (hx : I64 x) (hz : I64 z) (h : wrap64 (x - y) = wrap64 (z - y)) : x = z := by
  unfold wrap64 at h; unfold I64 at hx hz; omega
theorem add_back {x y : Int} (hx : I64 x) : wrap64 (wrap64 (x + y) - y) = x := by
  unfold wrap64; unfold I64 at hx; omega
theorem sub_back {x y : Int} (hx : I64 x) : wrap64 (wrap64 (x - y) + y) = x := by
  unfold wrap64; unfold I64 at hx; omega

/-- an update by the same amount is injective -/
theorem updV_inj {k x z y : Int} (hx : I64 x) (hz : I64 z) (hk : updE k = 0) : (updV k x y == updV k z y) = (x == z) := by
  rw [Bool.eq_iff_iff, beq_iff_eq, beq_iff_eq]
  constructor
  · intro h
    unfold updE at hk
    unfold updV at h
    by_cases h1 : k = 40
    · rw [if_pos h1, if_pos h1] at h; exact add_inj hx hz h
    rw [if_neg h1, if_neg h1] at h
    by_cases h2 : k = 41
    · rw [if_pos h2, if_pos h2] at h; exact sub_inj hx hz h
    rw [if_neg h2, if_neg h2] at h
    by_cases h3 : k = 42
    · rw [if_pos h3, if_pos h3] at h; exact xor_inj hx hz h
    · exact absurd hk (by simp [h1, h2, h3])
  · rintro rfl; rfl

end Go.Proofs.Ytgoaplmmeciamaa
