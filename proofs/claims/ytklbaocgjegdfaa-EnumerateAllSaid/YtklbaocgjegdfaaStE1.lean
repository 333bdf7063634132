/- Walks: appendBytes, appendList. -/
import Derived.Test.YtklbaocgjegdfaaStW6
namespace Go.Proofs.Ytklbaocgjegdfaa
open Go.RowKit

def bytesV (l : List UInt8) : List Value := l.map fun b => Value.int .u8 b.toNat

theorem byteInfo : (Try.prog.info? 5).map (fun i => (i.zero, i.size, i.bytes)) = some (some (.int .u8 0), 1, 1) := by kernel_rfl

def byteAt (n : Int) (size i : Nat) : UInt8 := UInt8.ofNat ((n / 2 ^ (8 * (size - 1 - i))) % 256).toNat
def bytesOf (n : Int) (size : Nat) : List UInt8 := (List.range size).map (byteAt n size)

theorem byteAt_int (n : Int) (size i : Nat) : ((byteAt n size i).toNat : Int) = n / 2 ^ (8 * (size - 1 - i)) % 256 := by
  unfold byteAt
  generalize n / 2 ^ (8 * (size - 1 - i)) = x
  have h1 : 0 ≤ x % 256 := Int.emod_nonneg _ (by decide)
  have h2 : x % 256 < 256 := Int.emod_lt_of_pos _ (by decide)
  rw [UInt8.toNat_ofNat']
  omega

def bytesL (l : List Int) : List UInt8 := l.flatMap (fun n => bytesOf n 8)
theorem bytesL_take {l : List Int} {k : Nat} {x : Int} (h : l[k]? = some x) : bytesL (l.take (k + 1)) = bytesL (l.take k) ++ bytesOf x 8 := by
  have hk : k < l.length := by
    rcases Nat.lt_or_ge k l.length with hh | hh
    · exact hh
    · rw [List.getElem?_eq_none hh] at h; cases h
  have e : l[k] = x := by rw [List.getElem?_eq_getElem hk] at h; exact Option.some.inj h
  unfold bytesL
  rw [List.take_succ_eq_append_getElem hk, e, List.flatMap_append]
  simp
theorem bytesL_len (l : List Int) : (bytesL l).length = 8 * l.length := by
  induction l with
  | nil => rfl
  | cons x r ih =>
    have : bytesL (x :: r) = bytesOf x 8 ++ bytesL r := rfl
    rw [this, List.length_append, ih, List.length_cons]
    simp [bytesOf]
    omega

end Go.Proofs.Ytklbaocgjegdfaa
