/- Walks of the reader: number. -/
import Derived.Test.YtpbbiidfahaamaaStN2
import Derived.Test.YtpbbiidfahaamaaStP1
import Derived.Laws.BitsAllLaws
namespace Go.Proofs.Ytpbbiidfahaamaa
open Go.RowKit

def BytesAt (w : World) (v : Value) (l : List UInt8) : Prop :=
  SliceAt w v l.length (fun g o => ∀ (i : Nat) (b : UInt8), l[i]? = some b → w.cell? ⟨g, o + i, none⟩ = some (.int .u8 b.toNat))
theorem BytesAt.below {w w' : World} {v : Value} {l : List UInt8} (h : BytesAt w v l) {B : Nat} (hb : Below B w w') (hB : w.heap.size ≤ B) : BytesAt w' v l :=
  SliceAt.mono h hb.size (fun _ _ hg hq i x hx => cell_below hb (by omega) (hq i x hx))

/-- the reader's block: what is left to read (in the memory of W0), the error -/
def Rd (W0 w : World) (g : Nat) (l : List UInt8) (e : Nat) : Prop :=
  ∃ v, BytesAt W0 v l ∧ Blk w g 72 #[v, .int .i64 e]

theorem or_byte (a b : Nat) (h : b < 256) : (a * 256 ||| b) = a * 256 + b := by
  have := Nat.two_pow_add_eq_or_of_lt (i := 8) (by omega : b < 2 ^ 8) a
  have e : (2 : Nat) ^ 8 = 256 := by decide
  rw [e] at this
  rw [Nat.mul_comm a 256]
  exact this.symm

theorem valOf_lt8 {l : List UInt8} {k : Nat} (hk : k ≤ 7) : valOf (l.take k) < 72057594037927936 := by
  have h := valOf_lt (l.take k)
  have h2 : (l.take k).length ≤ 7 := by rw [List.length_take]; omega
  have h3 : 256 ^ (l.take k).length ≤ 256 ^ 7 := Nat.pow_le_pow_right (by decide) h2
  have e : 256 ^ 7 = 72057594037927936 := by decide
  omega

theorem valOf_take {l : List UInt8} {k : Nat} {b : UInt8} (h : l[k]? = some b) : valOf (l.take (k + 1)) = valOf (l.take k) * 256 + b.toNat := by
  rw [List.take_add_one, h]
  exact valOf_snoc _ _

theorem wrap_toI {v : Nat} (h : v < 18446744073709551616) : IntKind.i64.wrap (v : Int) = toI v := by
  rw [IntKind.wrap_i64]
  unfold toI
  split <;> omega

theorem wrap64_toI {v : Nat} (h : v < 18446744073709551616) : wrap64 (v : Int) = toI v := by
  unfold wrap64 toI
  split <;> omega

theorem BytesAt.drop {w : World} {a : Option Addr} {n c : Nat} {l : List UInt8} (h : BytesAt w (.slice a n c) l) (k : Nat) (hk : k ≤ l.length) (a' : Option Addr) (ha : a' = if c = k then a else a.map (·.add (k * 1))) :
    BytesAt w (.slice a' (n - k) (c - k)) (l.drop k) := by
  obtain ⟨a0, c0, he, h1, h2, h3⟩ := h
  obtain ⟨rfl, rfl, rfl⟩ := Value.slice.inj he
  refine ⟨a', c - k, by rw [List.length_drop], by rw [List.length_drop]; omega, by omega, fun hp => ?_⟩
  rw [List.length_drop] at hp
  obtain ⟨g, o, rfl, hg, hq⟩ := h3 (by omega)
  rw [if_neg (by omega)] at ha
  refine ⟨g, o + k, by rw [ha, Option.map_some, Go.WideShapes.add_plain, Nat.mul_one], hg, fun i b hb => ?_⟩
  rw [List.getElem?_drop] at hb
  have := hq _ b hb
  rwa [← Nat.add_assoc] at this

def NumOut (e : Nat) (l : List UInt8) (size : Nat) (n : Int) (l' : List UInt8) (e' : Nat) : Prop :=
  (e ≠ 0 ∧ n = 0 ∧ e' = e) ∨ (e = 0 ∧ l.length < size ∧ n = 0 ∧ e' = 4) ∨ (e = 0 ∧ size ≤ l.length ∧ e' = 0 ∧ n = toI (valOf (l.take size)) ∧ l' = l.drop size)

set_option maxRecDepth 100000 in
set_option maxHeartbeats 4000000 in
theorem number_any (W0 w : World) (g : Nat) (l : List UInt8) (e size : Nat) (hs1 : 1 ≤ size) (hs : size ≤ 8) (hb : Below W0.heap.size W0 w) (h : Rd W0 w g l e) :
    Calls Try.prog 56 #[.pointer (some ⟨g, 0, none⟩), .int .i64 size] w fun en w' => ∃ (n : Int) (l' : List UInt8) (e' : Nat), en = .returned (.int .i64 n) ∧ Rd W0 w' g l' e' ∧ w.grownBy w' (some g) ∧
      NumOut e l size n l' e' := by
  obtain ⟨v, hv, hblk⟩ := h
  have HV := Lib.hid hv
  have HK := Lib.hid hblk
  obtain ⟨a, c, rfl, hnc, hcm, hq⟩ := hv
  have b0 := hblk.cell 0
  have b1 := hblk.cell 1
  have z0 := hblk.free 0
  have z1 := hblk.free 1
  have hsI : (size : Int) ≤ 8 := by omega
  by_cases he : e = 0
  · subst he
    by_cases hlen : l.length < size
    · generalize hn : l.length = n at *
      have HLL : Hid (l.length < size) := by unfold Hid; rw [hn]; exact hlen
      have h1 : (n : Int) < (size : Int) := by omega
      clear hq hblk hn
      go_enter Try.func56, Try.ntmps56
      go_wp2
      go_ret
      have hk := HK.out.set 1 (.int .i64 4)
      exact ⟨0, l, 4, rfl, ⟨_, HV.out, hk⟩, gr_set (gr_refl _ _) _ _, .inr (.inl ⟨rfl, HLL.out, rfl, rfl⟩)⟩
    · have hsl : size ≤ l.length := by omega
      obtain ⟨gb, o, rfl, hgb, hcell⟩ := hq (by omega)
      have HCELL := Lib.hid hcell
      have HBW := Lib.hid hb
      generalize hn : l.length = n at *
      have HN := Lib.hid hn
      have h1 : ¬ (n : Int) < (size : Int) := by omega
      have h2 : (size : Int) ≤ (c : Int) := by omega
      have hc0 : ¬ c = 0 := by omega
      have hcm' : c ≤ 9223372036854775807 := by unfold maxLen at hcm; omega
      clear hq hcell hb hn hcm hblk
      rcases Nat.lt_or_ge size c with hcs | hcs
      case' inl =>
        have hcs' : ¬ c = size := by omega
        have HD := Lib.hid (HV.out.drop size (by rw [HN.out]; exact hsl) (some ⟨gb, o + size, none⟩) (by rw [if_neg hcs', Option.map_some, Go.WideShapes.add_plain, Nat.mul_one]))
      case' inr =>
        obtain rfl : size = c := by omega
        have hd0 := HV.out.drop size (by rw [HN.out]; exact hsl) (some ⟨gb, o, none⟩) (by rw [if_pos rfl])
        rw [show n - size = 0 by omega, Nat.sub_self] at hd0
        have HD := Lib.hid hd0
        clear hd0
      all_goals
        go_enter Try.func56, Try.ntmps56
        go_wp2
        go_loopg [5, 37] size (fun q n i wr => ∃ k : Nat, k + q = size ∧ i = .int .i64 k ∧ n = .int .u64 (valOf (l.take k) : Nat) ∧ wr = w)
        case atStart => exact ⟨0, by omega, rfl, rfl, rfl⟩
        case round =>
          obtain ⟨k, hk, rfl, rfl, rfl⟩ := hrel
          have Hk := Lib.hid hk
          have hks : k ≤ size := by omega
          clear hk
          by_cases hlt : k < size
          · have hlt' : (k : Int) < (size : Int) := by omega
            obtain ⟨b, hbk⟩ := get_lt HN.out.symm (show k < n by omega)
            have m0 := cell_below HBW.out hgb (HCELL.out k b hbk)
            have HT := Lib.hid (valOf_take hbk)
            have hV := valOf_lt8 (l := l) (show k ≤ 7 by omega)
            have hV1 : ((valOf (l.take k) : Nat) : Int) < 72057594037927936 := by omega
            generalize valOf (l.take k) = V at *
            have hb8 : b.toNat < 256 := b.toNat_lt
            clear hbk hV
            go_wp2
            have hk := Hk.out
            go_roundg (size - (k + 1))
            case measure => omega
            case rel =>
              refine ⟨k + 1, by omega, by go_num, ?_, rfl⟩
              have e1 : (V : Int) * 256 = ((V * 256 : Nat) : Int) := by omega
              rw [HT.out, e1, u64_or_nat _ _ (by omega) (by omega), or_byte V b.toNat hb8]
          · have hge : ¬ (k : Int) < (size : Int) := by omega
            have hke : k = size := by omega
            subst hke
            go_wp2
            go_ret
            refine ⟨_, rfl, l.drop k, 0, ⟨_, HD.out, HK.out.set 0 _⟩, gr_set (gr_refl _ _) _ _, .inr (.inr ⟨rfl, by rw [HN.out]; exact hsl, rfl, ?_, rfl⟩)⟩
            have hv := valOf_lt (l.take k)
            have h8 : (l.take k).length ≤ 8 := by rw [List.length_take]; omega
            have h9 : 256 ^ (l.take k).length ≤ 256 ^ 8 := Nat.pow_le_pow_right (by decide) h8
            have e : 256 ^ 8 = 18446744073709551616 := by decide
            exact wrap64_toI (by omega)
  · have he1 : ((e : Int) == 0) = false := by simp; omega
    have he2 : ((e : Int) != 0) = true := by simp; omega
    clear hq hblk
    go_enter Try.func56, Try.ntmps56
    go_wp2
    go_ret
    exact ⟨0, l, e, rfl, ⟨_, HV.out, HK.out⟩, gr_refl _ _, .inl ⟨he, rfl, rfl⟩⟩
end Go.Proofs.Ytpbbiidfahaamaa
