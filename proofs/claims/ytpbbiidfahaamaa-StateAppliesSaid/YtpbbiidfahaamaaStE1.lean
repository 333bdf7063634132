/- Walks: appendBytes, appendList. -/
import Derived.Test.YtpbbiidfahaamaaStW6
namespace Go.Proofs.Ytpbbiidfahaamaa
open Go.RowKit

def bytesV (l : List UInt8) : List Value := l.map fun b => Value.int .u8 b.toNat

theorem byteInfo : (Try.prog.info? 5).map (fun i => (i.zero, i.size, i.bytes)) = some (some (.int .u8 0), 1, 1) := by kernel_rfl

def byteAt (n : Int) (size i : Nat) : UInt8 := UInt8.ofNat ((n / 2 ^ (8 * (size - 1 - i))) % 256).toNat
def bytesOf (n : Int) (size : Nat) : List UInt8 := (List.range size).map (byteAt n size)

theorem byteAt_int (n : Int) (size i : Nat) : ((byteAt n size i).toNat : Int) = n / 2 ^ (8 * (size - 1 - i)) % 256 := by
  unfold byteAt
  generalize n / 2 ^ (8 * (size - 1 - i)) = x
  have h1 : 0 ≤ x % 256 := Int.emod_nonneg _ (by decide)
  have h2 : x % 256 < 256 := Int.emod_lt_of_pos _ (by decide)
  rw [UInt8.toNat_ofNat']
  omega

set_option maxRecDepth 100000 in
set_option maxHeartbeats 1000000 in
theorem appBytes_any (base : Nat) (bs : List UInt8) (v : Value) (n : Int) (size : Nat) (hs : size ≤ 8) (w : World) (h : w.ownsRow base 5 1 v bs.length (bytesV bs)) (hb : base ≤ w.heap.size) (hl : bs.length ≤ 1099511627776) :
    Calls Try.prog 44 #[v, .int .i64 n, .int .i64 size] w fun e w' => ∃ u, e = .returned u ∧ w'.ownsRow base 5 1 u (bs ++ bytesOf n size).length (bytesV (bs ++ bytesOf n size)) ∧ Below base w w' := by
  obtain ⟨i0, hi, hz0, hz1, hz2⟩ := info_parts byteInfo
  have H := Lib.hid h
  have hs' : (size : Int) ≤ 8 := by omega
  clear h
  go_enter Try.func44, Try.ntmps44
  go_wp2
  go_loopg [0, 9] size (fun q u i wr => ∃ k : Nat, k + q = size ∧ i = .int .i64 k ∧ wr.ownsRow base 5 1 u (bs ++ (bytesOf n size).take k).length (bytesV (bs ++ (bytesOf n size).take k)) ∧ Below base w wr)
  case atStart => exact ⟨0, by omega, rfl, by simpa using H.out, Below.refl _ _⟩
  case round =>
    obtain ⟨k, hk, rfl, hown, hbw⟩ := hrel
    have Hk := Lib.hid hk
    have hkn : k ≤ size := by omega
    have Hown := Lib.hid hown
    have Hb := Lib.hid hbw
    clear hk hown hbw
    by_cases hlt : k < size
    · have hlt' : (k : Int) < (size : Int) := by omega
      have f1 : IntKind.i64.wrap ((size : Int) - 1) = (size : Int) - 1 := IntWalk.i64_in _ (by omega)
      have f2 : IntKind.i64.wrap ((size : Int) - 1 - (k : Int)) = (size : Int) - 1 - (k : Int) := IntWalk.i64_in _ (by omega)
      have f3 : IntKind.i64.wrap (8 * ((size : Int) - 1 - (k : Int))) = 8 * ((size : Int) - 1 - (k : Int)) := IntWalk.i64_in _ (by omega)
      have hbyte : ((byteAt n size k).toNat : Int) = n / 2 ^ (8 * (size - 1 - k)) % 256 := byteAt_int n size k
      have HBY := Lib.hid hbyte
      have hlen : (bs ++ (bytesOf n size).take k).length ≤ 1099511627784 := by simp [bytesOf]; omega
      have htk : (bytesOf n size).take (k + 1) = (bytesOf n size).take k ++ [byteAt n size k] := by
        rw [List.take_add_one]
        congr 1
        simp [bytesOf, hlt]
      have HLEN := Lib.hid hlen
      have HTK := Lib.hid htk
      have hsz := Hb.out.size
      clear hbyte hlen htk
      generalize (bytesOf n size).take k = T at *
      go_wp2_with (at_builtin; refine wpList_append_own _ rfl (.tmp 12) (.tmp 21) 47 rfl base 5 i0 (.int .u8 0) 1 1 Try.underlying47 hi hz0 hz1 hz2 rfl (by decide) _ _ _ rfl (Hown.out.alloc _) ⟨wr.heap.size, 0, none⟩ 1 1 [.int .u8 (n / 2 ^ (8 * (size - 1 - k)) % 256)] rfl rfl ?c1 ?c2 ?c3 ?c4 ?c5 ?_)
      case c1 => exact cell_one_new _ _ _
      case c2 => intro u hu; simp only [List.mem_cons, List.not_mem_nil, or_false] at hu; rcases hu with rfl; rfl
      case c3 => have := HLEN.out; unfold maxLen; omega
      case c4 => have := HLEN.out; omega
      case c5 => simp; omega
      intro v' w1 hown1 hgrow _
      have hb1 : Below base w w1 := (Hb.out.alloc (by omega) _).grown hgrow (by simp; omega) (fun j hj => (Hown.out.lt j hj).1)
      clear hgrow Hown
      have Hown1 := Lib.hid hown1
      have Hb1 := Lib.hid hb1
      clear hown1 hb1
      go_wp2
      have hk := Hk.out
      go_roundg (size - (k + 1))
      case measure => omega
      case rel =>
        refine ⟨k + 1, by omega, by go_num, ?_, Hb1.out⟩
        have e : bytesV (bs ++ (T ++ [byteAt n size k])) = bytesV (bs ++ T) ++ [.int .u8 (n / 2 ^ (8 * (size - 1 - k)) % 256)] := by
          rw [← HBY.out]
          simp [bytesV]
        rw [HTK.out, e]
        have e2 : (bs ++ (T ++ [byteAt n size k])).length = (bs ++ T).length + 1 := by simp; omega
        rw [e2, List.length_append]
        exact Hown1.out
    · have hge : ¬ (k : Int) < (size : Int) := by omega
      have hown := Hown.out
      rw [List.take_of_length_le (by simp [bytesOf]; omega), List.length_append] at hown
      have HO := Lib.hid hown
      clear hown Hown
      go_wp2
      go_ret
      exact ⟨_, rfl, HO.out, Hb.out⟩

def bytesL (l : List Int) : List UInt8 := l.flatMap (fun n => bytesOf n 8)
theorem bytesL_take {l : List Int} {k : Nat} {x : Int} (h : l[k]? = some x) : bytesL (l.take (k + 1)) = bytesL (l.take k) ++ bytesOf x 8 := by
  have hk : k < l.length := by
    rcases Nat.lt_or_ge k l.length with hh | hh
    · exact hh
    · rw [List.getElem?_eq_none hh] at h; cases h
  have e : l[k] = x := by rw [List.getElem?_eq_getElem hk] at h; exact Option.some.inj h
  unfold bytesL
  rw [List.take_succ_eq_append_getElem hk, e, List.flatMap_append]
  simp
theorem bytesL_len (l : List Int) : (bytesL l).length = 8 * l.length := by
  induction l with
  | nil => rfl
  | cons x r ih =>
    have : bytesL (x :: r) = bytesOf x 8 ++ bytesL r := rfl
    rw [this, List.length_append, ih, List.length_cons]
    simp [bytesOf]
    omega

set_option maxRecDepth 100000 in
set_option maxHeartbeats 1000000 in
theorem appList_any (base : Nat) (bs : List UInt8) (v u : Value) (l : List Int) (wb w : World) (h : w.ownsRow base 5 1 v bs.length (bytesV bs)) (hb : base ≤ w.heap.size) (hl : bs.length ≤ 549755813888) (hn : l.length ≤ 34359738368)
    (hu : IntsAt wb u l) (hwb : wb.heap.size ≤ base) (hbw : Below base wb w) :
    Calls Try.prog 45 #[v, u] w fun e w' => ∃ u, e = .returned u ∧ w'.ownsRow base 5 1 u (bs ++ bytesL l).length (bytesV (bs ++ bytesL l)) ∧ Below base w w' := by
  obtain ⟨⟨a, c, rfl, _, _, hc⟩, _⟩ := hu
  obtain ⟨n, hnn⟩ : ∃ n, n = l.length := ⟨_, rfl⟩
  rw [← hnn] at hc hn ⊢
  have HC := Lib.hid hc
  have HN := Lib.hid hnn
  have H := Lib.hid h
  have HBW := Lib.hid hbw
  have hn63 : n ≤ 9223372036854775807 := by omega
  clear h hc hnn hbw
  go_enter Try.func45, Try.ntmps45
  go_wp2
  go_loopg [0, 9] n (fun q u i wr => ∃ k : Nat, k + q = n ∧ i = .int .i64 k ∧ wr.ownsRow base 5 1 u (bs ++ bytesL (l.take k)).length (bytesV (bs ++ bytesL (l.take k))) ∧ Below base w wr)
  case atStart => exact ⟨0, by omega, rfl, by simpa [bytesL] using H.out, Below.refl _ _⟩
  case round =>
    obtain ⟨k, hk, rfl, hown, hbw⟩ := hrel
    have Hk := Lib.hid hk
    have hkn : k ≤ n := by omega
    have Hown := Lib.hid hown
    have Hb := Lib.hid hbw
    clear hk hown hbw
    by_cases hlt : k < n
    · have hlt' : (k : Int) < (n : Int) := by omega
      obtain ⟨g, o, rfl, hg, hq⟩ := HC.out (by omega)
      obtain ⟨x, hx⟩ := get_lt HN.out hlt
      have m0 := cell_below (HBW.out.trans Hb.out) (by omega) (hq k x hx)
      have HT := Lib.hid (bytesL_take hx)
      have HLE : Hid ((bs ++ bytesL (l.take k)).length ≤ 1099511627776) := by
        unfold Hid
        rw [List.length_append, bytesL_len, List.length_take]
        omega
      have hsz := Hb.out.size
      clear hq hx
      go_wp2_with fail
      refine (appBytes_any base _ _ x 8 (by omega) _ Hown.out (by omega) HLE.out).mono ?_
      rintro e w2 ⟨u2, rfl, hown2, hb2⟩
      rw [List.append_assoc, ← HT.out] at hown2
      have Hown2 := Lib.hid hown2
      have Hb2 := Lib.hid (Hb.out.trans hb2)
      clear hown2 hb2
      go_wp2
      have hk := Hk.out
      go_roundg (n - (k + 1))
      case measure => omega
      case rel => exact ⟨k + 1, by omega, by go_num, Hown2.out, Hb2.out⟩
    · have hge : ¬ (k : Int) < (n : Int) := by omega
      have hown := Hown.out
      rw [List.take_of_length_le (by rw [← HN.out]; omega), List.length_append] at hown
      have HO := Lib.hid hown
      clear hown Hown
      go_wp2
      go_ret
      exact ⟨_, rfl, HO.out, Hb.out⟩

end Go.Proofs.Ytpbbiidfahaamaa
