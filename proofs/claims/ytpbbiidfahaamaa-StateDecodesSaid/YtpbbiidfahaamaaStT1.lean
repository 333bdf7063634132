/- Walks of the reference's take, counted. -/
import Derived.Test.YtpbbiidfahaamaaStB3
import Derived.Deep.QuietTactic
import Derived.BigQuiet
namespace Go.Proofs.Ytpbbiidfahaamaa
open Go.RowKit

def TakeOut (R : Option (List Int × List UInt8)) (xs : List Int) (r : List UInt8) (e : Nat) : Prop := (R = none ∧ e = 4) ∨ (R = some (xs, r) ∧ e = 0)

theorem BytesAt.nil (w : World) : BytesAt w (.slice none 0 0) [] := ⟨none, 0, rfl, Nat.le_refl _, by unfold maxLen; omega, fun h => absurd h (by decide)⟩

set_option maxRecDepth 100000 in
set_option maxHeartbeats 4000000 in
theorem rtake_any (W0 w : World) (l : List UInt8) (v : Value) (n : Nat) (hn : n ≤ 70000) (hb : Below W0.heap.size W0 w) (h : BytesAt W0 v l) :
    Calls Try.prog 50 #[v, .int .i64 n] w fun en w' => ∃ (u v' : Value) (e : Nat) (xs : List Int) (r : List UInt8), en = .returned (.tuple #[u, v', .int .i64 e]) ∧ IntsNew w.heap.size w' u xs ∧ BytesAt W0 v' r ∧ Below w.heap.size w w' ∧ TakeOut (takeN n l) xs r e := by
  obtain ⟨i0, hi, hz0, hz1, hz2⟩ := info_parts intInfo
  have HB := Lib.hid hb
  have HV := Lib.hid h
  have hW0 := hb.size
  have hnI : (n : Int) ≤ 70000 := by omega
  clear hb h
  go_enter Try.func50, Try.ntmps50
  go_wp2
  go_loopg [0, 7, 8] n (fun q b u i wr => ∃ (k : Nat) (xs : List Int) (r : List UInt8), k + q = n ∧ i = .int .i64 k ∧ xs.length = k ∧ wr.ownsRow w.heap.size 3 1 u k (intsV xs) ∧ BytesAt W0 b r ∧ Below w.heap.size w wr ∧ takeN k l = some (xs, r))
  case atStart => exact ⟨0, [], l, by omega, rfl, rfl, World.ownsRow_nil _ _ _ _, HV.out, Below.refl _ _, rfl⟩
  case round =>
    obtain ⟨k, xs, r, hk, rfl, hxs, hown, hbr, hbw, ht⟩ := hrel
    obtain ⟨wo, hwo⟩ : ∃ wo : World, wo = wr := ⟨_, rfl⟩
    subst hwo
    have Hk := Lib.hid hk
    have hkn : k ≤ n := by omega
    have HX := Lib.hid hxs
    have Hown := Lib.hid hown
    have Hr := Lib.hid hbr
    have Hb := Lib.hid hbw
    have HT := Lib.hid ht
    have hsz := hbw.size
    obtain ⟨a, c, rfl, hrc, hcm, hq⟩ := hbr
    have hcm' : c ≤ 9223372036854775807 := by unfold maxLen at hcm; omega
    clear hk hxs hown hbw ht hcm
    generalize hrl : r.length = m at *
    have HRL := Lib.hid hrl
    clear hrl
    by_cases hlt : k < n
    · have hlt' : (k : Int) < (n : Int) := by omega
      by_cases h8 : m < 8
      · have h8' : (m : Int) < 8 := by omega
        have H8 := Lib.hid (takeN_short HT.out (by rw [HRL.out]; exact h8) hlt)
        clear hq
        go_wp2
        go_ret3
        exact ⟨_, _, 4, [], [], rfl, World.ownsRow_nil _ _ _ _, BytesAt.nil _, Hb.out, .inl ⟨H8.out, rfl⟩⟩
      · have h8' : ¬ (m : Int) < 8 := by omega
        obtain ⟨g, o, rfl, hg, hcell⟩ := hq (by omega)
        have HCELL := Lib.hid hcell
        have HBo := Lib.hid (HB.out.trans (Hb.out.mono hW0))
        have hsn := takeN_snoc HT.out (show 8 ≤ r.length by rw [HRL.out]; omega)
        have HSN := Lib.hid hsn
        have hv8 := valOf_lt (r.take 8)
        have e8 : (r.take 8).length ≤ 8 := by rw [List.length_take]; omega
        have e9 : 256 ^ (r.take 8).length ≤ 256 ^ 8 := Nat.pow_le_pow_right (by decide) e8
        have e10 : 256 ^ 8 = 18446744073709551616 := by decide
        have HTI := Lib.hid (wrap64_toI (v := valOf (r.take 8)) (by omega))
        clear hq hcell hsn hv8 e8 e9 e10
        rcases Nat.lt_or_ge 8 c with hcs | hcs
        case' inl =>
          have hcs' : ¬ c = 8 := by omega
          have HD := Lib.hid (Hr.out.drop 8 (by rw [HRL.out]; omega) (some ⟨g, o + 8, none⟩) (by rw [if_neg hcs', Option.map_some, Go.WideShapes.add_plain]))
        case' inr =>
          obtain rfl : c = 8 := by omega
          have hd0 := Hr.out.drop 8 (by rw [HRL.out]; omega) (some ⟨g, o, none⟩) (by rw [if_pos rfl])
          rw [show m - 8 = 0 by omega, Nat.sub_self] at hd0
          have HD := Lib.hid hd0
          clear hd0
        all_goals
          go_wp2
          go_loopg [9, 10] 8 (fun q x i wr => ∃ j : Nat, j + q = 8 ∧ i = .int .i64 j ∧ x = .int .u64 (valOf (r.take j) : Nat) ∧ wr = wo)
          case atStart => exact ⟨0, rfl, rfl, rfl, rfl⟩
          case round =>
            obtain ⟨j, hj, rfl, rfl, rfl⟩ := hrel
            have Hj := Lib.hid hj
            have hj8 : j ≤ 8 := by omega
            clear hj
            by_cases hjt : j < 8
            · have hjt' : (j : Int) < 8 := by omega
              have hjm : (j : Int) < (m : Int) := by omega
              obtain ⟨b, hbk⟩ := get_lt HRL.out.symm (show j < m by omega)
              have m0 := cell_below HBo.out hg (HCELL.out j b hbk)
              have HVT := Lib.hid (valOf_take hbk)
              have hV := valOf_lt8 (l := r) (show j ≤ 7 by omega)
              have hV1 : ((valOf (r.take j) : Nat) : Int) < 72057594037927936 := by omega
              generalize valOf (r.take j) = V at *
              have hb8 : b.toNat < 256 := b.toNat_lt
              clear hbk hV
              go_wp2
              have hj := Hj.out
              go_roundg (8 - (j + 1))
              case measure => omega
              case rel =>
                refine ⟨j + 1, by omega, by go_num, ?_, rfl⟩
                have e1 : (V : Int) * 256 = ((V * 256 : Nat) : Int) := by omega
                rw [HVT.out, e1, u64_or_nat _ _ (by omega) (by omega), or_byte V b.toNat hb8]
            · have hjge : ¬ (j : Int) < 8 := by omega
              obtain rfl : j = 8 := by omega
              have HZ := HTI
              go_wp2_with (at_builtin; refine wpList_append_own _ rfl (.tmp 31) (.tmp 34) 23 rfl w.heap.size 3 i0 (.int .i64 0) 1 8 Try.underlying23 hi hz0 hz1 hz2 rfl (by decide) _ _ _ rfl (Hown.out.alloc _) ⟨wr.heap.size, 0, none⟩ 1 1 [.int .i64 (wrap64 (valOf (r.take 8) : Nat))] rfl rfl ?_ ?_ ?_ ?_ ?_ ?_; exact cell_one_new _ _ _; (intro u hu; simp only [List.mem_cons, List.not_mem_nil, or_false] at hu; rcases hu with rfl; rfl); (unfold maxLen; omega); omega; (simp; omega); intro v' w2 hown2 hgrow _)
              have hb2 := (Hb.out.alloc hsz (.cells #[.int .i64 (wrap64 (valOf (r.take 8) : Nat))] 3)).grown hgrow (by simp; omega) (fun j hj => (Hown.out.lt j hj).1)
              have Hown2 := Lib.hid hown2
              have Hb2 := Lib.hid hb2
              clear hown2 hgrow hb2 Hown
              go_wp2
              have hk := Hk.out
              go_roundg (n - (k + 1))
              case measure => omega
              case rel =>
                refine ⟨k + 1, xs ++ [toI (valOf (r.take 8))], r.drop 8, by omega, by go_num, by simp [HX.out], ?_, HD.out, Hb2.out, HSN.out⟩
                have e : intsV (xs ++ [toI (valOf (r.take 8))]) = intsV xs ++ [.int .i64 (wrap64 (valOf (r.take 8) : Nat))] := by rw [HZ.out]; simp [intsV]
                rw [e]
                exact Hown2.out
    · have hge : ¬ (k : Int) < (n : Int) := by omega
      have hkc : k = n := by omega
      subst hkc
      clear hq
      go_wp2
      go_ret3
      have hI : IntsNew w.heap.size wo u7 xs := by
        unfold IntsNew
        rw [HX.out]
        exact Hown.out
      first
        | exact ⟨_, _, 0, rfl, xs, hI, r, Hr.out, Hb.out, .inr ⟨HT.out, rfl⟩⟩
        | exact ⟨_, _, 0, rfl, xs, r, hI, Hr.out, Hb.out, .inr ⟨HT.out, rfl⟩⟩
        | exact ⟨_, _, rfl, xs, hI, r, Hr.out, Hb.out, .inr ⟨HT.out, rfl⟩⟩
end Go.Proofs.Ytpbbiidfahaamaa
