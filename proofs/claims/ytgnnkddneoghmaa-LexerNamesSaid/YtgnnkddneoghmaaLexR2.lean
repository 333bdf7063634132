/- The walk of the reference's Kind. -/
import Derived.Test.YtgnnkddneoghmaaLexR1
namespace Go.Proofs.Ytgnnkddneoghmaa
open Go.RowKit

theorem quiet_left {P : Program} {f : FuncId} {args : Array Value} {w : World} {n : Nat} {v : Value}
    (h : Calls P f args (w.drewN n) fun e w' => e = .returned v ∧ w.drewN n = w') : Calls P f args (w.drewN n) fun e w'' => e = .returned v ∧ ∃ m, w'' = w.drewN m :=
  h.mono fun _ _ ⟨he, hm⟩ => ⟨he, n, hm.symm⟩

theorem all_snoc (p : UInt8 → Bool) (s : ByteArray) (k : Nat) (hk : k < s.size) : (s.data.toList.take (k + 1)).all p = ((s.data.toList.take k).all p && p s[k]) := by
  have hl : k < s.data.toList.length := by simpa using hk
  rw [List.take_succ_eq_append_getElem hl, List.all_append]
  have : s.data.toList[k] = s[k] := rfl
  simp [this]

set_option maxRecDepth 100000 in
set_option maxHeartbeats 4000000 in
theorem kind_any (s : ByteArray) (hs : s.size ≤ maxLen) (w : World) :
    Calls Try.prog 24 #[.string s] w fun e w' => e = .returned (.int .u8 (kindR s.data.toList)) ∧ Below w.heap.size w w' := by
  unfold maxLen at hs
  by_cases h0 : s.size = 0
  · have hl : s.data.toList = [] := List.eq_nil_of_length_eq_zero (by simpa using h0)
    have he : s.toList.isEmpty = true := by rw [Lib.toList_data, hl]; rfl
    have hk : kindR s.data.toList = 0 := by rw [hl]; rfl
    have HK := Lib.hid hk
    clear hk hl h0
    go_enter Try.func24, Try.ntmps24
    go_wp2
    go_ret
    exact ⟨ret_int (by rw [HK.out]; rfl), Below.refl _ _⟩
  · have hpos : 0 < s.size := by omega
    have hl : s.data.toList ≠ [] := List.ne_nil_of_length_pos (by simpa using hpos)
    have he : s.toList.isEmpty = false := by rw [Lib.toList_data]; cases h : s.data.toList with
      | nil => exact absurd h hl
      | cons a r => rfl
    have hkd : kindR s.data.toList = if (letterB s[0] && s.data.toList.all wordB) = true then 1 else if s.data.toList.all digitB = true then 2
        else if signsR.contains s.data.toList = true then 3 else if s.data.toList.all blankB = true then 4 else if (s[0] == 35 && s.data.toList.all lineB) = true then 5 else 0 := by
      unfold kindR
      rw [if_neg hl, head_at s hpos]
    have e35 : ((s[0].toNat : Int) == 35) = (s[0] == 35) := beq_u8 s[0] 35
    generalize hc0 : letterB s[0] = c0 at *
    generalize hc35 : (s[0] == 35) = c35 at *
    have hc0' : ∀ w, Calls Try.prog 34 #[.int .u8 (s[0].toNat : Int)] w fun e w' => e = .returned (.bool c0) ∧ w = w' := fun w => by have h := rletter_any s[0] w; rwa [hc0] at h
    have C0 := Lib.hid hc0'
    have HKD := Lib.hid hkd
    have hp0 : (0 : Int) < (s.size : Int) := by omega
    have HL := Lib.hid hl
    have hz : s.data.toList.length = s.size := by simp
    have HZ := Lib.hid hz
    clear hc0' hc0 hc35 hkd h0 hl hz
    go_enter Try.func24, Try.ntmps24
    go_wp2
    go_quiet ((go_at_call 34; exact quiet_left (C0.out _)))
    go_wp2
    go_loopg [3, 4, 5, 6, 7] s.size (fun q v3 v4 v5 v6 i wr => ∃ k : Nat, k + q = s.size ∧ i = .int .i64 k ∧ v3 = .bool (c0 && (s.data.toList.take k).all wordB) ∧ v4 = .bool ((s.data.toList.take k).all digitB) ∧
      v5 = .bool ((s.data.toList.take k).all blankB) ∧ v6 = .bool (c35 && (s.data.toList.take k).all lineB) ∧ ∃ m, wr = w.drewN m)
    case atStart => exact ⟨0, by omega, rfl, by simp, by simp, by simp, by simp, nq, rfl⟩
    case round =>
      obtain ⟨k, hk, rfl, rfl, rfl, rfl, rfl, m, rfl⟩ := hrel
      have Hk := Lib.hid hk
      have hks : k ≤ s.size := by omega
      clear hk
      by_cases hlt : k < s.size
      · have hlt' : (k : Int) < (s.size : Int) := by omega
        have a1 := all_snoc wordB s k hlt
        have a2 := all_snoc digitB s k hlt
        have a3 := all_snoc blankB s k hlt
        have a4 := all_snoc lineB s k hlt
        have g1 : (c0 && (s.data.toList.take (k + 1)).all wordB) = ((c0 && (s.data.toList.take k).all wordB) && wordB s[k]) := by rw [a1, Bool.and_assoc]
        have g4 : (c35 && (s.data.toList.take (k + 1)).all lineB) = ((c35 && (s.data.toList.take k).all lineB) && lineB s[k]) := by rw [a4, Bool.and_assoc]
        generalize (c0 && (s.data.toList.take k).all wordB) = b1 at *
        generalize (s.data.toList.take k).all digitB = b2 at *
        generalize (s.data.toList.take k).all blankB = b3 at *
        generalize (c35 && (s.data.toList.take k).all lineB) = b4 at *
        have G1 := Lib.hid g1
        have G2 := Lib.hid a2
        have G3 := Lib.hid a3
        have G4 := Lib.hid g4
        clear a1 a2 a3 a4 g1 g4
        have hw := Lib.hid (show wordB s[k] = (letterB s[k] || digitB s[k]) from rfl)
        have hlw : ∀ w, Calls Try.prog 34 #[.int .u8 (s[k].toNat : Int)] w fun e w' => e = .returned (.bool (letterB s[k])) ∧ w = w' := fun w => rletter_any s[k] w
        have hdw : ∀ w, Calls Try.prog 35 #[.int .u8 (s[k].toNat : Int)] w fun e w' => e = .returned (.bool (digitB s[k])) ∧ w = w' := fun w => rdigit_any s[k] w
        generalize letterB s[k] = x1 at *
        generalize digitB s[k] = x2 at *
        have LW := Lib.hid hlw
        have DW := Lib.hid hdw
        clear hlw hdw
        have e32 : ((s[k].toNat : Int) == 32) = (s[k] == 32) := beq_u8 s[k] 32
        have e9 : ((s[k].toNat : Int) == 9) = (s[k] == 9) := beq_u8 s[k] 9
        have e13 : ((s[k].toNat : Int) == 13) = (s[k] == 13) := beq_u8 s[k] 13
        have e10 : ((s[k].toNat : Int) == 10) = (s[k] == 10) := beq_u8 s[k] 10
        have e10' : ((s[k].toNat : Int) != 10) = lineB s[k] := by unfold bne lineB; rw [e10]; rfl
        have hbl := Lib.hid (show blankB s[k] = (s[k] == 32 || s[k] == 9 || s[k] == 13 || s[k] == 10) from rfl)
        generalize (s[k] == 32) = y1 at *
        generalize (s[k] == 9) = y2 at *
        generalize (s[k] == 13) = y3 at *
        generalize (s[k] == 10) = y4 at *
        generalize lineB s[k] = y5 at *
        go_upto_region 8 with (fail)
        go_cut [3] (fun v wx => v = .bool (b1 && (x1 || x2)) ∧ wx = w.drewN m)
        case first =>
          cases b1 <;> cases x1
          all_goals
            go_wp2_with (first
              | (go_at_call 34; refine (LW.out _).mono ?_; rintro e w' ⟨rfl, rfl⟩)
              | (go_at_call 35; refine (DW.out _).mono ?_; rintro e w' ⟨rfl, rfl⟩))
            go_meet
            exact ⟨rfl, rfl⟩
        case rest =>
        obtain ⟨rfl, rfl⟩ := hcut
        rw [← hw.out, ← G1.out]
        go_upto_region 9 with (fail)
        go_cut [4] (fun v wx => v = .bool (b2 && x2) ∧ wx = w.drewN m)
        case first =>
          cases b2
          all_goals
            go_wp2_with (go_at_call 35; refine (DW.out _).mono ?_; rintro e w' ⟨rfl, rfl⟩)
            go_meet
            exact ⟨rfl, rfl⟩
        case rest =>
        obtain ⟨rfl, rfl⟩ := hcut
        rw [← G2.out]
        go_upto_region 10 with (fail)
        go_cut [5] (fun v wx => v = .bool (b3 && (y1 || y2 || y3 || y4)) ∧ wx = w.drewN m)
        case first =>
          cases b3
          · go_wp2
            go_meet
            exact ⟨rfl, rfl⟩
          · cases y1 <;> cases y2 <;> cases y3
            all_goals
              go_wp2
              go_meet
              exact ⟨rfl, rfl⟩
        case rest =>
        obtain ⟨rfl, rfl⟩ := hcut
        rw [← hbl.out, ← G3.out]
        cases b4
        all_goals
          go_wp2
          have hk := Hk.out
          go_roundg (s.size - (k + 1))
          case measure => omega
          case rel => exact ⟨k + 1, by omega, by go_num, rfl, rfl, rfl, by rw [G4.out]; rfl, m, rfl⟩
      · have hge : ¬ (k : Int) < (s.size : Int) := by omega
        obtain rfl : k = s.size := by omega
        have ht : s.data.toList.take s.size = s.data.toList := List.take_of_length_le (by rw [HZ.out]; exact Nat.le_refl _)
        rw [ht] at *
        have HT := Lib.hid ht
        clear ht
        have hk6 := HKD.out
        generalize (c0 && s.data.toList.all wordB) = b1 at *
        generalize s.data.toList.all digitB = b2 at *
        generalize s.data.toList.all blankB = b3 at *
        generalize (c35 && s.data.toList.all lineB) = b4 at *
        have hin := inB_map signsR s
        cases b1
        case true =>
          have H6 := Lib.hid hk6
          clear hk6 HKD hin
          go_wp2
          go_ret
          exact ⟨ret_int (by rw [H6.out]; rfl), ⟨rfl, rfl, rfl, Nat.le_refl _, fun _ _ => rfl⟩⟩
        case false =>
        cases b2
        case true =>
          have H6 := Lib.hid hk6
          clear hk6 HKD hin
          go_wp2
          go_ret
          exact ⟨ret_int (by rw [H6.out]; rfl), ⟨rfl, rfl, rfl, Nat.le_refl _, fun _ _ => rfl⟩⟩
        case false =>
        rw [← hin] at hk6
        have H6 := Lib.hid hk6
        clear hk6 HKD hin
        cases b3 <;> cases b4
        all_goals
          go_wp2_with (first
            | (go_at_call 36; refine (signs_any _).mono ?_; rintro e w1 ⟨rfl, hcs, hb1, hlt1⟩; have HCS := Lib.hid hcs; have HB1 := Lib.hid hb1; clear hcs hb1)
            | (go_at_call 20; refine (in_any (signsR.map strB) _ _ s _ (by decide) (by decide) HCS.out).mono ?_; rintro e w2 ⟨rfl, rfl⟩))
          all_goals go_ret
          all_goals exact ⟨ret_int (by rw [H6.out]; simp [*]), ⟨HB1.out.os, HB1.out.tape, HB1.out.output, HB1.out.size, HB1.out.block⟩⟩

end Go.Proofs.Ytgnnkddneoghmaa
