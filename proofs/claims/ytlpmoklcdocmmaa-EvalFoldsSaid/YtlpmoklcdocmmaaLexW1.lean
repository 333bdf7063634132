/- Walks of the lexer's classes of bytes, of span and sign. -/
import Derived.Test.YtlpmoklcdocmmaaLexPlain
import Derived.Test.YtlpmoklcdocmmaaShelf
import Derived.WalkKit
import Derived.WalkLawsBesides
import Derived.Lib.Hide
import Derived.Outline
import Derived.Deep.LoopGhost
import Derived.Deep.DeepMust
import Derived.Below
import Derived.OwnWalk
namespace Go.Proofs.Ytlpmoklcdocmmaa
open Go.RowKit

theorem ret_bool {a b : Bool} (h : a = b) : Ending.returned (.bool a) = .returned (.bool b) := by rw [h]
theorem ret_int {k : IntKind} {a b : Int} (h : a = b) : Ending.returned (.int k a) = .returned (.int k b) := by rw [h]

theorem letter_any (c : UInt8) (w : World) : Calls Try.prog 56 #[.int .u8 (c.toNat : Int)] w fun e w' => e = .returned (.bool (letterB c)) ∧ w = w' := by
  by_cases h1 : (97 : Int) ≤ (c.toNat : Int)
  · by_cases h2 : (c.toNat : Int) ≤ 122
    · go_enter Try.func56, Try.ntmps56
      go_wp2
      go_ret
      exact ⟨ret_bool (by unfold letterB; rw [decide_eq_true (by omega), decide_eq_true (by omega)]; rfl), rfl⟩
    · go_enter Try.func56, Try.ntmps56
      go_wp2
      go_ret
      exact ⟨ret_bool (by unfold letterB; rw [decide_eq_true (by omega), decide_eq_false (by omega)]; rfl), rfl⟩
  · go_enter Try.func56, Try.ntmps56
    go_wp2
    go_ret
    exact ⟨ret_bool (by unfold letterB; rw [decide_eq_false (by omega)]; rfl), rfl⟩

theorem digit_any (c : UInt8) (w : World) : Calls Try.prog 59 #[.int .u8 (c.toNat : Int)] w fun e w' => e = .returned (.bool (digitB c)) ∧ w = w' := by
  by_cases h1 : (48 : Int) ≤ (c.toNat : Int)
  · by_cases h2 : (c.toNat : Int) ≤ 57
    · go_enter Try.func59, Try.ntmps59
      go_wp2
      go_ret
      exact ⟨ret_bool (by unfold digitB; rw [decide_eq_true (by omega), decide_eq_true (by omega)]; rfl), rfl⟩
    · go_enter Try.func59, Try.ntmps59
      go_wp2
      go_ret
      exact ⟨ret_bool (by unfold digitB; rw [decide_eq_true (by omega), decide_eq_false (by omega)]; rfl), rfl⟩
  · go_enter Try.func59, Try.ntmps59
    go_wp2
    go_ret
    exact ⟨ret_bool (by unfold digitB; rw [decide_eq_false (by omega)]; rfl), rfl⟩

theorem word_any (c : UInt8) (w : World) : Calls Try.prog 58 #[.int .u8 (c.toNat : Int)] w fun e w' => e = .returned (.bool (wordB c)) ∧ w = w' := by
  have hw : wordB c = (letterB c || digitB c) := rfl
  have HW := Lib.hid hw
  clear hw
  generalize hl : letterB c = b at HW
  have HL := Lib.hid hl
  clear hl
  cases b
  all_goals
    go_enter Try.func58, Try.ntmps58
    go_wp2_with (first
      | (go_at_call 56; refine (letter_any _ _).mono ?_; rw [HL.out]; rintro e w' ⟨rfl, rfl⟩)
      | (go_at_call 59; refine (digit_any _ _).mono ?_; rintro e w' ⟨rfl, rfl⟩))
    go_ret
    exact ⟨ret_bool (by rw [HW.out]; rfl), rfl⟩

theorem beq_u8 (c k : UInt8) : ((c.toNat : Int) == (k.toNat : Int)) = (c == k) := by
  rw [Bool.eq_iff_iff]
  simp only [beq_iff_eq]
  constructor
  · intro h; exact UInt8.toNat_inj.1 (by omega)
  · rintro rfl; rfl

theorem blank_any (c : UInt8) (w : World) : Calls Try.prog 60 #[.int .u8 (c.toNat : Int)] w fun e w' => e = .returned (.bool (blankB c)) ∧ w = w' := by
  have e1 : ((c.toNat : Int) == 32) = (c == 32) := beq_u8 c 32
  have e2 : ((c.toNat : Int) == 9) = (c == 9) := beq_u8 c 9
  have e3 : ((c.toNat : Int) == 13) = (c == 13) := beq_u8 c 13
  have e4 : ((c.toNat : Int) == 10) = (c == 10) := beq_u8 c 10
  have hw : blankB c = (c == 32 || c == 9 || c == 13 || c == 10) := rfl
  generalize (c == 32) = b1 at *
  generalize (c == 9) = b2 at *
  generalize (c == 13) = b3 at *
  generalize (c == 10) = b4 at *
  have HW := Lib.hid hw
  clear hw
  cases b1 <;> cases b2 <;> cases b3
  all_goals
    go_enter Try.func60, Try.ntmps60
    go_wp2
    go_ret
    exact ⟨ret_bool (by rw [HW.out]; rfl), rfl⟩

theorem line_any (c : UInt8) (w : World) : Calls Try.prog 61 #[.int .u8 (c.toNat : Int)] w fun e w' => e = .returned (.bool (lineB c)) ∧ w = w' := by
  have e4 : ((c.toNat : Int) == 10) = (c == 10) := beq_u8 c 10
  have e5 : ((c.toNat : Int) != 10) = (c != 10) := by unfold bne; rw [e4]
  have HE := Lib.hid e5
  clear e4 e5
  go_enter Try.func61, Try.ntmps61
  go_wp2
  go_ret
  exact ⟨ret_bool (by unfold lineB; rw [← HE.out]), rfl⟩

/-- a step of a span -/
theorem spanN_step {p : UInt8 → Bool} {l : List UInt8} {k : Nat} (hk : k < l.length) (h : k ≤ spanN p l) : if p l[k] = true then k + 1 ≤ spanN p l else spanN p l = k := by
  have h1 := all_take_iff p l (k + 1) (by omega)
  have h0 := (all_take_iff p l k (by omega)).2 h
  rw [List.take_succ_eq_append_getElem hk, List.all_append, h0] at h1
  simp at h1
  split
  · rename_i hc; exact h1.1 hc
  · rename_i hc
    have : ¬ (k + 1 ≤ spanN p l) := fun hh => hc (h1.2 hh)
    omega

set_option maxHeartbeats 400000 in
theorem span_any (p : UInt8 → Bool) (f : FuncId) (hcf : ∀ (args : Array Value) (w : World), (callFunc f args).run Try.prog w = .ok (.enter f args) w) (hp : ∀ (c : UInt8) (w : World), Calls Try.prog f #[.int .u8 (c.toNat : Int)] w fun e w' => e = .returned (.bool (p c)) ∧ w = w')
    (s : ByteArray) (hs : s.size ≤ maxLen) (w : World) :
    Calls Try.prog 57 #[.string s, .func (.func f) #[] #[]] w fun e w' => e = .returned (.int .i64 (spanN p s.data.toList)) ∧ w = w' := by
  unfold maxLen at hs
  have HP := Lib.hid hp
  clear hp
  have hsz : s.data.toList.length = s.size := by simp
  have hle := spanN_le p s.data.toList
  have HZ := Lib.hid hsz
  clear hsz
  go_enter Try.func57, Try.ntmps57
  go_wp2
  go_loopg [8] (s.size) (fun n i wr => ∃ k : Nat, k + n = s.size ∧ i = .int .i64 k ∧ k ≤ spanN p s.data.toList ∧ wr = w)
  case atStart => exact ⟨0, by omega, rfl, Nat.zero_le _, rfl⟩
  case round =>
    obtain ⟨k, hk, rfl, hsp, rfl⟩ := hrel
    have Hk := Lib.hid hk
    clear hk
    have hks : k ≤ s.size := by have := Hk.out; omega
    by_cases hlt : k < s.size
    · have hl' : k < s.data.toList.length := by rw [HZ.out]; exact hlt
      have hst := spanN_step hl' hsp
      have hb : s.data.toList[k] = s[k] := rfl
      rw [hb] at hst
      generalize hpc : p s[k] = b at hst
      have Hst := Lib.hid hst
      have Hpc := Lib.hid hpc
      clear hst hb hpc
      cases b
      · go_wp2_with fail
        refine (HP.out _ _).mono ?_
        rw [Hpc.out]
        rintro e w' ⟨rfl, rfl⟩
        go_wp2
        go_ret
        have := Hst.out
        simp only [Bool.false_eq_true, if_false] at this
        exact ⟨ret_int (by rw [this]), rfl⟩
      · go_wp2_with fail
        refine (HP.out _ _).mono ?_
        rw [Hpc.out]
        rintro e w' ⟨rfl, rfl⟩
        go_wp2
        have hk := Hk.out
        have := Hst.out
        simp only [if_true] at this
        go_roundg (s.size - (k + 1))
        case measure => omega
        case rel => exact ⟨k + 1, by omega, by go_num, this, rfl⟩
    · have hke : k = s.size := by omega
      have hz := HZ.out
      rw [hz] at hle
      have hfin := Lib.hid (show spanN p s.data.toList = s.size from by omega)
      clear hle hz hke
      go_wp2
      go_ret
      exact ⟨ret_int (by rw [hfin.out]), rfl⟩

theorem cf_word (args : Array Value) (w : World) : (callFunc 58 args).run Try.prog w = .ok (.enter 58 args) w := by kernel_rfl
theorem cf_digit (args : Array Value) (w : World) : (callFunc 59 args).run Try.prog w = .ok (.enter 59 args) w := by kernel_rfl
theorem cf_blank (args : Array Value) (w : World) : (callFunc 60 args).run Try.prog w = .ok (.enter 60 args) w := by kernel_rfl
theorem cf_line (args : Array Value) (w : World) : (callFunc 61 args).run Try.prog w = .ok (.enter 61 args) w := by kernel_rfl

end Go.Proofs.Ytlpmoklcdocmmaa
