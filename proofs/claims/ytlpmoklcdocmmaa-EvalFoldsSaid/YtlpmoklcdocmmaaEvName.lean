/- The walk of lexer.Name. -/
import Derived.Test.YtlpmoklcdocmmaaLexK1
namespace Go.Proofs.Ytlpmoklcdocmmaa
open Go.RowKit

theorem name_of {l : List UInt8} (hl : l ≠ []) (h16 : l.length ≤ 16) : nameB l = ((step l).1 == 1 && (step l).2 == l.length && !keywordsR.contains l) := by
  unfold nameB
  have h := kind1_iff hl
  rw [Bool.eq_iff_iff]
  simp only [Bool.and_eq_true, beq_iff_eq, decide_eq_true_eq, h]
  constructor
  · rintro ⟨⟨⟨a, b⟩, c⟩, d⟩; exact ⟨⟨a, b⟩, d⟩
  · rintro ⟨⟨a, b⟩, d⟩; exact ⟨⟨⟨a, b⟩, h16⟩, d⟩
theorem name_nil {l : List UInt8} (hl : l.length = 0) : nameB l = false := by
  rw [List.eq_nil_of_length_eq_zero hl]
  rfl
theorem name_long {l : List UInt8} (hl : 16 < l.length) : nameB l = false := by
  unfold nameB
  rw [decide_eq_false (by omega : ¬ l.length ≤ 16)]
  simp

set_option maxRecDepth 100000 in
set_option maxHeartbeats 1000000 in
theorem name_any (s : ByteArray) (hs : s.size ≤ maxLen) (w : World) :
    Calls Try.prog 41 #[.string s] w fun e w' => e = .returned (.bool (nameB s.data.toList)) ∧ Below w.heap.size w w' := by
  have hz : s.data.toList.length = s.size := by simp
  have HS := Lib.hid hs
  unfold maxLen at hs
  by_cases h0 : s.size = 0
  · have hs0 : s = ⟨#[]⟩ := by
      cases s with
      | mk d => congr 1; exact Array.eq_empty_of_size_eq_zero h0
    rw [name_nil (by omega)]
    clear hz h0
    subst hs0
    go_enter Try.func41, Try.ntmps41
    go_wp2
    go_ret
    exact ⟨rfl, Below.refl _ _⟩
  have he : s.toList.isEmpty = false := by
    rw [Lib.toList_data]
    cases hd : s.data.toList with
    | nil => rw [hd] at hz; simp at hz; omega
    | cons z zs => rfl
  by_cases h2 : 16 < s.size
  · have h1' : (16 : Int) < (s.size : Int) := by omega
    rw [name_long (by omega)]
    clear hz h0
    go_enter Try.func41, Try.ntmps41
    go_wp2
    go_ret
    exact ⟨rfl, Below.refl _ _⟩
  have h2' : (s.size : Int) ≤ 16 := by omega
  have hpos : 0 < s.size := by omega
  have hne : s.data.toList ≠ [] := List.ne_nil_of_length_pos (by omega)
  have hnm := name_of hne (by omega)
  rw [hz] at hnm
  have hf := first_any s HS.out hpos
  generalize step s.data.toList = st at *
  obtain ⟨kd, m⟩ := st
  generalize hR : nameB s.data.toList = R at *
  simp only at hnm hf
  have HNM := Lib.hid hnm
  clear hnm hR hne hz h0 h2
  by_cases hk : kd = 1
  · subst hk
    by_cases hm : m = s.size
    · have HM := Lib.hid hm
      have hm' : (m : Int) = (s.size : Int) := by rw [hm]
      have hmm : ((m : Int) == (s.size : Int)) = true := by rw [hm']; simp
      clear hm hm'
      go_enter Try.func41, Try.ntmps41
      go_wp2_with (go_at_call 52; refine (hf _).mono ?_; rintro e w' ⟨rfl, rfl⟩)
      refine (keyword_any s HS.out _).mono ?_
      have hh := HNM.out
      rw [HM.out] at hh
      generalize keywordsR.contains s.data.toList = kw at *
      rintro e w2 ⟨rfl, hb2⟩
      have hr : R = !kw := by rw [hh]; simp
      subst hr
      clear hh HNM
      go_wp2
      go_ret
      exact ⟨rfl, hb2⟩
    · have hmm : ((m : Int) == (s.size : Int)) = false := by simp; omega
      have hr : R = false := by rw [HNM.out]; simp [hm]
      subst hr
      clear hm HNM
      go_enter Try.func41, Try.ntmps41
      go_wp2_with (go_at_call 52; refine (hf _).mono ?_; rintro e w' ⟨rfl, rfl⟩)
      go_ret
      exact ⟨rfl, Below.refl _ _⟩
  · have hkk : ((kd : Int) == 1) = false := by simp; omega
    have hr : R = false := by rw [HNM.out]; simp [hk]
    subst hr
    clear hk HNM
    go_enter Try.func41, Try.ntmps41
    go_wp2_with (go_at_call 52; refine (hf _).mono ?_; rintro e w' ⟨rfl, rfl⟩)
    go_ret
    exact ⟨rfl, Below.refl _ _⟩

end Go.Proofs.Ytlpmoklcdocmmaa
