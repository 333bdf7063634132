/- The walks of Name, of the reference's Name, and of the law LexerNames. -/
import Derived.Test.YtgnnkddneoghmaaLexK1
import Derived.Test.YtgnnkddneoghmaaLexR2
import Derived.Test.YtgnnkddneoghmaaLexAlone
namespace Go.Proofs.Ytgnnkddneoghmaa
open Go.RowKit

theorem kws_any (w : World) : Calls Try.prog 21 #[] w fun e w' => e = .returned (.slice (some ⟨w.heap.size, 0, none⟩) 23 23) ∧
    (∀ j b, (keywordsR.map strB)[j]? = some b → w'.cell? ⟨w.heap.size, j, none⟩ = some (.string b)) ∧ Below w.heap.size w w' ∧ w.heap.size < w'.heap.size := by
  go_enter Try.func21, Try.ntmps21
  go_wp2
  go_ret
  refine ⟨rfl, fun j b hb => ?_, (Below.refl _ _).alloc (Nat.le_refl _) _, by simp⟩
  rw [World.cell?_alloc_at _ _ _ _ rfl]
  show (((keywordsR.map strB).map Value.string).toArray)[j]? = _
  rw [List.getElem?_toArray, List.getElem?_map, hb]
  rfl

theorem inK_any (s : ByteArray) (g : Nat) (w : World) (hc : ∀ j b, (keywordsR.map strB)[j]? = some b → w.cell? ⟨g, j, none⟩ = some (.string b)) :
    Calls Try.prog 20 #[.slice (some ⟨g, 0, none⟩) 23 23, .string s] w fun e w' => e = .returned (.bool (keywordsR.contains s.data.toList)) ∧ w = w' := by
  have := in_any (keywordsR.map strB) g 23 s w (by decide) (by decide) hc
  rw [inB_map] at this
  exact this

theorem name_of {l : List UInt8} (hl : l ≠ []) (h16 : l.length ≤ 16) : nameB l = ((step l).1 == 1 && (step l).2 == l.length && !keywordsR.contains l) := by
  unfold nameB
  have h := kind1_iff hl
  rw [Bool.eq_iff_iff]
  simp only [Bool.and_eq_true, beq_iff_eq, decide_eq_true_eq, h]
  constructor
  · rintro ⟨⟨⟨a, b⟩, c⟩, d⟩; exact ⟨⟨a, b⟩, d⟩
  · rintro ⟨⟨a, b⟩, d⟩; exact ⟨⟨⟨a, b⟩, h16⟩, d⟩
theorem name_nil {l : List UInt8} (hl : l.length = 0) : nameB l = false := by
  rw [List.eq_nil_of_length_eq_zero hl]
  rfl
theorem name_long {l : List UInt8} (hl : 16 < l.length) : nameB l = false := by
  unfold nameB
  rw [decide_eq_false (by omega : ¬ l.length ≤ 16)]
  simp

set_option maxRecDepth 100000 in
set_option maxHeartbeats 1000000 in
theorem name_any (s : ByteArray) (hs : s.size ≤ maxLen) (w : World) :
    Calls Try.prog 17 #[.string s] w fun e w' => e = .returned (.bool (nameB s.data.toList)) ∧ Below w.heap.size w w' := by
  have hz : s.data.toList.length = s.size := by simp
  have HS := Lib.hid hs
  unfold maxLen at hs
  by_cases h0 : s.size = 0
  · have hs0 : s = ⟨#[]⟩ := by
      cases s with
      | mk d => congr 1; exact Array.eq_empty_of_size_eq_zero h0
    rw [name_nil (by omega)]
    clear hz h0
    subst hs0
    go_enter Try.func17, Try.ntmps17
    go_wp2
    go_ret
    exact ⟨rfl, Below.refl _ _⟩
  have he : s.toList.isEmpty = false := by
    rw [Lib.toList_data]
    cases hd : s.data.toList with
    | nil => rw [hd] at hz; simp at hz; omega
    | cons z zs => rfl
  by_cases h2 : 16 < s.size
  · have h1' : (16 : Int) < (s.size : Int) := by omega
    rw [name_long (by omega)]
    clear hz h0
    go_enter Try.func17, Try.ntmps17
    go_wp2
    go_ret
    exact ⟨rfl, Below.refl _ _⟩
  have h2' : (s.size : Int) ≤ 16 := by omega
  have hpos : 0 < s.size := by omega
  have hne : s.data.toList ≠ [] := List.ne_nil_of_length_pos (by omega)
  have hnm := name_of hne (by omega)
  rw [hz] at hnm
  have hf := first_any s HS.out hpos
  generalize step s.data.toList = st at *
  obtain ⟨kd, m⟩ := st
  generalize hR : nameB s.data.toList = R at *
  simp only at hnm hf
  have HNM := Lib.hid hnm
  clear hnm hR hne hz h0 h2
  by_cases hk : kd = 1
  · subst hk
    by_cases hm : m = s.size
    · have HM := Lib.hid hm
      have hm' : (m : Int) = (s.size : Int) := by rw [hm]
      have hmm : ((m : Int) == (s.size : Int)) = true := by rw [hm']; simp
      clear hm hm'
      go_enter Try.func17, Try.ntmps17
      go_wp2_with (go_at_call 23; refine (hf _).mono ?_; rintro e w' ⟨rfl, rfl⟩)
      refine (keyword_any s HS.out _).mono ?_
      have hh := HNM.out
      rw [HM.out] at hh
      generalize keywordsR.contains s.data.toList = kw at *
      rintro e w2 ⟨rfl, hb2⟩
      have hr : R = !kw := by rw [hh]; simp
      subst hr
      clear hh HNM
      go_wp2
      go_ret
      exact ⟨rfl, hb2⟩
    · have hmm : ((m : Int) == (s.size : Int)) = false := by simp; omega
      have hr : R = false := by rw [HNM.out]; simp [hm]
      subst hr
      clear hm HNM
      go_enter Try.func17, Try.ntmps17
      go_wp2_with (go_at_call 23; refine (hf _).mono ?_; rintro e w' ⟨rfl, rfl⟩)
      go_ret
      exact ⟨rfl, Below.refl _ _⟩
  · have hkk : ((kd : Int) == 1) = false := by simp; omega
    have hr : R = false := by rw [HNM.out]; simp [hk]
    subst hr
    clear hk HNM
    go_enter Try.func17, Try.ntmps17
    go_wp2_with (go_at_call 23; refine (hf _).mono ?_; rintro e w' ⟨rfl, rfl⟩)
    go_ret
    exact ⟨rfl, Below.refl _ _⟩

set_option maxRecDepth 100000 in
set_option maxHeartbeats 1000000 in
theorem rname_any (s : ByteArray) (hs : s.size ≤ maxLen) (w : World) :
    Calls Try.prog 18 #[.string s] w fun e w' => e = .returned (.bool (nameB s.data.toList)) ∧ Below w.heap.size w w' := by
  have hz : s.data.toList.length = s.size := by simp
  have HS := Lib.hid hs
  unfold maxLen at hs
  have hnm : nameB s.data.toList = (kindR s.data.toList == 1 && decide (s.size ≤ 16) && !keywordsR.contains s.data.toList) := by unfold nameB; rw [hz]
  have hk := kind_any s HS.out
  have hin := inK_any s
  generalize hR : nameB s.data.toList = R at *
  generalize kindR s.data.toList = kd at *
  generalize keywordsR.contains s.data.toList = kw at *
  have HK := Lib.hid hk
  have HI := Lib.hid hin
  have HNM := Lib.hid hnm
  clear hnm hR hz hk hin
  have arms : (kd = 1 ∧ s.size ≤ 16) ∨ (kd = 1 ∧ 16 < s.size) ∨ kd ≠ 1 := by omega
  rcases arms with ⟨rfl, h16⟩ | ⟨rfl, h16⟩ | hk1
  · have hr : R = !kw := by rw [HNM.out]; simp [h16]
    subst hr
    have h16' : (s.size : Int) ≤ 16 := by omega
    clear HNM
    go_enter Try.func18, Try.ntmps18
    go_wp2_with fail
    refine (HK.out _).mono ?_
    rintro e w1 ⟨rfl, hb1⟩
    have Hb1 := Lib.hid hb1
    clear hb1
    go_wp2_with fail
    refine (kws_any _).mono ?_
    rintro e w2 ⟨rfl, hc2, hb2, _⟩
    have Hc2 := Lib.hid hc2
    have Hb2 := Lib.hid (Hb1.out.trans (hb2.mono Hb1.out.size))
    clear hc2 hb2
    go_wp2_with fail
    refine (HI.out _ _ Hc2.out).mono ?_
    rintro e w3 ⟨rfl, rfl⟩
    go_wp2
    go_ret
    exact ⟨rfl, Hb2.out⟩
  · have hr : R = false := by rw [HNM.out]; simp; omega
    subst hr
    have h16' : ¬ (s.size : Int) ≤ 16 := by omega
    clear HNM
    go_enter Try.func18, Try.ntmps18
    go_wp2_with fail
    refine (HK.out _).mono ?_
    rintro e w1 ⟨rfl, hb1⟩
    go_wp2
    go_ret
    exact ⟨rfl, hb1⟩
  · have hr : R = false := by rw [HNM.out]; simp [hk1]
    subst hr
    have hk1' : ((kd : Int) == 1) = false := by simp; omega
    clear HNM hk1
    go_enter Try.func18, Try.ntmps18
    go_wp2_with fail
    refine (HK.out _).mono ?_
    rintro e w1 ⟨rfl, hb1⟩
    go_wp2
    go_ret
    exact ⟨rfl, hb1⟩

end Go.Proofs.Ytgnnkddneoghmaa
