/- The walk of the law LexerNames. -/
import Derived.Test.YtgnnkddneoghmaaLexN
import Derived.Test.YtgnnkddneoghmaaLexLossless
namespace Go.Proofs.Ytgnnkddneoghmaa
open Go.RowKit

theorem name_out {l : List UInt8} (h : nameB l = true ∨ keywordsR.contains l = true) (hl : l.length ≤ 65536) : outT l = ([⟨1, l, 0⟩], 0, 0) := by
  have key : step l = (1, l.length) ∧ l ≠ [] := by
    rcases h with h | h
    · have hne : l ≠ [] := by
        rintro rfl
        cases h
      unfold nameB at h
      simp only [Bool.and_eq_true, beq_iff_eq] at h
      obtain ⟨a, b⟩ := (kind1_iff hne).1 h.1.1
      exact ⟨Prod.ext a b, hne⟩
    · exact keyword_step h
  unfold outT
  rw [if_neg (by omega), lex_whole key.2 key.1]
theorem not_both {l : List UInt8} : nameB l = true → keywordsR.contains l = false := by
  unfold nameB
  simp only [Bool.and_eq_true]
  rintro ⟨_, h⟩
  simpa using h

set_option maxRecDepth 100000 in
set_option maxHeartbeats 4000000 in
theorem names_any (s : ByteArray) (hs : s.size ≤ maxLen) (w : World) :
    Calls Try.prog 8 #[.string s] w fun e w' => e = .returned (.bool true) ∧ Below w.heap.size w w' := by
  have HS := Lib.hid hs
  unfold maxLen at hs
  have HZ : Hid (s.data.toList.length = s.size) := by simp [Hid]
  by_cases hbig : 60 < s.size
  · have hb' : (60 : Int) < (s.size : Int) := by omega
    go_enter Try.func8, Try.ntmps8
    go_wp2_with (go_at_call 12; refine (awake_any _).mono ?_; rintro e w1 ⟨rfl, hb1⟩)
    go_ret
    exact ⟨rfl, hb1⟩
  have hb' : (s.size : Int) ≤ 60 := by omega
  have hn1 := name_any s HS.out
  have hn2 := rname_any s HS.out
  have hk1 := keyword_any s HS.out
  have hk2 := inK_any s
  have hl := lex_any s HS.out
  have hlex : nameB s.data.toList = true ∨ keywordsR.contains s.data.toList = true → outT s.data.toList = ([⟨1, s.data.toList, 0⟩], 0, 0) := fun h => name_out h (by rw [HZ.out]; omega)
  have hnb := not_both (l := s.data.toList)
  generalize nameB s.data.toList = nm at *
  generalize keywordsR.contains s.data.toList = kw at *
  generalize outT s.data.toList = out at *
  generalize s.data.toList = ls at *
  have N1 := Lib.hid hn1
  have N2 := Lib.hid hn2
  have K1 := Lib.hid hk1
  have K2 := Lib.hid hk2
  have HL := Lib.hid hl
  have HX := Lib.hid hlex
  have HNB := Lib.hid hnb
  clear hn1 hn2 hk1 hk2 hl hlex hnb hbig
  go_enter Try.func8, Try.ntmps8
  go_wp2_with (go_at_call 12; refine (awake_any _).mono ?_; rintro e w0 ⟨rfl, hb0⟩; have Hb0 := Lib.hid hb0; clear hb0)
  refine (N1.out _).mono ?_
  rintro e w1 ⟨rfl, hb1⟩
  have Hb1 := Lib.hid (Hb0.out.trans (hb1.mono Hb0.out.size))
  clear hb1
  go_wp2_with fail
  refine (N2.out _).mono ?_
  rintro e w2 ⟨rfl, hb2⟩
  have Hb2 := Lib.hid (Hb1.out.trans (hb2.mono Hb1.out.size))
  clear hb2
  go_wp2_with fail
  refine (K1.out _).mono ?_
  rintro e w3 ⟨rfl, hb3⟩
  have Hb3 := Lib.hid (Hb2.out.trans (hb3.mono Hb2.out.size))
  clear hb3
  go_wp2_with fail
  refine (kws_any _).mono ?_
  rintro e w4 ⟨rfl, hc4, hb4, _⟩
  have Hc4 := Lib.hid hc4
  have Hb4 := Lib.hid (Hb3.out.trans (hb4.mono Hb3.out.size))
  clear hc4 hb4
  go_wp2_with fail
  refine (K2.out _ _ Hc4.out).mono ?_
  rintro e w5 ⟨rfl, rfl⟩
  go_wp2_with fail
  refine (N1.out _).mono ?_
  rintro e w6 ⟨rfl, hb6⟩
  have Hb6 := Lib.hid (Hb4.out.trans (hb6.mono Hb4.out.size))
  clear hb6
  cases hnm : nm
  · subst hnm
    go_wp2_with fail
    refine (N1.out _).mono ?_
    rintro e w7 ⟨rfl, hb7⟩
    have Hb7 := Lib.hid (Hb6.out.trans (hb7.mono Hb6.out.size))
    clear hb7
    cases hkw : kw
    · subst hkw
      go_wp2_with fail
      refine (K1.out _).mono ?_
      rintro e w8 ⟨rfl, hb8⟩
      have Hb8 := Lib.hid (Hb7.out.trans (hb8.mono Hb7.out.size))
      clear hb8
      go_wp2
      go_ret
      exact ⟨rfl, Hb8.out⟩
    · subst hkw
      go_wp2_with fail
      refine (K1.out _).mono ?_
      rintro e w8 ⟨rfl, hb8⟩
      have Hb8 := Lib.hid (Hb7.out.trans (hb8.mono Hb7.out.size))
      clear hb8
      go_wp2_with fail
      refine (HL.out _).mono ?_
      rw [HX.out (by simp)]
      rintro e w9 ⟨v9, rfl, hown9, hb9⟩
      have Hb9 := Lib.hid (Hb8.out.trans (hb9.mono Hb8.out.size))
      rcases RowAt.of_own hown9 with ⟨h0, _⟩ | ⟨_, g, cap, rfl, hg, hnc, hcm, hcell⟩
      · cases h0
      · have c0 := hcell 0 (.int .u8 1) rfl
        clear hown9 hb9 hcell
        go_wp2
        go_ret
        exact ⟨rfl, Hb9.out⟩
  · subst hnm
    have hkw : kw = false := HNB.out rfl
    subst hkw
    go_wp2_with fail
    refine (K1.out _).mono ?_
    rintro e w7 ⟨rfl, hb7⟩
    have Hb7 := Lib.hid (Hb6.out.trans (hb7.mono Hb6.out.size))
    clear hb7
    go_wp2_with fail
    refine (N1.out _).mono ?_
    rintro e w8 ⟨rfl, hb8⟩
    have Hb8 := Lib.hid (Hb7.out.trans (hb8.mono Hb7.out.size))
    clear hb8
    go_wp2_with fail
    refine (HL.out _).mono ?_
    rw [HX.out (by simp)]
    rintro e w9 ⟨v9, rfl, hown9, hb9⟩
    have Hb9 := Lib.hid (Hb8.out.trans (hb9.mono Hb8.out.size))
    rcases RowAt.of_own hown9 with ⟨h0, _⟩ | ⟨_, g, cap, rfl, hg, hnc, hcm, hcell⟩
    · cases h0
    · have c0 := hcell 0 (.int .u8 1) rfl
      clear hown9 hb9 hcell
      go_wp2
      go_ret
      exact ⟨rfl, Hb9.out⟩

end Go.Proofs.Ytgnnkddneoghmaa
