/- The walk of the law LexerError. -/
import Derived.Test.YtgnnkddneoghmaaLexLossless
import Derived.Deep.RegionHeld3
namespace Go.Proofs.Ytgnnkddneoghmaa
open Go.RowKit

theorem out_bad {l : List UInt8} {T : List Tok} {p er : Nat} (h : outT l = (T, p, er)) (he : er ≠ 0) (hl : l.length ≤ 65536) :
    er = 3 ∧ p < l.length ∧ (∃ M, outT (l.take p) = (M, 0, 0) ∧ joinT M = l.take p) ∧ outT (l.drop p) = ([], 0, 3) := by
  unfold outT at h
  rw [if_neg (by omega)] at h
  cases hq : (lexP l 0).2 with
  | none =>
    rw [hq] at h
    have := (Prod.mk.inj (Prod.mk.inj h).2).2
    omega
  | some q =>
    rw [hq] at h
    have e1 := (Prod.mk.inj (Prod.mk.inj h).2).2
    have e2 := (Prod.mk.inj (Prod.mk.inj h).2).1
    subst e2
    obtain ⟨p, hp, h1, h2, h3, h4⟩ := lex_err l 0 q hq
    rw [Nat.zero_add] at hp
    subst hp
    refine ⟨e1.symm, h1, ⟨(lexP l 0).1, ?_, ?_⟩, ?_⟩
    · unfold outT
      rw [if_neg (by rw [List.length_take]; omega), h2]
    · have := lex_cat (l.take q) 0 (by rw [h2])
      rw [h2] at this
      exact this
    · unfold outT
      rw [if_neg (by rw [List.length_drop]; omega), lexP_err h3 h4]

set_option maxRecDepth 100000 in
set_option maxHeartbeats 4000000 in
theorem error_any (s : ByteArray) (hs : s.size ≤ maxLen) (w : World) :
    Calls Try.prog 10 #[.string s] w fun e w' => e = .returned (.bool true) ∧ Below w.heap.size w w' := by
  have HS := Lib.hid hs
  unfold maxLen at hs
  have HZ : Hid (s.data.toList.length = s.size) := by simp [Hid]
  by_cases hbig : 200 < s.size
  · have hb' : (200 : Int) < (s.size : Int) := by omega
    go_enter Try.func10, Try.ntmps10
    go_wp2_with (go_at_call 12; refine (awake_any _).mono ?_; rintro e w1 ⟨rfl, hb1⟩)
    go_ret
    exact ⟨rfl, hb1⟩
  · have hb' : (s.size : Int) ≤ 200 := by omega
    go_enter Try.func10, Try.ntmps10
    go_wp2_with (go_at_call 12; refine (awake_any _).mono ?_; rintro e w0 ⟨rfl, hb0⟩; have Hb0 := Lib.hid hb0; clear hb0)
    refine (lex_any s HS.out _).mono ?_
    rintro e w1 ⟨v1, rfl, hown1, hb1⟩
    have Hb1 := Lib.hid (Hb0.out.trans (hb1.mono Hb0.out.size))
    have hrow := RowAt.of_own hown1
    clear hown1 hb1
    generalize hout : outT s.data.toList = out at *
    obtain ⟨toks, p, er⟩ := out
    have HOUT := Lib.hid hout
    simp only at hrow ⊢
    clear hout
    by_cases her : er = 0
    · subst her
      obtain ⟨_, _, hP⟩ := out_ok HOUT.out
      subst hP
      go_wp2
      go_ret
      exact ⟨rfl, Hb1.out⟩
    · obtain ⟨he3, hp, ⟨M, hM1, hM2⟩, hD⟩ := out_bad HOUT.out her (by rw [HZ.out]; omega)
      subst he3
      rw [HZ.out] at hp
      have hp' : (p : Int) < (s.size : Int) := by omega
      have hpl : p ≤ s.size := by omega
      have hx1 : (s.extract 0 p).data.toList = s.data.toList.take p := by rw [Lib.extract_data]; simp
      have hx2 := extract_end s p
      have hn1 : (s.extract 0 p).size = p := by simp; omega
      have hn2 : (s.extract p s.size).size = s.size - p := by simp
      have hjm : (⟨(joinT M).toArray⟩ : ByteArray) = s.extract 0 p := by rw [hM2, ← hx1]
      have hjl : (joinT M).length ≤ 140737488355328 := by rw [hM2, List.length_take]; have := HS.out; unfold maxLen at this; omega
      rw [← hx1] at hM1
      rw [← hx2] at hD
      have HM1 := Lib.hid hM1
      have HD := Lib.hid hD
      have HJM := Lib.hid hjm
      have HJL := Lib.hid hjl
      have HN1 := Lib.hid hn1
      have HN2 := Lib.hid hn2
      clear hM1 hM2 hD hx1 hx2 hjm hjl hn1 hn2 her hrow
      go_wp2_with (go_at_call 13; refine (lex_any _ (by have := HS.out; simp; omega) _).mono ?_; rw [HM1.out]; rintro e w2 ⟨v2, rfl, hown2, hb2⟩; have Hown2 := Lib.hid hown2; have Hb2 := Lib.hid (Hb1.out.trans (hb2.mono Hb1.out.size)); clear hown2 hb2)
      refine (lex_any _ (by have := HS.out; simp; omega) _).mono ?_
      rw [HD.out]
      rintro e w3 ⟨v3, rfl, hown3, hb3⟩
      have Hb3 := Lib.hid (Hb2.out.trans (hb3.mono Hb2.out.size))
      have hr2 := (RowAt.of_own Hown2.out).below hb3 (Nat.le_refl _)
      have HR2 := Lib.hid hr2
      clear hown3 hb3 hr2 Hown2
      go_wp2
      go_region_held3 (fun _ => True) (exact trivial) (first | (go_at_call 22; refine (join_any M _ _ (by exact HR2.out) HJL.out).mono ?_; rw [HJM.out]; rintro e w4 ⟨rfl, hb4⟩; have hb5 : Below w3.heap.size w3 w4 := ⟨hb4.os, hb4.tape, hb4.output, hb4.size, hb4.block⟩; have Hb4 : Hid (Below w.heap.size w w4) := Hb3.out.trans (hb5.mono Hb3.out.size); clear hb4 hb5))
      all_goals go_wp2
      all_goals go_ret
      all_goals exact ⟨rfl, Hb4.out⟩

end Go.Proofs.Ytgnnkddneoghmaa
