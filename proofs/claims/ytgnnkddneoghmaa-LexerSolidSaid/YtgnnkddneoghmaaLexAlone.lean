/- The walk of the law LexerAlone. -/
import Derived.Test.YtgnnkddneoghmaaLexW4
namespace Go.Proofs.Ytgnnkddneoghmaa
open Go.RowKit

theorem out_len {l : List UInt8} {t : Tok} {k : Nat} (h : (outT l).1[k]? = some t) : t.text.length ≤ l.length ∧ (lexP l 0).1[k]? = some t ∧ (lexP l 0).2 = none ∧ (outT l).2.2 = 0 := by
  unfold outT at h ⊢
  split at h
  · simp at h
  · rename_i hbig
    cases he : (lexP l 0).2 with
    | some p => rw [he] at h; simp at h
    | none =>
      rw [he] at h
      obtain ⟨p, _, _, _, _, h5, _⟩ := lex_at l 0 he k t h
      exact ⟨by omega, h, rfl, by rw [if_neg hbig]⟩

theorem out_alone {l : List UInt8} {t : Tok} {k : Nat} (h : (outT l).1[k]? = some t) (hl : l.length ≤ 65536) : outT t.text = ([⟨t.kind, t.text, 0⟩], 0, 0) := by
  obtain ⟨h1, h2, h3, _⟩ := out_len h
  have := lex_alone l 0 t (List.mem_of_getElem? h2)
  unfold outT
  rw [if_neg (by omega), this]

theorem u8_data (l : List UInt8) : (⟨l.toArray⟩ : ByteArray).data.toList = l := by simp
theorem u8_size (l : List UInt8) : (⟨l.toArray⟩ : ByteArray).size = l.length := by simp [ByteArray.size]

set_option maxHeartbeats 2000000 in
theorem alone_any (s : ByteArray) (hs : s.size ≤ maxLen) (w : World) :
    Calls Try.prog 4 #[.string s] w fun e w' => e = .returned (.bool true) ∧ Below w.heap.size w w' := by
  have HS := Lib.hid hs
  unfold maxLen at hs
  have HZ : Hid (s.data.toList.length = s.size) := by simp [Hid]
  by_cases hbig : 200 < s.size
  · have hb' : (200 : Int) < (s.size : Int) := by omega
    go_enter Try.func4, Try.ntmps4
    go_wp2_with (go_at_call 12; refine (awake_any _).mono ?_; rintro e w1 ⟨rfl, hb1⟩)
    go_ret
    exact ⟨rfl, hb1⟩
  · have hb' : (s.size : Int) ≤ 200 := by omega
    go_enter Try.func4, Try.ntmps4
    go_wp2_with (go_at_call 12; refine (awake_any _).mono ?_; rintro e w0 ⟨rfl, hb0⟩; have Hb0 := Lib.hid hb0; clear hb0)
    refine (lex_any s HS.out _).mono ?_
    rintro e w1 ⟨v1, rfl, hown1, hb1⟩
    have Hb1 := Lib.hid (Hb0.out.trans (hb1.mono Hb0.out.size))
    have hrow := RowAt.of_own hown1
    clear hown1 hb1
    generalize hout : outT s.data.toList = out at *
    obtain ⟨toks, p, er⟩ := out
    have HOUT := Lib.hid hout
    simp only at hrow ⊢
    clear hout
    by_cases her : er = 0
    · subst her
      rcases hrow with ⟨_, a, c, rfl⟩ | ⟨hpos, g, cap, rfl, hg, hnc, hcm, hcell⟩
      · go_wp2
        refine wp_loop_rounds 1 ?_
        rw [rounds_succ]
        go_wp2
        go_ret
        exact ⟨rfl, Hb1.out⟩
      · have HC := Lib.hid hcell
        obtain ⟨n, hn⟩ : ∃ n, n = toks.length := ⟨_, rfl⟩
        rw [← hn] at hpos hnc ⊢
        have HL := Lib.hid hn
        have hn63 : n ≤ 9223372036854775807 := by unfold maxLen at hcm; omega
        clear hcell hn
        go_wp2
        go_loopg [6] n (fun q i wr => ∃ k : Nat, k + q = n ∧ i = .int .i64 k ∧ Below w1.heap.size w1 wr)
        case atStart => exact ⟨0, by omega, rfl, Below.refl _ _⟩
        case round =>
          obtain ⟨k, hk, rfl, hb⟩ := hrel
          have Hk := Lib.hid hk
          have hkn : k ≤ n := by omega
          clear hk
          by_cases hlt : k < n
          · have hlt' : (k : Int) < (n : Int) := by omega
            have htk : ∃ t, toks[k]? = some t := ⟨_, List.getElem?_eq_getElem (by rw [HL.out] at hlt; exact hlt)⟩
            obtain ⟨t, ht⟩ := htk
            obtain ⟨c0, c1, c2⟩ := tok_cells ht
            have d0 := below_old hb hg (HC.out _ _ c0)
            have d1 := below_old hb hg (HC.out _ _ c1)
            have d2 := below_old hb hg (HC.out _ _ c2)
            have hgr : g < wr.heap.size := Nat.lt_of_lt_of_le hg hb.size
            have Hb := Lib.hid hb
            have HT := Lib.hid ht
            clear hb c0 c1 c2 ht
            obtain ⟨kd, tx, ps⟩ := t
            simp only at d0 d1 d2
            have htt : (outT s.data.toList).1[k]? = some ⟨kd, tx, ps⟩ := by rw [HOUT.out]; exact HT.out
            have hlen := (out_len htt).1
            rw [HZ.out] at hlen
            have HA := Lib.hid (out_alone htt (by rw [HZ.out]; omega))
            clear htt
            go_wp2_with fail
            refine (lex_any ⟨tx.toArray⟩ (by rw [u8_size]; unfold maxLen; omega) _).mono ?_
            rw [u8_data, HA.out]
            rintro e w2 ⟨v2, rfl, hown2, hb2⟩
            rcases RowAt.of_own hown2 with ⟨h0, _⟩ | ⟨_, g2, cap2, rfl, hg2, hn2, hm2, hc2⟩
            · simp at h0
            have d0' := below_old hb2 hgr d0
            have d1' := below_old hb2 hgr d1
            have m0 : w2.cell? ⟨g2, 0, none⟩ = some (.int .u8 kd) := hc2 0 _ rfl
            have m1 : w2.cell? ⟨g2, 1, none⟩ = some (.string ⟨tx.toArray⟩) := hc2 1 _ rfl
            have m2 : w2.cell? ⟨g2, 2, none⟩ = some (.int .i64 0) := hc2 2 _ rfl
            have Hb2 := Lib.hid (Hb.out.trans (hb2.mono Hb.out.size))
            clear d0 d1 d2 hown2 hb2 hc2
            go_wp2
            go_quiet (fail)
            go_wp2
            have hk := Hk.out
            go_roundg (n - (k + 1))
            case measure => omega
            case rel => exact ⟨k + 1, by omega, by go_num, ⟨Hb2.out.os, Hb2.out.tape, Hb2.out.output, Hb2.out.size, Hb2.out.block⟩⟩
          · have hge : ¬ (k : Int) < (n : Int) := by omega
            have Hb := Lib.hid hb
            clear hb
            go_wp2
            go_ret
            exact ⟨rfl, Hb1.out.trans (Hb.out.mono Hb1.out.size)⟩
    · have her' : ((er : Int) != 0) = true := by simp; omega
      go_wp2
      go_ret
      exact ⟨rfl, Hb1.out⟩

end Go.Proofs.Ytgnnkddneoghmaa
