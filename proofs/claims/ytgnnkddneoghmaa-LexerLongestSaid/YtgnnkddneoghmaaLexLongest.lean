/- The walk of the law LexerLongest. -/
import Derived.Test.YtgnnkddneoghmaaLexAlone
namespace Go.Proofs.Ytgnnkddneoghmaa
open Go.RowKit

theorem out_long {l : List UInt8} {t : Tok} {n : Nat} {toks : List Tok} {p : Nat} (ho : outT l = (toks, p, 0)) (h : toks[n]? = some t) (hl : l.length ≤ 65536) :
    t.pos ≤ l.length ∧ ∃ M : List Tok, outT (l.drop t.pos) = (M, 0, 0) ∧ M.length + n = toks.length ∧ ∀ (i : Nat) (m : Tok), M[i]? = some m → toks[n + i]? = some ⟨m.kind, m.text, m.pos + t.pos⟩ ∧ m.pos ≤ l.length := by
  have h' : (outT l).1[n]? = some t := by rw [ho]; exact h
  obtain ⟨_, h2, h3, _⟩ := out_len h'
  have e1 : (lexP l 0).1 = toks := by
    unfold outT at ho
    rw [if_neg (by omega), h3] at ho
    exact (Prod.mk.inj ho).1
  obtain ⟨q, a1, a2, a3, _, _, _⟩ := lex_at l 0 h3 n t h2
  rw [Nat.zero_add] at a1
  subst a1
  have hs := lexP_shift t.pos (l.drop t.pos) 0
  rw [a3] at hs
  have s1 := congrArg Prod.fst hs
  have s2 := congrArg Prod.snd hs
  simp only at s1 s2
  have hn : (lexP (l.drop t.pos) 0).2 = none := by
    cases hq : (lexP (l.drop t.pos) 0).2 with
    | none => rfl
    | some q => rw [hq] at s2; simp at s2
  refine ⟨by omega, (lexP (l.drop t.pos) 0).1, ?_, ?_, fun i m hm => ?_⟩
  · unfold outT
    rw [if_neg (by rw [List.length_drop]; omega), hn]
  · have := congrArg List.length s1
    rw [List.length_drop, List.length_map, e1] at this
    have hlt : n < toks.length := by
      rcases Nat.lt_or_ge n toks.length with hh | hh
      · exact hh
      · rw [List.getElem?_eq_none hh] at h; cases h
    omega
  · have := congrArg (fun x => x[i]?) s1
    simp only [List.getElem?_drop, List.getElem?_map, hm, Option.map_some, e1] at this
    obtain ⟨q, b1, b2, _⟩ := lex_at (l.drop t.pos) 0 hn i m hm
    rw [List.length_drop] at b2
    exact ⟨this, by omega⟩

theorem lt_of_some {l : List Tok} {i : Nat} {t : Tok} (h : l[i]? = some t) : i < l.length := by
  rcases Nat.lt_or_ge i l.length with hh | hh
  · exact hh
  · rw [List.getElem?_eq_none hh] at h; cases h

set_option maxRecDepth 100000 in
set_option maxHeartbeats 4000000 in
theorem longest_any (s : ByteArray) (hs : s.size ≤ maxLen) (a : Int) (wa : (Lit.int .u8 a).wf = true) (w : World) :
    Calls Try.prog 5 #[.string s, .int .u8 a] w fun e w' => e = .returned (.bool true) ∧ Below w.heap.size w w' := by
  have ha : 0 ≤ a ∧ a ≤ 255 := by simpa [Lit.wf, IntKind.min, IntKind.max, IntKind.signed, IntKind.bits] using wa
  clear wa
  obtain ⟨a, rfl⟩ := Int.eq_ofNat_of_zero_le ha.1
  have ha2 : a ≤ 255 := by omega
  clear ha
  have HS := Lib.hid hs
  unfold maxLen at hs
  have HZ : Hid (s.data.toList.length = s.size) := by simp [Hid]
  by_cases hbig : 200 < s.size
  · have hb' : (200 : Int) < (s.size : Int) := by omega
    go_enter Try.func5, Try.ntmps5
    go_wp2_with (go_at_call 12; refine (awake_any _).mono ?_; rintro e w1 ⟨rfl, hb1⟩)
    go_ret
    exact ⟨rfl, hb1⟩
  · have hb' : (s.size : Int) ≤ 200 := by omega
    go_enter Try.func5, Try.ntmps5
    go_wp2_with (go_at_call 12; refine (awake_any _).mono ?_; rintro e w0 ⟨rfl, hb0⟩; have Hb0 := Lib.hid hb0; clear hb0)
    refine (lex_any s HS.out _).mono ?_
    rintro e w1 ⟨v1, rfl, hown1, hb1⟩
    have Hb1 := Lib.hid (Hb0.out.trans (hb1.mono Hb0.out.size))
    have hrow := RowAt.of_own hown1
    clear hown1 hb1
    generalize hout : outT s.data.toList = out at *
    obtain ⟨toks, p, er⟩ := out
    have HOUT := Lib.hid hout
    simp only at hrow ⊢
    clear hout
    by_cases her : er = 0
    · subst her
      rcases hrow with ⟨hz, a, c, rfl⟩ | ⟨hpos, g, cap, rfl, hg, hnc, hcm, hcell⟩
      · go_wp2
        go_ret
        exact ⟨rfl, Hb1.out⟩
      · have HC := Lib.hid hcell
        obtain ⟨n, hn⟩ : ∃ n, n = toks.length := ⟨_, rfl⟩
        rw [← hn] at hpos hnc ⊢
        have HL := Lib.hid hn
        have hn63 : n ≤ 9223372036854775807 := by unfold maxLen at hcm; omega
        have hn0 : ((n : Int) == 0) = false := by simp; omega
        have hn1 : (1 : Int) ≤ (n : Int) := by omega
        obtain ⟨r, hr⟩ : ∃ r, r = a % n := ⟨_, rfl⟩
        have hrn : r < n := by rw [hr]; exact Nat.mod_lt _ hpos
        have hr1 : ((a : Int) % (n : Int)) = (r : Int) := by rw [hr]; omega
        have htk : ∃ t, toks[r]? = some t := ⟨_, List.getElem?_eq_getElem (by rw [← hn]; exact hrn)⟩
        obtain ⟨t, ht⟩ := htk
        obtain ⟨_, _, c2⟩ := tok_cells ht
        have d2 := hcell _ _ c2
        obtain ⟨hps, M, hM, hMl, hMt⟩ := out_long HOUT.out ht (by rw [HZ.out]; omega)
        rw [HZ.out] at hps
        obtain ⟨kd, tx, ps⟩ := t
        simp only at d2 hps hM hMt
        have hps' : (ps : Int) ≤ (s.size : Int) := by omega
        rw [← hn] at hMl
        have HM := Lib.hid hM
        have HML := Lib.hid hMl
        have HMT := Lib.hid hMt
        clear hcell hn hr hM hMl hMt ht c2
        have hrn' : (r : Int) < (n : Int) := by omega
        go_wp2_with fail
        refine (lex_any (s.extract ps s.size) (by simp; unfold maxLen; omega) _).mono ?_
        rw [extract_end, HM.out]
        rintro e w2 ⟨v2, rfl, hown2, hb2⟩
        simp only at hown2 ⊢
        rcases RowAt.of_own hown2 with ⟨h0, _⟩ | ⟨hm0, g2, cap2, rfl, hg2, hn2, hm2, hc2⟩
        · have := HML.out; omega
        have d2' := below_old hb2 hg d2
        have HC2 : Hid (∀ j u, (tokCells toks)[j]? = some u → w2.cell? ⟨g, j, none⟩ = some u) := fun j u hu => below_old hb2 hg (HC.out j u hu)
        have HD := Lib.hid hc2
        have Hb2 := Lib.hid (Hb1.out.trans (hb2.mono Hb1.out.size))
        obtain ⟨mn, hmn⟩ : ∃ mn, mn = M.length := ⟨_, rfl⟩
        rw [← hmn] at hm0 hn2 ⊢
        have hmr : mn + r = n := by rw [hmn]; exact HML.out
        have hsub : ((mn : Int) != (n : Int) - (r : Int)) = false := by simp; omega
        have hsub2 : IntKind.i64.wrap ((n : Int) - (r : Int)) = (n : Int) - (r : Int) := IntWalk.i64_in _ (by omega)
        have HMN := Lib.hid hmn
        have hmr' : mn + r ≤ n := by omega
        have Hmr := Lib.hid hmr
        clear hown2 hb2 hc2 d2 hmn hmr HC
        go_wp2
        go_loopg [12] mn (fun q i wr => ∃ k : Nat, k + q = mn ∧ i = .int .i64 k ∧ ∃ x, wr = w2.drewN x)
        case atStart => exact ⟨0, by omega, rfl, 0, rfl⟩
        case round =>
          obtain ⟨k, hk, rfl, x, rfl⟩ := hrel
          have Hk := Lib.hid hk
          have hkn : k ≤ mn := by omega
          clear hk
          by_cases hlt : k < mn
          · have hlt' : (k : Int) < (mn : Int) := by omega
            have hmk : ∃ m, M[k]? = some m := ⟨_, List.getElem?_eq_getElem (by rw [← HMN.out]; exact hlt)⟩
            obtain ⟨m, hm⟩ := hmk
            obtain ⟨q0, q1, q2⟩ := tok_cells hm
            have m0 := HD.out _ _ q0
            have m1 := HD.out _ _ q1
            have m2 := HD.out _ _ q2
            obtain ⟨z0, z1, z2⟩ := tok_cells (HMT.out k m hm).1
            have hmp := (HMT.out k m hm).2
            rw [HZ.out] at hmp
            have l0 := HC2.out _ _ z0
            have l1 := HC2.out _ _ z1
            have l2 := HC2.out _ _ z2
            obtain ⟨kd', tx', ps'⟩ := m
            simp only at m0 m1 m2 l0 l1 l2 hmp
            have ec : ((ps' + ps : Nat) : Int) = (ps' : Int) + (ps : Int) := by omega
            rw [ec] at l2
            have f1 : IntKind.i64.wrap ((r : Int) + (k : Int)) = (r : Int) + (k : Int) := IntWalk.i64_in _ (by omega)
            have f2 : ((r : Int) + (k : Int)).toNat = r + k := by omega
            have f3 : 0 ≤ (r : Int) + (k : Int) := by omega
            have f4 : (r : Int) + (k : Int) < (n : Int) := by omega
            have f5 : r + k < n := by omega
            have f6 : IntKind.i64.wrap (ps' : Int) = (ps' : Int) := IntWalk.i64_in _ (by omega)
            clear q0 q1 q2 z0 z1 z2 ec hm
            go_wp2
            go_quiet (fail)
            go_wp2
            have hk := Hk.out
            go_roundg (mn - (k + 1))
            case measure => omega
            case rel => exact ⟨k + 1, by omega, by go_num, _, by first | rfl | exact World.drewN_drewN _ _ _⟩
          · have hge : ¬ (k : Int) < (mn : Int) := by omega
            go_wp2
            go_ret
            exact ⟨rfl, ⟨Hb2.out.os, Hb2.out.tape, Hb2.out.output, Hb2.out.size, Hb2.out.block⟩⟩
    · have her' : ((er : Int) != 0) = true := by simp; omega
      go_wp2
      go_ret
      exact ⟨rfl, Hb1.out⟩

end Go.Proofs.Ytgnnkddneoghmaa
