/- The walk of the law LexerLossless. -/
import Derived.Test.YtgnnkddneoghmaaLexJ2
import Derived.Test.YtgnnkddneoghmaaLexAlone
namespace Go.Proofs.Ytgnnkddneoghmaa
open Go.RowKit

theorem out_err {l : List UInt8} {T : List Tok} {p er : Nat} (h : outT l = (T, p, er)) (he : er ≠ 0) : T = [] := by
  unfold outT at h
  split at h
  · exact (Prod.mk.inj h).1.symm
  · split at h
    · have := (Prod.mk.inj (Prod.mk.inj h).2).2
      omega
    · exact (Prod.mk.inj h).1.symm
theorem out_ok {l : List UInt8} {T : List Tok} {p : Nat} (h : outT l = (T, p, 0)) : (lexP l 0).1 = T ∧ (lexP l 0).2 = none ∧ p = 0 := by
  unfold outT at h
  split at h
  · have := (Prod.mk.inj (Prod.mk.inj h).2).2
    omega
  · cases he : (lexP l 0).2 with
    | none =>
      rw [he] at h
      exact ⟨(Prod.mk.inj h).1, rfl, (Prod.mk.inj (Prod.mk.inj h).2).1.symm⟩
    | some q =>
      rw [he] at h
      have := (Prod.mk.inj (Prod.mk.inj h).2).2
      omega

theorem lex_pos : ∀ (l : List UInt8) (pos n : Nat) (t : Tok), (lexP l pos).1[n]? = some t → t.pos = pos + (joinT ((lexP l pos).1.take n)).length := by
  refine lex_ind (P := fun l pos => ∀ (n : Nat) (t : Tok), (lexP l pos).1[n]? = some t → t.pos = pos + (joinT ((lexP l pos).1.take n)).length) (fun pos => ?_) (fun l pos h hs => ?_) (fun l pos h hs ih => ?_)
  · intro n t ht; simp [lexP_nil] at ht
  · intro n t ht; simp [lexP_err h hs] at ht
  · intro n t ht
    have e1 := lexP_cons (pos := pos) h hs
    rw [e1] at ht ⊢
    cases n with
    | zero =>
      simp only [List.getElem?_cons_zero, Option.some.injEq] at ht
      subst ht
      simp [joinT]
    | succ n =>
      simp only [List.getElem?_cons_succ] at ht
      have := ih n t ht
      rw [this, List.take_succ_cons]
      have hl : (l.take (step l).2).length = (step l).2 := by rw [List.length_take]; have := step_le l; omega
      simp only [joinT, List.flatMap_cons, List.length_append, hl]
      omega

set_option maxRecDepth 100000 in
set_option maxHeartbeats 4000000 in
theorem lossless_any (s : ByteArray) (hs : s.size ≤ maxLen) (w : World) :
    Calls Try.prog 9 #[.string s] w fun e w' => e = .returned (.bool true) ∧ Below w.heap.size w w' := by
  have HS := Lib.hid hs
  unfold maxLen at hs
  have HZ : Hid (s.data.toList.length = s.size) := by simp [Hid]
  by_cases hbig : 500 < s.size
  · have hb' : (500 : Int) < (s.size : Int) := by omega
    go_enter Try.func9, Try.ntmps9
    go_wp2_with (go_at_call 12; refine (awake_any _).mono ?_; rintro e w1 ⟨rfl, hb1⟩)
    go_ret
    exact ⟨rfl, hb1⟩
  · have hb' : (s.size : Int) ≤ 500 := by omega
    go_enter Try.func9, Try.ntmps9
    go_wp2_with (go_at_call 12; refine (awake_any _).mono ?_; rintro e w0 ⟨rfl, hb0⟩; have Hb0 := Lib.hid hb0; clear hb0)
    refine (lex_any s HS.out _).mono ?_
    rintro e w1 ⟨v1, rfl, hown1, hb1⟩
    have Hb1 := Lib.hid (Hb0.out.trans (hb1.mono Hb0.out.size))
    have hrow := RowAt.of_own hown1
    clear hown1 hb1
    generalize hout : outT s.data.toList = out at *
    obtain ⟨toks, p, er⟩ := out
    have HOUT := Lib.hid hout
    simp only at hrow ⊢
    clear hout
    by_cases her : er = 0
    · subst her
      obtain ⟨hT, hE, hP⟩ := out_ok HOUT.out
      have hjoin : joinT toks = s.data.toList := by rw [← hT]; exact lex_cat _ _ hE
      have HJ := Lib.hid hjoin
      have Hrow := Lib.hid hrow
      have hfin : (⟨(joinT toks).toArray⟩ : ByteArray) = s := by rw [hjoin]
      have HFIN := Lib.hid hfin
      have hjl : (joinT toks).length = s.size := by rw [hjoin]; exact HZ.out
      have HJL := Lib.hid hjl
      have HTT := Lib.hid hT
      have HEE := Lib.hid hE
      clear hfin hjoin hjl hT hE hP
      rcases hrow with ⟨hz, a, c, rfl⟩ | ⟨hpos, g, cap, rfl, hg, hnc, hcm, hcell⟩
      · have hT0 : toks = [] := List.eq_nil_of_length_eq_zero hz
        have hs0 : s.size = 0 := by have := HJL.out; rw [hT0] at this; simp [joinT] at this; omega
        have hs0' : (0 : Int) == (s.size : Int) := by rw [hs0]; rfl
        have hs1 : ((0 : Int) == (s.size : Int)) = true := hs0'
        clear hz hT0 hs0 hs0'
        go_wp2
        refine wp_loop_rounds 1 ?_
        rw [rounds_succ]
        go_wp2_with fail
        refine (join_any toks _ _ Hrow.out (by have := HJL.out; omega)).mono ?_
        rw [HFIN.out]
        rintro e w2 ⟨rfl, hb2⟩
        have Hb2 := Lib.hid (Hb1.out.trans (hb2.mono Hb1.out.size))
        clear hb2
        go_wp2
        go_ret
        exact ⟨rfl, Hb2.out⟩
      · have HC := Lib.hid hcell
        obtain ⟨n, hn⟩ : ∃ n, n = toks.length := ⟨_, rfl⟩
        rw [← hn] at hpos hnc ⊢
        have HL := Lib.hid hn
        have hn63 : n ≤ 9223372036854775807 := by unfold maxLen at hcm; omega
        clear hcell hn
        go_wp2
        go_loopg [6, 7] n (fun q av i wr => ∃ k : Nat, k + q = n ∧ i = .int .i64 k ∧ av = .int .i64 ((joinT (toks.take k)).length : Nat) ∧ ∃ x, wr = w1.drewN x)
        case atStart => exact ⟨0, by omega, rfl, rfl, 0, rfl⟩
        case round =>
          obtain ⟨k, hk, rfl, rfl, x, rfl⟩ := hrel
          have Hk := Lib.hid hk
          have hkn : k ≤ n := by omega
          clear hk
          by_cases hlt : k < n
          · have hlt' : (k : Int) < (n : Int) := by omega
            have htk : ∃ t, toks[k]? = some t := ⟨_, List.getElem?_eq_getElem (by rw [← HL.out]; exact hlt)⟩
            obtain ⟨t, ht⟩ := htk
            obtain ⟨c0, c1, c2⟩ := tok_cells ht
            have d1 := HC.out _ _ c1
            have d2 := HC.out _ _ c2
            have ht2 : (lexP s.data.toList 0).1[k]? = some t := by rw [HTT.out]; exact ht
            have hp := lex_pos _ _ _ _ ht2
            rw [HTT.out, Nat.zero_add] at hp
            obtain ⟨p', b1, b2, _, b4, b5, b6⟩ := lex_at _ _ HEE.out k t ht2
            rw [Nat.zero_add] at b1
            subst b1
            have hnext := congrArg List.length (joinT_take ht)
            rw [List.length_append] at hnext
            rw [HZ.out] at b2 b5
            rw [hp] at d2 b2 b5 b6
            obtain ⟨kd, tx, ps⟩ := t
            simp only at d1 d2 b4 b5 b6 hnext
            generalize (joinT (toks.take k)).length = a at *
            obtain ⟨tb, htb⟩ : ∃ tb : ByteArray, tb = ⟨tx.toArray⟩ := ⟨_, rfl⟩
            rw [← htb] at d1
            have hts : tb.size = tx.length := by rw [htb]; simp [ByteArray.size]
            have hte : tb.toList.isEmpty = false := by
              rw [Lib.toList_data, htb]
              cases tx with
              | nil => exact absurd rfl b4
              | cons z zs => rfl
            have hx : s.extract a (a + tb.size) = tb := by rw [extract_tok, hts, b6, htb]
            have hsl := fun W => slice_mid Try.underlying9 s a tb.size (by omega) W
            rw [← hts] at b5 hnext
            have f1 : IntKind.i64.wrap ((a : Int) + (tb.size : Int)) = (a : Int) + (tb.size : Int) := IntWalk.i64_in _ (by omega)
            have f2 : ((a : Int) + (tb.size : Int)).toNat = a + tb.size := by omega
            have f3 : 0 ≤ (a : Int) + (tb.size : Int) := by omega
            have f4 : (a : Int) + (tb.size : Int) ≤ (s.size : Int) := by omega
            have f5 : decide ((s.size : Int) < (a : Int) + (tb.size : Int)) = false := by simp; omega
            have f6 : (a : Int) ≤ (a : Int) + (tb.size : Int) := by omega
            have HNX := Lib.hid hnext
            clear c0 c1 c2 ht ht2 hp b4 b6 htb hts hnext
            go_wp2
            go_quiet (fail)
            go_wp2
            have hk := Hk.out
            go_roundg (n - (k + 1))
            case measure => omega
            case rel => exact ⟨k + 1, by omega, by go_num, by rw [HNX.out]; go_num, _, by first | rfl | exact World.drewN_drewN _ _ _⟩
          · have hge : ¬ (k : Int) < (n : Int) := by omega
            have hke : k = n := by omega
            have hall : (joinT (toks.take k)).length = s.size := by
              rw [List.take_of_length_le (by rw [← HL.out]; omega)]
              exact HJL.out
            rw [hall]
            have HR := Lib.hid Hrow.out
            clear hke hall
            go_wp2_with fail
            refine (join_any toks _ _ ?_ (by have := HJL.out; omega)).mono ?_
            · have := Hrow.out
              rw [← HL.out] at this ⊢
              exact this
            rw [HFIN.out]
            rintro e w2 ⟨rfl, hb2⟩
            have hb3 : Below w1.heap.size w1 w2 := ⟨hb2.os, hb2.tape, hb2.output, hb2.size, hb2.block⟩
            have Hb2 := Lib.hid (Hb1.out.trans (hb3.mono Hb1.out.size))
            clear hb3
            clear hb2
            go_wp2
            go_ret
            exact ⟨rfl, ⟨Hb2.out.os, Hb2.out.tape, Hb2.out.output, Hb2.out.size, Hb2.out.block⟩⟩
    · have her' : ((er : Int) != 0) = true := by simp; omega
      have hT0 : toks = [] := out_err HOUT.out her
      subst hT0
      rcases hrow with ⟨_, a, c, rfl⟩ | ⟨hpos, _⟩
      · go_wp2
        go_ret
        exact ⟨rfl, Hb1.out⟩
      · simp at hpos

end Go.Proofs.Ytgnnkddneoghmaa
