/- The walk of the law LexerTokens. -/
import Derived.Test.YtgnnkddneoghmaaLexR3
import Derived.Test.YtgnnkddneoghmaaLexAlone
namespace Go.Proofs.Ytgnnkddneoghmaa
open Go.RowKit

set_option maxRecDepth 100000 in
set_option maxHeartbeats 2000000 in
theorem same_some (T : List Tok) (g1 c1 g2 c2 : Nat) (hn : T.length ≤ c1) (hm : c1 ≤ maxLen) (w : World)
    (h1 : ∀ j u, (tokCells T)[j]? = some u → w.cell? ⟨g1, j, none⟩ = some u) (h2 : ∀ j u, (tokCells T)[j]? = some u → w.cell? ⟨g2, j, none⟩ = some u) :
    Calls Try.prog 15 #[.slice (some ⟨g1, 0, none⟩) T.length c1, .slice (some ⟨g2, 0, none⟩) T.length c2] w fun e w' => e = .returned (.int .i64 1) ∧ ∃ x, w' = w.drewN x := by
  have H1 := Lib.hid h1
  have H2 := Lib.hid h2
  obtain ⟨n, hnn⟩ : ∃ n, n = T.length := ⟨_, rfl⟩
  rw [← hnn] at hn ⊢
  have HN := Lib.hid hnn
  have hn63 : n ≤ 9223372036854775807 := by unfold maxLen at hm; omega
  clear h1 h2 hnn hm
  go_enter Try.func15, Try.ntmps15
  go_wp2
  go_loopg [5] n (fun q i wr => ∃ k : Nat, k + q = n ∧ i = .int .i64 k ∧ ∃ x, wr = w.drewN x)
  case atStart => exact ⟨0, by omega, rfl, 0, rfl⟩
  case round =>
    obtain ⟨k, hk, rfl, x, rfl⟩ := hrel
    have Hk := Lib.hid hk
    have hkn : k ≤ n := by omega
    clear hk
    by_cases hlt : k < n
    · have hlt' : (k : Int) < (n : Int) := by omega
      have htk : ∃ t, T[k]? = some t := ⟨_, List.getElem?_eq_getElem (by rw [← HN.out]; exact hlt)⟩
      obtain ⟨t, ht⟩ := htk
      obtain ⟨q0, q1, q2⟩ := tok_cells ht
      have m0 := H1.out _ _ q0
      have m1 := H1.out _ _ q1
      have m2 := H1.out _ _ q2
      have l0 := H2.out _ _ q0
      have l1 := H2.out _ _ q1
      have l2 := H2.out _ _ q2
      obtain ⟨kd, tx, ps⟩ := t
      simp only at m0 m1 m2 l0 l1 l2
      clear q0 q1 q2 ht
      go_wp2
      go_quiet (fail)
      go_wp2
      have hk := Hk.out
      go_roundg (n - (k + 1))
      case measure => omega
      case rel => exact ⟨k + 1, by omega, by go_num, _, by first | rfl | exact World.drewN_drewN _ _ _⟩
    · have hge : ¬ (k : Int) < (n : Int) := by omega
      go_wp2
      go_ret
      exact ⟨rfl, x, rfl⟩

theorem same_none (a b : Option Addr) (c d : Nat) (w : World) :
    Calls Try.prog 15 #[.slice a 0 c, .slice b 0 d] w fun e w' => e = .returned (.int .i64 1) ∧ ∃ x, w' = w.drewN x := by
  go_enter Try.func15, Try.ntmps15
  go_wp2
  refine wp_loop_rounds 1 ?_
  rw [rounds_succ]
  go_wp2
  go_ret
  exact ⟨rfl, 0, rfl⟩

theorem same_any (T : List Tok) (v1 v2 : Value) (w : World) (h1 : RowAt w v1 T.length (tokCells T)) (h2 : RowAt w v2 T.length (tokCells T)) :
    Calls Try.prog 15 #[v1, v2] w fun e w' => e = .returned (.int .i64 1) ∧ ∃ x, w' = w.drewN x := by
  rcases h1 with ⟨a1, a, c, rfl⟩ | ⟨a1, g1, c1, rfl, _, b1, b2, b3⟩
  · rcases h2 with ⟨a2, b, d, rfl⟩ | ⟨a2, _⟩
    · exact same_none a b c d w
    · omega
  · rcases h2 with ⟨a2, _⟩ | ⟨a2, g2, c2, rfl, _, _, _, d3⟩
    · omega
    · exact same_some T g1 c1 g2 c2 b1 b2 w b3 d3

theorem rlex_any' (s : ByteArray) (hs : s.size ≤ maxLen) (w : World) {T : List Tok} {p er : Nat} (h : outT s.data.toList = (T, p, er)) :
    Calls Try.prog 14 #[.string s] w fun e w' => ∃ v, e = .returned (.tuple #[v, .int .i64 p, .int .i64 er]) ∧
      w'.ownsRow w.heap.size 47 3 v T.length (tokCells T) ∧ Below w.heap.size w w' := by
  have := rlex_any s hs w
  rwa [h] at this

set_option maxRecDepth 100000 in
set_option maxHeartbeats 4000000 in
theorem tokens_any (s : ByteArray) (hs : s.size ≤ maxLen) (w : World) :
    Calls Try.prog 3 #[.string s] w fun e w' => e = .returned (.bool true) ∧ Below w.heap.size w w' := by
  have HS := Lib.hid hs
  unfold maxLen at hs
  have HZ : Hid (s.data.toList.length = s.size) := by simp [Hid]
  by_cases hbig : 120 < s.size
  · have hb' : (120 : Int) < (s.size : Int) := by omega
    go_enter Try.func3, Try.ntmps3
    go_wp2_with (go_at_call 12; refine (awake_any _).mono ?_; rintro e w1 ⟨rfl, hb1⟩)
    go_ret
    exact ⟨rfl, hb1⟩
  · have hb' : (s.size : Int) ≤ 120 := by omega
    go_enter Try.func3, Try.ntmps3
    go_wp2_with (go_at_call 12; refine (awake_any _).mono ?_; rintro e w0 ⟨rfl, hb0⟩; have Hb0 := Lib.hid hb0; clear hb0)
    refine (lex_any s HS.out _).mono ?_
    rintro e w1 ⟨v1, rfl, hown1, hb1⟩
    have Hb1 := Lib.hid (Hb0.out.trans (hb1.mono Hb0.out.size))
    have hrow := RowAt.of_own hown1
    clear hown1 hb1
    generalize hout : outT s.data.toList = out at *
    obtain ⟨toks, p, er⟩ := out
    have HOUT := Lib.hid hout
    clear hout
    simp only at hrow ⊢
    have Hrow := Lib.hid hrow
    clear hrow
    go_wp2_with fail
    refine (rlex_any' s HS.out _ HOUT.out).mono ?_
    rintro e w2 ⟨v2, rfl, hown2, hb2⟩
    have hrow2 := RowAt.of_own hown2
    have hrow1 := Hrow.out.below hb2 (Nat.le_refl _)
    have Hb2 := Lib.hid (Hb1.out.trans (hb2.mono Hb1.out.size))
    have R1 := Lib.hid hrow1
    have R2 := Lib.hid hrow2
    clear hown2 hb2 hrow1 hrow2
    go_wp2_with fail
    refine (same_any toks v1 v2 _ R1.out R2.out).mono ?_
    rintro e w3 ⟨rfl, x, rfl⟩
    go_wp2
    go_ret
    exact ⟨rfl, ⟨Hb2.out.os, Hb2.out.tape, Hb2.out.output, Hb2.out.size, Hb2.out.block⟩⟩

end Go.Proofs.Ytgnnkddneoghmaa
