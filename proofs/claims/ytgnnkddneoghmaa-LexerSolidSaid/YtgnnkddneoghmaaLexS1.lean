/- The walk of Solid. -/
import Derived.Test.YtgnnkddneoghmaaLexW4
import Derived.Test.YtgnnkddneoghmaaLexPlain3
namespace Go.Proofs.Ytgnnkddneoghmaa
open Go.RowKit

def solidT (T : List Tok) : List Tok := T.filter solidB
theorem solid_take {T : List Tok} {k : Nat} {t : Tok} (h : T[k]? = some t) : solidT (T.take (k + 1)) = if solidB t then solidT (T.take k) ++ [t] else solidT (T.take k) := by
  have hk : k < T.length := by
    rcases Nat.lt_or_ge k T.length with hh | hh
    · exact hh
    · rw [List.getElem?_eq_none hh] at h; cases h
  have e : T[k] = t := by rw [List.getElem?_eq_getElem hk] at h; exact Option.some.inj h
  unfold solidT
  rw [List.take_succ_eq_append_getElem hk, e, List.filter_append]
  split <;> simp [*]
theorem solid_len (T : List Tok) (k : Nat) : (solidT (T.take k)).length ≤ k := Nat.le_trans (List.length_filter_le _ _) (by rw [List.length_take]; omega)

set_option maxRecDepth 100000 in
set_option maxHeartbeats 2000000 in
theorem solid_some (T : List Tok) (g o cap : Nat) (h32 : T.length ≤ 4398046511104) (w : World) (hg : g < w.heap.size)
    (hc : ∀ k t, T[k]? = some t → w.cell? ⟨g, o + k * 3, none⟩ = some (.int .u8 t.kind) ∧ w.cell? ⟨g, o + k * 3 + 1, none⟩ = some (.string ⟨t.text.toArray⟩) ∧ w.cell? ⟨g, o + k * 3 + 2, none⟩ = some (.int .i64 t.pos)) :
    Calls Try.prog 16 #[.slice (some ⟨g, o, none⟩) T.length cap] w fun e w' => ∃ v, e = .returned v ∧ w'.ownsRow w.heap.size 33 3 v (solidT T).length (tokCells (solidT T)) ∧ Below w.heap.size w w' := by
  have HC := Lib.hid hc
  obtain ⟨i0, hi, hz0, hz1, hz2⟩ := info_parts tokInfo
  obtain ⟨n, hnn⟩ : ∃ n, n = T.length := ⟨_, rfl⟩
  rw [← hnn] at h32 ⊢
  have HN := Lib.hid hnn
  have H32 := Lib.hid h32
  have hn63 : n ≤ 9223372036854775807 := by omega
  clear hc hnn h32
  go_enter Try.func16, Try.ntmps16
  go_wp2
  go_loopg [3, 8] n (fun q v i wr => ∃ k : Nat, k + q = n ∧ i = .int .i64 k ∧ wr.ownsRow w.heap.size 33 3 v (solidT (T.take k)).length (tokCells (solidT (T.take k))) ∧ Below w.heap.size w wr)
  case atStart => exact ⟨0, by omega, rfl, World.ownsRow_nil _ _ _ _, Below.refl _ _⟩
  case round =>
    obtain ⟨k, hk, rfl, hown, hb⟩ := hrel
    have Hk := Lib.hid hk
    have hkn : k ≤ n := by omega
    have Hown := Lib.hid hown
    have Hb := Lib.hid hb
    clear hk hown hb
    by_cases hlt : k < n
    · have hlt' : (k : Int) < (n : Int) := by omega
      have htk : ∃ t, T[k]? = some t := ⟨_, List.getElem?_eq_getElem (by rw [← HN.out]; exact hlt)⟩
      obtain ⟨t, ht⟩ := htk
      obtain ⟨q0, q1, q2⟩ := HC.out k t ht
      have m0 := below_old Hb.out hg q0
      have m1 := below_old Hb.out hg q1
      have m2 := below_old Hb.out hg q2
      have hsl := solid_len T k
      have hst := solid_take ht
      have HST := Lib.hid hst
      have hsz := Hb.out.size
      clear q0 q1 q2 ht hst
      obtain ⟨kd, tx, ps⟩ := t
      simp only at m0 m1 m2
      by_cases h4 : kd = 4
      · subst h4
        have hs : solidB ⟨4, tx, ps⟩ = false := rfl
        have HS := Lib.hid hs
        clear hs
        go_wp2
        have hk := Hk.out
        have hst := HST.out
        rw [HS.out] at hst
        simp only [Bool.false_eq_true, if_false] at hst
        go_roundg (n - (k + 1))
        case measure => omega
        case rel => exact ⟨k + 1, by omega, by go_num, by rw [hst]; exact Hown.out.alloc _, Hb.out.alloc hsz _⟩
      by_cases h5 : kd = 5
      · subst h5
        have hs : solidB ⟨5, tx, ps⟩ = false := rfl
        have HS := Lib.hid hs
        clear hs
        go_wp2
        have hk := Hk.out
        have hst := HST.out
        rw [HS.out] at hst
        simp only [Bool.false_eq_true, if_false] at hst
        go_roundg (n - (k + 1))
        case measure => omega
        case rel => exact ⟨k + 1, by omega, by go_num, by rw [hst]; exact Hown.out.alloc _, Hb.out.alloc hsz _⟩
      have hs : solidB ⟨kd, tx, ps⟩ = true := by simp [solidB, h4, h5]
      have HS := Lib.hid hs
      clear hs
      have h4' : ((kd : Int) != 4) = true := by simp; omega
      have h5' : ((kd : Int) != 5) = true := by simp; omega
      clear h4 h5
      go_wp2_with (at_builtin; refine wpList_append_own _ rfl (.tmp 20) (.tmp 22) 23 rfl w.heap.size 33 i0 (.agg #[.int .u8 0, .string ByteArray.empty, .int .i64 0]) 3 32 Try.underlying23 hi hz0 hz1 hz2 rfl (by decide) _ _ _ rfl ((Hown.out.alloc _).alloc _) ⟨wr.heap.size + 1, 0, none⟩ 1 1 [.int .u8 kd, .string ⟨tx.toArray⟩, .int .i64 ps] rfl rfl ?c1 ?c2 ?c3 ?c4 ?c5 ?_)
      case c1 =>
        have h := cell_three_new (wr.alloc (Obj.cells #[.int .u8 kd, .string ⟨tx.toArray⟩, .int .i64 ps] 33)) (.int .u8 kd) (.string ⟨tx.toArray⟩) (.int .i64 ps) 33
        rw [show (wr.alloc (Obj.cells #[.int .u8 kd, .string ⟨tx.toArray⟩, .int .i64 ps] 33)).heap.size = wr.heap.size + 1 from by simp] at h
        exact h
      case c2 => intro u hu; simp only [List.mem_cons, List.not_mem_nil, or_false] at hu; rcases hu with rfl | rfl | rfl <;> rfl
      case c3 => have := H32.out; unfold maxLen; omega
      case c4 => have := H32.out; omega
      case c5 => simp; omega
      intro v' w1 hown1 hgrow _
      have hb1 : Below w.heap.size w w1 := ((Hb.out.alloc hsz _).alloc (by simp; omega) _).grown hgrow (by simp; omega) (fun j hj => (Hown.out.lt j hj).1)
      clear hgrow Hown
      have Hown1 := Lib.hid hown1
      have Hb1 := Lib.hid hb1
      clear hown1 hb1
      go_wp2
      have hk := Hk.out
      have hst := HST.out
      rw [HS.out] at hst
      simp only [if_true] at hst
      go_roundg (n - (k + 1))
      case measure => omega
      case rel =>
        refine ⟨k + 1, by omega, by go_num, ?_, Hb1.out⟩
        rw [hst, tokCells_snoc, List.length_append, List.length_singleton]
        exact Hown1.out
    · have hge : ¬ (k : Int) < (n : Int) := by omega
      have hke : k = n := by omega
      have hown := Hown.out
      rw [List.take_of_length_le (by rw [← HN.out]; omega)] at hown
      have HOW := Lib.hid hown
      clear hown hke Hown
      go_wp2
      go_ret
      exact ⟨_, rfl, HOW.out, Hb.out⟩

set_option maxRecDepth 100000 in
theorem solid_none (a : Option Addr) (c : Nat) (w : World) :
    Calls Try.prog 16 #[.slice a 0 c] w fun e w' => e = .returned (.slice none 0 0) ∧ w' = w := by
  go_enter Try.func16, Try.ntmps16
  go_wp2
  refine wp_loop_rounds 1 ?_
  rw [rounds_succ]
  go_wp2
  go_ret
  exact ⟨rfl, rfl⟩

theorem solid_any (T : List Tok) (v : Value) (w : World) (h : RowAt w v T.length (tokCells T)) (h32 : T.length ≤ 4398046511104) :
    Calls Try.prog 16 #[v] w fun e w' => ∃ v, e = .returned v ∧ w'.ownsRow w.heap.size 33 3 v (solidT T).length (tokCells (solidT T)) ∧ Below w.heap.size w w' := by
  rcases h with ⟨h0, a, c, rfl⟩ | ⟨_, g, cap, rfl, hg, _, _, hc⟩
  · have : T = [] := List.eq_nil_of_length_eq_zero h0
    subst this
    refine (solid_none a c w).mono ?_
    rintro e w' ⟨rfl, rfl⟩
    exact ⟨_, rfl, World.ownsRow_nil _ _ _ _, Below.refl _ _⟩
  · refine solid_some T g 0 cap h32 w hg (fun k t ht => ?_)
    obtain ⟨q0, q1, q2⟩ := tok_cells ht
    rw [Nat.zero_add]
    exact ⟨hc _ _ q0, hc _ _ q1, hc _ _ q2⟩

end Go.Proofs.Ytgnnkddneoghmaa
