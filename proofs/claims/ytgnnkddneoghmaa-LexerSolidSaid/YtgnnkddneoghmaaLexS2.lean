/- Walks of Solid and Join over any tokens. -/
import Derived.Test.YtgnnkddneoghmaaLexO
namespace Go.Proofs.Ytgnnkddneoghmaa
open Go.RowKit

theorem rCells_snoc (l : List RTok) (t : RTok) : rCells (l ++ [t]) = rCells l ++ [.int .u8 t.kind, .string t.text, .int .i64 t.pos] := by
  simp [rCells, rCell]
theorem strCells_rx (s : ByteArray) : Lib.strCells s = Lib.byteCells s.data.toList := rfl
def rsolidB (t : RTok) : Bool := t.kind != 4 && t.kind != 5
def rsolidT (T : List RTok) : List RTok := T.filter rsolidB
theorem rsolid_take {T : List RTok} {k : Nat} {t : RTok} (h : T[k]? = some t) : rsolidT (T.take (k + 1)) = if rsolidB t then rsolidT (T.take k) ++ [t] else rsolidT (T.take k) := by
  have hk : k < T.length := by
    rcases Nat.lt_or_ge k T.length with hh | hh
    · exact hh
    · rw [List.getElem?_eq_none hh] at h; cases h
  have e : T[k] = t := by rw [List.getElem?_eq_getElem hk] at h; exact Option.some.inj h
  unfold rsolidT
  rw [List.take_succ_eq_append_getElem hk, e, List.filter_append]
  split <;> simp [*]
theorem rsolid_len (T : List RTok) (k : Nat) : (rsolidT (T.take k)).length ≤ k := Nat.le_trans (List.length_filter_le _ _) (by rw [List.length_take]; omega)

set_option maxRecDepth 100000 in
set_option maxHeartbeats 2000000 in
theorem rsolid_some (T : List RTok) (g o cap : Nat) (h32 : T.length ≤ 4398046511104) (w : World) (hg : g < w.heap.size)
    (hc : ∀ k t, T[k]? = some t → TokAt w g o k t ∧ t.Fits) :
    Calls Try.prog 16 #[.slice (some ⟨g, o, none⟩) T.length cap] w fun e w' => ∃ v, e = .returned v ∧ w'.ownsRow w.heap.size 33 3 v (rsolidT T).length (rCells (rsolidT T)) ∧ Below w.heap.size w w' := by
  have HC := Lib.hid hc
  obtain ⟨i0, hi, hz0, hz1, hz2⟩ := info_parts tokInfo
  obtain ⟨n, hnn⟩ : ∃ n, n = T.length := ⟨_, rfl⟩
  rw [← hnn] at h32 ⊢
  have HN := Lib.hid hnn
  have H32 := Lib.hid h32
  have hn63 : n ≤ 9223372036854775807 := by omega
  clear hc hnn h32
  go_enter Try.func16, Try.ntmps16
  go_wp2
  go_loopg [3, 8] n (fun q v i wr => ∃ k : Nat, k + q = n ∧ i = .int .i64 k ∧ wr.ownsRow w.heap.size 33 3 v (rsolidT (T.take k)).length (rCells (rsolidT (T.take k))) ∧ Below w.heap.size w wr)
  case atStart => exact ⟨0, by omega, rfl, World.ownsRow_nil _ _ _ _, Below.refl _ _⟩
  case round =>
    obtain ⟨k, hk, rfl, hown, hb⟩ := hrel
    have Hk := Lib.hid hk
    have hkn : k ≤ n := by omega
    have Hown := Lib.hid hown
    have Hb := Lib.hid hb
    clear hk hown hb
    by_cases hlt : k < n
    · have hlt' : (k : Int) < (n : Int) := by omega
      have htk : ∃ t, T[k]? = some t := ⟨_, List.getElem?_eq_getElem (by rw [← HN.out]; exact hlt)⟩
      obtain ⟨t, ht⟩ := htk
      obtain ⟨⟨q0, q1, q2⟩, _⟩ := HC.out k t ht
      have m0 := below_old Hb.out hg q0
      have m1 := below_old Hb.out hg q1
      have m2 := below_old Hb.out hg q2
      have hsl := rsolid_len T k
      have hst := rsolid_take ht
      have HST := Lib.hid hst
      have hsz := Hb.out.size
      clear q0 q1 q2 ht hst
      obtain ⟨kd, tx, ps⟩ := t
      simp only at m0 m1 m2
      by_cases h4 : kd = 4
      · subst h4
        have hs : rsolidB ⟨4, tx, ps⟩ = false := rfl
        have HS := Lib.hid hs
        clear hs
        go_wp2
        have hk := Hk.out
        have hst := HST.out
        rw [HS.out] at hst
        simp only [Bool.false_eq_true, if_false] at hst
        go_roundg (n - (k + 1))
        case measure => omega
        case rel => exact ⟨k + 1, by omega, by go_num, by rw [hst]; exact Hown.out.alloc _, Hb.out.alloc hsz _⟩
      by_cases h5 : kd = 5
      · subst h5
        have hs : rsolidB ⟨5, tx, ps⟩ = false := rfl
        have HS := Lib.hid hs
        clear hs
        go_wp2
        have hk := Hk.out
        have hst := HST.out
        rw [HS.out] at hst
        simp only [Bool.false_eq_true, if_false] at hst
        go_roundg (n - (k + 1))
        case measure => omega
        case rel => exact ⟨k + 1, by omega, by go_num, by rw [hst]; exact Hown.out.alloc _, Hb.out.alloc hsz _⟩
      have hs : rsolidB ⟨kd, tx, ps⟩ = true := by simp [rsolidB, h4, h5]
      have HS := Lib.hid hs
      clear hs
      have h4' : (kd != 4) = true := by simpa using h4
      have h5' : (kd != 5) = true := by simpa using h5
      clear h4 h5
      go_wp2_with (at_builtin; refine wpList_append_own _ rfl (.tmp 20) (.tmp 22) 23 rfl w.heap.size 33 i0 (.agg #[.int .u8 0, .string ByteArray.empty, .int .i64 0]) 3 32 Try.underlying23 hi hz0 hz1 hz2 rfl (by decide) _ _ _ rfl ((Hown.out.alloc _).alloc _) ⟨wr.heap.size + 1, 0, none⟩ 1 1 [.int .u8 kd, .string tx, .int .i64 ps] rfl rfl ?c1 ?c2 ?c3 ?c4 ?c5 ?_)
      case c1 =>
        have h := cell_three_new (wr.alloc (Obj.cells #[.int .u8 kd, .string tx, .int .i64 ps] 33)) (.int .u8 kd) (.string tx) (.int .i64 ps) 33
        rw [show (wr.alloc (Obj.cells #[.int .u8 kd, .string tx, .int .i64 ps] 33)).heap.size = wr.heap.size + 1 from by simp] at h
        exact h
      case c2 => intro u hu; simp only [List.mem_cons, List.not_mem_nil, or_false] at hu; rcases hu with rfl | rfl | rfl <;> rfl
      case c3 => have := H32.out; unfold maxLen; omega
      case c4 => have := H32.out; omega
      case c5 => simp; omega
      intro v' w1 hown1 hgrow _
      have hb1 : Below w.heap.size w w1 := ((Hb.out.alloc hsz _).alloc (by simp; omega) _).grown hgrow (by simp; omega) (fun j hj => (Hown.out.lt j hj).1)
      clear hgrow Hown
      have Hown1 := Lib.hid hown1
      have Hb1 := Lib.hid hb1
      clear hown1 hb1
      go_wp2
      have hk := Hk.out
      have hst := HST.out
      rw [HS.out] at hst
      simp only [if_true] at hst
      go_roundg (n - (k + 1))
      case measure => omega
      case rel =>
        refine ⟨k + 1, by omega, by go_num, ?_, Hb1.out⟩
        rw [hst, rCells_snoc, List.length_append, List.length_singleton]
        exact Hown1.out
    · have hge : ¬ (k : Int) < (n : Int) := by omega
      have hke : k = n := by omega
      have hown := Hown.out
      rw [List.take_of_length_le (by rw [← HN.out]; omega)] at hown
      have HOW := Lib.hid hown
      clear hown hke Hown
      go_wp2
      go_ret
      exact ⟨_, rfl, HOW.out, Hb.out⟩

set_option maxRecDepth 100000 in
theorem rsolid_none (a : Option Addr) (c : Nat) (w : World) :
    Calls Try.prog 16 #[.slice a 0 c] w fun e w' => e = .returned (.slice none 0 0) ∧ w' = w := by
  go_enter Try.func16, Try.ntmps16
  go_wp2
  refine wp_loop_rounds 1 ?_
  rw [rounds_succ]
  go_wp2
  go_ret
  exact ⟨rfl, rfl⟩

def joinR (T : List RTok) : List UInt8 := T.flatMap (·.text.data.toList)
theorem joinR_take {T : List RTok} {k : Nat} {t : RTok} (h : T[k]? = some t) : joinR (T.take (k + 1)) = joinR (T.take k) ++ t.text.data.toList := by
  have hk : k < T.length := by
    rcases Nat.lt_or_ge k T.length with hh | hh
    · exact hh
    · rw [List.getElem?_eq_none hh] at h; cases h
  have e : T[k] = t := by rw [List.getElem?_eq_getElem hk] at h; exact Option.some.inj h
  unfold joinR
  rw [List.take_succ_eq_append_getElem hk, e, List.flatMap_append]
  simp
theorem joinR_le (T : List RTok) (k : Nat) : (joinR (T.take k)).length ≤ (joinR T).length := by
  have : joinR T = joinR (T.take k) ++ joinR (T.drop k) := by
    unfold joinR
    rw [← List.flatMap_append, List.take_append_drop]
  rw [this, List.length_append]
  omega
set_option maxRecDepth 100000 in
set_option maxHeartbeats 2000000 in
theorem rjoin_some (T : List RTok) (g o cap : Nat) (hm : T.length ≤ maxLen) (w : World) (hg : g < w.heap.size)
    (hc : ∀ k t, T[k]? = some t → TokAt w g o k t ∧ t.Fits) (hJ : (joinR T).length ≤ 140737488355328) :
    Calls Try.prog 22 #[.slice (some ⟨g, o, none⟩) T.length cap] w fun e w' => e = .returned (.string ⟨(joinR T).toArray⟩) ∧ Below w.heap.size w w' := by
  have HC := Lib.hid hc
  have HJ := Lib.hid hJ
  obtain ⟨n, hnn⟩ : ∃ n, n = T.length := ⟨_, rfl⟩
  rw [← hnn] at hm ⊢
  have HN := Lib.hid hnn
  have hn63 : n ≤ 9223372036854775807 := by unfold maxLen at hm; omega
  clear hc hnn hJ
  go_enter Try.func22, Try.ntmps22
  go_wp2
  go_loopg [8] n (fun q i wr => ∃ k : Nat, k + q = n ∧ i = .int .i64 k ∧ Lib.IsBuilder 51 5 w.heap.size w.heap.size (Lib.byteCells (joinR (T.take k))) wr ∧ Below w.heap.size w wr)
  case atStart => exact ⟨0, by omega, rfl, Lib.fresh_isBuilder 51 5 w, (Below.refl _ _).alloc (Nat.le_refl _) _⟩
  case round =>
    obtain ⟨k, hk, rfl, hB, hb⟩ := hrel
    have Hk := Lib.hid hk
    have hkn : k ≤ n := by omega
    have HB := Lib.hid hB
    have Hb := Lib.hid hb
    clear hk hB hb
    by_cases hlt : k < n
    · have hlt' : (k : Int) < (n : Int) := by omega
      have htk : ∃ t, T[k]? = some t := ⟨_, List.getElem?_eq_getElem (by rw [← HN.out]; exact hlt)⟩
      obtain ⟨t, ht⟩ := htk
      obtain ⟨⟨q0, q1, q2⟩, hft⟩ := HC.out k t ht
      have m0 := below_old Hb.out hg q0
      have m1 := below_old Hb.out hg q1
      have m2 := below_old Hb.out hg q2
      have hjt := joinR_take ht
      have hjl := joinR_le T (k + 1)
      obtain ⟨kd, tx, ps⟩ := t
      simp only at m0 m1 m2 hjt
      have HJT := Lib.hid hjt
      have Hft := Lib.hid hft
      clear hft
      have HJL := Lib.hid hjl
      have hsz := Hb.out.size
      clear q0 q1 q2 ht hjt hjl
      go_wp2_with fail
      refine (writeString_any w.heap.size w.heap.size _ tx _ (builder_alloc HB.out _) ?_ (by simp; omega)).mono ?_
      · have h1 := HJL.out
        rw [HJT.out, List.length_append] at h1
        have h2 := HJ.out
        rw [Lib.byteCells_length]
        have h3 : tx.data.toList.length = tx.size := by simp
        omega
      rintro e w2 ⟨rfl, hB2, hb2⟩
      rw [strCells_rx, ← byteCells_app, ← HJT.out] at hB2
      have HB2 := Lib.hid hB2
      have Hb2 := Lib.hid ((Hb.out.alloc hsz _).trans hb2)
      clear hB2 hb2
      go_wp2
      have hk := Hk.out
      go_roundg (n - (k + 1))
      case measure => omega
      case rel => exact ⟨k + 1, by omega, by go_num, HB2.out, Hb2.out⟩
    · have hge : ¬ (k : Int) < (n : Int) := by omega
      have hke : k = n := by omega
      have hB := HB.out
      rw [List.take_of_length_le (by rw [← HN.out]; omega)] at hB
      have HB2 := Lib.hid hB
      clear hB hke
      have hsz := Hb.out.size
      go_wp2_with fail
      refine (Try.Builder_String_any w.heap.size w.heap.size (joinR T) _ HB2.out hsz).mono ?_
      rintro e w2 ⟨rfl, hb2⟩
      have Hb2 := Lib.hid (Hb.out.trans hb2)
      clear hb2
      go_wp2
      go_ret
      exact ⟨rfl, Hb2.out⟩


end Go.Proofs.Ytgnnkddneoghmaa
