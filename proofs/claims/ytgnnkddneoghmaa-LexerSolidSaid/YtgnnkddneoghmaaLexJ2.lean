/- The walk of Join. -/
import Derived.Test.YtgnnkddneoghmaaLexJ1
namespace Go.Proofs.Ytgnnkddneoghmaa
open Go.RowKit

theorem builder_alloc {T e : TypeId} {B b : Nat} {bs : List Value} {w : World} (h : Lib.IsBuilder T e B b bs w) (o : Obj) : Lib.IsBuilder T e B b bs (w.alloc o) := by
  have key : ∀ p, Lib.BuilderAt T e B b p bs w → Lib.BuilderAt T e B b p bs (w.alloc o) := by
    rintro p ⟨hB, v, hb, hown, hne⟩
    exact ⟨hB, v, (Below.heap_alloc w o b (Array.getElem?_eq_some_iff.1 hb).1).trans hb, hown.alloc o, hne⟩
  rcases h with h | h
  · exact Or.inl (key _ h)
  · exact Or.inr (key _ h)

def joinT (T : List Tok) : List UInt8 := T.flatMap (·.text)
theorem joinT_take {T : List Tok} {k : Nat} {t : Tok} (h : T[k]? = some t) : joinT (T.take (k + 1)) = joinT (T.take k) ++ t.text := by
  have hk : k < T.length := by
    rcases Nat.lt_or_ge k T.length with hh | hh
    · exact hh
    · rw [List.getElem?_eq_none hh] at h; cases h
  have e : T[k] = t := by rw [List.getElem?_eq_getElem hk] at h; exact Option.some.inj h
  unfold joinT
  rw [List.take_succ_eq_append_getElem hk, e, List.flatMap_append]
  simp
theorem joinT_le (T : List Tok) (k : Nat) : (joinT (T.take k)).length ≤ (joinT T).length := by
  have : joinT T = joinT (T.take k) ++ joinT (T.drop k) := by
    unfold joinT
    rw [← List.flatMap_append, List.take_append_drop]
  rw [this, List.length_append]
  omega
theorem strCells_tx (l : List UInt8) : Lib.strCells ⟨l.toArray⟩ = Lib.byteCells l := rfl
theorem byteCells_app (a b : List UInt8) : Lib.byteCells (a ++ b) = Lib.byteCells a ++ Lib.byteCells b := by simp [Lib.byteCells]

set_option maxRecDepth 100000 in
set_option maxHeartbeats 2000000 in
theorem join_some (T : List Tok) (g cap : Nat) (hn : T.length ≤ cap) (hm : cap ≤ maxLen) (w : World) (hg : g < w.heap.size)
    (hc : ∀ j u, (tokCells T)[j]? = some u → w.cell? ⟨g, j, none⟩ = some u) (hJ : (joinT T).length ≤ 140737488355328) :
    Calls Try.prog 22 #[.slice (some ⟨g, 0, none⟩) T.length cap] w fun e w' => e = .returned (.string ⟨(joinT T).toArray⟩) ∧ Below w.heap.size w w' := by
  have HC := Lib.hid hc
  have HJ := Lib.hid hJ
  obtain ⟨n, hnn⟩ : ∃ n, n = T.length := ⟨_, rfl⟩
  rw [← hnn] at hn ⊢
  have HN := Lib.hid hnn
  have hn63 : n ≤ 9223372036854775807 := by unfold maxLen at hm; omega
  clear hc hnn hm hJ
  go_enter Try.func22, Try.ntmps22
  go_wp2
  go_loopg [8] n (fun q i wr => ∃ k : Nat, k + q = n ∧ i = .int .i64 k ∧ Lib.IsBuilder 51 5 w.heap.size w.heap.size (Lib.byteCells (joinT (T.take k))) wr ∧ Below w.heap.size w wr)
  case atStart => exact ⟨0, by omega, rfl, Lib.fresh_isBuilder 51 5 w, (Below.refl _ _).alloc (Nat.le_refl _) _⟩
  case round =>
    obtain ⟨k, hk, rfl, hB, hb⟩ := hrel
    have Hk := Lib.hid hk
    have hkn : k ≤ n := by omega
    have HB := Lib.hid hB
    have Hb := Lib.hid hb
    clear hk hB hb
    by_cases hlt : k < n
    · have hlt' : (k : Int) < (n : Int) := by omega
      have htk : ∃ t, T[k]? = some t := ⟨_, List.getElem?_eq_getElem (by rw [← HN.out]; exact hlt)⟩
      obtain ⟨t, ht⟩ := htk
      obtain ⟨q0, q1, q2⟩ := tok_cells ht
      have m0 := below_old Hb.out hg (HC.out _ _ q0)
      have m1 := below_old Hb.out hg (HC.out _ _ q1)
      have m2 := below_old Hb.out hg (HC.out _ _ q2)
      have hjt := joinT_take ht
      have hjl := joinT_le T (k + 1)
      obtain ⟨kd, tx, ps⟩ := t
      simp only at m0 m1 m2 hjt
      have HJT := Lib.hid hjt
      have HJL := Lib.hid hjl
      have hsz := Hb.out.size
      clear q0 q1 q2 ht hjt hjl
      go_wp2_with fail
      refine (writeString_any w.heap.size w.heap.size _ ⟨tx.toArray⟩ _ (builder_alloc HB.out _) ?_ (by simp; omega)).mono ?_
      · have h1 := HJL.out
        rw [HJT.out, List.length_append] at h1
        have h2 := HJ.out
        rw [Lib.byteCells_length]
        have h3 : (⟨tx.toArray⟩ : ByteArray).size = tx.length := by simp [ByteArray.size]
        omega
      rintro e w2 ⟨rfl, hB2, hb2⟩
      rw [strCells_tx, ← byteCells_app, ← HJT.out] at hB2
      have HB2 := Lib.hid hB2
      have Hb2 := Lib.hid ((Hb.out.alloc hsz _).trans hb2)
      clear hB2 hb2
      go_wp2
      have hk := Hk.out
      go_roundg (n - (k + 1))
      case measure => omega
      case rel => exact ⟨k + 1, by omega, by go_num, HB2.out, Hb2.out⟩
    · have hge : ¬ (k : Int) < (n : Int) := by omega
      have hke : k = n := by omega
      have hB := HB.out
      rw [List.take_of_length_le (by rw [← HN.out]; omega)] at hB
      have HB2 := Lib.hid hB
      clear hB hke
      have hsz := Hb.out.size
      go_wp2_with fail
      refine (Try.Builder_String_any w.heap.size w.heap.size (joinT T) _ HB2.out hsz).mono ?_
      rintro e w2 ⟨rfl, hb2⟩
      have Hb2 := Lib.hid (Hb.out.trans hb2)
      clear hb2
      go_wp2
      go_ret
      exact ⟨rfl, Hb2.out⟩

set_option maxRecDepth 100000 in
set_option maxHeartbeats 2000000 in
theorem join_none (a : Option Addr) (c : Nat) (w : World) :
    Calls Try.prog 22 #[.slice a 0 c] w fun e w' => e = .returned (.string ⟨#[]⟩) ∧ Below w.heap.size w w' := by
  go_enter Try.func22, Try.ntmps22
  go_wp2
  refine wp_loop_rounds 1 ?_
  rw [rounds_succ]
  go_wp2_with fail
  refine (Try.Builder_String_any w.heap.size w.heap.size [] _ (Lib.fresh_isBuilder 51 5 w) (by simp)).mono ?_
  rintro e w2 ⟨rfl, hb2⟩
  have Hb2 := Lib.hid (((Below.refl w.heap.size w).alloc (Nat.le_refl _) _).trans hb2)
  clear hb2
  go_wp2
  go_ret
  exact ⟨rfl, Hb2.out⟩

theorem join_any (T : List Tok) (v : Value) (w : World) (h : RowAt w v T.length (tokCells T)) (hJ : (joinT T).length ≤ 140737488355328) :
    Calls Try.prog 22 #[v] w fun e w' => e = .returned (.string ⟨(joinT T).toArray⟩) ∧ Below w.heap.size w w' := by
  rcases h with ⟨h0, a, c, rfl⟩ | ⟨_, g, cap, rfl, hg, hn, hm, hc⟩
  · have : T = [] := List.eq_nil_of_length_eq_zero h0
    subst this
    exact join_none a c w
  · exact join_some T g cap hn hm w hg hc hJ

end Go.Proofs.Ytgnnkddneoghmaa
