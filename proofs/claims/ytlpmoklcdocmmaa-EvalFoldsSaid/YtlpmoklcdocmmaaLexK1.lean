/- The walk of Keyword. -/
import Derived.Test.YtlpmoklcdocmmaaLexW2
import Derived.Test.YtlpmoklcdocmmaaLexPlain4
import Derived.Maps.Own
import Derived.Maps.Views
namespace Go.Proofs.Ytlpmoklcdocmmaa
open Go.RowKit

abbrev DB := DataW Unit
def elemB (P : Program) (e : TypeId) : Value → Option (DB × List MemPlace) := plainElem P e

/-- the map in the block next to w0's heap holds true at just the strings of S -/
def SetAt (P : Program) (k e : TypeId) (w0 w : World) (S : List (List UInt8)) : Prop :=
  Below w0.heap.size w0 w ∧ ∃ D : DB, w.ownsMap P k (elemB P e) w0.heap.size S.length D ∧ Maps.IsMap D ∧ ∀ l : List UInt8, D.atKey (.string l) (.lit (.bool false)) = .lit (.bool (S.contains l))

theorem SetAt.made (P : Program) (k e : TypeId) (w : World) : SetAt P k e w (w.alloc (.map #[] 0)) [] :=
  ⟨(Below.refl _ _).alloc (Nat.le_refl _) _, .map [], World.ownsMap_made w P k _, Maps.isMap_empty, fun l => by simp [DataW.atKey]⟩

theorem wpList_insert_set {P : Program} (w0 w : World) {ops : Array Oper} {rest : List Oper} {o : Oper} {a : Act} {Q : Exit → Act → World → Prop}
    (hg : o.guard = none) (m : Operand) (t : TypeId) (key : ByteArray) (hop : o.op = Op.insert t m (.const (.string key)) (.const (.bool true)))
    (k e : TypeId) (hk : P.underlying k = some .string) (he : P.underlying e = some .bool) (ht : P.underlying t = some (.map k e)) (S : List (List UInt8))
    (hm : a.eval m = .map (some w0.heap.size)) (h : SetAt P k e w0 w S) (hn : S.length < 1000) (hs : key.size ≤ maxLen)
    (hK : ∀ w', SetAt P k e w0 w' (key.data.toList :: S) → wpList P ops Q rest (a.put o.dst undef) w') :
    wpList P ops Q (o :: rest) a w := by
  obtain ⟨hb, D, hown, hD, hat⟩ := h
  refine wpList_plain hg fun K' hK' => ?_
  have hkey := WideMaps.keyOf_string_mk (P := P) hk hs
  obtain ⟨w', hrun, r1, r2⟩ := hown.update (Maps.string_keyed hk) ht (by unfold maxLen; omega) hkey (plainElem_bool he true)
  unfold Oper.wp
  have e1 : a.eval (.const (.string key)) = .string key := rfl
  have e2 : a.eval (.const (.bool true)) = .bool true := rfl
  simp [execOp, hop, hm, e1, e2, hrun, Result.andThen]
  refine hK' _ _ (hK w' ⟨hb.grown r2 hb.size (fun j hj => by cases hj; exact Nat.le_refl _), _, r1, hD.put _ _, fun l => ?_⟩)
  by_cases e : l = key.data.toList
  · subst e
    rw [Maps.atKey_put_same hD (k := .string key.data.toList) trivial]
    simp
  · rw [Maps.atKey_put_other (by simpa using e), hat]
    simp [e]

theorem wpList_lookup_set {P : Program} (w0 w : World) {ops : Array Oper} {rest : List Oper} {o : Oper} {a : Act} {Q : Exit → Act → World → Prop}
    (hg : o.guard = none) (m x : Operand) (t : TypeId) (key : ByteArray) (hop : o.op = Op.lookup t m x false)
    (k e : TypeId) (hk : P.underlying k = some .string) (he : P.underlying e = some .bool) (ht : P.underlying t = some (.map k e)) (hz : (zeroValue e).run P w = .ok (.bool false) w) (S : List (List UInt8))
    (hm : a.eval m = .map (some w0.heap.size)) (hx : a.eval x = .string key) (h : SetAt P k e w0 w S) (hs : key.size ≤ maxLen) (R : Bool) (hR : R = S.contains key.data.toList)
    (hK : wpList P ops Q rest (a.put o.dst (.bool R)) w) :
    wpList P ops Q (o :: rest) a w := by
  obtain ⟨hb, D, hown, hD, hat⟩ := h
  refine wpList_plain hg fun K' hK' => ?_
  have hkey := WideMaps.keyOf_string_mk (P := P) hk hs
  obtain ⟨v, ps, hrun, hv⟩ := hown.lookup (Maps.string_keyed hk) ht hz (plainElem_bool he false) hkey
  rw [hat] at hv
  rw [← hR] at hv
  have hvv : v = .bool R := by
    unfold elemB plainElem at hv
    rw [he] at hv
    cases v <;> simp at hv
    rw [hv.1]
  subst hvv
  unfold Oper.wp
  simp [execOp, hop, hm, hx, hrun, Result.andThen]
  exact hK' _ _ hK

theorem kw_rev {S : List (List UInt8)} (h : S = keywordsR.reverse) (l : List UInt8) : keywordsR.contains l = S.contains l := by
  subst h
  rw [Bool.eq_iff_iff]
  simp

theorem zeroB (w : World) : (zeroValue 4).run Try.prog w = .ok (.bool false) w := by kernel_rfl

theorem keyword_len : keywordsR.all (fun k => decide (2 ≤ k.length) && decide (k.length ≤ 7)) = true := by decide +kernel
theorem keyword_out {l : List UInt8} (h : l.length < 2 ∨ 7 < l.length) : keywordsR.contains l = false := by
  cases hc : keywordsR.contains l with
  | false => rfl
  | true =>
    have := List.all_eq_true.1 keyword_len l (by simpa using hc)
    simp at this
    omega

set_option maxRecDepth 100000 in
set_option maxHeartbeats 2000000 in
theorem keyword_any (s : ByteArray) (hs : s.size ≤ maxLen) (w : World) :
    Calls Try.prog 53 #[.string s] w fun e w' => e = .returned (.bool (keywordsR.contains s.data.toList)) ∧ Below w.heap.size w w' := by
  have hz : s.data.toList.length = s.size := by simp
  have HS := Lib.hid hs
  unfold maxLen at hs
  by_cases h1 : s.size < 2
  · have h1' : (s.size : Int) < 2 := by omega
    rw [keyword_out (by omega)]
    clear hz
    go_enter Try.func53, Try.ntmps53
    go_wp2
    go_ret
    exact ⟨rfl, Below.refl _ _⟩
  by_cases h2 : 7 < s.size
  · have h1' : (7 : Int) < (s.size : Int) := by omega
    rw [keyword_out (by omega)]
    clear hz
    go_enter Try.func53, Try.ntmps53
    go_wp2
    go_ret
    exact ⟨rfl, Below.refl _ _⟩
  have h1' : 2 ≤ (s.size : Int) := by omega
  have h2' : (s.size : Int) ≤ 7 := by omega
  clear h1 h2 hz
  have H : Hid (SetAt Try.prog 9 4 w (w.alloc (.map #[] 0)) []) := SetAt.made _ _ _ w
  obtain ⟨R, hR⟩ : ∃ R, R = keywordsR.contains s.data.toList := ⟨_, rfl⟩
  rw [← hR]
  have HR := Lib.hid hR
  clear hR
  have hmm := @run_makeMap Try.prog
  go_enter Try.func53, Try.ntmps53
  go_wp2_with (first
    | (refine wpList_insert_set w _ rfl _ 87 _ rfl 9 4 Try.underlying9 Try.underlying4 Try.underlying87 _ rfl H.out (by decide) (by decide) ?_; clear H; intro w1 h1; have H := Lib.hid h1; clear h1)
    | (refine wpList_lookup_set w _ rfl _ _ 87 s rfl 9 4 Try.underlying9 Try.underlying4 Try.underlying87 (zeroB _) _ rfl rfl H.out HS.out R (HR.out.trans (kw_rev rfl _)) ?_))
  go_ret
  exact ⟨rfl, H.out.1⟩

end Go.Proofs.Ytlpmoklcdocmmaa
