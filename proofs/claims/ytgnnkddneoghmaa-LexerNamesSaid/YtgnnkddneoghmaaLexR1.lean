/- Walks of the reference: Signs, In, Kind. -/
import Derived.Test.YtgnnkddneoghmaaLexW4
import Derived.Deep.DeepCutAuto
namespace Go.Proofs.Ytgnnkddneoghmaa
open Go.RowKit

def strB (l : List UInt8) : ByteArray := ⟨l.toArray⟩
theorem strB_list (l : List UInt8) : (strB l).toList = l := by rw [Lib.toList_data]; simp [strB]

def inB (L : List ByteArray) (s : ByteArray) : Bool := L.any fun b => b.toList == s.toList

theorem inB_map (ls : List (List UInt8)) (s : ByteArray) : inB (ls.map strB) s = ls.contains s.data.toList := by
  unfold inB
  rw [List.any_map, Bool.eq_iff_iff]
  simp only [List.any_eq_true, Function.comp_apply, beq_iff_eq, List.contains_iff_mem, Lib.toList_data]
  constructor
  · rintro ⟨x, hx, hh⟩
    have : (strB x).data.toList = x := by simp [strB]
    rw [this] at hh
    exact hh ▸ hx
  · intro h; exact ⟨_, h, by simp [strB]⟩

set_option maxHeartbeats 1000000 in
theorem in_any (L : List ByteArray) (g cap : Nat) (s : ByteArray) (w : World) (hcap : L.length ≤ cap) (hcm : cap ≤ maxLen) (hc : ∀ j b, L[j]? = some b → w.cell? ⟨g, j, none⟩ = some (.string b)) :
    Calls Try.prog 20 #[.slice (some ⟨g, 0, none⟩) L.length cap, .string s] w fun e w' => e = .returned (.bool (inB L s)) ∧ w = w' := by
  have HC := Lib.hid hc
  clear hc
  obtain ⟨n, hn⟩ : ∃ n, n = L.length := ⟨_, rfl⟩
  rw [← hn] at hcap ⊢
  have HN := Lib.hid hn
  have hn63 : n ≤ 9223372036854775807 := by unfold maxLen at hcm; omega
  clear hn hcm
  go_enter Try.func20, Try.ntmps20
  go_wp2
  go_loopg [5] n (fun q i wr => ∃ k : Nat, k + q = n ∧ i = .int .i64 k ∧ Hid (inB (L.take k) s = false) ∧ wr = w)
  case atStart => exact ⟨0, by omega, rfl, rfl, rfl⟩
  case round =>
    obtain ⟨k, hk, rfl, hno, rfl⟩ := hrel
    have Hk := Lib.hid hk
    have hkn : k ≤ n := by omega
    clear hk
    by_cases hlt : k < n
    · have hlt' : (k : Int) < (n : Int) := by omega
      have hkl : k < L.length := by rw [← HN.out]; exact hlt
      have c0 := HC.out k L[k] (List.getElem?_eq_getElem hkl)
      have hst : inB (L.take (k + 1)) s = (L[k].toList == s.toList) := by
        have h0 := hno.out
        unfold inB at h0 ⊢
        rw [List.take_succ_eq_append_getElem hkl, List.any_append, h0]
        simp
      have hall : (L[k].toList == s.toList) = true → inB L s = true := by
        intro hh
        unfold inB
        rw [List.any_eq_true]
        exact ⟨L[k], List.getElem_mem hkl, hh⟩
      generalize hb : (L[k].toList == s.toList) = b at hst hall
      have HST := Lib.hid hst
      generalize L[k] = x at *
      clear hst
      cases b
      · clear hall
        go_wp2
        have hk := Hk.out
        go_roundg (n - (k + 1))
        case measure => omega
        case rel => exact ⟨k + 1, by omega, by go_num, HST.out, rfl⟩
      · have HALL := Lib.hid (hall rfl)
        clear hall HST
        go_wp2
        go_ret
        exact ⟨ret_bool (by rw [HALL.out]), rfl⟩
    · have hge : ¬ (k : Int) < (n : Int) := by omega
      have hke : k = n := by omega
      have hfin : inB L s = false := by
        have h0 := hno.out
        rwa [List.take_of_length_le (by rw [← HN.out]; omega)] at h0
      have HF := Lib.hid hfin
      clear hfin hke
      go_wp2
      go_ret
      exact ⟨ret_bool (by rw [HF.out]), rfl⟩

theorem signs_any (w : World) : Calls Try.prog 36 #[] w fun e w' => e = .returned (.slice (some ⟨w.heap.size, 0, none⟩) 31 31) ∧
    (∀ j b, (signsR.map strB)[j]? = some b → w'.cell? ⟨w.heap.size, j, none⟩ = some (.string b)) ∧ Below w.heap.size w w' ∧ w.heap.size < w'.heap.size := by
  go_enter Try.func36, Try.ntmps36
  go_wp2
  go_ret
  refine ⟨rfl, fun j b hb => ?_, (Below.refl _ _).alloc (Nat.le_refl _) _, by simp⟩
  rw [World.cell?_alloc_at _ _ _ _ rfl]
  show (((signsR.map strB).map Value.string).toArray)[j]? = _
  rw [List.getElem?_toArray, List.getElem?_map, hb]
  rfl

end Go.Proofs.Ytgnnkddneoghmaa
