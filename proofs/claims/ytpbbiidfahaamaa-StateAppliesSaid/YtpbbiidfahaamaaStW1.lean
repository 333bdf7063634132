/- Walks: small, valid, fixed. -/
import Derived.Test.YtpbbiidfahaamaaStO
import Derived.Deep.QuietTactic
import Derived.BigQuiet
import Derived.Deep.RegionHeld3
import Derived.IntWalk
namespace Go.Proofs.Ytpbbiidfahaamaa
open Go.RowKit

theorem alloc_cell {w : World} {g j : Nat} {u : Value} (h : w.cell? ⟨g, j, none⟩ = some u) (o : Obj) : (w.alloc o).cell? ⟨g, j, none⟩ = some u :=
  cell_below ((Below.refl w.heap.size w).alloc (Nat.le_refl _) o) (World.block_lt_of_cell? w _ h) h
theorem drewN_below {w w' : World} {B : Nat} (h : Below B w w') (n : Nat) : Below B w (w'.drewN n) := ⟨h.os, h.tape, h.output, h.size, h.block⟩
theorem below_alloc (w : World) (o : Obj) : Below w.heap.size w (w.alloc o) := (Below.refl _ _).alloc (Nat.le_refl _) _
theorem all_take {α : Type} {l : List α} {k : Nat} {x : α} (p : α → Bool) (h : l[k]? = some x) : (l.take (k + 1)).all p = ((l.take k).all p && p x) := by
  have hk : k < l.length := by
    rcases Nat.lt_or_ge k l.length with hh | hh
    · exact hh
    · rw [List.getElem?_eq_none hh] at h; cases h
  have e : l[k] = x := by rw [List.getElem?_eq_getElem hk] at h; exact Option.some.inj h
  rw [List.take_succ_eq_append_getElem hk, List.all_append, e]
  simp
theorem all_false {α : Type} {l : List α} {k : Nat} {x : α} (p : α → Bool) (h : l[k]? = some x) (hp : p x = false) : l.all p = false := by
  cases hc : l.all p with
  | false => rfl
  | true => rw [List.all_eq_true.1 hc x (List.mem_of_getElem? h)] at hp; cases hp
theorem get_lt {α : Type} {l : List α} {k n : Nat} (hn : n = l.length) (h : k < n) : ∃ x, l[k]? = some x := ⟨_, List.getElem?_eq_getElem (by omega)⟩

def rowB (l : List Int) : Bool := decide (l.length ≤ 60)
def smallB (s : St) : Bool := decide (s.cells.length ≤ 40) && decide (s.inp.length ≤ 60) && decide (s.out.length ≤ 60) && s.cells.all rowB

set_option maxRecDepth 100000 in
set_option maxHeartbeats 1000000 in
theorem small_any (s : St) (v : Value) (w : World) (h : StAt w v s) :
    Calls Try.prog 14 #[v] w fun e w' => e = .returned (.int .i64 (if smallB s then 1 else 0)) ∧ Below w.heap.size w w' := by
  obtain ⟨L, I, O⟩ := s
  obtain ⟨c, i, o, rfl, hL, ⟨hI, _⟩, ⟨hO, _⟩⟩ := h
  obtain ⟨ai, ci, rfl, _⟩ := hI
  obtain ⟨ao, co, rfl, _⟩ := hO
  obtain ⟨a, cc, rfl, hn, hm, hc⟩ := hL
  have HC := Lib.hid hc
  obtain ⟨n, hnn⟩ : ∃ n, n = L.length := ⟨_, rfl⟩
  have hsm : smallB ⟨L, I, O⟩ = (decide (n ≤ 40) && decide (I.length ≤ 60) && decide (O.length ≤ 60) && L.all rowB) := by rw [hnn]; rfl
  simp only at hn ⊢
  rw [← hnn] at hn ⊢
  have HN := Lib.hid hnn
  have hn63 : n ≤ 9223372036854775807 := by unfold maxLen at hm; omega
  rw [hsm]
  generalize I.length = ni
  generalize O.length = no
  clear hc hnn hn hm hsm
  by_cases h1 : 40 < n
  · have h1' : (40 : Int) < (n : Int) := by omega
    rw [decide_eq_false (by omega : ¬ n ≤ 40)]
    simp only [Bool.false_and]
    go_enter Try.func14, Try.ntmps14
    go_wp2
    go_ret
    exact ⟨rfl, below_alloc _ _⟩
  by_cases h2 : 60 < ni
  · have h1' : ¬ (40 : Int) < (n : Int) := by omega
    have h2' : (60 : Int) < (ni : Int) := by omega
    rw [decide_eq_false (by omega : ¬ ni ≤ 60)]
    simp only [Bool.false_and, Bool.and_false]
    go_enter Try.func14, Try.ntmps14
    go_wp2
    go_ret
    exact ⟨rfl, below_alloc _ _⟩
  by_cases h3 : 60 < no
  · have h1' : ¬ (40 : Int) < (n : Int) := by omega
    have h2' : ¬ (60 : Int) < (ni : Int) := by omega
    have h3' : (60 : Int) < (no : Int) := by omega
    rw [decide_eq_false (by omega : ¬ no ≤ 60)]
    simp only [Bool.false_and, Bool.and_false]
    go_enter Try.func14, Try.ntmps14
    go_wp2
    go_ret
    exact ⟨rfl, below_alloc _ _⟩
  rw [decide_eq_true (by omega : n ≤ 40), decide_eq_true (by omega : ni ≤ 60), decide_eq_true (by omega : no ≤ 60)]
  simp only [Bool.true_and]
  have h1' : (n : Int) ≤ 40 := by omega
  have h2' : (ni : Int) ≤ 60 := by omega
  have h3' : (no : Int) ≤ 60 := by omega
  clear h1 h2 h3
  obtain ⟨R, hR⟩ : ∃ R, R = L.all rowB := ⟨_, rfl⟩
  rw [← hR]
  have HR := Lib.hid hR
  clear hR
  go_enter Try.func14, Try.ntmps14
  go_wp2
  go_loopg [3] n (fun q i wr => ∃ k : Nat, k + q = n ∧ i = .int .i64 k ∧ Hid ((L.take k).all rowB = true) ∧ wr = w.alloc (.cells #[.slice a n cc, .slice ai ni ci, .slice ao no co] 25))
  case atStart => exact ⟨0, by omega, rfl, rfl, rfl⟩
  case round =>
    obtain ⟨k, hk, rfl, hal, rfl⟩ := hrel
    have Hk := Lib.hid hk
    have hkn : k ≤ n := by omega
    clear hk
    by_cases hlt : k < n
    · have hlt' : (k : Int) < (n : Int) := by omega
      obtain ⟨g, off, rfl, hg, hq⟩ := HC.out (by show 0 < L.length; rw [← HN.out]; omega)
      obtain ⟨l, hl⟩ := get_lt HN.out hlt
      obtain ⟨u, hu, ⟨⟨ar, cr, rfl, _⟩, _⟩⟩ := hq k l hl
      have m0 := alloc_cell hu
      have hat := all_take rowB hl
      have haf := all_false rowB hl
      clear hq hu
      by_cases h60 : 60 < l.length
      · have h60' : (60 : Int) < (l.length : Int) := by omega
        have hr : R = false := by rw [HR.out]; exact haf (decide_eq_false (by omega))
        subst hr
        generalize l.length = nl at *
        clear hat haf hl
        go_wp2
        go_ret
        exact ⟨rfl, below_alloc _ _⟩
      · have h60' : ¬ (60 : Int) < (l.length : Int) := by omega
        have hat2 : (L.take (k + 1)).all rowB = true := by rw [hat, hal.out]; exact decide_eq_true (by omega)
        have HAT := Lib.hid hat2
        generalize l.length = nl at *
        clear hat haf hl hat2
        go_wp2
        have hk := Hk.out
        go_roundg (n - (k + 1))
        case measure => omega
        case rel => exact ⟨k + 1, by omega, by go_num, HAT.out, rfl⟩
    · have hge : ¬ (k : Int) < (n : Int) := by omega
      have hr : R = true := by
        have := hal.out
        rw [List.take_of_length_le (by rw [← HN.out]; omega)] at this
        rw [HR.out, this]
      subst hr
      go_wp2
      go_ret
      exact ⟨rfl, below_alloc _ _⟩

end Go.Proofs.Ytpbbiidfahaamaa
