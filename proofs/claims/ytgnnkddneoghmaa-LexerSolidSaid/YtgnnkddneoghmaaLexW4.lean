/- The tokens that Lex returns, read; the walk of awake. -/
import Derived.Test.YtgnnkddneoghmaaLexW3
import Derived.Deep.QuietTactic
import Derived.BigQuiet
namespace Go.Proofs.Ytgnnkddneoghmaa
open Go.RowKit

/-- the slice v holds just these cells, in one block below the heap's end -/
def RowAt (w : World) (v : Value) (n : Nat) (xs : List Value) : Prop :=
  (n = 0 ∧ ∃ a c, v = .slice a 0 c) ∨
  (0 < n ∧ ∃ g cap, v = .slice (some ⟨g, 0, none⟩) n cap ∧ g < w.heap.size ∧ n ≤ cap ∧ cap ≤ maxLen ∧ ∀ j u, xs[j]? = some u → w.cell? ⟨g, j, none⟩ = some u)

theorem RowAt.of_own {w : World} {base : Nat} {e : TypeId} {size : Nat} {v : Value} {n : Nat} {xs : List Value} (h : w.ownsRow base e size v n xs) : RowAt w v n xs := by
  rcases h.2 with ⟨rfl, h0⟩ | ⟨g, cap, cur, rfl, _, hg, hn, hm, hc, ht⟩
  · exact Or.inl ⟨h0, none, 0, rfl⟩
  · rcases Nat.eq_zero_or_pos n with h0 | h0
    · exact Or.inl ⟨h0, _, _, by rw [h0]⟩
    · refine Or.inr ⟨h0, g, cap, rfl, (Array.getElem?_eq_some_iff.1 hg).1, hn, hm, fun j u hu => ?_⟩
      rw [cell_of_row w g j cur e (0, 0) hg]
      rw [← ht, List.getElem?_take] at hu
      split at hu
      · simpa using hu
      · cases hu

theorem RowAt.below {w w' : World} {v : Value} {n : Nat} {xs : List Value} (h : RowAt w v n xs) {B : Nat} (hb : Below B w w') (hB : w.heap.size ≤ B) : RowAt w' v n xs := by
  rcases h with h | ⟨h0, g, cap, h1, h2, h3, h4, h5⟩
  · exact Or.inl h
  · exact Or.inr ⟨h0, g, cap, h1, Nat.lt_of_lt_of_le h2 hb.size, h3, h4, fun j u hu => (hb.cell (p := ⟨g, j, none⟩) (by simp only; omega)).trans (h5 j u hu)⟩

theorem tok_cells {l : List Tok} {i : Nat} {t : Tok} (h : l[i]? = some t) :
    (tokCells l)[i * 3]? = some (.int .u8 t.kind) ∧ (tokCells l)[i * 3 + 1]? = some (.string ⟨t.text.toArray⟩) ∧ (tokCells l)[i * 3 + 2]? = some (.int .i64 t.pos) := by
  induction l generalizing i with
  | nil => simp at h
  | cons a r ih =>
    cases i with
    | zero =>
      simp only [List.getElem?_cons_zero, Option.some.injEq] at h
      subst h
      simp [tokCells, tokCell]
    | succ i =>
      simp only [List.getElem?_cons_succ] at h
      have e : tokCells (a :: r) = .int .u8 a.kind :: .string ⟨a.text.toArray⟩ :: .int .i64 a.pos :: tokCells r := by simp [tokCells, tokCell]
      have h1 : (i + 1) * 3 = i * 3 + 1 + 1 + 1 := by omega
      rw [e, h1]
      simp only [List.getElem?_cons_succ]
      exact ih h

theorem o1 : outT [120, 49, 32, 43, 61, 32, 51, 59, 35, 99] = ([⟨1, [120, 49], 0⟩, ⟨4, [32], 2⟩, ⟨3, [43, 61], 3⟩, ⟨4, [32], 5⟩, ⟨2, [51], 6⟩, ⟨3, [59], 7⟩, ⟨5, [35, 99], 8⟩], 0, 0) := by kernel_rfl
theorem o2 : outT [97, 60, 61, 62, 98] = ([⟨1, [97], 0⟩, ⟨3, [60, 61, 62], 1⟩, ⟨1, [98], 4⟩], 0, 0) := by kernel_rfl
theorem o3 : outT [97, 66] = ([], 1, 3) := by kernel_rfl

theorem below_old {w w' : World} {B : Nat} (hb : Below B w w') {g j : Nat} {u : Value} (hg : g < B) (h : w.cell? ⟨g, j, none⟩ = some u) : w'.cell? ⟨g, j, none⟩ = some u :=
  (hb.cell (p := ⟨g, j, none⟩) hg).trans h

set_option maxHeartbeats 1000000 in
theorem awake_any (w : World) : Calls Try.prog 12 #[] w fun e w' => e = .returned (.bool true) ∧ Below w.heap.size w w' := by
  go_enter Try.func12, Try.ntmps12
  go_wp2_with fail
  refine (lex_any ⟨#[120, 49, 32, 43, 61, 32, 51, 59, 35, 99]⟩ (by decide) _).mono ?_
  rw [show (⟨#[120, 49, 32, 43, 61, 32, 51, 59, 35, 99]⟩ : ByteArray).data.toList = [120, 49, 32, 43, 61, 32, 51, 59, 35, 99] from rfl, o1]
  rintro e w1 ⟨v1, rfl, hown1, hb1⟩
  rcases RowAt.of_own hown1 with ⟨h0, _⟩ | ⟨_, g1, cap1, rfl, hg1, hn1, hm1, hc1⟩
  · simp at h0
  have ct : w1.cell? ⟨g1, 7, none⟩ = some (.string ⟨#[43, 61]⟩) := hc1 7 _ rfl
  have cp : w1.cell? ⟨g1, 20, none⟩ = some (.int .i64 8) := hc1 20 _ rfl
  have Hb1 := Lib.hid hb1
  clear hown1 hb1 hc1
  go_wp2_with fail
  refine (lex_any ⟨#[97, 60, 61, 62, 98]⟩ (by decide) _).mono ?_
  rw [show (⟨#[97, 60, 61, 62, 98]⟩ : ByteArray).data.toList = [97, 60, 61, 62, 98] from rfl, o2]
  rintro e w2 ⟨v2, rfl, hown2, hb2⟩
  rcases RowAt.of_own hown2 with ⟨h0, _⟩ | ⟨_, g2, cap2, rfl, hg2, hn2, hm2, hc2⟩
  · simp at h0
  have ct2 := below_old hb2 hg1 ct
  have cp2 := below_old hb2 hg1 cp
  have hg1' : g1 < w2.heap.size := Nat.lt_of_lt_of_le hg1 hb2.size
  have Hb2 := Lib.hid hb2
  clear hown2 hb2 hc2 ct cp
  go_wp2_with fail
  refine (lex_any ⟨#[97, 66]⟩ (by decide) _).mono ?_
  rw [show (⟨#[97, 66]⟩ : ByteArray).data.toList = [97, 66] from rfl, o3]
  rintro e w3 ⟨v3, rfl, hown3, hb3⟩
  have ct3 := below_old hb3 hg1' ct2
  have cp3 := below_old hb3 hg1' cp2
  have Hb3 := Lib.hid hb3
  clear hown3 hb3 ct2 cp2
  go_wp2
  go_ret
  exact ⟨rfl, Hb1.out.trans ((Hb2.out.mono Hb1.out.size).trans (Hb3.out.mono (Nat.le_trans Hb1.out.size Hb2.out.size)))⟩

end Go.Proofs.Ytgnnkddneoghmaa
