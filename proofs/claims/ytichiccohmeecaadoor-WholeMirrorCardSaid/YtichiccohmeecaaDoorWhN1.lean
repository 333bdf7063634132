/- slices.Clone at []Instr; rows of instructions of the call's own. -/
import Derived.Test.YtichiccohmeecaaDoorWhMa
namespace Go.Proofs.YtichiccohmeecaaDoor
open Go.RowKit

theorem insInfo : (Tryd.prog.info? 45).map (fun i => (i.zero, i.size, i.bytes)) = some (some (.agg #[.int .u8 0, .int .i64 0, .int .i64 0, .int .i64 0, .int .i64 0]), 5, 40) := by kernel_rfl
def codeV (l : List Ins) : List Value := l.flatMap (fun x => [.int .u8 x.op, .int .i64 x.a, .int .i64 x.b, .int .i64 x.c, .int .i64 x.d])
theorem codeV_cons (x : Ins) (l : List Ins) : codeV (x :: l) = .int .u8 x.op :: .int .i64 x.a :: .int .i64 x.b :: .int .i64 x.c :: .int .i64 x.d :: codeV l := rfl
theorem codeV_len : ∀ l : List Ins, (codeV l).length = l.length * 5
  | [] => rfl
  | x :: l => by
    rw [codeV_cons]
    simp only [List.length_cons, codeV_len l]
    omega
/-- the cells are those of the instructions -/
def CodeL (D : List Ins) (xs : List Value) : Prop := ∀ (i : Nat) (x : Ins), D[i]? = some x → xs[i * 5]? = some (.int .u8 x.op) ∧ xs[i * 5 + 1]? = some (.int .i64 x.a) ∧ xs[i * 5 + 2]? = some (.int .i64 x.b) ∧ xs[i * 5 + 3]? = some (.int .i64 x.c) ∧ xs[i * 5 + 4]? = some (.int .i64 x.d)
theorem codeV_get : ∀ l : List Ins, CodeL l (codeV l)
  | [], i, x, h => by simp at h
  | y :: l, 0, x, h => by
    simp only [List.getElem?_cons_zero, Option.some.injEq] at h
    subst h
    exact ⟨rfl, rfl, rfl, rfl, rfl⟩
  | y :: l, i + 1, x, h => by
    simp only [List.getElem?_cons_succ] at h
    have h' := codeV_get l i x h
    rw [codeV_cons]
    have e : ∀ k, (Value.int .u8 y.op :: .int .i64 y.a :: .int .i64 y.b :: .int .i64 y.c :: .int .i64 y.d :: codeV l)[k + 5]? = (codeV l)[k]? := fun k => rfl
    have e0 : (i + 1) * 5 = i * 5 + 5 := by omega
    have e1 : (i + 1) * 5 + 1 = i * 5 + 1 + 5 := by omega
    have e2 : (i + 1) * 5 + 2 = i * 5 + 2 + 5 := by omega
    have e3 : (i + 1) * 5 + 3 = i * 5 + 3 + 5 := by omega
    have e4 : (i + 1) * 5 + 4 = i * 5 + 4 + 5 := by omega
    rw [e1, e2, e3, e4, e0, e, e, e, e, e]
    exact h'
theorem codeV_olds (l : List Ins) (j : Nat) (u : Value) (h : (codeV l)[j]? = some u) : ∃ i x, l[i]? = some x ∧ ((j = i * 5 ∧ u = .int .u8 x.op) ∨ (j = i * 5 + 1 ∧ u = .int .i64 x.a) ∨ (j = i * 5 + 2 ∧ u = .int .i64 x.b) ∨ (j = i * 5 + 3 ∧ u = .int .i64 x.c) ∨ (j = i * 5 + 4 ∧ u = .int .i64 x.d)) := by
  have hj : j < l.length * 5 := by have := (List.getElem?_eq_some_iff.1 h).1; rw [codeV_len] at this; exact this
  obtain ⟨x, hx⟩ : ∃ x, l[j / 5]? = some x := ⟨_, List.getElem?_eq_getElem (by omega)⟩
  obtain ⟨h0, h1, h2, h3, h4⟩ := codeV_get l _ x hx
  refine ⟨j / 5, x, hx, ?_⟩
  rcases (show j = j / 5 * 5 ∨ j = j / 5 * 5 + 1 ∨ j = j / 5 * 5 + 2 ∨ j = j / 5 * 5 + 3 ∨ j = j / 5 * 5 + 4 by omega) with e | e | e | e | e
  · exact .inl ⟨e, by rw [e, h0] at h; injection h with h; exact h.symm⟩
  · exact .inr (.inl ⟨e, by rw [e, h1] at h; injection h with h; exact h.symm⟩)
  · exact .inr (.inr (.inl ⟨e, by rw [e, h2] at h; injection h with h; exact h.symm⟩))
  · exact .inr (.inr (.inr (.inl ⟨e, by rw [e, h3] at h; injection h with h; exact h.symm⟩)))
  · exact .inr (.inr (.inr (.inr ⟨e, by rw [e, h4] at h; injection h with h; exact h.symm⟩)))
theorem codeV_one (l : List Ins) : ∀ u ∈ codeV l, u.oneCell' = true := fun u hu => by
  obtain ⟨j, hj⟩ := List.getElem?_of_mem hu
  obtain ⟨i, x, _, h⟩ := codeV_olds l j u hj
  rcases h with ⟨_, rfl⟩ | ⟨_, rfl⟩ | ⟨_, rfl⟩ | ⟨_, rfl⟩ | ⟨_, rfl⟩ <;> rfl
theorem CodeIn.olds {P : Nat → Prop} {w : World} {a : Option Addr} {n c : Nat} {l : List Ins} (h : CodeIn P w (.slice a n c) l) : ∀ b, a = some b → ∀ (j : Nat) u, (codeV l)[j]? = some u → w.cell? (b.add j) = some u := by
  intro b hb j u hu
  obtain ⟨a', c', he, h1, h2, h3⟩ := h
  injection he with e1 e2 e3
  subst e1 e2 e3
  obtain ⟨i, x, hx, hc⟩ := codeV_olds l j u hu
  have hi := (List.getElem?_eq_some_iff.1 hx).1
  obtain ⟨g, o, e, _, _, hq⟩ := h3 (by omega)
  rw [hb] at e
  injection e with e
  subst e
  rw [Go.WideShapes.add_plain]
  obtain ⟨q0, q1, q2, q3, q4⟩ := hq i x hx
  rcases hc with ⟨rfl, rfl⟩ | ⟨rfl, rfl⟩ | ⟨rfl, rfl⟩ | ⟨rfl, rfl⟩ | ⟨rfl, rfl⟩
  · exact q0
  · exact q1
  · exact q2
  · exact q3
  · exact q4
theorem CodeL.set {D : List Ins} {xs : List Value} (h : CodeL D xs) (hl : xs.length = D.length * 5) {j : Nat} (hj : j < D.length) (x : Ins) :
    CodeL (D.set j x) (((((xs.set (j * 5) (.int .u8 x.op)).set (j * 5 + 1) (.int .i64 x.a)).set (j * 5 + 2) (.int .i64 x.b)).set (j * 5 + 3) (.int .i64 x.c)).set (j * 5 + 4) (.int .i64 x.d)) := by
  intro i y hy
  by_cases e : j = i
  · subst e
    rw [List.getElem?_set_self hj] at hy
    obtain rfl := Option.some.inj hy
    refine ⟨?_, ?_, ?_, ?_, ?_⟩
    · rw [List.getElem?_set_ne (by omega), List.getElem?_set_ne (by omega), List.getElem?_set_ne (by omega), List.getElem?_set_ne (by omega), List.getElem?_set_self (by omega)]
    · rw [List.getElem?_set_ne (by omega), List.getElem?_set_ne (by omega), List.getElem?_set_ne (by omega), List.getElem?_set_self (by simp; omega)]
    · rw [List.getElem?_set_ne (by omega), List.getElem?_set_ne (by omega), List.getElem?_set_self (by simp; omega)]
    · rw [List.getElem?_set_ne (by omega), List.getElem?_set_self (by simp; omega)]
    · rw [List.getElem?_set_self (by simp; omega)]
  · rw [List.getElem?_set_ne e] at hy
    have hn : ∀ (p : Nat), (∀ q, q < 5 → p ≠ j * 5 + q) → (((((xs.set (j * 5) (.int .u8 x.op)).set (j * 5 + 1) (.int .i64 x.a)).set (j * 5 + 2) (.int .i64 x.b)).set (j * 5 + 3) (.int .i64 x.c)).set (j * 5 + 4) (.int .i64 x.d))[p]? = xs[p]? := fun p hp => by
      have h0 := hp 0 (by omega)
      have h1 := hp 1 (by omega)
      have h2 := hp 2 (by omega)
      have h3 := hp 3 (by omega)
      have h4 := hp 4 (by omega)
      rw [List.getElem?_set_ne (by omega), List.getElem?_set_ne (by omega), List.getElem?_set_ne (by omega), List.getElem?_set_ne (by omega), List.getElem?_set_ne (by omega)]
    rw [hn _ (fun q hq => by omega), hn _ (fun q hq => by omega), hn _ (fun q hq => by omega), hn _ (fun q hq => by omega), hn _ (fun q hq => by omega)]
    exact h i y hy
theorem own_code {w : World} {base : Nat} {v : Value} {D : List Ins} {xs : List Value} {P : Nat → Prop} (h : w.ownsRow base 45 5 v D.length xs) (hx : CodeL D xs) (hp : ∀ j, v.ownBlock = some j → P j) : CodeIn P w v D := by
  rcases h.2 with ⟨rfl, h0⟩ | ⟨g, cap, cur, rfl, _, hg, hn, hm, hc, ht⟩
  · exact ⟨none, 0, by rw [h0], by omega, by unfold maxLen; omega, fun h => by omega⟩
  · refine ⟨_, cap, rfl, hn, hm, fun hp0 => ⟨g, 0, rfl, (Array.getElem?_eq_some_iff.1 hg).1, hp g rfl, fun i x hi => ?_⟩⟩
    have hil : i < D.length := (List.getElem?_eq_some_iff.1 hi).1
    obtain ⟨h0, h1, h2, h3, h4⟩ := hx i x hi
    refine ⟨?_, ?_, ?_, ?_, ?_⟩
    · rw [Nat.zero_add, h.cellAt _ (by omega)]; exact h0
    · rw [Nat.zero_add, h.cellAt _ (by omega)]; exact h1
    · rw [Nat.zero_add, h.cellAt _ (by omega)]; exact h2
    · rw [Nat.zero_add, h.cellAt _ (by omega)]; exact h3
    · rw [Nat.zero_add, h.cellAt _ (by omega)]; exact h4

def CloC (l : List Ins) (w : World) (e : Ending) (w' : World) : Prop := ∃ v', e = .returned v' ∧ w'.ownsRow w.heap.size 45 5 v' l.length (codeV l) ∧ Below w.heap.size w w'
theorem run_eql_code : ∀ (w : World) (a : Option Addr) (n c n' c' : Nat), (binOp .eql 22 (.slice a n c) (.slice none n' c')).run Tryd.prog w = .ok (.bool a.isNone) w := fun w a n c n' c' => Lib.run_eql_slice_nil w _ _ a n c n' c' Tryd.underlying22
set_option maxRecDepth 100000 in
theorem clone_code {P : Nat → Prop} {w : World} {v : Value} {l : List Ins} (h : CodeIn P w v l) (hl : l.length ≤ 1000000) :
    Calls Tryd.prog 27 #[v] w (CloC l w) := by
  have HI := Lib.hid h
  obtain ⟨a, c, rfl, h1, h2, h3⟩ := h
  have q := run_eql_code
  have n63 : l.length ≤ 9223372036854775807 := by omega
  cases a with
  | none =>
    have h0 : l.length = 0 := by
      rcases Nat.eq_zero_or_pos l.length with h | h
      · exact h
      · obtain ⟨g, o, e, _⟩ := h3 h
        cases e
    obtain rfl := List.eq_nil_of_length_eq_zero h0
    clear HI h1 h2 h3 n63 hl
    go_enter Tryd.func27, Tryd.ntmps27
    go_wp2
    go_ret
    exact ⟨_, rfl, World.ownsRow_nil _ _ _ _, Below.refl _ _⟩
  | some ad =>
    obtain ⟨i0, hi, hz0, hz1, hz2⟩ := info_parts insInfo
    have HL := Lib.hid hl
    have HOL : Hid (∀ j u, (codeV l)[j]? = some u → (w.alloc (.cells #[] 45)).cell? (ad.add j) = some u) := Lib.hid (fun j u hu => by
      have hx := HI.out.olds ad rfl j u hu
      obtain ⟨a', c', he, k1, k2, k3⟩ := HI.out
      injection he with e1 e2 e3
      have hj : 0 < l.length := by
        have := (List.getElem?_eq_some_iff.1 hu).1
        rw [codeV_len] at this
        omega
      obtain ⟨g, o, e, hg, _, _⟩ := k3 hj
      rw [← e1] at e
      injection e with e
      subst e
      rw [Go.WideShapes.add_plain] at hx ⊢
      exact cell_lo (below_alloc w _) hg hx)
    have H1 : Hid (∀ u ∈ codeV l, u.oneCell' = true) := Lib.hid (codeV_one l)
    obtain ⟨n, hn⟩ : ∃ n, l.length = n := ⟨_, rfl⟩
    have HN := Lib.hid hn
    rw [hn] at n63 ⊢
    clear HI h1 h2 h3 hl hn
    go_enter Tryd.func27, Tryd.ntmps27
    go_wp2_with (at_builtin; refine wpList_append_own _ rfl (.tmp 5) (.tmp 6) 22 rfl w.heap.size 45 i0 (.agg #[.int .u8 0, .int .i64 0, .int .i64 0, .int .i64 0, .int .i64 0]) 5 40 Tryd.underlying22 hi hz0 hz1 hz2 rfl (by decide) (.slice (some ⟨w.heap.size, 0, none⟩) 0 0) 0 [] rfl (World.ownsRow_made w #[] 0 (Nat.le_refl _) (Nat.zero_le _) rfl) ad n c (codeV l) rfl (by rw [codeV_len, HN.out]) HOL.out H1.out (by have := HL.out; have := HN.out; unfold maxLen; omega) (by have := HL.out; have := HN.out; omega) (by simp) ?_)
    intro v' w1 hown hgrow hnil
    have HO := Lib.hid hown
    have HB : Hid (Below w.heap.size w w1) := Lib.hid (((Below.refl _ w).alloc (Nat.le_refl _) _).grown hgrow (by simp) (by intro k hk; simp [Value.ownBlock] at hk; omega))
    clear hown hgrow hnil
    go_wp2
    go_ret
    refine ⟨v', rfl, ?_, HB.out⟩
    have := HO.out
    rw [HN.out]
    simpa using this

/-- the first k instructions are in place, from the end on -/
def invD (C : List Ins) (k : Nat) : List Ins := (List.range C.length).map (fun j : Nat => if C.length - k ≤ j then invAt C (nI C j) else cAt C j)
theorem invD_len (C : List Ins) (k : Nat) : (invD C k).length = C.length := by simp [invD]
theorem invD_zero (C : List Ins) : invD C 0 = C := by
  apply List.ext_getElem?
  intro i
  unfold invD
  rw [List.getElem?_map]
  by_cases hi : i < C.length
  · rw [List.getElem?_range hi, Option.map_some, if_neg (by omega)]
    unfold cAt
    rw [Int.toNat_natCast, List.getD_eq_getElem?_getD, List.getElem?_eq_getElem hi]
    rfl
  · rw [List.getElem?_eq_none (by simp; omega), List.getElem?_eq_none (by omega)]
    rfl
theorem invD_all (C : List Ins) : invD C C.length = invC C := by
  unfold invD invC
  apply List.map_congr_left
  intro j _
  rw [if_pos (by omega)]
theorem invD_step {C : List Ins} {k : Nat} (hk : k < C.length) : (invD C k).set (C.length - 1 - k) (invAt C k) = invD C (k + 1) := by
  apply List.ext_getElem?
  intro i
  by_cases hi : i < C.length
  · by_cases e : C.length - 1 - k = i
    · subst e
      rw [List.getElem?_set_self (by rw [invD_len]; omega)]
      unfold invD
      rw [List.getElem?_map, List.getElem?_range hi, Option.map_some, if_pos (by omega)]
      congr 2
      unfold nI
      omega
    · rw [List.getElem?_set_ne e]
      unfold invD
      rw [List.getElem?_map, List.getElem?_map, List.getElem?_range hi, Option.map_some, Option.map_some]
      congr 1
      by_cases h : C.length - k ≤ i
      · rw [if_pos h, if_pos (by omega)]
      · rw [if_neg h, if_neg (by omega)]
  · rw [List.getElem?_eq_none (by simp [invD_len]; omega), List.getElem?_eq_none (by rw [invD_len]; omega)]

end Go.Proofs.YtichiccohmeecaaDoor
