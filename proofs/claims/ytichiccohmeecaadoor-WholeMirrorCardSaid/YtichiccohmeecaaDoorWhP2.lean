/- Each instruction that is followed by the next one is undone by its inverse. -/
import Derived.Test.YtichiccohmeecaaDoorWhP1
namespace Go.Proofs.YtichiccohmeecaaDoor
open Go.RowKit

structure Fit (im : Im) (m : Mach) : Prop where
  dir : m.dir = 1 ∨ m.dir = -1
  pc0 : 0 ≤ m.pc
  pc1 : m.pc ≤ im.code.length
  mem : (m.M.length : Int) = im.mem
  stk : (m.S.length : Int) = im.stacks
  one : 1 ≤ m.S.length
  row : ∀ s ∈ m.S.drop 1, s.length ≤ 1000
  site : ∀ a ∈ m.calls, inR im.code a.1 = true
  calls : m.calls.length ≤ 100
  inp : m.inp.length ≤ 4096
  out : m.out.length ≤ 4096
  fp0 : 0 ≤ m.fp
  fp1 : m.fp ≤ im.mem
  sb0 : 0 ≤ m.sb
  sb1 : m.sb ≤ im.stacks

theorem fits_iff {im : Im} {m : Mach} : fitsP im m = true ↔ Fit im m := by
  unfold fitsP
  simp only [Bool.and_eq_true, Bool.or_eq_true, beq_iff_eq, decide_eq_true_eq, List.all_eq_true]
  constructor
  · rintro ⟨⟨⟨⟨⟨⟨⟨⟨⟨⟨⟨⟨⟨⟨a1, a2⟩, a3⟩, a4⟩, a5⟩, a6⟩, a7⟩, a8⟩, a9⟩, a10⟩, a11⟩, a12⟩, a13⟩, a14⟩, a15⟩
    exact ⟨a1, a2, a3, a4, a5, a6, a7, a8, a9, a10, a11, a12, a13, a14, a15⟩
  · intro h
    exact ⟨⟨⟨⟨⟨⟨⟨⟨⟨⟨⟨⟨⟨⟨h.dir, h.pc0⟩, h.pc1⟩, h.mem⟩, h.stk⟩, h.one⟩, h.row⟩, h.site⟩, h.calls⟩, h.inp⟩, h.out⟩, h.fp0⟩, h.fp1⟩, h.sb0⟩, h.sb1⟩

/-! numbers -/
theorem ofInt_wrap (a : BitVec 64) : BitVec.ofInt 64 (IntKind.i64.wrap (a.toNat : Int)) = a := by
  have ha := a.isLt
  apply BitVec.eq_of_toNat_eq
  rw [BitVec.toNat_ofInt, IntKind.wrap_i64]
  have e : ((2 ^ 64 : Nat) : Int) = 18446744073709551616 := by decide
  rw [e]
  omega
theorem xor64_eq (x y : Int) : xor64 x y = IntKind.i64.wrap (((BitVec.ofInt 64 x ^^^ BitVec.ofInt 64 y).toNat : Nat) : Int) := rfl
theorem xor_back {x y : Int} (hx : I64 x) : xor64 (xor64 x y) y = x := by
  rw [xor64_eq, xor64_eq, ofInt_wrap, BitVec.xor_assoc, BitVec.xor_self, BitVec.xor_zero, BitVec.toNat_ofInt, IntKind.wrap_i64]
  have e : ((2 ^ 64 : Nat) : Int) = 18446744073709551616 := by decide
  rw [e]
  unfold I64 at hx
  omega
theorem xor_big (x y : Int) : I64 (xor64 x y) := by
  rw [xor64_eq]
  unfold I64
  rw [IntKind.wrap_i64]
  omega
theorem wrap_big (x : Int) : I64 (wrap64 x) := by unfold wrap64 I64; omega
theorem add_back {x y : Int} (hx : I64 x) : wrap64 (wrap64 (x + y) - y) = x := by unfold wrap64; unfold I64 at hx; omega
theorem sub_back {x y : Int} (hx : I64 x) : wrap64 (wrap64 (x - y) + y) = x := by unfold wrap64; unfold I64 at hx; omega
theorem neg_back {x : Int} (hx : I64 x) : wrap64 (-wrap64 (-x)) = x := by unfold wrap64; unfold I64 at hx; omega
theorem zero_big : I64 0 := by unfold I64; omega

/-! registers -/
theorem upd_self (f : Nat → Int) (a : Nat) (v : Int) : upd f a v a = v := if_pos rfl
theorem upd_ne (f : Nat → Int) {a j : Nat} (v : Int) (h : j ≠ a) : upd f a v j = f j := if_neg h
theorem upd_upd (f : Nat → Int) (a : Nat) (v u : Int) : upd (upd f a v) a u = upd f a u := by
  funext j; unfold upd; by_cases h : j = a <;> simp [h]
theorem upd_same (f : Nat → Int) (a : Nat) : upd f a (f a) = f := by
  funext j; unfold upd; by_cases h : j = a <;> simp [h]
theorem upd_big {f : Nat → Int} (hf : ∀ j, I64 (f j)) (a : Nat) {v : Int} (hv : I64 v) : ∀ j, I64 (upd f a v j) := by
  intro j; unfold upd; split
  · exact hv
  · exact hf j
theorem reg_ne {a b : Int} (ha : regB a = true) (hb : regB b = true) (h : a ≠ b) : b.toNat ≠ a.toNat := by
  unfold regB at ha hb
  simp at ha hb
  omega
theorem put_big {m : Mach} (h : m.Big) (a : Int) {v : Int} (hv : I64 v) : (m.put a v).Big := ⟨upd_big h.1 _ hv, h.2⟩
theorem put_fit {im : Im} {m : Mach} (h : Fit im m) (a v : Int) : Fit im (m.put a v) := ⟨h.dir, h.pc0, h.pc1, h.mem, h.stk, h.one, h.row, h.site, h.calls, h.inp, h.out, h.fp0, h.fp1, h.sb0, h.sb1⟩
theorem put_reg (m : Mach) (a v : Int) : (m.put a v).reg a = v := upd_self _ _ _
theorem put_reg_ne (m : Mach) {a b : Int} (v : Int) (h : b.toNat ≠ a.toNat) : (m.put a v).reg b = m.reg b := upd_ne _ _ h
theorem put_put (m : Mach) (a v u : Int) : (m.put a v).put a u = m.put a u := by unfold Mach.put; simp only [upd_upd]
theorem put_same (m : Mach) (a : Int) : m.put a (m.reg a) = m := by unfold Mach.put Mach.reg; rw [upd_same]
theorem put_back (m : Mach) (a v : Int) : (m.put a v).put a (m.reg a) = m := by rw [put_put, put_same]

/-- what an instruction leaves alone, and its way back -/
structure Back1 (im : Im) (i : Ins) (m m' : Mach) : Prop where
  pc : m'.pc = m.pc
  dir : m'.dir = m.dir
  calls : m'.calls = m.calls
  fit : Fit im m'
  big : m'.Big
  back : exec m' (invI i) = (0, m)

theorem back_put {im : Im} {i : Ins} {m : Mach} (hf : Fit im m) (hb : m.Big) (a : Int) {v : Int} (hv : I64 v) (hx : exec (m.put a v) (invI i) = (0, m)) : Back1 im i m (m.put a v) :=
  ⟨rfl, rfl, rfl, put_fit hf a v, put_big hb a hv, hx⟩

theorem getD_set {l : List Int} {k : Nat} (h : k < l.length) (x : Int) : (l.set k x).getD k 0 = x := by
  rw [List.getD_eq_getElem?_getD, List.getElem?_set_self h]; rfl
theorem set_getD {l : List Int} {k : Nat} (h : k < l.length) : l.set k (l.getD k 0) = l := by
  rw [List.getD_eq_getElem?_getD, List.getElem?_eq_getElem h]
  exact List.set_getElem_self h
theorem getD_mem {l : List Int} {k : Nat} (h : k < l.length) : l.getD k 0 ∈ l := by
  rw [List.getD_eq_getElem?_getD, List.getElem?_eq_getElem h]
  exact List.getElem_mem h
theorem mem_set {α : Type} {l : List α} {k : Nat} {x y : α} (h : y ∈ l.set k x) : y ∈ l ∨ y = x := List.mem_or_eq_of_mem_set h

theorem exchange_back {im : Im} {m m' : Mach} {r k : Int} (hf : Fit im m) (hb : m.Big) (h : exchange m r k = (0, m')) : m'.pc = m.pc ∧ m'.dir = m.dir ∧ m'.calls = m.calls ∧ Fit im m' ∧ m'.Big ∧ exchange m' r k = (0, m) ∧ m'.fp = m.fp ∧ ∀ b : Int, b.toNat ≠ r.toNat → m'.reg b = m.reg b := by
  unfold exchange at h
  by_cases hk : 0 ≤ k ∧ k < m.M.length
  · rw [if_pos hk] at h
    have hkn : k.toNat < m.M.length := by omega
    obtain rfl := (Prod.mk.inj h).2
    refine ⟨rfl, rfl, rfl, ⟨hf.dir, hf.pc0, hf.pc1, by simpa using hf.mem, hf.stk, hf.one, hf.row, hf.site, hf.calls, hf.inp, hf.out, hf.fp0, hf.fp1, hf.sb0, hf.sb1⟩, ⟨upd_big hb.1 _ (hb.2.1 _ (getD_mem hkn)), ?_, hb.2.2⟩, ?_, rfl, fun b hb' => upd_ne _ _ hb'⟩
    · intro x hx
      rcases mem_set hx with h | rfl
      · exact hb.2.1 x h
      · exact hb.1 _
    · unfold exchange
      rw [if_pos (by simpa using hk)]
      simp only [getD_set hkn, upd_upd, Mach.reg, upd_self, List.set_set, set_getD hkn, upd_same]
  · rw [if_neg hk] at h
    cases h

theorem shift_back {im : Im} {m m' : Mach} {x y : Int} (hf : Fit im m) (hb : m.Big) (h : shift m x y = (0, m')) : m'.pc = m.pc ∧ m'.dir = m.dir ∧ m'.calls = m.calls ∧ Fit im m' ∧ m'.Big ∧ shift m' (-x) (-y) = (0, m) := by
  unfold shift at h
  by_cases hk : 0 ≤ m.fp + x ∧ m.fp + x ≤ m.M.length ∧ 0 ≤ m.sb + y ∧ m.sb + y ≤ m.S.length
  · rw [if_pos hk] at h
    obtain rfl := (Prod.mk.inj h).2
    have e1 : m.fp + x + -x = m.fp := by omega
    have e2 : m.sb + y + -y = m.sb := by omega
    refine ⟨rfl, rfl, rfl, ⟨hf.dir, hf.pc0, hf.pc1, hf.mem, hf.stk, hf.one, hf.row, hf.site, hf.calls, hf.inp, hf.out, hk.1, ?_, hk.2.2.1, ?_⟩, hb, ?_⟩
    · have := hf.mem; show m.fp + x ≤ im.mem; omega
    · have := hf.stk; show m.sb + y ≤ im.stacks; omega
    · unfold shift
      simp only [e1, e2]
      rw [if_pos ⟨hf.fp0, by have := hf.mem; have := hf.fp1; omega, hf.sb0, by have := hf.stk; have := hf.sb1; omega⟩]
  · rw [if_neg hk] at h
    cases h

/-! stacks -/
theorem drop_set {α : Type} {l : List α} {k : Nat} {x y : α} (h : y ∈ (l.set k x).drop 1) : y ∈ l.drop 1 ∨ (k ≠ 0 ∧ y = x) := by
  cases l with
  | nil => simp at h
  | cons a l =>
    cases k with
    | zero => exact .inl (by simpa using h)
    | succ k =>
      simp only [List.set_cons_succ, List.drop_succ_cons, List.drop_zero] at h
      rcases mem_set h with h | h
      · exact .inl (by simpa using h)
      · exact .inr ⟨by omega, h⟩
theorem stk_drop {m : Mach} {k : Nat} (h : k < m.S.length) (h0 : k ≠ 0) : m.S.getD k [] ∈ m.S.drop 1 := by
  rw [List.getD_eq_getElem?_getD, List.getElem?_eq_getElem h]
  obtain ⟨j, rfl⟩ := Nat.exists_eq_succ_of_ne_zero h0
  have : (m.S.drop 1)[j]? = some (m.S[j + 1]'h) := by rw [List.getElem?_drop, Nat.add_comm, List.getElem?_eq_getElem h]
  exact List.mem_of_getElem? this
theorem stk_mem {m : Mach} {k : Nat} (h : k < m.S.length) : m.S.getD k [] ∈ m.S := by
  rw [List.getD_eq_getElem?_getD, List.getElem?_eq_getElem h]
  exact List.getElem_mem h
theorem getD_set2 {l : List (List Int)} {k : Nat} (h : k < l.length) (x : List Int) : (l.set k x).getD k [] = x := by
  rw [List.getD_eq_getElem?_getD, List.getElem?_set_self h]; rfl
theorem getD_set_ne {l : List (List Int)} {k j : Nat} (h : k ≠ j) (x : List Int) : (l.set k x).getD j [] = l.getD j [] := by
  rw [List.getD_eq_getElem?_getD, List.getElem?_set_ne h, List.getD_eq_getElem?_getD]
theorem set_getD2 {l : List (List Int)} {k : Nat} (h : k < l.length) : l.set k (l.getD k []) = l := by
  rw [List.getD_eq_getElem?_getD, List.getElem?_eq_getElem h]
  exact List.set_getElem_self h

theorem find_pos {m : Mach} {k : Int} (hk : 0 ≤ k) (hs : 0 ≤ m.sb) : 0 ≤ find m k ∧ (find m k = 0 ↔ k = 0) := by
  unfold find; split <;> omega

theorem setS_fit {im : Im} {m : Mach} (hf : Fit im m) {k : Nat} {s : List Int} (hs : k ≠ 0 → s.length ≤ 1000) (R : Nat → Int) : Fit im { m with R := R, S := m.S.set k s } :=
  ⟨hf.dir, hf.pc0, hf.pc1, hf.mem, by simpa using hf.stk, by simpa using hf.one, fun y hy => by
    rcases drop_set hy with h | ⟨h0, rfl⟩
    · exact hf.row y h
    · exact hs h0, hf.site, hf.calls, hf.inp, hf.out, hf.fp0, hf.fp1, hf.sb0, hf.sb1⟩
theorem setS_big {m : Mach} (hb : m.Big) {k : Nat} {s : List Int} (hs : ∀ x ∈ s, I64 x) {R : Nat → Int} (hR : ∀ j, I64 (R j)) : ({ m with R := R, S := m.S.set k s } : Mach).Big :=
  ⟨hR, hb.2.1, fun y hy => by
    rcases mem_set hy with h | rfl
    · exact hb.2.2.1 y h
    · exact hs, hb.2.2.2⟩

theorem swap_comm {l : List (List Int)} {x y : Nat} (hx : x < l.length) (hy : y < l.length) :
    ((((l.set x (l.getD y [])).set y (l.getD x [])).set x (((l.set x (l.getD y [])).set y (l.getD x [])).getD y []))).set y (((l.set x (l.getD y [])).set y (l.getD x [])).getD x []) = l := by
  by_cases h : x = y
  · subst h
    rw [set_getD2 hx, set_getD2 hx, set_getD2 hx, set_getD2 hx]
  · have e1 : ((l.set x (l.getD y [])).set y (l.getD x [])).getD y [] = l.getD x [] := getD_set2 (by simpa using hy) _
    have e2 : ((l.set x (l.getD y [])).set y (l.getD x [])).getD x [] = l.getD y [] := by rw [getD_set_ne (Ne.symm h), getD_set2 hx]
    rw [e1, e2, List.set_comm _ _ h, List.set_set, List.set_comm _ _ h, List.set_set, set_getD2 hy, set_getD2 hx]

theorem swap_back {im : Im} {m m' : Mach} {k l : Int} (hk : 0 ≤ k) (hl : 0 ≤ l) (hf : Fit im m) (hb : m.Big) (h : swapP m k l = (0, m')) : m'.pc = m.pc ∧ m'.dir = m.dir ∧ m'.calls = m.calls ∧ Fit im m' ∧ m'.Big ∧ swapP m' k l = (0, m) := by
  unfold swapP at h
  obtain ⟨hx0, -⟩ := find_pos hk hf.sb0
  obtain ⟨hy0, -⟩ := find_pos hl hf.sb0
  have ex : ∀ S : List (List Int), find { m with S := S } k = find m k := fun _ => rfl
  have ey : ∀ S : List (List Int), find { m with S := S } l = find m l := fun _ => rfl
  generalize hx : find m k = x at *
  generalize hy : find m l = y at *
  dsimp only at h
  by_cases h1 : m.S.length ≤ x
  · rw [if_pos h1] at h; cases h
  by_cases h2 : m.S.length ≤ y
  · rw [if_neg h1, if_pos h2] at h; cases h
  rw [if_neg h1, if_neg h2] at h
  split at h
  · cases h
  rename_i h3
  obtain rfl := (Prod.mk.inj h).2
  have hxn : x.toNat < m.S.length := by omega
  have hyn : y.toNat < m.S.length := by omega
  have h3a : x ≠ 0 → (m.S.getD y.toNat []).length ≤ 1000 := fun hh => by
    rcases Nat.lt_or_ge 1000 (m.S.getD y.toNat []).length with hg | hg
    · exact absurd (by rw [Bool.or_eq_true, Bool.and_eq_true]; exact .inl ⟨bne_iff_ne.2 hh, decide_eq_true hg⟩) h3
    · exact hg
  have h3b : y ≠ 0 → (m.S.getD x.toNat []).length ≤ 1000 := fun hh => by
    rcases Nat.lt_or_ge 1000 (m.S.getD x.toNat []).length with hg | hg
    · exact absurd (by rw [Bool.or_eq_true, Bool.and_eq_true, Bool.and_eq_true]; exact .inr ⟨bne_iff_ne.2 hh, decide_eq_true hg⟩) h3
    · exact hg
  have hf1 : Fit im { m with S := m.S.set x.toNat (m.S.getD y.toNat []) } := setS_fit hf (R := m.R) (fun h0 => h3a (by omega))
  have hf2 : Fit im { m with S := (m.S.set x.toNat (m.S.getD y.toNat [])).set y.toNat (m.S.getD x.toNat []) } := setS_fit hf1 (R := m.R) (fun h0 => h3b (by omega))
  have hb1 : ({ m with S := m.S.set x.toNat (m.S.getD y.toNat []) } : Mach).Big := setS_big hb (hb.2.2.1 _ (stk_mem hyn)) hb.1
  have hb2 : ({ m with S := (m.S.set x.toNat (m.S.getD y.toNat [])).set y.toNat (m.S.getD x.toNat []) } : Mach).Big := setS_big hb1 (hb.2.2.1 _ (stk_mem hxn)) hb.1
  refine ⟨rfl, rfl, rfl, hf2, hb2, ?_⟩
  unfold swapP
  simp only [ex, ey, stk, List.length_set]
  rw [if_neg h1, if_neg h2, if_neg, swap_comm hxn hyn]
  have r1 : ∀ (j : Int), 0 ≤ j → j.toNat < m.S.length → j ≠ 0 → (((m.S.set x.toNat (m.S.getD y.toNat [])).set y.toNat (m.S.getD x.toNat [])).getD j.toNat []).length ≤ 1000 := fun j hj hjl hj0 =>
    hf2.row _ (stk_drop (m := { m with S := (m.S.set x.toNat (m.S.getD y.toNat [])).set y.toNat (m.S.getD x.toNat []) }) (by simpa using hjl) (by omega))
  have e1 : (((m.S.set x.toNat (m.S.getD y.toNat [])).set y.toNat (m.S.getD x.toNat [])).getD y.toNat []) = m.S.getD x.toNat [] := getD_set2 (by simpa using hyn) _
  have e2 : (((m.S.set x.toNat (m.S.getD y.toNat [])).set y.toNat (m.S.getD x.toNat [])).getD x.toNat []) = m.S.getD y.toNat [] := by
    by_cases h : x.toNat = y.toNat
    · rw [h] at e1 ⊢; exact e1
    · rw [getD_set_ne (Ne.symm h), getD_set2 hxn]
  rw [e1, e2]
  simp only [Bool.or_eq_true, Bool.and_eq_true, bne_iff_ne, decide_eq_true_eq, not_or, not_and]
  exact ⟨fun hne => by have := hf.row _ (stk_drop hxn (by omega)); omega, fun hne => by have := hf.row _ (stk_drop hyn (by omega)); omega⟩

theorem lastD_snoc (l : List Int) (x : Int) : lastD (l ++ [x]) = x := by
  unfold lastD
  rw [List.getD_eq_getElem?_getD, List.length_append, List.getElem?_append_right (by simp)]
  simp
theorem take_snoc_len (l : List Int) (x : Int) : (l ++ [x]).take ((l ++ [x]).length - 1) = l := by simp
theorem snoc_last {l : List Int} (h : l.length ≠ 0) : l.take (l.length - 1) ++ [lastD l] = l := by
  have hl : l.length - 1 < l.length := by omega
  unfold lastD
  rw [List.getD_eq_getElem?_getD, List.getElem?_eq_getElem hl]
  have := List.take_succ_eq_append_getElem hl
  rw [show l.length - 1 + 1 = l.length by omega, List.take_length] at this
  exact this.symm
theorem lastD_mem {l : List Int} (h : l.length ≠ 0) : lastD l ∈ l := getD_mem (by omega)

end Go.Proofs.YtichiccohmeecaaDoor
