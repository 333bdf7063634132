/- exec is undone by exec of the inverse instruction; a failing exec changes nothing. -/
import Derived.Test.YtichiccohmeecaaDoorWhP2
namespace Go.Proofs.YtichiccohmeecaaDoor
open Go.RowKit

theorem rbig {m : Mach} (hb : m.Big) (a : Int) : I64 (m.reg a) := hb.1 _
theorem stack_len {m : Mach} (hf : ∃ im, Fit im m) {k : Int} (hk : 0 ≤ k) (h : ¬ (m.S.length : Int) ≤ find m k) : (find m k).toNat < m.S.length := by
  obtain ⟨im, hf⟩ := hf
  have := (find_pos hk hf.sb0).1
  omega

theorem size_back {im : Im} {m m' : Mach} {i : Ins} (hi : i.op = 15) (hf : Fit im m) (hb : m.Big) (h : stackP m i = (0, m')) : Back1 im i m m' := by
  unfold stackP at h
  dsimp only at h
  by_cases h1 : (m.S.length : Int) ≤ find m i.b
  · rw [if_pos h1] at h; cases h
  rw [if_neg h1, if_pos hi] at h
  obtain rfl := (Prod.mk.inj h).2
  refine back_put hf hb _ (xor_big _ _) ?_
  have e : exec (m.put i.a (xor64 (m.reg i.a) (stk m (find m i.b)).length)) (invI i) = stackP (m.put i.a (xor64 (m.reg i.a) (stk m (find m i.b)).length)) (invI i) := by
    unfold exec invI; simp only [hi, invO]
  rw [e]
  unfold stackP
  dsimp only
  rw [if_neg (by exact h1), if_pos (by unfold invI; simp only [hi, invO])]
  show ((0 : Int), (m.put i.a (xor64 (m.reg i.a) (stk m (find m i.b)).length)).put i.a (xor64 ((m.put i.a (xor64 (m.reg i.a) (stk m (find m i.b)).length)).reg i.a) (stk m (find m i.b)).length)) = _
  rw [put_reg, xor_back (rbig hb _), put_back]

theorem top_back {im : Im} {m m' : Mach} {i : Ins} (hi : i.op = 14) (hf : Fit im m) (hb : m.Big) (h : stackP m i = (0, m')) : Back1 im i m m' := by
  unfold stackP at h
  dsimp only at h
  by_cases h1 : (m.S.length : Int) ≤ find m i.b
  · rw [if_pos h1] at h; cases h
  rw [if_neg h1, if_neg (by omega), if_neg (by omega)] at h
  by_cases h2 : (stk m (find m i.b)).length = 0
  · rw [if_pos h2] at h; cases h
  rw [if_neg h2, if_pos hi] at h
  obtain rfl := (Prod.mk.inj h).2
  refine back_put hf hb _ (xor_big _ _) ?_
  have e : exec (m.put i.a (xor64 (m.reg i.a) (lastD (stk m (find m i.b))))) (invI i) = stackP (m.put i.a (xor64 (m.reg i.a) (lastD (stk m (find m i.b))))) (invI i) := by
    unfold exec invI; simp only [hi, invO]
  have hj : (invI i).op = 14 := by unfold invI; simp only [hi, invO]
  rw [e]
  unfold stackP
  dsimp only
  rw [if_neg (by exact h1), if_neg (by rw [hj]; omega), if_neg (by rw [hj]; omega), if_neg (by exact h2), if_pos hj]
  show ((0 : Int), (m.put i.a (xor64 (m.reg i.a) (lastD (stk m (find m i.b))))).put i.a (xor64 ((m.put i.a (xor64 (m.reg i.a) (lastD (stk m (find m i.b))))).reg i.a) (lastD (stk m (find m i.b))))) = _
  rw [put_reg, xor_back (rbig hb _), put_back]

theorem push_back {im : Im} {m m' : Mach} {i : Ins} (hi : i.op = 12) (h0 : 0 ≤ i.b) (hf : Fit im m) (hb : m.Big) (h : stackP m i = (0, m')) : Back1 im i m m' := by
  unfold stackP at h
  dsimp only at h
  by_cases h1 : (m.S.length : Int) ≤ find m i.b
  · rw [if_pos h1] at h; cases h
  have hkn := stack_len ⟨im, hf⟩ h0 h1
  have hk0 := (find_pos h0 hf.sb0).1
  rw [if_neg h1, if_neg (by omega), if_pos hi] at h
  by_cases h2 : find m i.b ≠ 0 ∧ 1000 ≤ (stk m (find m i.b)).length
  · rw [if_pos h2] at h; cases h
  rw [if_neg h2] at h
  obtain rfl := (Prod.mk.inj h).2
  have hbs : ∀ x ∈ stk m (find m i.b) ++ [m.reg i.a], I64 x := fun x hx => by
    rcases List.mem_append.1 hx with h | h
    · exact hb.2.2.1 _ (stk_mem hkn) x h
    · rw [List.mem_singleton.1 h]; exact hb.1 _
  refine ⟨rfl, rfl, rfl, setS_fit hf (fun hn => by rw [List.length_append, List.length_singleton]; omega) _, setS_big hb hbs (upd_big hb.1 _ zero_big), ?_⟩
  have hj : (invI i).op = 13 := by unfold invI; simp only [hi, invO]
  have e : exec { m.put i.a 0 with S := m.S.set (find m i.b).toNat (stk m (find m i.b) ++ [m.reg i.a]) } (invI i) = stackP { m.put i.a 0 with S := m.S.set (find m i.b).toNat (stk m (find m i.b) ++ [m.reg i.a]) } (invI i) := by
    unfold exec; simp only [hj]
  rw [e]
  unfold stackP
  have ef : find { m.put i.a 0 with S := m.S.set (find m i.b).toNat (stk m (find m i.b) ++ [m.reg i.a]) } (invI i).b = find m i.b := rfl
  have es : stk { m.put i.a 0 with S := m.S.set (find m i.b).toNat (stk m (find m i.b) ++ [m.reg i.a]) } (find m i.b) = stk m (find m i.b) ++ [m.reg i.a] := getD_set2 hkn _
  have er : Mach.reg { m.put i.a 0 with S := m.S.set (find m i.b).toNat (stk m (find m i.b) ++ [m.reg i.a]) } (invI i).a = 0 := put_reg m i.a 0
  simp only [ef, es, er, List.length_set]
  rw [if_neg h1, if_neg (by omega), if_neg (by omega), if_neg (by simp), if_neg (by omega), if_neg (by simp), lastD_snoc, take_snoc_len]
  have : (m.S.set (find m i.b).toNat (stk m (find m i.b) ++ [m.reg i.a])).set (find m i.b).toNat (stk m (find m i.b)) = m.S := by
    rw [List.set_set]; exact set_getD2 hkn
  rw [this]
  show ((0 : Int), { (m.put i.a 0).put i.a (m.reg i.a) with S := m.S }) = _
  rw [put_back]

theorem pop_back {im : Im} {m m' : Mach} {i : Ins} (hi : i.op = 13) (h0 : 0 ≤ i.b) (hf : Fit im m) (hb : m.Big) (h : stackP m i = (0, m')) : Back1 im i m m' := by
  unfold stackP at h
  dsimp only at h
  by_cases h1 : (m.S.length : Int) ≤ find m i.b
  · rw [if_pos h1] at h; cases h
  have hkn := stack_len ⟨im, hf⟩ h0 h1
  have hk0 := (find_pos h0 hf.sb0).1
  rw [if_neg h1, if_neg (by omega), if_neg (by omega)] at h
  by_cases h2 : (stk m (find m i.b)).length = 0
  · rw [if_pos h2] at h; cases h
  rw [if_neg h2, if_neg (by omega)] at h
  by_cases h3 : m.reg i.a ≠ 0
  · rw [if_pos h3] at h; cases h
  rw [if_neg h3] at h
  obtain rfl := (Prod.mk.inj h).2
  have hsm := hb.2.2.1 _ (stk_mem hkn)
  have hrow : find m i.b ≠ 0 → (stk m (find m i.b)).length ≤ 1000 := fun hn => hf.row _ (stk_drop hkn (by omega))
  refine ⟨rfl, rfl, rfl, setS_fit hf (fun hn => by rw [List.length_take]; have := hrow (by omega); omega) _, setS_big hb (fun x hx => hsm x (List.mem_of_mem_take hx)) (upd_big hb.1 _ (hsm _ (lastD_mem h2))), ?_⟩
  have hj : (invI i).op = 12 := by unfold invI; simp only [hi, invO]
  have e : exec { m.put i.a (lastD (stk m (find m i.b))) with S := m.S.set (find m i.b).toNat ((stk m (find m i.b)).take ((stk m (find m i.b)).length - 1)) } (invI i) = stackP { m.put i.a (lastD (stk m (find m i.b))) with S := m.S.set (find m i.b).toNat ((stk m (find m i.b)).take ((stk m (find m i.b)).length - 1)) } (invI i) := by
    unfold exec; simp only [hj]
  rw [e]
  unfold stackP
  have ef : find { m.put i.a (lastD (stk m (find m i.b))) with S := m.S.set (find m i.b).toNat ((stk m (find m i.b)).take ((stk m (find m i.b)).length - 1)) } (invI i).b = find m i.b := rfl
  have es : stk { m.put i.a (lastD (stk m (find m i.b))) with S := m.S.set (find m i.b).toNat ((stk m (find m i.b)).take ((stk m (find m i.b)).length - 1)) } (find m i.b) = (stk m (find m i.b)).take ((stk m (find m i.b)).length - 1) := getD_set2 hkn _
  have er : Mach.reg { m.put i.a (lastD (stk m (find m i.b))) with S := m.S.set (find m i.b).toNat ((stk m (find m i.b)).take ((stk m (find m i.b)).length - 1)) } (invI i).a = lastD (stk m (find m i.b)) := put_reg m i.a _
  simp only [ef, es, er, List.length_set]
  rw [if_neg h1, if_neg (by omega), if_pos hj, if_neg (by rw [List.length_take]; intro ⟨hn, hh⟩; have := hrow hn; omega), snoc_last h2]
  have : (m.S.set (find m i.b).toNat ((stk m (find m i.b)).take ((stk m (find m i.b)).length - 1))).set (find m i.b).toNat (stk m (find m i.b)) = m.S := by
    rw [List.set_set]; exact set_getD2 hkn
  rw [this]
  have h3' : m.reg i.a = 0 := by omega
  show ((0 : Int), { (m.put i.a (lastD (stk m (find m i.b)))).put i.a 0 with S := m.S }) = _
  rw [← h3', put_back]

/-! tapes -/
theorem read_back {im : Im} {m m' : Mach} {a : Int} (hf : Fit im m) (hb : m.Big) (h : readP m a = (0, m')) : m'.pc = m.pc ∧ m'.dir = m.dir ∧ m'.calls = m.calls ∧ Fit im m' ∧ m'.Big ∧ unreadP m' a = (0, m) := by
  unfold readP at h
  by_cases h1 : m.inp.length = 0
  · rw [if_pos h1] at h; cases h
  by_cases h2 : m.reg a ≠ 0
  · rw [if_neg h1, if_pos h2] at h; cases h
  rw [if_neg h1, if_neg h2] at h
  obtain rfl := (Prod.mk.inj h).2
  have hl := hf.inp
  refine ⟨rfl, rfl, rfl, ⟨hf.dir, hf.pc0, hf.pc1, hf.mem, hf.stk, hf.one, hf.row, hf.site, hf.calls, by rw [List.length_drop]; omega, hf.out, hf.fp0, hf.fp1, hf.sb0, hf.sb1⟩,
    ⟨upd_big hb.1 _ (hb.2.2.2.1 _ (getD_mem (by omega))), hb.2.1, hb.2.2.1, fun x hx => hb.2.2.2.1 x (List.mem_of_mem_drop hx), hb.2.2.2.2⟩, ?_⟩
  unfold unreadP
  have er : Mach.reg { m.put a (m.inp.getD 0 0) with inp := m.inp.drop 1 } a = m.inp.getD 0 0 := put_reg m a _
  simp only [er]
  rw [if_neg (by rw [List.length_drop]; omega)]
  have hc : m.inp.getD 0 0 :: m.inp.drop 1 = m.inp := by
    cases hm : m.inp with
    | nil => rw [hm] at h1; exact absurd rfl h1
    | cons x l => rfl
  rw [hc]
  have h2' : m.reg a = 0 := by omega
  show ((0 : Int), { (m.put a (m.inp.getD 0 0)).put a 0 with inp := m.inp }) = _
  rw [← h2', put_back]
theorem unread_back {im : Im} {m m' : Mach} {a : Int} (hf : Fit im m) (hb : m.Big) (h : unreadP m a = (0, m')) : m'.pc = m.pc ∧ m'.dir = m.dir ∧ m'.calls = m.calls ∧ Fit im m' ∧ m'.Big ∧ readP m' a = (0, m) := by
  unfold unreadP at h
  by_cases h1 : 4096 ≤ m.inp.length
  · rw [if_pos h1] at h; cases h
  rw [if_neg h1] at h
  obtain rfl := (Prod.mk.inj h).2
  refine ⟨rfl, rfl, rfl, ⟨hf.dir, hf.pc0, hf.pc1, hf.mem, hf.stk, hf.one, hf.row, hf.site, hf.calls, by rw [List.length_cons]; omega, hf.out, hf.fp0, hf.fp1, hf.sb0, hf.sb1⟩,
    ⟨upd_big hb.1 _ zero_big, hb.2.1, hb.2.2.1, fun x hx => by
      rcases List.mem_cons.1 hx with rfl | h
      · exact hb.1 _
      · exact hb.2.2.2.1 x h, hb.2.2.2.2⟩, ?_⟩
  unfold readP
  have er : Mach.reg { m.put a 0 with inp := m.reg a :: m.inp } a = 0 := put_reg m a _
  simp only [er]
  rw [if_neg (by simp), if_neg (by simp)]
  show ((0 : Int), { (m.put a 0).put a (m.reg a) with inp := m.inp }) = _
  rw [put_back]
theorem write_back {im : Im} {m m' : Mach} {a : Int} (hf : Fit im m) (hb : m.Big) (h : writeP m a = (0, m')) : m'.pc = m.pc ∧ m'.dir = m.dir ∧ m'.calls = m.calls ∧ Fit im m' ∧ m'.Big ∧ unwriteP m' a = (0, m) := by
  unfold writeP at h
  by_cases h1 : 4096 ≤ m.out.length
  · rw [if_pos h1] at h; cases h
  rw [if_neg h1] at h
  obtain rfl := (Prod.mk.inj h).2
  refine ⟨rfl, rfl, rfl, ⟨hf.dir, hf.pc0, hf.pc1, hf.mem, hf.stk, hf.one, hf.row, hf.site, hf.calls, hf.inp, by rw [List.length_append, List.length_singleton]; omega, hf.fp0, hf.fp1, hf.sb0, hf.sb1⟩,
    ⟨upd_big hb.1 _ zero_big, hb.2.1, hb.2.2.1, hb.2.2.2.1, fun x hx => by
      rcases List.mem_append.1 hx with h | h
      · exact hb.2.2.2.2 x h
      · rw [List.mem_singleton.1 h]; exact hb.1 _⟩, ?_⟩
  unfold unwriteP
  have er : Mach.reg { m.put a 0 with out := m.out ++ [m.reg a] } a = 0 := put_reg m a _
  simp only [er]
  rw [if_neg (by simp), if_neg (by simp), lastD_snoc, take_snoc_len]
  show ((0 : Int), { (m.put a 0).put a (m.reg a) with out := m.out }) = _
  rw [put_back]
theorem unwrite_back {im : Im} {m m' : Mach} {a : Int} (hf : Fit im m) (hb : m.Big) (h : unwriteP m a = (0, m')) : m'.pc = m.pc ∧ m'.dir = m.dir ∧ m'.calls = m.calls ∧ Fit im m' ∧ m'.Big ∧ writeP m' a = (0, m) := by
  unfold unwriteP at h
  by_cases h1 : m.out.length = 0
  · rw [if_pos h1] at h; cases h
  by_cases h2 : m.reg a ≠ 0
  · rw [if_neg h1, if_pos h2] at h; cases h
  rw [if_neg h1, if_neg h2] at h
  obtain rfl := (Prod.mk.inj h).2
  have hl := hf.out
  refine ⟨rfl, rfl, rfl, ⟨hf.dir, hf.pc0, hf.pc1, hf.mem, hf.stk, hf.one, hf.row, hf.site, hf.calls, hf.inp, by rw [List.length_take]; omega, hf.fp0, hf.fp1, hf.sb0, hf.sb1⟩,
    ⟨upd_big hb.1 _ (hb.2.2.2.2 _ (lastD_mem h1)), hb.2.1, hb.2.2.1, hb.2.2.2.1, fun x hx => hb.2.2.2.2 x (List.mem_of_mem_take hx)⟩, ?_⟩
  unfold writeP
  have er : Mach.reg { m.put a (lastD m.out) with out := m.out.take (m.out.length - 1) } a = lastD m.out := put_reg m a _
  simp only [er]
  rw [if_neg (by rw [List.length_take]; omega), snoc_last h1]
  have h2' : m.reg a = 0 := by omega
  show ((0 : Int), { (m.put a (lastD m.out)).put a 0 with out := m.out }) = _
  rw [← h2', put_back]

theorem invI_op (i : Ins) : (invI i).op = invO i.op := rfl

/-- an opcode that exec knows -/
def plainO (op : Nat) : Prop := op ≤ 21 ∨ op = 28 ∨ op = 29

theorem valid_form {i : Ins} (h : validI i = true) : formB i = true := by unfold validI at h; simp at h; exact h.2
theorem valid_op {i : Ins} (h : validI i = true) : i.op < 35 := by unfold validI at h; simp at h; exact h.1.1

theorem b1_of {im : Im} {i : Ins} {m m' : Mach} {E : Int × Mach} (h : m'.pc = m.pc ∧ m'.dir = m.dir ∧ m'.calls = m.calls ∧ Fit im m' ∧ m'.Big ∧ E = (0, m)) (he : exec m' (invI i) = E) : Back1 im i m m' :=
  ⟨h.1, h.2.1, h.2.2.1, h.2.2.2.1, h.2.2.2.2.1, he.trans h.2.2.2.2.2⟩

theorem exec_back {im : Im} {m m' : Mach} {i : Ins} (hv : validI i = true) (hp : plainO i.op) (hf : Fit im m) (hb : m.Big) (h : exec m i = (0, m')) : Back1 im i m m' := by
  have hform := valid_form hv
  obtain ⟨op, a, b, c, d⟩ := i
  have hop : op = 0 ∨ op = 1 ∨ op = 2 ∨ op = 3 ∨ op = 4 ∨ op = 5 ∨ op = 6 ∨ op = 7 ∨ op = 8 ∨ op = 9 ∨ op = 10 ∨ op = 11 ∨ op = 12 ∨ op = 13 ∨ op = 14 ∨ op = 15 ∨ op = 16 ∨ op = 17 ∨ op = 18 ∨ op = 19 ∨ op = 20 ∨ op = 21 ∨ op = 28 ∨ op = 29 := by
    unfold plainO at hp; simp only at hp; omega
  clear hv hp
  rcases hop with rfl | rfl | rfl | rfl | rfl | rfl | rfl | rfl | rfl | rfl | rfl | rfl | rfl | rfl | rfl | rfl | rfl | rfl | rfl | rfl | rfl | rfl | rfl | rfl
  · obtain rfl : m = m' := (Prod.mk.inj h).2
    exact ⟨rfl, rfl, rfl, hf, hb, rfl⟩
  · have h : ((0 : Int), m.put a (wrap64 (m.reg a + m.reg b))) = (0, m') := h
    have hform : (regB a && regB b && a != b) = true := hform
    simp only [Bool.and_eq_true, bne_iff_ne] at hform
    obtain rfl := (Prod.mk.inj h).2
    refine back_put hf hb _ (wrap_big _) ?_
    show ((0 : Int), (m.put a (wrap64 (m.reg a + m.reg b))).put a (wrap64 ((m.put a (wrap64 (m.reg a + m.reg b))).reg a - (m.put a (wrap64 (m.reg a + m.reg b))).reg b))) = (0, m)
    rw [put_reg, put_reg_ne _ _ (reg_ne hform.1.1 hform.1.2 hform.2), add_back (rbig hb _), put_back]
  · have h : ((0 : Int), m.put a (wrap64 (m.reg a - m.reg b))) = (0, m') := h
    have hform : (regB a && regB b && a != b) = true := hform
    simp only [Bool.and_eq_true, bne_iff_ne] at hform
    obtain rfl := (Prod.mk.inj h).2
    refine back_put hf hb _ (wrap_big _) ?_
    show ((0 : Int), (m.put a (wrap64 (m.reg a - m.reg b))).put a (wrap64 ((m.put a (wrap64 (m.reg a - m.reg b))).reg a + (m.put a (wrap64 (m.reg a - m.reg b))).reg b))) = (0, m)
    rw [put_reg, put_reg_ne _ _ (reg_ne hform.1.1 hform.1.2 hform.2), sub_back (rbig hb _), put_back]
  · have h : ((0 : Int), m.put a (xor64 (m.reg a) (m.reg b))) = (0, m') := h
    have hform : (regB a && regB b && a != b) = true := hform
    simp only [Bool.and_eq_true, bne_iff_ne] at hform
    obtain rfl := (Prod.mk.inj h).2
    refine back_put hf hb _ (xor_big _ _) ?_
    show ((0 : Int), (m.put a (xor64 (m.reg a) (m.reg b))).put a (xor64 ((m.put a (xor64 (m.reg a) (m.reg b))).reg a) ((m.put a (xor64 (m.reg a) (m.reg b))).reg b))) = (0, m)
    rw [put_reg, put_reg_ne _ _ (reg_ne hform.1.1 hform.1.2 hform.2), xor_back (rbig hb _), put_back]
  · have h : ((0 : Int), m.put a (wrap64 (m.reg a + b))) = (0, m') := h
    obtain rfl := (Prod.mk.inj h).2
    refine back_put hf hb _ (wrap_big _) ?_
    show ((0 : Int), (m.put a (wrap64 (m.reg a + b))).put a (wrap64 ((m.put a (wrap64 (m.reg a + b))).reg a - b))) = (0, m)
    rw [put_reg, add_back (rbig hb _), put_back]
  · have h : ((0 : Int), m.put a (wrap64 (m.reg a - b))) = (0, m') := h
    obtain rfl := (Prod.mk.inj h).2
    refine back_put hf hb _ (wrap_big _) ?_
    show ((0 : Int), (m.put a (wrap64 (m.reg a - b))).put a (wrap64 ((m.put a (wrap64 (m.reg a - b))).reg a + b))) = (0, m)
    rw [put_reg, sub_back (rbig hb _), put_back]
  · have h : ((0 : Int), m.put a (xor64 (m.reg a) b)) = (0, m') := h
    obtain rfl := (Prod.mk.inj h).2
    refine back_put hf hb _ (xor_big _ _) ?_
    show ((0 : Int), (m.put a (xor64 (m.reg a) b)).put a (xor64 ((m.put a (xor64 (m.reg a) b)).reg a) b)) = (0, m)
    rw [put_reg, xor_back (rbig hb _), put_back]
  · have h : ((0 : Int), (m.put a (m.reg b)).put b (m.reg a)) = (0, m') := h
    obtain rfl := (Prod.mk.inj h).2
    refine ⟨rfl, rfl, rfl, put_fit (put_fit hf _ _) _ _, put_big (put_big hb _ (hb.1 _)) _ (hb.1 _), ?_⟩
    show ((0 : Int), (((m.put a (m.reg b)).put b (m.reg a)).put a (((m.put a (m.reg b)).put b (m.reg a)).reg b)).put b (((m.put a (m.reg b)).put b (m.reg a)).reg a)) = (0, m)
    rw [put_reg]
    by_cases he : a.toNat = b.toNat
    · have e1 : ∀ (x : Mach) v, x.put a v = x.put b v := fun x v => by unfold Mach.put; rw [he]
      have e2 : ∀ (x : Mach), x.reg a = x.reg b := fun x => by unfold Mach.reg; rw [he]
      rw [e1, e1, e2, e2, put_reg, put_put, put_put, put_put, put_same]
    · rw [put_reg_ne _ _ (fun h => he h), put_reg]
      congr 1
      unfold Mach.put Mach.reg
      congr 1
      funext j
      simp only [upd]
      by_cases h1 : j = b.toNat
      · rw [if_pos h1, h1]
      · rw [if_neg h1]
        by_cases h2 : j = a.toNat
        · rw [if_pos h2, h2]
        · rw [if_neg h2, if_neg h1, if_neg h2]
  · have h : ((0 : Int), m.put a (wrap64 (-m.reg a))) = (0, m') := h
    obtain rfl := (Prod.mk.inj h).2
    refine back_put hf hb _ (wrap_big _) ?_
    show ((0 : Int), (m.put a (wrap64 (-m.reg a))).put a (wrap64 (-(m.put a (wrap64 (-m.reg a))).reg a))) = (0, m)
    rw [put_reg, neg_back (rbig hb _), put_back]
  · have h : calcP m ⟨9, a, b, c, d⟩ = (0, m') := h
    have hform : (regB a && regB b && regB c && a != b && a != c && operB d) = true := hform
    simp only [Bool.and_eq_true, bne_iff_ne] at hform
    unfold calcP at h
    dsimp only at h
    by_cases h1 : applyE d (m.reg c) ≠ 0
    · rw [if_pos h1] at h; exact absurd (Prod.mk.inj h).1 h1
    rw [if_neg h1] at h
    obtain rfl := (Prod.mk.inj h).2
    refine back_put hf hb _ (xor_big _ _) ?_
    show calcP (m.put a (xor64 (m.reg a) (applyV d (m.reg b) (m.reg c)))) ⟨9, a, b, c, d⟩ = (0, m)
    unfold calcP
    dsimp only
    rw [put_reg_ne _ _ (reg_ne hform.1.1.1.1.1 hform.1.1.1.2 hform.1.2), put_reg_ne _ _ (reg_ne hform.1.1.1.1.1 hform.1.1.1.1.2 hform.1.1.2), if_neg h1, put_reg, xor_back (rbig hb _), put_back]
  · have h : exchange m a (m.fp + b) = (0, m') := h
    obtain ⟨e1, e2, e3, e4, e5, e6, e7, e8⟩ := exchange_back hf hb h
    exact ⟨e1, e2, e3, e4, e5, by show exchange m' a (m'.fp + b) = _; rw [e7]; exact e6⟩
  · have h : idxP m ⟨11, a, b, c, d⟩ = (0, m') := h
    have hform : (regB a && regB b && a != b && numB c && numB d) = true := hform
    simp only [Bool.and_eq_true, bne_iff_ne] at hform
    unfold idxP at h
    dsimp only at h
    by_cases h1 : 0 ≤ m.reg b ∧ m.reg b < d
    · rw [if_pos h1] at h
      obtain ⟨e1, e2, e3, e4, e5, e6, e7, e8⟩ := exchange_back hf hb h
      refine ⟨e1, e2, e3, e4, e5, ?_⟩
      show idxP m' ⟨11, a, b, c, d⟩ = _
      unfold idxP
      dsimp only
      rw [e8 b (reg_ne hform.1.1.1.1 hform.1.1.1.2 hform.1.1.2), if_pos h1, e7]
      exact e6
    · rw [if_neg h1] at h; cases h
  · have hform : (regB a && numB b) = true := hform
    unfold numB at hform
    simp only [Bool.and_eq_true, decide_eq_true_eq] at hform
    exact push_back rfl hform.2.1 hf hb h
  · have hform : (regB a && numB b) = true := hform
    unfold numB at hform
    simp only [Bool.and_eq_true, decide_eq_true_eq] at hform
    exact pop_back rfl hform.2.1 hf hb h
  · exact top_back rfl hf hb h
  · exact size_back rfl hf hb h
  · have hform : (numB a && numB b) = true := hform
    unfold numB at hform
    simp only [Bool.and_eq_true, decide_eq_true_eq] at hform
    exact b1_of (swap_back hform.1.1 hform.2.1 hf hb h) rfl
  · exact b1_of (read_back hf hb h) rfl
  · exact b1_of (unread_back hf hb h) rfl
  · exact b1_of (write_back hf hb h) rfl
  · exact b1_of (unwrite_back hf hb h) rfl
  · have h : zeroP m ⟨21, a, b, c, d⟩ = (0, m') := h
    have hform : (regB a && decide (1 ≤ b) && decide (b ≤ 23)) = true := hform
    simp only [Bool.and_eq_true, decide_eq_true_eq] at hform
    unfold zeroP at h
    dsimp only at h
    by_cases h1 : m.reg a ≠ 0
    · rw [if_pos h1] at h; have := (Prod.mk.inj h).1; omega
    rw [if_neg h1] at h
    obtain rfl : m = m' := (Prod.mk.inj h).2
    refine ⟨rfl, rfl, rfl, hf, hb, ?_⟩
    show zeroP m ⟨21, a, b, c, d⟩ = _
    unfold zeroP
    dsimp only
    rw [if_neg h1]
  · exact b1_of (shift_back hf hb h) rfl
  · have := shift_back hf hb (show shift m (-a) (-b) = (0, m') from h)
    rw [Int.neg_neg, Int.neg_neg] at this
    exact b1_of this rfl

end Go.Proofs.YtichiccohmeecaaDoor
