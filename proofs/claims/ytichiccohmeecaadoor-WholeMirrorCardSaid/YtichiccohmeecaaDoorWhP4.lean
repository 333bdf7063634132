/- A step is undone by a step of the turned machine; a failing step changes nothing. -/
import Derived.Test.YtichiccohmeecaaDoorWhP3
namespace Go.Proofs.YtichiccohmeecaaDoor
open Go.RowKit

/-- what a valid image gives the machine -/
structure Good (C : List Ins) : Prop where
  len : C.length ≤ 65536
  valid : ∀ k, inR C k = true → validI (cAt C k) = true
  pairs : ∀ k, inR C k = true → (jumpB (cAt C k).op || landB (cAt C k).op) = true ∨ (cAt C k).op = 32 ∨ (cAt C k).op = 33 → ∃ t, partner C k = some t
  calls : ∀ k, inR C k = true → (cAt C k).op = 30 ∨ (cAt C k).op = 31 → (cAt C (cAt C k).a).op = 32 ∧ ∃ e, partner C (cAt C k).a = some e

theorem inR_iff {C : List Ins} {k : Int} : inR C k = true ↔ 0 ≤ k ∧ k < C.length := by unfold inR; simp

theorem partner_iff {C : List Ins} {i t : Int} : partner C i = some t ↔ inR C i = true ∧ inR C t = true ∧ targ (cAt C i) = some t ∧ targ (cAt C t) = some i ∧ validI (cAt C i) = true ∧ validI (cAt C t) = true ∧ pairB i t (cAt C i).op (cAt C t).op = true := by
  unfold partner
  constructor
  · intro h
    by_cases h1 : inR C i = true
    · rw [if_pos h1] at h
      cases h2 : targ (cAt C i) with
      | none => rw [h2] at h; cases h
      | some u =>
        rw [h2] at h
        dsimp only at h
        split at h
        · rename_i h3
          obtain rfl := Option.some.inj h
          simp only [Bool.and_eq_true, beq_iff_eq] at h3
          exact ⟨h1, h3.1.1.1.1, rfl, h3.1.2, h3.1.1.1.2, h3.1.1.2, h3.2⟩
        · cases h
    · rw [if_neg h1] at h; cases h
  · rintro ⟨h1, h2, h3, h4, h5, h6, h7⟩
    rw [if_pos h1, h3]
    dsimp only
    rw [if_pos (by simp [h2, h4, h5, h6, h7])]

theorem jump_not_land {a : Nat} (h : jumpB a = true) : landB a = false := by
  unfold jumpB at h; unfold landB
  simp only [Bool.or_eq_true, decide_eq_true_eq] at h
  simp only [Bool.or_eq_false_iff, decide_eq_false_iff_not]
  omega
theorem pair_symm {i t : Int} {a b : Nat} (hne : a = b → i ≠ t → True) (hit : i = t → a = b) (h : pairB i t a b = true) : pairB t i b a = true := by
  unfold pairB at h ⊢
  by_cases h1 : jumpB a = true
  · rw [if_pos h1] at h
    have h2 : ¬ jumpB b = true := fun hj => by rw [jump_not_land hj] at h; cases h
    rw [if_neg h2, if_pos h]; exact h1
  rw [if_neg h1] at h
  by_cases h2 : landB a = true
  · rw [if_pos h2] at h
    rw [if_pos h]; exact h2
  rw [if_neg h2] at h
  by_cases h3 : i < t
  · rw [if_pos h3] at h
    simp only [Bool.and_eq_true, decide_eq_true_eq] at h
    obtain ⟨rfl, rfl⟩ := h
    rw [if_neg (by decide), if_neg (by decide), if_neg (by omega)]
    rfl
  · rw [if_neg h3] at h
    simp only [Bool.and_eq_true, decide_eq_true_eq] at h
    obtain ⟨rfl, rfl⟩ := h
    rw [if_neg (by decide), if_neg (by decide), if_pos (by
      rcases Int.lt_or_eq_of_le (Int.not_lt.1 h3) with h | h
      · exact h
      · exact absurd (hit h.symm) (by decide))]
    rfl
theorem partner_symm {C : List Ins} {i t : Int} (h : partner C i = some t) : partner C t = some i := by
  obtain ⟨h1, h2, h3, h4, h5, h6, h7⟩ := partner_iff.1 h
  exact partner_iff.2 ⟨h2, h1, h4, h3, h6, h5, pair_symm (fun _ _ => trivial) (fun e => by rw [e]) h7⟩

theorem here_behind {m : Mach} (hd : m.dir = 1 ∨ m.dir = -1) (k : Int) (m' : Mach) (h1 : m'.pc = behind k m.dir) (h2 : m'.dir = -m.dir) : here m' = k := by
  unfold here
  rw [h1, h2]
  unfold behind
  rcases hd with h | h <;> rw [h] <;> simp
theorem behind_here {m : Mach} (hd : m.dir = 1 ∨ m.dir = -1) : behind (here m) (-m.dir) = m.pc := by
  unfold here behind
  rcases hd with h | h <;> rw [h] <;> simp
theorem behind_in {C : List Ins} {k : Int} (h : inR C k = true) (d : Int) : 0 ≤ behind k d ∧ behind k d ≤ C.length := by
  have := inR_iff.1 h
  unfold behind; split <;> omega

theorem exec_frame (m : Mach) (p d : Int) (i : Ins) : exec { m with pc := p, dir := d } i = ((exec m i).1, { (exec m i).2 with pc := p, dir := d }) := by
  have hx : ∀ r k, exchange { m with pc := p, dir := d } r k = ((exchange m r k).1, { (exchange m r k).2 with pc := p, dir := d }) := fun r k => by
    by_cases h : 0 ≤ k ∧ k < m.M.length
    · simp only [exchange, if_pos h, Mach.reg]
    · simp only [exchange, if_neg h]
  have hsh : ∀ x y, shift { m with pc := p, dir := d } x y = ((shift m x y).1, { (shift m x y).2 with pc := p, dir := d }) := fun x y => by
    by_cases h : 0 ≤ m.fp + x ∧ m.fp + x ≤ m.M.length ∧ 0 ≤ m.sb + y ∧ m.sb + y ≤ m.S.length
    · simp only [shift, if_pos h]
    · simp only [shift, if_neg h]
  have hst : stackP { m with pc := p, dir := d } i = ((stackP m i).1, { (stackP m i).2 with pc := p, dir := d }) := by
    have e1 : find { m with pc := p, dir := d } i.b = find m i.b := rfl
    have e2 : ∀ k, stk { m with pc := p, dir := d } k = stk m k := fun _ => rfl
    have e3 : Mach.reg { m with pc := p, dir := d } i.a = m.reg i.a := rfl
    unfold stackP
    simp only [e1, e2, e3]
    by_cases h1 : (m.S.length : Int) ≤ find m i.b
    · simp only [if_pos h1]
    simp only [if_neg h1]
    by_cases h2 : i.op = 15
    · simp only [if_pos h2]; rfl
    simp only [if_neg h2]
    by_cases h3 : i.op = 12
    · simp only [if_pos h3]
      by_cases h4 : find m i.b ≠ 0 ∧ 1000 ≤ (stk m (find m i.b)).length
      · simp only [if_pos h4]
      · simp only [if_neg h4]; rfl
    simp only [if_neg h3]
    by_cases h4 : (stk m (find m i.b)).length = 0
    · simp only [if_pos h4]
    simp only [if_neg h4]
    by_cases h5 : i.op = 14
    · simp only [if_pos h5]; rfl
    simp only [if_neg h5]
    by_cases h6 : m.reg i.a ≠ 0
    · simp only [if_pos h6]
    · simp only [if_neg h6]; rfl
  have hsw : swapP { m with pc := p, dir := d } i.a i.b = ((swapP m i.a i.b).1, { (swapP m i.a i.b).2 with pc := p, dir := d }) := by
    have e1 : ∀ k, find { m with pc := p, dir := d } k = find m k := fun _ => rfl
    have e2 : ∀ k, stk { m with pc := p, dir := d } k = stk m k := fun _ => rfl
    unfold swapP
    simp only [e1, e2]
    by_cases h1 : (m.S.length : Int) ≤ find m i.a
    · simp only [if_pos h1]
    simp only [if_neg h1]
    by_cases h2 : (m.S.length : Int) ≤ find m i.b
    · simp only [if_pos h2]
    simp only [if_neg h2]
    generalize ((find m i.a != 0 && decide (1000 < (stk m (find m i.b)).length)) || (find m i.b != 0 && decide (1000 < (stk m (find m i.a)).length))) = q
    cases q <;> rfl
  unfold exec
  split <;> try first | rfl | exact hx _ _ | exact hsh _ _ | exact hst | exact hsw
  · by_cases h : applyE i.d (m.reg i.c) ≠ 0
    · have h' : applyE i.d (Mach.reg { m with pc := p, dir := d } i.c) ≠ 0 := h
      simp only [calcP, if_pos h, if_pos h']; rfl
    · have h' : ¬ applyE i.d (Mach.reg { m with pc := p, dir := d } i.c) ≠ 0 := h
      simp only [calcP, if_neg h, if_neg h']; rfl
  · by_cases h : 0 ≤ m.reg i.b ∧ m.reg i.b < i.d
    · have h' : 0 ≤ Mach.reg { m with pc := p, dir := d } i.b ∧ Mach.reg { m with pc := p, dir := d } i.b < i.d := h
      simp only [idxP, if_pos h, if_pos h']; exact hx _ _
    · have h' : ¬ (0 ≤ Mach.reg { m with pc := p, dir := d } i.b ∧ Mach.reg { m with pc := p, dir := d } i.b < i.d) := h
      simp only [idxP, if_neg h, if_neg h']
  · have e3 : Mach.reg { m with pc := p, dir := d } i.a = m.reg i.a := rfl
    unfold readP
    simp only [e3]
    by_cases h1 : m.inp.length = 0
    · simp only [if_pos h1]
    simp only [if_neg h1]
    by_cases h2 : m.reg i.a ≠ 0
    · simp only [if_pos h2]
    · simp only [if_neg h2]; rfl
  · unfold unreadP
    by_cases h1 : 4096 ≤ m.inp.length
    · simp only [if_pos h1]
    · simp only [if_neg h1]; rfl
  · unfold writeP
    by_cases h1 : 4096 ≤ m.out.length
    · simp only [if_pos h1]
    · simp only [if_neg h1]; rfl
  · have e3 : Mach.reg { m with pc := p, dir := d } i.a = m.reg i.a := rfl
    unfold unwriteP
    simp only [e3]
    by_cases h1 : m.out.length = 0
    · simp only [if_pos h1]
    simp only [if_neg h1]
    by_cases h2 : m.reg i.a ≠ 0
    · simp only [if_pos h2]
    · simp only [if_neg h2]; rfl
  · have e3 : Mach.reg { m with pc := p, dir := d } i.a = m.reg i.a := rfl
    unfold zeroP
    simp only [e3]
    by_cases h2 : m.reg i.a ≠ 0
    · simp only [if_pos h2]
    · simp only [if_neg h2]

theorem exchange_fail {m m' : Mach} {r k e : Int} (h : exchange m r k = (e, m')) (he : e ≠ 0) : m' = m := by
  unfold exchange at h
  split at h
  · exact absurd (Prod.mk.inj h).1.symm he
  · exact (Prod.mk.inj h).2.symm
theorem pfail {m m' : Mach} {e x : Int} (h : (x, m) = (e, m')) : m' = m := (Prod.mk.inj h).2.symm
theorem pgood {α : Prop} {m m' : Mach} {e : Int} (h : ((0 : Int), m) = (e, m')) (he : e ≠ 0) : α := absurd (Prod.mk.inj h).1.symm he
theorem exec_fail {m m' : Mach} {i : Ins} {e : Int} (h : exec m i = (e, m')) (he : e ≠ 0) : m' = m := by
  unfold exec at h
  split at h <;> try exact pgood h he
  · unfold calcP at h; split at h
    · exact pfail h
    · exact pgood h he
  · exact exchange_fail h he
  · unfold idxP at h; split at h
    · exact exchange_fail h he
    · exact pfail h
  all_goals try (unfold stackP at h; dsimp only at h; (repeat' split at h) <;> first | exact pfail h | exact pgood h he)
  · unfold swapP at h; dsimp only at h; (repeat' split at h) <;> first | exact pfail h | exact pgood h he
  · unfold readP at h; (repeat' split at h) <;> first | exact pfail h | exact pgood h he
  · unfold unreadP at h; (repeat' split at h) <;> first | exact pfail h | exact pgood h he
  · unfold writeP at h; (repeat' split at h) <;> first | exact pfail h | exact pgood h he
  · unfold unwriteP at h; (repeat' split at h) <;> first | exact pfail h | exact pgood h he
  · unfold zeroP at h; (repeat' split at h) <;> first | exact pfail h | exact pgood h he
  · unfold shift at h; (repeat' split at h) <;> first | exact pfail h | exact pgood h he
  · unfold shift at h; (repeat' split at h) <;> first | exact pfail h | exact pgood h he

theorem step_fail {im : Im} {m m' : Mach} {e : Int} (h : stepP im m = (e, m')) (he : e ≠ 0) : m' = m := by
  unfold stepP at h
  dsimp only at h
  split at h
  · exact pfail h
  split at h
  · exact pfail h
  split at h
  · unfold enterP at h
    dsimp only at h
    split at h
    · exact pfail h
    · split at h
      · exact pfail h
      · exact pgood h he
  split at h
  · unfold leaveP at h
    dsimp only at h
    split at h
    · exact pfail h
    · split at h
      · exact pgood h he
      · exact pfail h
  split at h
  · unfold jumpP at h
    split at h
    · exact pfail h
    · split at h
      · exact pgood h he
      · split at h
        · exact pgood h he
        · exact pfail h
  · split at h
    · exact pgood h he
    · exact exec_fail h he

theorem turn_turn (m : Mach) : turn (turn m) = m := by unfold turn; simp
theorem turn_dir {m : Mach} (hd : m.dir = 1 ∨ m.dir = -1) : (turn m).dir = 1 ∨ (turn m).dir = -1 := by
  show -m.dir = 1 ∨ -m.dir = -1
  rcases hd with h | h <;> rw [h] <;> simp
theorem turn_fit {im : Im} {m : Mach} (h : Fit im m) : Fit im (turn m) := ⟨turn_dir h.dir, h.pc0, h.pc1, h.mem, h.stk, h.one, h.row, h.site, h.calls, h.inp, h.out, h.fp0, h.fp1, h.sb0, h.sb1⟩
theorem turn_big {m : Mach} (h : m.Big) : (turn m).Big := h
theorem pc_fit {im : Im} {m : Mach} (h : Fit im m) {p d : Int} (h0 : 0 ≤ p) (h1 : p ≤ im.code.length) (hd : d = 1 ∨ d = -1) : Fit im { m with pc := p, dir := d } :=
  ⟨hd, h0, h1, h.mem, h.stk, h.one, h.row, h.site, h.calls, h.inp, h.out, h.fp0, h.fp1, h.sb0, h.sb1⟩

/-- the step's fate, and its way back -/
def Undone (im : Im) (m m' : Mach) : Prop := Fit im m' ∧ m'.Big ∧ stepP im (turn m') = (0, turn m)

theorem step_of {im : Im} {m : Mach} {k : Int} (hk : here m = k) (hr : inR im.code k = true) (h34 : (cAt im.code k).op ≠ 34) :
    stepP im m = if (cAt im.code k).op = 30 ∨ (cAt im.code k).op = 31 then enterP im m k else if (cAt im.code k).op = 32 ∨ (cAt im.code k).op = 33 then leaveP im m k else
      if jumpB (cAt im.code k).op || landB (cAt im.code k).op then jumpP im m k else
        if (exec m (wayI m.dir (cAt im.code k))).1 = 0 then (0, { (exec m (wayI m.dir (cAt im.code k))).2 with pc := (exec m (wayI m.dir (cAt im.code k))).2.pc + (exec m (wayI m.dir (cAt im.code k))).2.dir }) else exec m (wayI m.dir (cAt im.code k)) := by
  unfold stepP
  rw [hk]
  dsimp only
  rw [if_neg (by rw [hr]; decide), if_neg h34]

theorem jump_back {im : Im} {m m' : Mach} {k : Int} (hk : here m = k) (hr : inR im.code k = true) (hop : (jumpB (cAt im.code k).op || landB (cAt im.code k).op) = true) (hf : Fit im m) (hb : m.Big) (h : jumpP im m k = (0, m')) : Undone im m m' := by
  unfold jumpP at h
  cases hp : partner im.code k with
  | none => rw [hp] at h; cases h
  | some t =>
    rw [hp] at h
    dsimp only at h
    have hpi := partner_iff.1 hp
    have hopn : ∀ op, (jumpB op || landB op) = true → ¬ (op = 30 ∨ op = 31) ∧ ¬ (op = 32 ∨ op = 33) ∧ op ≠ 34 := fun op ho => by
      unfold jumpB landB at ho
      simp only [Bool.or_eq_true, decide_eq_true_eq] at ho
      omega
    obtain ⟨n1, n2, n3⟩ := hopn _ hop
    by_cases h1 : holds m (cAt im.code k) = false
    · rw [if_pos h1] at h
      obtain rfl := (Prod.mk.inj h).2
      have hbi := behind_in hr m.dir
      refine ⟨pc_fit hf hbi.1 hbi.2 hf.dir, hb, ?_⟩
      rw [step_of (here_behind hf.dir k _ rfl rfl) hr n3, if_neg n1, if_neg n2, if_pos hop]
      unfold jumpP
      rw [hp]
      dsimp only
      rw [if_pos (by exact h1)]
      show ((0 : Int), ({ turn m with pc := behind k (-m.dir) } : Mach)) = _
      rw [← hk, behind_here hf.dir]
      rfl
    · rw [if_neg h1] at h
      by_cases h2 : (jumpB (cAt im.code k).op == decide (0 < m.dir)) && holds m (cAt im.code t)
      · rw [if_pos h2] at h
        obtain rfl := (Prod.mk.inj h).2
        rw [Bool.and_eq_true] at h2
        have ht := hpi.2.1
        have hbi := behind_in ht m.dir
        have hpo := hpi.2.2.2.2.2.2
        have hjl : (jumpB (cAt im.code t).op || landB (cAt im.code t).op) = true ∧ jumpB (cAt im.code t).op = !jumpB (cAt im.code k).op := by
          unfold pairB at hpo
          by_cases hj : jumpB (cAt im.code k).op = true
          · rw [if_pos hj] at hpo
            refine ⟨by rw [hpo]; simp, ?_⟩
            rw [hj]
            cases hq : jumpB (cAt im.code t).op with
            | true => rw [jump_not_land hq] at hpo; cases hpo
            | false => rfl
          · rw [if_neg hj] at hpo
            have hl : landB (cAt im.code k).op = true := by
              rcases (by simpa using hop : jumpB (cAt im.code k).op = true ∨ landB (cAt im.code k).op = true) with h | h
              · exact absurd h hj
              · exact h
            rw [if_pos hl] at hpo
            refine ⟨by rw [hpo]; rfl, ?_⟩
            rw [hpo]
            cases hq : jumpB (cAt im.code k).op with
            | true => exact absurd hq hj
            | false => rfl
        obtain ⟨t1, t2, t3⟩ := hopn _ hjl.1
        refine ⟨pc_fit hf hbi.1 hbi.2 hf.dir, hb, ?_⟩
        rw [step_of (here_behind hf.dir t _ rfl rfl) ht t3, if_neg t1, if_neg t2, if_pos hjl.1]
        unfold jumpP
        rw [partner_symm hp]
        dsimp only
        have e1 : holds (turn { m with pc := behind t m.dir }) (cAt im.code t) = true := h2.2
        have e2 : holds (turn { m with pc := behind t m.dir }) (cAt im.code k) = true := by
          cases hq : holds m (cAt im.code k) with
          | true => exact hq
          | false => exact absurd hq h1
        have e3 : (jumpB (cAt im.code t).op == decide (0 < (turn { m with pc := behind t m.dir }).dir)) = true := by
          rw [hjl.2]
          have h3 := h2.1
          show (_ == decide (0 < -m.dir)) = true
          rcases hf.dir with hd | hd <;> rw [hd] at h3 ⊢ <;> revert h3 <;> cases jumpB (cAt im.code k).op <;> decide
        rw [e1, e2, e3, if_neg (by decide), if_pos (by decide)]
        show ((0 : Int), ({ turn m with pc := behind k (-m.dir) } : Mach)) = _
        rw [← hk, behind_here hf.dir]
        rfl
      · rw [if_neg h2] at h; cases h

theorem opers_of {i : Ins} (h : validI i = true) (ho : i.op = 30 ∨ i.op = 31) : i = ⟨i.op, i.a, 0, 0, 0⟩ := by
  unfold validI at h
  simp only [Bool.and_eq_true] at h
  have hb := h.1.2
  obtain ⟨op, a, b, c, d⟩ := i
  rcases ho with rfl | rfl
  · have hb : idleB 1 ⟨30, a, b, c, d⟩ = true := hb
    simp [idleB] at hb
    obtain ⟨⟨rfl, rfl⟩, rfl⟩ := hb
    rfl
  · have hb : idleB 1 ⟨31, a, b, c, d⟩ = true := hb
    simp [idleB] at hb
    obtain ⟨⟨rfl, rfl⟩, rfl⟩ := hb
    rfl

theorem getD_snoc (l : List (Int × Bool)) (x : Int × Bool) : (l ++ [x]).getD ((l ++ [x]).length - 1) (0, false) = x := by
  rw [List.getD_eq_getElem?_getD, List.length_append, List.getElem?_append_right (by simp)]
  simp
theorem snoc_getD {l : List (Int × Bool)} (h : l.length ≠ 0) : l.take (l.length - 1) ++ [l.getD (l.length - 1) (0, false)] = l := by
  have hl : l.length - 1 < l.length := by omega
  rw [List.getD_eq_getElem?_getD, List.getElem?_eq_getElem hl]
  have := List.take_succ_eq_append_getElem hl
  rw [show l.length - 1 + 1 = l.length by omega, List.take_length] at this
  exact this.symm

theorem dirOf_dir {m : Int} (h : m = 1 ∨ m = -1) (t : Bool) : dirOf t m = 1 ∨ dirOf t m = -1 := by
  unfold dirOf
  cases t <;> rcases h with h | h <;> rw [h] <;> simp

theorem enter_back {im : Im} {m m' : Mach} {k : Int} (hg : Good im.code) (hk : here m = k) (hr : inR im.code k = true) (hop : (cAt im.code k).op = 30 ∨ (cAt im.code k).op = 31) (hf : Fit im m) (hb : m.Big) (h : enterP im m k = (0, m')) : Undone im m m' := by
  unfold enterP at h
  obtain ⟨h32, e, hp⟩ := hg.calls k hr hop
  rw [hp] at h
  dsimp only at h
  have hpi := partner_iff.1 hp
  by_cases hc : 100 ≤ m.calls.length
  · rw [if_pos hc] at h; cases h
  rw [if_neg hc] at h
  have hinst := opers_of (hg.valid k hr) hop
  obtain ⟨s, hs⟩ : ∃ s, (cAt im.code k).a = s := ⟨_, rfl⟩
  obtain ⟨tn, htn⟩ : ∃ tn, decide ((cAt im.code k).op = 31) = tn := ⟨_, rfl⟩
  rw [hs] at h hp hpi h32 hinst
  rw [htn] at h
  have hci : cAt im.code k = ⟨opOf tn, s, 0, 0, 0⟩ := by
    rw [hinst, ← htn]
    rcases hop with h | h <;> rw [h] <;> rfl
  obtain ⟨d, hd⟩ : ∃ d, dirOf tn m.dir = d := ⟨_, rfl⟩
  rw [hd] at h
  have hd1 : d = 1 ∨ d = -1 := by rw [← hd]; exact dirOf_dir hf.dir _
  obtain rfl := (Prod.mk.inj h).2
  have hse := inR_iff.1 hpi.1
  have hee := inR_iff.1 hpi.2.1
  have h33 : (cAt im.code e).op = 33 := by
    have := hpi.2.2.2.2.2.2
    rw [h32] at this
    unfold pairB at this
    rw [if_neg (by decide), if_neg (by decide)] at this
    split at this <;> simp at this
    exact this
  refine ⟨⟨hd1, ?_, ?_, hf.mem, hf.stk, hf.one, hf.row, ?_, ?_, hf.inp, hf.out, hf.fp0, hf.fp1, hf.sb0, hf.sb1⟩, hb, ?_⟩
  · show 0 ≤ goOf d s e
    unfold goOf
    split <;> omega
  · show goOf d s e ≤ im.code.length
    unfold goOf
    split <;> omega
  · intro a ha
    rcases List.mem_append.1 ha with h | h
    · exact hf.site a h
    · rw [List.mem_singleton.1 h]; exact hr
  · show (m.calls ++ [(k, tn)]).length ≤ 100
    rw [List.length_append, List.length_singleton]; omega
  · obtain ⟨x, hx⟩ : ∃ x, (if 0 < d then s else e) = x := ⟨_, rfl⟩
    have hh : here (turn { m with pc := goOf d s e, dir := d, calls := m.calls ++ [(k, tn)] }) = x := by
      unfold here turn goOf
      dsimp only
      rw [← hx]
      rcases hd1 with h | h <;> rw [h] <;> simp
    have hxr : inR im.code x = true := by rw [← hx]; split <;> first | exact hpi.1 | exact hpi.2.1
    have hxo : (cAt im.code x).op = if 0 < d then 32 else 33 := by rw [← hx]; split <;> first | exact h32 | exact h33
    have hstart : startOf (cAt im.code x) x = s := by
      unfold startOf
      rw [hxo, ← hx]
      split
      · rename_i h0
        rw [if_neg (by decide)]
      · rename_i h0
        rw [if_pos rfl]
        have := hpi.2.2.2.1
        unfold targ at this
        rw [h33] at this
        have : some (cAt im.code e).a = some s := this
        injection this
    rw [step_of hh hxr (by rw [hxo]; split <;> decide), if_neg (by rw [hxo]; split <;> decide), if_pos (by rw [hxo]; split <;> decide)]
    unfold leaveP
    simp only [hstart]
    have hcond : ((decide ((cAt im.code x).op = 33) != decide (0 < (turn { m with pc := goOf d s e, dir := d, calls := m.calls ++ [(k, tn)] }).dir)) || (m.calls ++ [(k, tn)]).length == 0) = false := by
      rw [hxo]
      show ((_ != decide (0 < -d)) || _) = false
      rcases hd1 with h | h <;> rw [h] <;> simp
    have hlast : (turn { m with pc := goOf d s e, dir := d, calls := m.calls ++ [(k, tn)] }).calls = m.calls ++ [(k, tn)] := rfl
    simp only [hlast, getD_snoc]
    rw [if_neg (by rw [hcond]; decide), if_pos hci]
    have hdd : dirOf tn (turn { m with pc := goOf d s e, dir := d, calls := m.calls ++ [(k, tn)] }).dir = -m.dir := by
      show dirOf tn (-d) = -m.dir
      rw [← hd]
      unfold dirOf
      split <;> simp
    rw [hdd]
    have ht : (m.calls ++ [(k, tn)]).take ((m.calls ++ [(k, tn)]).length - 1) = m.calls := by simp
    rw [ht, ← hk, behind_here hf.dir]
    rfl

theorem leave_back {im : Im} {m m' : Mach} {k : Int} (hg : Good im.code) (hk : here m = k) (hr : inR im.code k = true) (hop : (cAt im.code k).op = 32 ∨ (cAt im.code k).op = 33) (hf : Fit im m) (hb : m.Big) (h : leaveP im m k = (0, m')) : Undone im m m' := by
  unfold leaveP at h
  dsimp only at h
  split at h
  · cases h
  rename_i h1
  simp only [Bool.or_eq_true, not_or, bne_iff_ne, Decidable.not_not, beq_iff_eq] at h1
  obtain ⟨hod, hl⟩ := h1
  obtain ⟨t, hp⟩ := hg.pairs k hr (.inr hop)
  have hpi := partner_iff.1 hp
  obtain ⟨s, hs⟩ : ∃ s, startOf (cAt im.code k) k = s := ⟨_, rfl⟩
  obtain ⟨e, he⟩ : ∃ e, (if (cAt im.code k).op = 33 then k else t) = e := ⟨_, rfl⟩
  have hpse : partner im.code s = some e := by
    rw [← hs, ← he]
    unfold startOf
    by_cases h33 : (cAt im.code k).op = 33
    · rw [if_pos h33, if_pos h33]
      have := hpi.2.2.1
      unfold targ at this
      rw [h33] at this
      have : some (cAt im.code k).a = some t := this
      injection this with this
      rw [this]
      exact partner_symm hp
    · rw [if_neg h33, if_neg h33]; exact hp
  rw [hs] at h
  obtain ⟨a, ha⟩ : ∃ a, m.calls.getD (m.calls.length - 1) (0, false) = a := ⟨_, rfl⟩
  rw [ha] at h
  have hsn := snoc_getD hl
  rw [ha] at hsn
  split at h
  · rename_i hc
    obtain ⟨d, hd⟩ : ∃ d, dirOf a.2 m.dir = d := ⟨_, rfl⟩
    rw [hd] at h
    have hd1 : d = 1 ∨ d = -1 := by rw [← hd]; exact dirOf_dir hf.dir _
    obtain rfl := (Prod.mk.inj h).2
    have hain : inR im.code a.1 = true := hf.site a (by rw [← hsn]; simp)
    have hbi := behind_in hain d
    refine ⟨⟨hd1, hbi.1, hbi.2, hf.mem, hf.stk, hf.one, hf.row, fun y hy => hf.site y (List.mem_of_mem_take hy), ?_, hf.inp, hf.out, hf.fp0, hf.fp1, hf.sb0, hf.sb1⟩, hb, ?_⟩
    · show (m.calls.take (m.calls.length - 1)).length ≤ 100
      rw [List.length_take]; have := hf.calls; omega
    have hca : (cAt im.code a.1).a = s := by rw [hc]
    have hco : (cAt im.code a.1).op = if a.2 = true then 31 else 30 := by rw [hc]; rfl
    rw [step_of (k := a.1) (here_behind (m := { m with dir := d }) hd1 a.1 _ rfl rfl) hain (by rw [hco]; split <;> decide), if_pos (by rw [hco]; split <;> decide)]
    unfold enterP
    rw [hca, hpse]
    dsimp only
    have hlen : (turn { m with pc := behind a.1 d, dir := d, calls := m.calls.take (m.calls.length - 1) }).calls.length = m.calls.length - 1 := by
      show (m.calls.take (m.calls.length - 1)).length = _
      rw [List.length_take]; omega
    rw [if_neg (by rw [hlen]; have := hf.calls; omega), hco]
    have e1 : decide ((if a.2 = true then 31 else 30) = 31) = a.2 := by cases a.2 <;> rfl
    rw [e1]
    have hdd : dirOf a.2 (turn { m with pc := behind a.1 d, dir := d, calls := m.calls.take (m.calls.length - 1) }).dir = -m.dir := by
      show dirOf a.2 (-d) = -m.dir
      rw [← hd]
      unfold dirOf
      split <;> simp
    rw [hdd]
    have hcl : (turn { m with pc := behind a.1 d, dir := d, calls := m.calls.take (m.calls.length - 1) }).calls ++ [(a.1, a.2)] = m.calls := hsn
    rw [hcl]
    have hpc : goOf (-m.dir) s e = m.pc := by
      have hk' := hk
      unfold here at hk'
      rw [← hs, ← he]
      unfold goOf startOf
      rcases hf.dir with h | h <;> rw [h] at hod hk' ⊢ <;> simp at hod hk' ⊢
      · rw [if_pos hod]; exact hk'.symm
      · rw [if_neg hod]; omega
    rw [hpc]
    rfl
  · cases h

theorem plain_of {op : Nat} (h : op < 35) (h0 : op ≠ 34) (h1 : ¬ (op = 30 ∨ op = 31)) (h2 : ¬ (op = 32 ∨ op = 33)) (h3 : ¬ (jumpB op || landB op) = true) : plainO op := by
  unfold jumpB landB at h3
  simp only [Bool.or_eq_true, decide_eq_true_eq] at h3
  unfold plainO
  omega
theorem inv_inv (op : Nat) (h : op < 35) : invO (invO op) = op := by
  have : op = 0 ∨ op = 1 ∨ op = 2 ∨ op = 3 ∨ op = 4 ∨ op = 5 ∨ op = 6 ∨ op = 7 ∨ op = 8 ∨ op = 9 ∨ op = 10 ∨ op = 11 ∨ op = 12 ∨ op = 13 ∨ op = 14 ∨ op = 15 ∨ op = 16 ∨ op = 17 ∨ op = 18 ∨ op = 19 ∨ op = 20 ∨ op = 21 ∨ op = 22 ∨ op = 23 ∨ op = 24 ∨ op = 25 ∨ op = 26 ∨ op = 27 ∨ op = 28 ∨ op = 29 ∨ op = 30 ∨ op = 31 ∨ op = 32 ∨ op = 33 ∨ op = 34 := by omega
  rcases this with rfl | rfl | rfl | rfl | rfl | rfl | rfl | rfl | rfl | rfl | rfl | rfl | rfl | rfl | rfl | rfl | rfl | rfl | rfl | rfl | rfl | rfl | rfl | rfl | rfl | rfl | rfl | rfl | rfl | rfl | rfl | rfl | rfl | rfl | rfl <;> rfl
theorem invI_invI {i : Ins} (h : i.op < 35) : invI (invI i) = i := by
  unfold invI
  simp only [inv_inv _ h]
theorem plain_ops (P : Nat → Prop) {op : Nat} (h : plainO op) (h0 : P 0) (h1 : P 1) (h2 : P 2) (h3 : P 3) (h4 : P 4) (h5 : P 5) (h6 : P 6) (h7 : P 7) (h8 : P 8) (h9 : P 9) (h10 : P 10) (h11 : P 11) (h12 : P 12) (h13 : P 13) (h14 : P 14) (h15 : P 15) (h16 : P 16) (h17 : P 17) (h18 : P 18) (h19 : P 19) (h20 : P 20) (h21 : P 21) (h28 : P 28) (h29 : P 29) : P op := by
  unfold plainO at h
  have : op = 0 ∨ op = 1 ∨ op = 2 ∨ op = 3 ∨ op = 4 ∨ op = 5 ∨ op = 6 ∨ op = 7 ∨ op = 8 ∨ op = 9 ∨ op = 10 ∨ op = 11 ∨ op = 12 ∨ op = 13 ∨ op = 14 ∨ op = 15 ∨ op = 16 ∨ op = 17 ∨ op = 18 ∨ op = 19 ∨ op = 20 ∨ op = 21 ∨ op = 28 ∨ op = 29 := by omega
  rcases this with rfl | rfl | rfl | rfl | rfl | rfl | rfl | rfl | rfl | rfl | rfl | rfl | rfl | rfl | rfl | rfl | rfl | rfl | rfl | rfl | rfl | rfl | rfl | rfl <;> assumption
theorem plain_inv {op : Nat} (h : plainO op) : plainO (invO op) := by
  refine plain_ops (fun op => plainO (invO op)) h ?_ ?_ ?_ ?_ ?_ ?_ ?_ ?_ ?_ ?_ ?_ ?_ ?_ ?_ ?_ ?_ ?_ ?_ ?_ ?_ ?_ ?_ ?_ ?_ <;> simp [plainO, invO]
theorem ops_all (P : Nat → Prop) {op : Nat} (h : op < 35) (hp : ∀ o, plainO o → P o) (h22 : P 22) (h23 : P 23) (h24 : P 24) (h25 : P 25) (h26 : P 26) (h27 : P 27) (h30 : P 30) (h31 : P 31) (h32 : P 32) (h33 : P 33) (h34 : P 34) : P op := by
  by_cases h' : plainO op
  · exact hp op h'
  · unfold plainO at h'
    have : op = 22 ∨ op = 23 ∨ op = 24 ∨ op = 25 ∨ op = 26 ∨ op = 27 ∨ op = 30 ∨ op = 31 ∨ op = 32 ∨ op = 33 ∨ op = 34 := by omega
    rcases this with rfl | rfl | rfl | rfl | rfl | rfl | rfl | rfl | rfl | rfl | rfl <;> assumption
theorem valid_inv {i : Ins} (h : validI i = true) : validI (invI i) = true := by
  obtain ⟨op, a, b, c, d⟩ := i
  have ho := valid_op h
  refine ops_all (fun op => validI ⟨op, a, b, c, d⟩ = true → validI (invI ⟨op, a, b, c, d⟩) = true) ho (fun o hp => ?_) ?_ ?_ ?_ ?_ ?_ ?_ ?_ ?_ ?_ ?_ ?_ h
  · refine plain_ops (fun op => validI ⟨op, a, b, c, d⟩ = true → validI (invI ⟨op, a, b, c, d⟩) = true) hp ?_ ?_ ?_ ?_ ?_ ?_ ?_ ?_ ?_ ?_ ?_ ?_ ?_ ?_ ?_ ?_ ?_ ?_ ?_ ?_ ?_ ?_ ?_ ?_ <;> exact fun h => h
  all_goals exact fun h => h

theorem step_back {im : Im} {m m' : Mach} (hg : Good im.code) (hf : Fit im m) (hb : m.Big) (h : stepP im m = (0, m')) : Undone im m m' := by
  obtain ⟨k, hk⟩ : ∃ k, here m = k := ⟨_, rfl⟩
  by_cases hr : inR im.code k = true
  · by_cases h34 : (cAt im.code k).op = 34
    · unfold stepP at h
      rw [hk] at h
      dsimp only at h
      rw [if_neg (by rw [hr]; decide), if_pos h34] at h
      cases h
    rw [step_of hk hr h34] at h
    by_cases h1 : (cAt im.code k).op = 30 ∨ (cAt im.code k).op = 31
    · rw [if_pos h1] at h
      exact enter_back hg hk hr h1 hf hb h
    rw [if_neg h1] at h
    by_cases h2 : (cAt im.code k).op = 32 ∨ (cAt im.code k).op = 33
    · rw [if_pos h2] at h
      exact leave_back hg hk hr h2 hf hb h
    rw [if_neg h2] at h
    by_cases h3 : (jumpB (cAt im.code k).op || landB (cAt im.code k).op) = true
    · rw [if_pos h3] at h
      exact jump_back hk hr h3 hf hb h
    rw [if_neg h3] at h
    have hv := hg.valid k hr
    have hpl := plain_of (valid_op hv) h34 h1 h2 h3
    obtain ⟨i, hi⟩ : ∃ i, wayI m.dir (cAt im.code k) = i := ⟨_, rfl⟩
    rw [hi] at h
    have hvi : validI i = true := by rw [← hi]; unfold wayI; split <;> first | exact valid_inv hv | exact hv
    have hpi : plainO i.op := by rw [← hi]; unfold wayI; split <;> first | exact plain_inv hpl | exact hpl
    have hii : wayI (turn m).dir (cAt im.code k) = invI i := by
      rw [← hi]
      show wayI (-m.dir) _ = _
      unfold wayI
      rcases hf.dir with h | h <;> rw [h] <;> simp
      rw [invI_invI (valid_op hv)]
    by_cases h4 : (exec m i).1 = 0
    · rw [if_pos h4] at h
      have hx : exec m i = (0, (exec m i).2) := by rw [← h4]
      have hbk := exec_back hvi hpi hf hb hx
      obtain rfl := (Prod.mk.inj h).2
      generalize (exec m i).2 = n at *
      have hin := inR_iff.1 hr
      have hpcd : 0 ≤ n.pc + n.dir ∧ n.pc + n.dir ≤ im.code.length := by
        rw [hbk.pc, hbk.dir]
        unfold here at hk
        rcases hf.dir with h | h <;> rw [h] at hk ⊢ <;> simp at hk <;> omega
      refine ⟨pc_fit hbk.fit hpcd.1 hpcd.2 hbk.fit.dir, hbk.big, ?_⟩
      have hh : here (turn { n with pc := n.pc + n.dir }) = k := by
        unfold here turn at *
        dsimp only at *
        rw [hbk.pc, hbk.dir]
        rcases hf.dir with h | h <;> rw [h] at hk ⊢ <;> simp at hk ⊢ <;> omega
      rw [step_of hh hr h34, if_neg h1, if_neg h2, if_neg h3]
      have e1 : (turn { n with pc := n.pc + n.dir }).dir = (turn m).dir := by show -n.dir = -m.dir; rw [hbk.dir]
      rw [e1, hii]
      have e2 : exec (turn { n with pc := n.pc + n.dir }) (invI i) = ((exec n (invI i)).1, { (exec n (invI i)).2 with pc := n.pc + n.dir, dir := -n.dir }) := exec_frame n (n.pc + n.dir) (-n.dir) (invI i)
      rw [e2, hbk.back]
      dsimp only
      rw [if_pos rfl]
      have e3 : n.pc + n.dir + -n.dir = m.pc := by rw [hbk.pc]; omega
      rw [e3, hbk.dir]
      rfl
    · rw [if_neg h4] at h
      rw [h] at h4
      exact absurd rfl h4
  · unfold stepP at h
    rw [hk] at h
    dsimp only at h
    rw [if_pos (by simpa using hr)] at h
    cases h

end Go.Proofs.YtichiccohmeecaaDoor
