/- A mirrored machine on the inverse image executes the corresponding step. -/
import Derived.Test.YtichiccohmeecaaDoorWhP7
namespace Go.Proofs.YtichiccohmeecaaDoor
open Go.RowKit

def mirC (n : Int) (a : Int × Bool) : Int × Bool := (n - 1 - a.1, a.2)
def mir (n : Int) (m : Mach) : Mach := { m with pc := n - m.pc, dir := -m.dir, calls := m.calls.map (mirC n) }

theorem inR_nI {C : List Ins} {k : Int} : inR C (nI C k) = inR C k := by
  rw [Bool.eq_iff_iff, inR_iff, inR_iff]; unfold nI; omega
theorem mir_fit {im : Im} {m : Mach} (h : Fit im m) : Fit (invIm im) (mir im.code.length m) := by
  refine ⟨turn_dir h.dir, ?_, ?_, h.mem, h.stk, h.one, h.row, ?_, ?_, h.inp, h.out, h.fp0, h.fp1, h.sb0, h.sb1⟩
  · have := h.pc1; show 0 ≤ (im.code.length : Int) - m.pc; omega
  · have := h.pc0; show (im.code.length : Int) - m.pc ≤ ((invC im.code).length : Nat); rw [inv_len]; omega
  · intro a ha
    obtain ⟨b, hb, rfl⟩ := List.mem_map.1 ha
    show inR (invC im.code) _ = true
    rw [inv_in]
    have := h.site b hb
    exact (inR_nI (C := im.code) (k := b.1)).trans this
  · show (m.calls.map _).length ≤ 100
    rw [List.length_map]; exact h.calls
theorem mir_here {C : List Ins} {m : Mach} (hd : m.dir = 1 ∨ m.dir = -1) : here (mir C.length m) = nI C (here m) := by
  unfold here mir nI
  dsimp only
  rcases hd with h | h <;> rw [h] <;> simp <;> omega
theorem mir_behind {C : List Ins} {d : Int} (hd : d = 1 ∨ d = -1) (k : Int) : (C.length : Int) - behind k d = behind (nI C k) (-d) := by
  unfold behind nI
  rcases hd with h | h <;> rw [h] <;> simp <;> omega
theorem mir_holds (n : Int) (m : Mach) {i j : Ins} (ho : j.op = invO i.op) (hi : i.op < 35) (ha : i.op = 23 ∨ i.op = 24 ∨ i.op = 26 ∨ i.op = 27 → j.a = i.a) : holds (mir n m) j = holds m i := by
  have h1 : ∀ op, op < 35 → ((invO op = 23 ∨ invO op = 26) ↔ (op = 23 ∨ op = 26)) ∧ ((invO op = 24 ∨ invO op = 27) ↔ (op = 24 ∨ op = 27)) := fun op hop => by
    refine ops_all (fun op => ((invO op = 23 ∨ invO op = 26) ↔ (op = 23 ∨ op = 26)) ∧ ((invO op = 24 ∨ invO op = 27) ↔ (op = 24 ∨ op = 27))) hop (fun o hp => plain_ops (fun op => ((invO op = 23 ∨ invO op = 26) ↔ (op = 23 ∨ op = 26)) ∧ ((invO op = 24 ∨ invO op = 27) ↔ (op = 24 ∨ op = 27))) hp ?_ ?_ ?_ ?_ ?_ ?_ ?_ ?_ ?_ ?_ ?_ ?_ ?_ ?_ ?_ ?_ ?_ ?_ ?_ ?_ ?_ ?_ ?_ ?_) ?_ ?_ ?_ ?_ ?_ ?_ ?_ ?_ ?_ ?_ ?_ <;> decide
  obtain ⟨e1, e2⟩ := h1 _ hi
  unfold holds
  rw [ho]
  by_cases h1 : i.op = 23 ∨ i.op = 26
  · rw [if_pos (e1.2 h1), if_pos h1, ha (by omega)]; rfl
  rw [if_neg (fun h => h1 (e1.1 h)), if_neg h1]
  by_cases h2 : i.op = 24 ∨ i.op = 27
  · rw [if_pos (e2.2 h2), if_pos h2, ha (by omega)]; rfl
  rw [if_neg (fun h => h2 (e2.1 h)), if_neg h2]
theorem retarg_a {i : Ins} (t : Int) (h : inA i.op = false) : (retarg i t).a = i.a := by
  unfold retarg
  rw [h, if_neg (by decide)]
  split <;> rfl
theorem invAt_a {C : List Ins} {k : Int} (h : inA (cAt C k).op = false) : (invAt C k).a = (cAt C k).a := by
  unfold invAt
  split
  · rw [retarg_a _ (by rw [invI_op, inA_inv]; exact h)]; rfl
  · rfl
theorem hold_mir {C : List Ins} (hg : Good C) (n : Int) (m : Mach) {k : Int} (hk : inR C k = true) : holds (mir n m) (invAt C k) = holds m (cAt C k) :=
  mir_holds n m (invAt_op C k) (valid_op (hg.valid k hk)) (fun h => invAt_a (by unfold inA; rcases h with h | h | h | h <;> rw [h] <;> rfl))

theorem exec_mir (m : Mach) (n : Int) (i : Ins) : exec (mir n m) i = ((exec m i).1, { (exec m i).2 with pc := n - m.pc, dir := -m.dir, calls := m.calls.map (mirC n) }) := by
  have hx : ∀ r k, exchange (mir n m) r k = ((exchange m r k).1, { (exchange m r k).2 with pc := n - m.pc, dir := -m.dir, calls := m.calls.map (mirC n) }) := fun r k => by
    have e : exchange (mir n m) r k = if 0 ≤ k ∧ k < m.M.length then (0, { mir n m with R := upd m.R r.toNat (m.M.getD k.toNat 0), M := m.M.set k.toNat (m.reg r) }) else (12, mir n m) := rfl
    rw [e]
    by_cases h : 0 ≤ k ∧ k < m.M.length
    · simp only [exchange, if_pos h]; rfl
    · simp only [exchange, if_neg h]; rfl
  have hsh : ∀ x y, shift (mir n m) x y = ((shift m x y).1, { (shift m x y).2 with pc := n - m.pc, dir := -m.dir, calls := m.calls.map (mirC n) }) := fun x y => by
    have e : shift (mir n m) x y = if 0 ≤ m.fp + x ∧ m.fp + x ≤ m.M.length ∧ 0 ≤ m.sb + y ∧ m.sb + y ≤ m.S.length then (0, { mir n m with fp := m.fp + x, sb := m.sb + y }) else (12, mir n m) := rfl
    rw [e]
    by_cases h : 0 ≤ m.fp + x ∧ m.fp + x ≤ m.M.length ∧ 0 ≤ m.sb + y ∧ m.sb + y ≤ m.S.length
    · simp only [shift, if_pos h]; rfl
    · simp only [shift, if_neg h]; rfl
  have e1 : ∀ k, find (mir n m) k = find m k := fun _ => rfl
  have e2 : ∀ k, stk (mir n m) k = stk m k := fun _ => rfl
  have e3 : ∀ a, (mir n m).reg a = m.reg a := fun _ => rfl
  have e4 : (mir n m).S = m.S := rfl
  have e5 : (mir n m).inp = m.inp := rfl
  have e6 : (mir n m).out = m.out := rfl
  have hst : stackP (mir n m) i = ((stackP m i).1, { (stackP m i).2 with pc := n - m.pc, dir := -m.dir, calls := m.calls.map (mirC n) }) := by
    unfold stackP
    simp only [e1, e2, e3, e4]
    by_cases h1 : (m.S.length : Int) ≤ find m i.b
    · simp only [if_pos h1]; rfl
    simp only [if_neg h1]
    by_cases h2 : i.op = 15
    · simp only [if_pos h2]; rfl
    simp only [if_neg h2]
    by_cases h3 : i.op = 12
    · simp only [if_pos h3]
      by_cases h4 : find m i.b ≠ 0 ∧ 1000 ≤ (stk m (find m i.b)).length
      · simp only [if_pos h4]; rfl
      · simp only [if_neg h4]; rfl
    simp only [if_neg h3]
    by_cases h4 : (stk m (find m i.b)).length = 0
    · simp only [if_pos h4]; rfl
    simp only [if_neg h4]
    by_cases h5 : i.op = 14
    · simp only [if_pos h5]; rfl
    simp only [if_neg h5]
    by_cases h6 : m.reg i.a ≠ 0
    · simp only [if_pos h6]; rfl
    · simp only [if_neg h6]; rfl
  have hsw : swapP (mir n m) i.a i.b = ((swapP m i.a i.b).1, { (swapP m i.a i.b).2 with pc := n - m.pc, dir := -m.dir, calls := m.calls.map (mirC n) }) := by
    unfold swapP
    simp only [e1, e2, e4]
    by_cases h1 : (m.S.length : Int) ≤ find m i.a
    · simp only [if_pos h1]; rfl
    simp only [if_neg h1]
    by_cases h2 : (m.S.length : Int) ≤ find m i.b
    · simp only [if_pos h2]; rfl
    simp only [if_neg h2]
    generalize ((find m i.a != 0 && decide (1000 < (stk m (find m i.b)).length)) || (find m i.b != 0 && decide (1000 < (stk m (find m i.a)).length))) = q
    cases q <;> rfl
  unfold exec
  split <;> try first | rfl | exact hx _ _ | exact hsh _ _ | exact hst | exact hsw
  · unfold calcP
    simp only [e3]
    by_cases h : applyE i.d (m.reg i.c) ≠ 0
    · simp only [if_pos h]; rfl
    · simp only [if_neg h]; rfl
  · unfold idxP
    simp only [e3]
    by_cases h : 0 ≤ m.reg i.b ∧ m.reg i.b < i.d
    · simp only [if_pos h]; exact hx _ _
    · simp only [if_neg h]; rfl
  · unfold readP
    simp only [e3, e5]
    by_cases h1 : m.inp.length = 0
    · simp only [if_pos h1]; rfl
    simp only [if_neg h1]
    by_cases h2 : m.reg i.a ≠ 0
    · simp only [if_pos h2]; rfl
    · simp only [if_neg h2]; rfl
  · unfold unreadP
    simp only [e3, e5]
    by_cases h1 : 4096 ≤ m.inp.length
    · simp only [if_pos h1]; rfl
    · simp only [if_neg h1]; rfl
  · unfold writeP
    simp only [e3, e6]
    by_cases h1 : 4096 ≤ m.out.length
    · simp only [if_pos h1]; rfl
    · simp only [if_neg h1]; rfl
  · unfold unwriteP
    simp only [e3, e6]
    by_cases h1 : m.out.length = 0
    · simp only [if_pos h1]; rfl
    simp only [if_neg h1]
    by_cases h2 : m.reg i.a ≠ 0
    · simp only [if_pos h2]; rfl
    · simp only [if_neg h2]; rfl
  · unfold zeroP
    simp only [e3]
    by_cases h2 : m.reg i.a ≠ 0
    · simp only [if_pos h2]; rfl
    · simp only [if_neg h2]; rfl

/-- exec leaves place, direction and calls alone -/
theorem exec_keeps (m : Mach) (i : Ins) : (exec m i).2.pc = m.pc ∧ (exec m i).2.dir = m.dir ∧ (exec m i).2.calls = m.calls := by
  have h := exec_frame m m.pc m.dir i
  have e : ({ m with pc := m.pc, dir := m.dir } : Mach) = m := rfl
  rw [e] at h
  have h1 := congrArg (fun r => r.2.pc) h
  have h2 := congrArg (fun r => r.2.dir) h
  refine ⟨h1, h2, ?_⟩
  have hx : ∀ r k, (exchange m r k).2.calls = m.calls := fun r k => by unfold exchange; split <;> rfl
  have hsh : ∀ x y, (shift m x y).2.calls = m.calls := fun x y => by unfold shift; split <;> rfl
  unfold exec
  split <;> try first | rfl | exact hx _ _ | exact hsh _ _
  · unfold calcP; split <;> rfl
  · unfold idxP; split
    · exact hx _ _
    · rfl
  all_goals try (unfold stackP; dsimp only; (repeat' split) <;> rfl)
  · unfold swapP; dsimp only; (repeat' split) <;> rfl
  · unfold readP; (repeat' split) <;> rfl
  · unfold unreadP; (repeat' split) <;> rfl
  · unfold writeP; (repeat' split) <;> rfl
  · unfold unwriteP; (repeat' split) <;> rfl
  · unfold zeroP; (repeat' split) <;> rfl

theorem mir_jump {im : Im} {m : Mach} (hg : Good im.code) (hd : m.dir = 1 ∨ m.dir = -1) {k : Int} (hk : inR im.code k = true) (ho : (jumpB (cAt im.code k).op || landB (cAt im.code k).op) = true) :
    jumpP (invIm im) (mir im.code.length m) (nI im.code k) = ((jumpP im m k).1, mir im.code.length (jumpP im m k).2) := by
  obtain ⟨t, hp⟩ := hg.pairs k hk (.inl ho)
  have ht := (partner_iff.1 hp).2.1
  have hp' : partner (invIm im).code (nI im.code k) = some (nI im.code t) := inv_partner hg hp (not_call (.inl ho))
  have ek : cAt (invIm im).code (nI im.code k) = invAt im.code k := inv_at' hk
  have et : cAt (invIm im).code (nI im.code t) = invAt im.code t := inv_at' ht
  unfold jumpP
  rw [hp, hp']
  dsimp only
  rw [ek, et, hold_mir hg _ _ hk, hold_mir hg _ _ ht]
  by_cases h1 : holds m (cAt im.code k) = false
  · rw [if_pos h1, if_pos h1]
    dsimp only
    have : behind (nI im.code k) (mir im.code.length m).dir = (im.code.length : Int) - behind k m.dir := (mir_behind hd k).symm
    rw [this]
    rfl
  rw [if_neg h1, if_neg h1]
  have e : (jumpB (invAt im.code k).op == decide (0 < (mir im.code.length m).dir)) = (jumpB (cAt im.code k).op == decide (0 < m.dir)) := by
    rw [invAt_op, (jump_inv (valid_op (hg.valid k hk))).1]
    show (_ == decide (0 < -m.dir)) = _
    have hjl : landB (cAt im.code k).op = !jumpB (cAt im.code k).op := by
      cases hj : jumpB (cAt im.code k).op with
      | true => rw [jump_not_land hj]; rfl
      | false => rw [hj] at ho; simpa using ho
    rw [hjl]
    rcases hd with h | h <;> rw [h] <;> cases jumpB (cAt im.code k).op <;> rfl
  rw [e]
  by_cases h2 : ((jumpB (cAt im.code k).op == decide (0 < m.dir)) && holds m (cAt im.code t)) = true
  · rw [if_pos h2, if_pos h2]
    dsimp only
    have : behind (nI im.code t) (mir im.code.length m).dir = (im.code.length : Int) - behind t m.dir := (mir_behind hd t).symm
    rw [this]
    rfl
  · rw [if_neg h2, if_neg h2]

theorem inv_a_call {C : List Ins} (hg : Good C) {k e : Int} (hk : inR C k = true) (ho : (cAt C k).op = 30 ∨ (cAt C k).op = 31) (he : St C (cAt C k).a e) : (invAt C k).a = nI C e := by
  obtain ⟨e', h1, h2⟩ := st_of hg hk ho
  obtain rfl := h1.fn he
  have := invAt_targ (targ_call ho)
  rw [if_pos ho, h2] at this
  have hop := (jump_inv (valid_op (hg.valid k hk))).2.2.2.2
  rw [targ_call (by rw [invAt_op]; exact ho.imp hop.1.2 hop.2.1.2)] at this
  exact Option.some.inj this

theorem dirOf_neg (t : Bool) (d : Int) : dirOf t (-d) = -dirOf t d := by unfold dirOf; split <;> rfl
theorem mir_go {C : List Ins} {d s e : Int} (hd : d = 1 ∨ d = -1) : goOf (-d) (nI C e) (nI C s) = C.length - goOf d s e := by
  unfold goOf nI
  rcases hd with h | h <;> rw [h] <;> simp <;> omega

theorem mir_enter {im : Im} {m : Mach} (hg : Good im.code) (hd : m.dir = 1 ∨ m.dir = -1) {k : Int} (hk : inR im.code k = true) (ho : (cAt im.code k).op = 30 ∨ (cAt im.code k).op = 31) :
    enterP (invIm im) (mir im.code.length m) (nI im.code k) = ((enterP im m k).1, mir im.code.length (enterP im m k).2) := by
  obtain ⟨e, h1, h2⟩ := st_of hg hk ho
  have ek : cAt (invIm im).code (nI im.code k) = invAt im.code k := inv_at' hk
  have hop := (jump_inv (valid_op (hg.valid k hk))).2.2.2.2
  have hp' := (st_inv hg h1).1
  unfold enterP
  rw [ek, inv_a_call hg hk ho h1, h1.1]
  have hp'' : partner (invIm im).code (nI im.code e) = some (nI im.code (cAt im.code k).a) := hp'
  rw [hp'']
  dsimp only
  have hl : (mir im.code.length m).calls.length = m.calls.length := by show (m.calls.map _).length = _; rw [List.length_map]
  rw [hl]
  by_cases h3 : 100 ≤ m.calls.length
  · rw [if_pos h3, if_pos h3]
  rw [if_neg h3, if_neg h3]
  have et : decide ((invAt im.code k).op = 31) = decide ((cAt im.code k).op = 31) := by
    rw [invAt_op]
    exact decide_eq_decide.2 hop.2.1
  rw [et]
  dsimp only
  have ed : dirOf (decide ((cAt im.code k).op = 31)) (mir im.code.length m).dir = -dirOf (decide ((cAt im.code k).op = 31)) m.dir := dirOf_neg _ _
  rw [ed, mir_go (dirOf_dir hd _)]
  have ec : (mir im.code.length m).calls ++ [(nI im.code k, decide ((cAt im.code k).op = 31))] = (m.calls ++ [(k, decide ((cAt im.code k).op = 31))]).map (mirC im.code.length) := by
    rw [List.map_append]; rfl
  rw [ec]
  rfl

theorem mir_leave {im : Im} {m : Mach} (hg : Good im.code) (hf : Fit im m) {k : Int} (hk : inR im.code k = true) (ho : (cAt im.code k).op = 32 ∨ (cAt im.code k).op = 33) :
    leaveP (invIm im) (mir im.code.length m) (nI im.code k) = ((leaveP im m k).1, mir im.code.length (leaveP im m k).2) := by
  have hd := hf.dir
  obtain ⟨t, hp⟩ := hg.pairs k hk (.inr ho)
  have ht := (partner_iff.1 hp).2.1
  have ek : cAt (invIm im).code (nI im.code k) = invAt im.code k := inv_at' hk
  have hop := (jump_inv (valid_op (hg.valid k hk))).2.2
  have htg := (partner_iff.1 hp).2.2.1
  -- the procedure
  obtain ⟨s, e, hs, hse⟩ : ∃ s e, St im.code s e ∧ (((cAt im.code k).op = 33 ∧ k = e ∧ t = s) ∨ ((cAt im.code k).op = 32 ∧ k = s ∧ t = e)) := by
    rcases ho with h | h
    · exact ⟨k, t, ⟨hp, h⟩, .inr ⟨h, rfl, rfl⟩⟩
    · have hpo := (partner_iff.1 (partner_symm hp)).2.2.2.2.2.2
      refine ⟨t, k, ⟨partner_symm hp, ?_⟩, .inl ⟨h, rfl, rfl⟩⟩
      have h7 := (partner_iff.1 hp).2.2.2.2.2.2
      rw [h] at h7
      unfold pairB at h7
      rw [if_neg (by decide), if_neg (by decide)] at h7
      split at h7
      · simp at h7
      · simpa using h7
  have ha : (cAt im.code k).a = t := by
    unfold targ at htg
    rw [if_pos (by unfold inA; rcases ho with h | h <;> rw [h] <;> rfl)] at htg
    exact Option.some.inj htg
  have hst : startOf (cAt im.code k) k = s := by
    unfold startOf
    rcases hse with ⟨h1, h2, h3⟩ | ⟨h1, h2, h3⟩
    · rw [if_pos h1, ha, h3]
    · rw [if_neg (by omega), h2]
  have hst' : startOf (invAt im.code k) (nI im.code k) = nI im.code e := by
    unfold startOf
    rw [invAt_op]
    have ha' : (invAt im.code k).a = nI im.code t := by
      have := invAt_targ htg
      rw [if_neg (by omega)] at this
      unfold targ at this
      rw [if_pos (by unfold inA; rw [invAt_op]; rcases ho with h | h <;> rw [h] <;> rfl)] at this
      exact Option.some.inj this
    rcases hse with ⟨h1, h2, h3⟩ | ⟨h1, h2, h3⟩
    · rw [if_neg (by rw [h1]; decide), h2]
    · rw [if_pos (by rw [h1]; rfl), ha', h3]
  unfold leaveP
  rw [ek]
  dsimp only
  rw [hst, hst', invAt_op]
  have hl : (mir im.code.length m).calls.length = m.calls.length := by show (m.calls.map _).length = _; rw [List.length_map]
  rw [hl]
  have hc : ((decide (invO (cAt im.code k).op = 33) != decide (0 < (mir im.code.length m).dir)) || m.calls.length == 0) = ((decide ((cAt im.code k).op = 33) != decide (0 < m.dir)) || m.calls.length == 0) := by
    congr 1
    show (_ != decide (0 < -m.dir)) = _
    rcases ho with h | h <;> rw [h] <;> rcases hd with h' | h' <;> rw [h'] <;> rfl
  rw [hc]
  by_cases h1 : ((decide ((cAt im.code k).op = 33) != decide (0 < m.dir)) || m.calls.length == 0) = true
  · rw [if_pos h1, if_pos h1]
  rw [if_neg h1, if_neg h1]
  have hlen : m.calls.length ≠ 0 := by
    intro h; rw [h] at h1; simp at h1
  obtain ⟨a, hae⟩ : ∃ a, m.calls.getD (m.calls.length - 1) (0, false) = a := ⟨_, rfl⟩
  have hsn := snoc_getD hlen
  rw [hae] at hsn
  have hain : inR im.code a.1 = true := hf.site a (by rw [← hsn]; simp)
  have hae' : (mir im.code.length m).calls.getD (m.calls.length - 1) (0, false) = (nI im.code a.1, a.2) := by
    show (m.calls.map _).getD _ _ = _
    have hll : m.calls.length - 1 < m.calls.length := by omega
    rw [List.getD_eq_getElem?_getD, List.getElem?_eq_getElem hll] at hae
    rw [List.getD_eq_getElem?_getD, List.getElem?_map, List.getElem?_eq_getElem hll]
    have hae : m.calls[m.calls.length - 1] = a := hae
    rw [hae]
    rfl
  rw [hae, hae']
  dsimp only
  have ea : cAt (invIm im).code (nI im.code a.1) = invAt im.code a.1 := inv_at' hain
  rw [ea]
  have hcond : (invAt im.code a.1 = ⟨opOf a.2, nI im.code e, 0, 0, 0⟩) ↔ (cAt im.code a.1 = ⟨opOf a.2, s, 0, 0, 0⟩) := by
    have hva := hg.valid _ hain
    have hoa := (jump_inv (valid_op hva)).2.2.2.2
    constructor
    · intro h
      have h0 : invO (cAt im.code a.1).op = opOf a.2 := by rw [← invAt_op, h]
      have h3 : (cAt im.code a.1).op = opOf a.2 := by
        have hb : ∀ tn : Bool, invO (cAt im.code a.1).op = opOf tn → (cAt im.code a.1).op = opOf tn := fun tn h => by
          cases tn
          · exact hoa.1.1 h
          · exact hoa.2.1.1 h
        exact hb _ h0
      have hcall : (cAt im.code a.1).op = 30 ∨ (cAt im.code a.1).op = 31 := by rw [h3]; unfold opOf; split <;> simp
      obtain ⟨e1, b1, b2⟩ := st_of hg hain hcall
      have := inv_a_call hg hain hcall b1
      rw [h] at this
      have he1 : e = e1 := by have : nI im.code e = nI im.code e1 := this; unfold nI at this; omega
      subst he1
      rw [opers_of hva hcall, h3]
      have hs1 : (cAt im.code a.1).a = s := by
        have q1 := partner_symm b1.1
        have q2 := partner_symm hs.1
        exact Option.some.inj (q1.symm.trans q2)
      rw [hs1]
    · intro h
      have h3 : (cAt im.code a.1).op = opOf a.2 := by rw [h]
      have hcall : (cAt im.code a.1).op = 30 ∨ (cAt im.code a.1).op = 31 := by rw [h3]; unfold opOf; split <;> simp
      have hsa : St im.code (cAt im.code a.1).a e := by rw [h]; exact hs
      have hcall' : (invAt im.code a.1).op = 30 ∨ (invAt im.code a.1).op = 31 := by rw [invAt_op]; exact hcall.imp hoa.1.2 hoa.2.1.2
      rw [opers_of (inv_valid hg hain) hcall', inv_a_call hg hain hcall hsa, invAt_op]
      have : invO (cAt im.code a.1).op = opOf a.2 := by
        rw [h3]
        unfold opOf
        split <;> rfl
      rw [this]
  by_cases h2 : cAt im.code a.1 = ⟨opOf a.2, s, 0, 0, 0⟩
  · rw [if_pos (hcond.2 h2), if_pos h2]
    dsimp only
    have ed : dirOf a.2 (mir im.code.length m).dir = -dirOf a.2 m.dir := dirOf_neg _ _
    rw [ed, ← mir_behind (dirOf_dir hd _)]
    have ec : (mir im.code.length m).calls.take (m.calls.length - 1) = (m.calls.take (m.calls.length - 1)).map (mirC im.code.length) := List.map_take.symm
    rw [ec]
    rfl
  · rw [if_neg (fun h => h2 (hcond.1 h)), if_neg h2]

theorem invAt_plain {C : List Ins} {k : Int} (h : plainO (cAt C k).op) : invAt C k = invI (cAt C k) := by
  refine invAt_none ?_
  unfold targ
  have : inA (cAt C k).op = false ∧ inB (cAt C k).op = false := plain_ops (fun op => inA op = false ∧ inB op = false) h ⟨rfl, rfl⟩ ⟨rfl, rfl⟩ ⟨rfl, rfl⟩ ⟨rfl, rfl⟩ ⟨rfl, rfl⟩ ⟨rfl, rfl⟩ ⟨rfl, rfl⟩ ⟨rfl, rfl⟩ ⟨rfl, rfl⟩ ⟨rfl, rfl⟩ ⟨rfl, rfl⟩ ⟨rfl, rfl⟩ ⟨rfl, rfl⟩ ⟨rfl, rfl⟩ ⟨rfl, rfl⟩ ⟨rfl, rfl⟩ ⟨rfl, rfl⟩ ⟨rfl, rfl⟩ ⟨rfl, rfl⟩ ⟨rfl, rfl⟩ ⟨rfl, rfl⟩ ⟨rfl, rfl⟩ ⟨rfl, rfl⟩ ⟨rfl, rfl⟩
  rw [this.1, this.2]
  rfl

theorem mir_step {im : Im} {m : Mach} (hg : Good im.code) (hf : Fit im m) : stepP (invIm im) (mir im.code.length m) = ((stepP im m).1, mir im.code.length (stepP im m).2) := by
  have hd := hf.dir
  obtain ⟨k, hk⟩ : ∃ k, here m = k := ⟨_, rfl⟩
  have hk' : here (mir im.code.length m) = nI im.code k := by rw [mir_here hd, hk]
  have hin : inR (invIm im).code (nI im.code k) = inR im.code k := by show inR (invC im.code) _ = _; rw [inv_in, inR_nI]
  by_cases hr : inR im.code k = true
  · have ek : cAt (invIm im).code (nI im.code k) = invAt im.code k := inv_at' hr
    have hv := hg.valid k hr
    have ji := jump_inv (valid_op hv)
    by_cases h34 : (cAt im.code k).op = 34
    · unfold stepP
      rw [hk, hk']
      dsimp only
      rw [hin, if_neg (by rw [hr]; decide), ek, if_pos (by rw [invAt_op]; exact ji.2.2.2.2.2.2.2 h34), if_neg (by rw [hr]; decide), if_pos h34]
    rw [step_of hk hr h34, step_of hk' (hin.trans hr) (by rw [ek, invAt_op]; exact fun h => h34 (ji.2.2.2.2.2.2.1 h)), ek, invAt_op]
    by_cases h1 : (cAt im.code k).op = 30 ∨ (cAt im.code k).op = 31
    · rw [if_pos h1, if_pos (h1.imp ji.2.2.2.2.1.2 ji.2.2.2.2.2.1.2)]
      exact mir_enter hg hd hr h1
    rw [if_neg h1, if_neg (fun h => h1 (h.imp ji.2.2.2.2.1.1 ji.2.2.2.2.2.1.1))]
    by_cases h2 : (cAt im.code k).op = 32 ∨ (cAt im.code k).op = 33
    · rw [if_pos h2, if_pos (h2.symm.imp ji.2.2.1.2 ji.2.2.2.1.2)]
      exact mir_leave hg hf hr h2
    rw [if_neg h2, if_neg (fun h => h2 ((h.imp ji.2.2.1.1 ji.2.2.2.1.1).symm))]
    have hjl : (jumpB (invO (cAt im.code k).op) || landB (invO (cAt im.code k).op)) = (jumpB (cAt im.code k).op || landB (cAt im.code k).op) := by rw [ji.1, ji.2.1, Bool.or_comm]
    rw [hjl]
    by_cases h3 : (jumpB (cAt im.code k).op || landB (cAt im.code k).op) = true
    · rw [if_pos h3, if_pos h3]
      exact mir_jump hg hd hr h3
    rw [if_neg h3, if_neg h3]
    have hpl := plain_of (valid_op hv) h34 h1 h2 h3
    have hw : wayI (mir im.code.length m).dir (invAt im.code k) = wayI m.dir (cAt im.code k) := by
      rw [invAt_plain hpl]
      unfold wayI
      show (if -m.dir < 0 then _ else _) = _
      rcases hd with h | h <;> rw [h] <;> simp
      exact invI_invI (valid_op hv)
    rw [hw]
    generalize wayI m.dir (cAt im.code k) = i
    obtain ⟨x1, x2, x3⟩ := exec_keeps m i
    rw [exec_mir]
    dsimp only
    by_cases h4 : (exec m i).1 = 0
    · rw [if_pos h4, if_pos h4]
      dsimp only
      unfold mir
      dsimp only
      rw [x1, x2, x3]
      have : (im.code.length : Int) - m.pc + -m.dir = (im.code.length : Int) - (m.pc + m.dir) := by omega
      rw [this]
    · rw [if_neg h4, if_neg h4]
      unfold mir
      rw [x1, x2, x3]
  · unfold stepP
    rw [hk, hk']
    dsimp only
    rw [hin, if_pos (by simpa using hr), if_pos (by simpa using hr)]

end Go.Proofs.YtichiccohmeecaaDoor
