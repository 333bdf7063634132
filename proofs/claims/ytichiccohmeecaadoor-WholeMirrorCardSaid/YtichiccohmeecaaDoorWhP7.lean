/- The inverse of a valid image is valid. -/
import Derived.Test.YtichiccohmeecaaDoorWhP6
namespace Go.Proofs.YtichiccohmeecaaDoor
open Go.RowKit

def nI (C : List Ins) (k : Int) : Int := C.length - 1 - k
/-- the instruction that stands in the inverse image for instruction k -/
def invAt (C : List Ins) (k : Int) : Ins :=
  match targ (invI (cAt C k)) with
  | some t => retarg (invI (cAt C k)) (nI C (if (cAt C k).op = 30 ∨ (cAt C k).op = 31 then (cAt C t).a else t))
  | none => invI (cAt C k)
def invC (C : List Ins) : List Ins := (List.range C.length).map (fun j : Nat => invAt C (nI C j))
def invIm (im : Im) : Im := { im with code := invC im.code }

theorem inv_len (C : List Ins) : (invC C).length = C.length := by simp [invC]
theorem nI_nI (C : List Ins) (k : Int) : nI C (nI C k) = k := by unfold nI; omega
theorem nI_in {C : List Ins} {k : Int} (h : inR C k = true) : inR C (nI C k) = true := by
  rw [inR_iff] at h ⊢; unfold nI; omega
theorem inv_in {C : List Ins} {k : Int} : inR (invC C) k = inR C k := by unfold inR; rw [inv_len]
theorem inv_at {C : List Ins} {k : Int} (h : inR C k = true) : cAt (invC C) k = invAt C (nI C k) := by
  obtain ⟨n, rfl, hn⟩ := nat_of h
  unfold cAt invC
  rw [Int.toNat_natCast, List.getD_eq_getElem?_getD, List.getElem?_map, List.getElem?_range hn]
  rfl
theorem inv_at' {C : List Ins} {k : Int} (h : inR C k = true) : cAt (invC C) (nI C k) = invAt C k := by
  rw [inv_at (nI_in h), nI_nI]

theorem inA_inv (op : Nat) : inA (invO op) = inA op := by
  by_cases h : op < 35
  · refine ops_all (fun op => inA (invO op) = inA op) h (fun o hp => plain_ops (fun op => inA (invO op) = inA op) hp ?_ ?_ ?_ ?_ ?_ ?_ ?_ ?_ ?_ ?_ ?_ ?_ ?_ ?_ ?_ ?_ ?_ ?_ ?_ ?_ ?_ ?_ ?_ ?_) ?_ ?_ ?_ ?_ ?_ ?_ ?_ ?_ ?_ ?_ ?_ <;> rfl
  · have : invO op = op := by
      unfold invO; split <;> first | omega | rfl
    rw [this]
theorem inB_inv (op : Nat) : inB (invO op) = inB op := by
  by_cases h : op < 35
  · refine ops_all (fun op => inB (invO op) = inB op) h (fun o hp => plain_ops (fun op => inB (invO op) = inB op) hp ?_ ?_ ?_ ?_ ?_ ?_ ?_ ?_ ?_ ?_ ?_ ?_ ?_ ?_ ?_ ?_ ?_ ?_ ?_ ?_ ?_ ?_ ?_ ?_) ?_ ?_ ?_ ?_ ?_ ?_ ?_ ?_ ?_ ?_ ?_ <;> rfl
  · have : invO op = op := by
      unfold invO; split <;> first | omega | rfl
    rw [this]
theorem targ_inv (i : Ins) : targ (invI i) = targ i := by
  unfold targ
  rw [invI_op, inA_inv, inB_inv]
  rfl
theorem retarg_op (i : Ins) (t : Int) : (retarg i t).op = i.op := by
  unfold retarg; split
  · rfl
  · split <;> rfl
theorem targ_retarg {i : Ins} {t u : Int} (h : targ i = some t) : targ (retarg i u) = some u := by
  unfold targ at *
  rw [retarg_op]
  by_cases h1 : inA i.op = true
  · rw [if_pos h1]
    unfold retarg
    rw [if_pos h1]
  · rw [if_neg h1] at h ⊢
    by_cases h2 : inB i.op = true
    · rw [if_pos h2]
      unfold retarg
      rw [if_neg h1, if_pos h2]
    · rw [if_neg h2] at h; cases h
theorem invAt_op (C : List Ins) (k : Int) : (invAt C k).op = invO (cAt C k).op := by
  unfold invAt
  split
  · rw [retarg_op, invI_op]
  · rw [invI_op]
theorem invAt_none {C : List Ins} {k : Int} (h : targ (cAt C k) = none) : invAt C k = invI (cAt C k) := by
  unfold invAt
  rw [targ_inv, h]
theorem invAt_some {C : List Ins} {k t : Int} (h : targ (cAt C k) = some t) : invAt C k = retarg (invI (cAt C k)) (nI C (if (cAt C k).op = 30 ∨ (cAt C k).op = 31 then (cAt C t).a else t)) := by
  unfold invAt
  rw [targ_inv, h]
theorem invAt_targ {C : List Ins} {k t : Int} (h : targ (cAt C k) = some t) : targ (invAt C k) = some (nI C (if (cAt C k).op = 30 ∨ (cAt C k).op = 31 then (cAt C t).a else t)) := by
  rw [invAt_some h]
  exact targ_retarg (by rw [targ_inv]; exact h)

theorem op_cases {op : Nat} (h : op < 35) (P : Nat → Prop) (hP : ∀ o, o < 35 → P o) : P op := hP op h
theorem jump_inv {op : Nat} (h : op < 35) : jumpB (invO op) = landB op ∧ landB (invO op) = jumpB op ∧ (invO op = 32 ↔ op = 33) ∧ (invO op = 33 ↔ op = 32) ∧ (invO op = 30 ↔ op = 30) ∧ (invO op = 31 ↔ op = 31) ∧ (invO op = 34 ↔ op = 34) := by
  refine ops_all (fun op => jumpB (invO op) = landB op ∧ landB (invO op) = jumpB op ∧ (invO op = 32 ↔ op = 33) ∧ (invO op = 33 ↔ op = 32) ∧ (invO op = 30 ↔ op = 30) ∧ (invO op = 31 ↔ op = 31) ∧ (invO op = 34 ↔ op = 34)) h (fun o hp => plain_ops (fun op => jumpB (invO op) = landB op ∧ landB (invO op) = jumpB op ∧ (invO op = 32 ↔ op = 33) ∧ (invO op = 33 ↔ op = 32) ∧ (invO op = 30 ↔ op = 30) ∧ (invO op = 31 ↔ op = 31) ∧ (invO op = 34 ↔ op = 34)) hp ?_ ?_ ?_ ?_ ?_ ?_ ?_ ?_ ?_ ?_ ?_ ?_ ?_ ?_ ?_ ?_ ?_ ?_ ?_ ?_ ?_ ?_ ?_ ?_) ?_ ?_ ?_ ?_ ?_ ?_ ?_ ?_ ?_ ?_ ?_ <;> decide

theorem retarg_valid {i : Ins} {t u : Int} (h : validI i = true) (ht : targ i = some t) (hu : idxB u = true) : validI (retarg i u) = true := by
  obtain ⟨op, a, b, c, d⟩ := i
  have ho := valid_op h
  unfold targ at ht
  dsimp only at ht
  by_cases h1 : inA op = true
  · have h1' := h1
    unfold inA at h1'
    simp only [Bool.or_eq_true, decide_eq_true_eq] at h1'
    unfold retarg
    dsimp only
    rw [if_pos h1]
    unfold validI idleB at *
    simp only [Bool.and_eq_true] at h ⊢
    rcases h1' with ((((rfl | rfl) | rfl) | rfl) | rfl) | rfl <;> exact ⟨⟨rfl, ⟨⟨⟨rfl, h.1.2.1.1.2⟩, h.1.2.1.2⟩, h.1.2.2⟩⟩, hu⟩
  · rw [if_neg h1] at ht
    by_cases h2 : inB op = true
    · have h2' := h2
      unfold inB at h2'
      simp only [Bool.or_eq_true, decide_eq_true_eq] at h2'
      unfold retarg
      dsimp only
      rw [if_neg h1, if_pos h2]
      unfold validI idleB at *
      simp only [Bool.and_eq_true] at h ⊢
      have hform := h.2
      rcases h2' with ((rfl | rfl) | rfl) | rfl <;> (have hform : (regB a && idxB b) = true := hform; rw [Bool.and_eq_true] at hform; exact ⟨⟨rfl, ⟨⟨⟨rfl, rfl⟩, h.1.2.1.2⟩, h.1.2.2⟩⟩, by show (regB a && idxB u) = true; rw [hform.1, hu]; rfl⟩)
    · rw [if_neg h2] at ht; cases ht

theorem idx_of {C : List Ins} {k : Int} (hl : C.length ≤ 65536) (h : inR C k = true) : idxB k = true := by
  have := inR_iff.1 h
  unfold idxB
  simp
  omega

theorem targ_call {i : Ins} (h : i.op = 30 ∨ i.op = 31) : targ i = some i.a := by
  unfold targ
  rw [if_pos (by rcases h with h | h <;> rw [h] <;> rfl)]
theorem st_of {C : List Ins} (hg : Good C) {k : Int} (hk : inR C k = true) (ho : (cAt C k).op = 30 ∨ (cAt C k).op = 31) : ∃ e, St C (cAt C k).a e ∧ (cAt C (cAt C k).a).a = e := by
  obtain ⟨h1, e, h2⟩ := hg.calls k hk ho
  refine ⟨e, ⟨h2, h1⟩, ?_⟩
  have := (partner_iff.1 h2).2.2.1
  unfold targ at this
  rw [h1, if_pos (by rfl)] at this
  exact Option.some.inj this

theorem not_call {op : Nat} (h : (jumpB op || landB op) = true ∨ op = 32 ∨ op = 33) : ¬ (op = 30 ∨ op = 31) := (jl_targ h).2
theorem has_class {C : List Ins} (_hg : Good C) {k : Int} (_hk : inR C k = true) {t : Int} (ht : targ (cAt C k) = some t) (hc : ¬ ((cAt C k).op = 30 ∨ (cAt C k).op = 31)) : (jumpB (cAt C k).op || landB (cAt C k).op) = true ∨ (cAt C k).op = 32 ∨ (cAt C k).op = 33 := by
  refine targ_none ?_ hc
  unfold targ at ht
  by_cases h1 : inA (cAt C k).op = true
  · exact .inl h1
  · rw [if_neg h1] at ht
    split at ht
    · rename_i h2; exact .inr h2
    · cases ht

theorem inv_valid {C : List Ins} (hg : Good C) {k : Int} (hk : inR C k = true) : validI (invAt C k) = true := by
  have hv := valid_inv (hg.valid k hk)
  cases ht : targ (cAt C k) with
  | none => rw [invAt_none ht]; exact hv
  | some t =>
    rw [invAt_some ht]
    refine retarg_valid hv (by rw [targ_inv]; exact ht) (idx_of hg.len (nI_in ?_))
    by_cases hc : (cAt C k).op = 30 ∨ (cAt C k).op = 31
    · rw [if_pos hc]
      obtain ⟨e, h1, h2⟩ := st_of hg hk hc
      obtain rfl : (cAt C k).a = t := Option.some.inj ((targ_call hc).symm.trans ht)
      rw [h2]
      exact (partner_iff.1 h1.1).2.1
    · rw [if_neg hc]
      obtain ⟨u, hu⟩ := hg.pairs k hk (has_class hg hk ht hc)
      obtain rfl : u = t := Option.some.inj ((partner_iff.1 hu).2.2.1.symm.trans ht)
      exact (partner_iff.1 hu).2.1

theorem pair_inv {C : List Ins} {i t : Int} {a b : Nat} (ha : a < 35) (hb : b < 35) (hne : i = t → a = b) (h : pairB i t a b = true) : pairB (nI C i) (nI C t) (invO a) (invO b) = true := by
  obtain ⟨a1, a2, a3, a4, -⟩ := jump_inv ha
  obtain ⟨b1, b2, b3, b4, -⟩ := jump_inv hb
  unfold pairB at h ⊢
  rw [a1, a2, b1, b2]
  by_cases h1 : jumpB a = true
  · rw [if_pos h1] at h
    rw [if_neg (by rw [jump_not_land h1]; decide), if_pos h1]
    exact h
  rw [if_neg h1] at h
  by_cases h2 : landB a = true
  · rw [if_pos h2] at h
    rw [if_pos h2]
    exact h
  rw [if_neg h2] at h
  rw [if_neg h2, if_neg h1]
  by_cases h3 : i < t
  · rw [if_pos h3, Bool.and_eq_true, decide_eq_true_eq, decide_eq_true_eq] at h
    rw [if_neg (by unfold nI; omega), Bool.and_eq_true, decide_eq_true_eq, decide_eq_true_eq]
    exact ⟨a4.2 h.1, b3.2 h.2⟩
  · rw [if_neg h3, Bool.and_eq_true, decide_eq_true_eq, decide_eq_true_eq] at h
    have : t < i := by
      rcases Int.lt_or_eq_of_le (Int.not_lt.1 h3) with hh | hh
      · exact hh
      · have := hne hh.symm; omega
    rw [if_pos (by unfold nI; omega), Bool.and_eq_true, decide_eq_true_eq, decide_eq_true_eq]
    exact ⟨a3.2 h.1, b4.2 h.2⟩

theorem inv_partner {C : List Ins} (hg : Good C) {i t : Int} (h : partner C i = some t) (hc : ¬ ((cAt C i).op = 30 ∨ (cAt C i).op = 31)) : partner (invC C) (nI C i) = some (nI C t) := by
  obtain ⟨h1, h2, h3, h4, h5, h6, h7⟩ := partner_iff.1 h
  have hcl := has_class hg h1 h3 hc
  have hct : ¬ ((cAt C t).op = 30 ∨ (cAt C t).op = 31) := by
    have hp := (partner_iff.1 (partner_symm h)).2.2.2.2.2.2
    intro ho
    unfold pairB at hp
    rw [if_neg (by rcases ho with h | h <;> rw [h] <;> decide), if_neg (by rcases ho with h | h <;> rw [h] <;> decide)] at hp
    split at hp <;> rw [Bool.and_eq_true, decide_eq_true_eq, decide_eq_true_eq] at hp <;> omega
  refine partner_iff.2 ⟨by rw [inv_in]; exact nI_in h1, by rw [inv_in]; exact nI_in h2, ?_, ?_, ?_, ?_, ?_⟩
  · rw [inv_at' h1, invAt_targ h3, if_neg hc]
  · rw [inv_at' h2, invAt_targ h4, if_neg hct]
  · rw [inv_at' h1]; exact inv_valid hg h1
  · rw [inv_at' h2]; exact inv_valid hg h2
  · rw [inv_at' h1, inv_at' h2, invAt_op, invAt_op]
    exact pair_inv (valid_op h5) (valid_op h6) (fun e => by rw [e]) h7

theorem st_inv {C : List Ins} (hg : Good C) {s e : Int} (h : St C s e) : St (invC C) (nI C e) (nI C s) := by
  have hl := h.lt
  have hp := partner_symm h.1
  refine ⟨inv_partner hg hp (by rw [hl.2.2.2]; omega), ?_⟩
  rw [inv_at' (partner_iff.1 h.1).2.1, invAt_op, hl.2.2.2]
  rfl
theorem inv_good {C : List Ins} (hg : Good C) : Good (invC C) := by
  refine ⟨by rw [inv_len]; exact hg.len, fun k hk => ?_, fun k hk ho => ?_, fun k hk ho => ?_⟩
  · rw [inv_in] at hk
    rw [inv_at hk]
    exact inv_valid hg (nI_in hk)
  · rw [inv_in] at hk
    rw [inv_at hk, invAt_op] at ho
    have hk' := nI_in hk
    have hop := valid_op (hg.valid _ hk')
    obtain ⟨j1, j2, j3, j4, -⟩ := jump_inv hop
    have hcl : (jumpB (cAt C (nI C k)).op || landB (cAt C (nI C k)).op) = true ∨ (cAt C (nI C k)).op = 32 ∨ (cAt C (nI C k)).op = 33 := by
      rcases ho with h | h | h
      · rw [j1, j2, Bool.or_comm] at h; exact .inl h
      · exact .inr (.inr (j3.1 h))
      · exact .inr (.inl (j4.1 h))
    obtain ⟨t, ht⟩ := hg.pairs _ hk' hcl
    have := inv_partner hg ht (not_call hcl)
    rw [nI_nI] at this
    exact ⟨_, this⟩
  · rw [inv_in] at hk
    rw [inv_at hk, invAt_op] at ho
    have hk' := nI_in hk
    have hop := valid_op (hg.valid _ hk')
    obtain ⟨j1, j2, j3, j4, j5, j6, -⟩ := jump_inv hop
    have ho' : (cAt C (nI C k)).op = 30 ∨ (cAt C (nI C k)).op = 31 := by
      rcases ho with h | h
      · exact .inl (j5.1 h)
      · exact .inr (j6.1 h)
    obtain ⟨e, h1, h2⟩ := st_of hg hk' ho'
    have ha : (cAt (invC C) k).a = nI C e := by
      rw [inv_at hk]
      have := invAt_targ (targ_call ho')
      rw [if_pos ho', h2] at this
      rw [targ_call (by rw [invAt_op]; exact ho)] at this
      exact Option.some.inj this
    rw [ha]
    have := st_inv hg h1
    exact ⟨this.2, _, this.1⟩
theorem st_inv' {C : List Ins} (hg : Good C) {s e : Int} (h : St (invC C) s e) : St C (nI C e) (nI C s) := by
  have hl := h.lt
  have hin := partner_iff.1 h.1
  have h1 := hin.1
  have h2 := hin.2.1
  rw [inv_in] at h1 h2
  have hop := valid_op (hg.valid _ (nI_in h1))
  obtain ⟨j1, j2, j3, j4, -⟩ := jump_inv hop
  have h33 : (cAt C (nI C s)).op = 33 := by
    have := h.2
    rw [inv_at h1, invAt_op] at this
    exact j3.1 this
  obtain ⟨t, ht⟩ := hg.pairs _ (nI_in h1) (.inr (.inr h33))
  have := inv_partner hg ht (by rw [h33]; omega)
  rw [nI_nI] at this
  have he := Option.some.inj (this.symm.trans h.1)
  have ht' : t = nI C e := by rw [← he, nI_nI]
  subst ht'
  refine ⟨partner_symm ht, ?_⟩
  have := h.lt.2.2.2
  rw [inv_at h2, invAt_op] at this
  exact (jump_inv (valid_op (hg.valid _ (nI_in h2)))).2.2.2.1.1 this

theorem inv_vok {C : List Ins} (h : Vok C) : Vok (invC C) := by
  refine ⟨inv_good h.good, fun s e s' e' h1 h2 hs => ?_, fun i t hp hj s e hse => ?_⟩
  · have a1 := st_inv' h.good h1
    have a2 := st_inv' h.good h2
    have hl1 := h1.lt
    have hl2 := h2.lt
    have l1 := a1.lt
    have l2 := a2.lt
    rcases Int.lt_trichotomy (nI C e) (nI C e') with hh | hh | hh
    · have := h.one _ _ _ _ a1 a2 hh; unfold nI at *; omega
    · rw [hh] at a1; have := a1.fn a2; unfold nI at *; omega
    · have := h.one _ _ _ _ a2 a1 hh; unfold nI at *; omega
  · have a := st_inv' h.good hse
    have hin := partner_iff.1 hp
    have h1 := hin.1
    have h2 := hin.2.1
    rw [inv_in] at h1 h2
    have hop := valid_op (h.good.valid _ (nI_in h1))
    obtain ⟨j1, j2, j3, j4, -⟩ := jump_inv hop
    rw [inv_at h1, invAt_op, j1, j2, Bool.or_comm] at hj
    obtain ⟨u, hu⟩ := h.good.pairs _ (nI_in h1) (.inl hj)
    have := inv_partner h.good hu (not_call (.inl hj))
    rw [nI_nI] at this
    have he := Option.some.inj (this.symm.trans hp)
    have := h.reg _ _ hu hj _ _ a
    unfold nI at *
    omega

theorem inv_check {im : Im} (h : checkB im = true) : checkB (invIm im) = true := by
  unfold checkB at *
  rw [Bool.and_eq_true] at h ⊢
  have hs := h.1
  unfold sizeB at hs
  simp only [Bool.and_eq_true, decide_eq_true_eq] at hs
  refine ⟨?_, vok_code (inv_vok (code_vok hs.1.1.1.1 h.2))⟩
  unfold sizeB invIm
  simp only [Bool.and_eq_true, decide_eq_true_eq, inv_len]
  exact hs

end Go.Proofs.YtichiccohmeecaaDoor
