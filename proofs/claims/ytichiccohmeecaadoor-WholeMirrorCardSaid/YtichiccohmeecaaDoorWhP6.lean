/- Valid images in plain words: what the check of the regions says. -/
import Derived.Test.YtichiccohmeecaaDoorWhP5
namespace Go.Proofs.YtichiccohmeecaaDoor
open Go.RowKit

def popS (i : Int) : List (Int × Int) → List (Int × Int)
  | [] => []
  | x :: l => if x.2 < i then popS i l else x :: l
def pushS (C : List Ins) (i : Int) (o : List (Int × Int)) : List (Int × Int) :=
  match partner C i with
  | some e => if (cAt C i).op = 32 then (i, e) :: o else o
  | none => o
def openAt (C : List Ins) : Nat → List (Int × Int)
  | 0 => []
  | k + 1 => pushS C k (popS k (openAt C k))
def topOf : List (Int × Int) → Int
  | [] => -1
  | x :: _ => x.1
def regL (C : List Ins) (k : Nat) : Int := topOf (openAt C (k + 1))
def insL (C : List Ins) (k : Nat) : Bool := decide (0 < (popS k (openAt C k)).length)
def faultP (C : List Ins) (i : Int) (reg : Int → Int) (ins : Bool) : Int :=
  if validI (cAt C i) = false then 3
  else match targ (cAt C i) with
    | none => 0
    | some t =>
      if (cAt C i).op = 30 ∨ (cAt C i).op = 31 then (if (partner C t).isSome && (cAt C t).op == 32 then 0 else 23)
      else if (partner C i).isSome = false then 23
      else if ((cAt C i).op == 32 && ins) = true then 20
      else if ((jumpB (cAt C i).op || landB (cAt C i).op) && reg i != reg t) = true then 20
      else 0
def sizeB (im : Im) : Bool := decide (im.code.length ≤ 65536) && decide (0 ≤ im.mem) && decide (im.mem ≤ 16384) && decide (1 ≤ im.stacks) && decide (im.stacks ≤ 16384)
def faultN (C : List Ins) (k : Nat) : Int := faultP C k (fun j => regL C j.toNat) (insL C k)
def codeB (C : List Ins) : Bool := (List.range C.length).all (fun k => faultN C k == 0)
def checkB (im : Im) : Bool := sizeB im && codeB im.code

/-- a procedure from s to e -/
def St (C : List Ins) (s e : Int) : Prop := partner C s = some e ∧ (cAt C s).op = 32
structure Vok (C : List Ins) : Prop where
  good : Good C
  one : ∀ s e s' e', St C s e → St C s' e' → s < s' → e < s'
  reg : ∀ i t, partner C i = some t → (jumpB (cAt C i).op || landB (cAt C i).op) = true → ∀ s e, St C s e → ((s ≤ i ∧ i ≤ e) ↔ (s ≤ t ∧ t ≤ e))

theorem St.lt {C : List Ins} {s e : Int} (h : St C s e) : 0 ≤ s ∧ s < e ∧ e < C.length ∧ (cAt C e).op = 33 := by
  obtain ⟨h1, h2⟩ := h
  obtain ⟨a1, a2, _, _, _, _, a7⟩ := partner_iff.1 h1
  have b1 := inR_iff.1 a1
  have b2 := inR_iff.1 a2
  rw [h2] at a7
  unfold pairB at a7
  rw [if_neg (by decide), if_neg (by decide)] at a7
  split at a7
  · simp at a7
    exact ⟨b1.1, by assumption, b2.2, a7⟩
  · simp at a7
theorem St.fn {C : List Ins} {s e e' : Int} (h : St C s e) (h' : St C s e') : e = e' := Option.some.inj (h.1.symm.trans h'.1)

/-- what is open ahead of instruction k -/
structure OpenInv (C : List Ins) (k : Nat) : Prop where
  shape : openAt C k = [] ∨ ∃ s e, openAt C k = [(s, e)] ∧ St C s e ∧ s < k ∧ (k : Int) ≤ e + 1
  all : ∀ s e, St C s e → s < k → openAt C k = [(s, e)] ∨ e + 1 < k
theorem popS_one (k : Int) (s e : Int) : popS k [(s, e)] = if e < k then [] else [(s, e)] := by
  unfold popS; split <;> rfl
theorem popS_nil (k : Int) : popS k [] = [] := rfl
theorem open_pop {C : List Ins} {k : Nat} (h : OpenInv C k) : (popS k (openAt C k) = [] ∧ ∀ s e, St C s e → s < k → e < k) ∨ ∃ s e, popS k (openAt C k) = [(s, e)] ∧ St C s e ∧ s < k ∧ (k : Int) ≤ e ∧ ∀ s' e', St C s' e' → s' < k → s' = s ∨ e' < k := by
  rcases h.shape with h1 | ⟨s, e, h1, h2, h3, h4⟩
  · refine .inl ⟨by rw [h1]; rfl, fun s e hs hk => ?_⟩
    rcases h.all s e hs hk with h | h
    · rw [h1] at h; cases h
    · omega
  · rw [h1, popS_one]
    have hall : ∀ s' e', St C s' e' → s' < k → s' = s ∨ e' < k := fun s' e' hs hk => by
      rcases h.all s' e' hs hk with h | h
      · rw [h1] at h
        injection h with h
        injection h with h h'
        exact .inl h.symm
      · exact .inr (by omega)
    by_cases he : e < k
    · rw [if_pos he]
      refine .inl ⟨rfl, fun s' e' hs hk => ?_⟩
      rcases hall s' e' hs hk with h | h
      · subst h; rw [hs.fn h2]; exact he
      · exact h
    · rw [if_neg he]
      exact .inr ⟨s, e, rfl, h2, h3, by omega, hall⟩
theorem pushS_start {C : List Ins} {k e : Int} (h : St C k e) (o : List (Int × Int)) : pushS C k o = (k, e) :: o := by
  unfold pushS; rw [h.1]; dsimp only; rw [if_pos h.2]
theorem pushS_no {C : List Ins} {k : Int} (h : ∀ e, ¬ St C k e) (o : List (Int × Int)) : pushS C k o = o := by
  unfold pushS
  cases hp : partner C k with
  | none => rfl
  | some e =>
    dsimp only
    rw [if_neg (fun ho => h e ⟨hp, ho⟩)]
theorem open_zero (C : List Ins) : OpenInv C 0 := ⟨.inl rfl, fun s e h hs => by have := h.lt.1; omega⟩
theorem open_succ {C : List Ins} {k : Nat} (h : OpenInv C k) (hone : ∀ s e e', St C s e → St C k e' → s < k → e < k) : OpenInv C (k + 1) := by
  have hx : openAt C (k + 1) = pushS C k (popS k (openAt C k)) := rfl
  by_cases hs : ∃ e, St C k e
  · obtain ⟨e, hs⟩ := hs
    have hl := hs.lt
    have hp : popS k (openAt C k) = [] := by
      rcases open_pop h with h1 | ⟨s, e1, h1, h2, h3, h4, _⟩
      · exact h1.1
      · have := hone s e1 e h2 hs h3; omega
    rw [pushS_start hs, hp] at hx
    refine ⟨.inr ⟨_, _, hx, hs, by omega, by omega⟩, fun s' e' hs' hk => ?_⟩
    by_cases hsk : s' = k
    · subst hsk; rw [hs'.fn hs]; exact .inl hx
    · have := hone s' e' e hs' hs (by omega); exact .inr (by omega)
  · have hs' : ∀ e, ¬ St C k e := fun e he => hs ⟨e, he⟩
    rw [pushS_no hs'] at hx
    have hlt : ∀ s e, St C s e → s < ((k + 1 : Nat) : Int) → s < k := fun s e hse hk => by
      rcases Int.lt_or_eq_of_le (show s ≤ k by omega) with h | h
      · exact h
      · subst h; exact absurd hse (hs' e)
    rcases open_pop h with ⟨h1, h2⟩ | ⟨s, e, h1, h2, h3, h4, h5⟩
    · exact ⟨.inl (hx.trans h1), fun s e hse hk => .inr (by have := h2 s e hse (hlt s e hse hk); omega)⟩
    · refine ⟨.inr ⟨s, e, hx.trans h1, h2, by omega, by omega⟩, fun s' e' hse hk => ?_⟩
      rcases h5 s' e' hse (hlt _ _ hse hk) with h | h
      · subst h; rw [hse.fn h2]; exact .inl (hx.trans h1)
      · exact .inr (by omega)
theorem ins_iff {C : List Ins} {k : Nat} (h : OpenInv C k) : insL C k = true ↔ ∃ s e, St C s e ∧ s < k ∧ (k : Int) ≤ e := by
  unfold insL
  rw [decide_eq_true_eq]
  rcases open_pop h with ⟨h1, h2⟩ | ⟨s, e, h1, h2, h3, h4, h5⟩
  · rw [h1]
    constructor
    · intro h; exact absurd h (by decide)
    · rintro ⟨s, e, a, b, c⟩; have := h2 s e a b; omega
  · rw [h1]
    exact ⟨fun _ => ⟨s, e, h2, h3, h4⟩, fun _ => by simp⟩
theorem reg_is {C : List Ins} {k : Nat} (h : OpenInv C (k + 1)) : (∃ s e, St C s e ∧ s ≤ k ∧ (k : Int) ≤ e ∧ regL C k = s) ∨ ((∀ s e, St C s e → ¬ (s ≤ k ∧ (k : Int) ≤ e)) ∧ regL C k = -1) := by
  unfold regL
  rcases h.shape with h1 | ⟨s, e, h1, h2, h3, h4⟩
  · refine .inr ⟨fun s e hs hk => ?_, by rw [h1]; rfl⟩
    rcases h.all s e hs (by omega) with h | h
    · rw [h1] at h; cases h
    · omega
  · exact .inl ⟨s, e, h2, by omega, by omega, by rw [h1]; rfl⟩

theorem nat_of {C : List Ins} {k : Int} (h : inR C k = true) : ∃ n : Nat, k = n ∧ n < C.length := by
  have := inR_iff.1 h
  obtain ⟨n, rfl⟩ := Int.eq_ofNat_of_zero_le this.1
  exact ⟨n, rfl, by omega⟩
theorem fault_of {C : List Ins} (h : codeB C = true) {k : Nat} (hk : k < C.length) : faultN C k = 0 := by
  unfold codeB at h
  rw [List.all_eq_true] at h
  simpa using h k (by simpa using hk)
theorem fault_valid {C : List Ins} {k : Nat} (h : faultN C k = 0) : validI (cAt C k) = true := by
  unfold faultN faultP at h
  cases hv : validI (cAt C k) with
  | true => rfl
  | false => rw [if_pos hv] at h; cases h
theorem targ_of {i : Ins} (h : inA i.op = true ∨ inB i.op = true) : ∃ t, targ i = some t := by
  unfold targ
  by_cases h1 : inA i.op = true
  · exact ⟨_, if_pos h1⟩
  · rw [if_neg h1]
    rcases h with h | h
    · exact absurd h h1
    · exact ⟨_, if_pos h⟩
theorem jl_targ {op : Nat} (h : (jumpB op || landB op) = true ∨ op = 32 ∨ op = 33) : (inA op = true ∨ inB op = true) ∧ ¬ (op = 30 ∨ op = 31) := by
  unfold jumpB landB at h
  simp only [Bool.or_eq_true, decide_eq_true_eq] at h
  unfold inA inB
  simp only [Bool.or_eq_true, decide_eq_true_eq]
  omega
theorem fault_pair {C : List Ins} {k : Nat} (h : faultN C k = 0) (ho : (jumpB (cAt C k).op || landB (cAt C k).op) = true ∨ (cAt C k).op = 32 ∨ (cAt C k).op = 33) :
    ∃ t, partner C k = some t ∧ targ (cAt C k) = some t ∧ ((cAt C k).op = 32 → insL C k = false) ∧ ((jumpB (cAt C k).op || landB (cAt C k).op) = true → regL C k = regL C t.toNat) := by
  have hv := fault_valid h
  obtain ⟨hjt, hnc⟩ := jl_targ ho
  obtain ⟨t, ht⟩ := targ_of hjt
  unfold faultN faultP at h
  rw [if_neg (by rw [hv]; decide), ht] at h
  dsimp only at h
  rw [if_neg hnc] at h
  cases hp : partner C k with
  | none => rw [hp, if_pos (by rfl)] at h; cases h
  | some u =>
    obtain rfl : u = t := Option.some.inj ((partner_iff.1 hp).2.2.1.symm.trans ht)
    rw [hp, if_neg (by simp)] at h
    split at h
    · cases h
    rename_i h1
    split at h
    · cases h
    rename_i h2
    refine ⟨u, rfl, ht, fun h32 => ?_, fun hj => ?_⟩
    · cases hi : insL C k with
      | false => rfl
      | true => exact absurd (by rw [h32, hi]; rfl) h1
    · rw [hj, Bool.true_and] at h2
      simpa using h2

theorem code_good {C : List Ins} (hl : C.length ≤ 65536) (h : codeB C = true) : Good C := by
  refine ⟨hl, fun k hk => ?_, fun k hk ho => ?_, fun k hk ho => ?_⟩
  · obtain ⟨n, rfl, hn⟩ := nat_of hk
    exact fault_valid (fault_of h hn)
  · obtain ⟨n, rfl, hn⟩ := nat_of hk
    obtain ⟨t, ht, _⟩ := fault_pair (fault_of h hn) ho
    exact ⟨t, ht⟩
  · obtain ⟨n, rfl, hn⟩ := nat_of hk
    have hf := fault_of h hn
    have hv := fault_valid hf
    have ht : targ (cAt C n) = some (cAt C n).a := by
      unfold targ
      rw [if_pos (by rcases ho with h | h <;> rw [h] <;> rfl)]
    unfold faultN faultP at hf
    rw [if_neg (by rw [hv]; decide), ht] at hf
    dsimp only at hf
    rw [if_pos ho] at hf
    split at hf
    · rename_i h1
      simp only [Bool.and_eq_true, beq_iff_eq] at h1
      exact ⟨h1.2, Option.isSome_iff_exists.1 h1.1⟩
    · cases hf
theorem code_open {C : List Ins} (h : codeB C = true) : ∀ k : Nat, k ≤ C.length → OpenInv C k
  | 0, _ => open_zero C
  | k + 1, hk => by
    have ih := code_open h k (by omega)
    refine open_succ ih (fun s e e' h1 h2 hs => ?_)
    obtain ⟨t, _, _, hi, _⟩ := fault_pair (fault_of h (show k < C.length by omega)) (.inr (.inl h2.2))
    have := hi h2.2
    rcases Int.lt_or_le e k with hh | hh
    · exact hh
    · rw [(ins_iff ih).2 ⟨s, e, h1, hs, hh⟩] at this; cases this
theorem code_vok {C : List Ins} (hl : C.length ≤ 65536) (h : codeB C = true) : Vok C := by
  have hone : ∀ s e s' e', St C s e → St C s' e' → s < s' → e < s' := fun s e s' e' h1 h2 hs => by
    have hl2 := h2.lt
    have hl1 := h1.lt
    obtain ⟨k, rfl⟩ := Int.eq_ofNat_of_zero_le hl2.1
    have hk : k < C.length := by omega
    obtain ⟨t, _, _, hi, _⟩ := fault_pair (fault_of h hk) (.inr (.inl h2.2))
    have := hi h2.2
    rcases Int.lt_or_le e k with hh | hh
    · exact hh
    · rw [(ins_iff (code_open h k (by omega))).2 ⟨s, e, h1, hs, hh⟩] at this; cases this
  refine ⟨code_good hl h, hone, fun i t hp hj s e hs => ?_⟩
  obtain ⟨n, rfl, hn⟩ := nat_of (partner_iff.1 hp).1
  obtain ⟨u, hu, hnu⟩ := nat_of (partner_iff.1 hp).2.1
  subst hu
  obtain ⟨t', hp', _, _, hr⟩ := fault_pair (fault_of h hn) (.inl hj)
  obtain rfl := Option.some.inj (hp'.symm.trans hp)
  have hr := hr hj
  rw [Int.toNat_natCast] at hr
  have key : ∀ a b : Nat, a < C.length → b < C.length → regL C a = regL C b → (s ≤ a ∧ (a : Int) ≤ e) → (s ≤ b ∧ (b : Int) ≤ e) := fun a b ha hb hab hse => by
    rcases reg_is (code_open h (a + 1) ha) with ⟨s1, e1, a1, a2, a3, a4⟩ | ⟨a1, _⟩
    · have h1 : s1 = s := by
        rcases Int.lt_trichotomy s1 s with hh | hh | hh
        · have := hone _ _ _ _ a1 hs hh; omega
        · exact hh
        · have := hone _ _ _ _ hs a1 hh; omega
      subst h1
      have he := a1.fn hs
      subst he
      rcases reg_is (code_open h (b + 1) hb) with ⟨s2, e2, b1, b2, b3, b4⟩ | ⟨_, b4⟩
      · have : s2 = s1 := by rw [← b4, ← hab, a4]
        subst this
        rw [b1.fn a1] at b3
        exact ⟨b2, b3⟩
      · have := a1.lt; rw [← hab, a4] at b4; omega
    · exact absurd hse (a1 s e hs)
  exact ⟨key n u hn hnu hr, key u n hnu hn hr.symm⟩

theorem vok_open {C : List Ins} (h : Vok C) : ∀ k : Nat, OpenInv C k
  | 0 => open_zero C
  | k + 1 => open_succ (vok_open h k) (fun _ _ _ h1 h2 hs => h.one _ _ _ _ h1 h2 hs)
theorem targ_none {op : Nat} (h : inA op = true ∨ inB op = true) (hop : ¬ (op = 30 ∨ op = 31)) : (jumpB op || landB op) = true ∨ op = 32 ∨ op = 33 := by
  unfold inA inB at h
  simp only [Bool.or_eq_true, decide_eq_true_eq] at h
  unfold jumpB landB
  simp only [Bool.or_eq_true, decide_eq_true_eq]
  omega
theorem vok_code {C : List Ins} (h : Vok C) : codeB C = true := by
  unfold codeB
  rw [List.all_eq_true]
  intro k hk
  have hk : k < C.length := by simpa using hk
  have hin : inR C k = true := inR_iff.2 ⟨by omega, by omega⟩
  rw [beq_iff_eq]
  have hv := h.good.valid k hin
  unfold faultN faultP
  rw [if_neg (by rw [hv]; decide)]
  cases ht : targ (cAt C k) with
  | none => rfl
  | some t =>
    dsimp only
    by_cases hc : (cAt C k).op = 30 ∨ (cAt C k).op = 31
    · rw [if_pos hc]
      obtain ⟨a1, e, a2⟩ := h.good.calls k hin hc
      have : targ (cAt C k) = some (cAt C k).a := by
        unfold targ
        rw [if_pos (by rcases hc with h | h <;> rw [h] <;> rfl)]
      obtain rfl := Option.some.inj (this.symm.trans ht)
      rw [a1, a2]
      rfl
    · rw [if_neg hc]
      have hio : inA (cAt C k).op = true ∨ inB (cAt C k).op = true := by
        unfold targ at ht
        by_cases h1 : inA (cAt C k).op = true
        · exact .inl h1
        · rw [if_neg h1] at ht
          split at ht
          · rename_i h2; exact .inr h2
          · cases ht
      have hcl := targ_none hio hc
      obtain ⟨u, hu⟩ := h.good.pairs k hin hcl
      obtain rfl : u = t := Option.some.inj ((partner_iff.1 hu).2.2.1.symm.trans ht)
      rw [hu, if_neg (by simp)]
      rw [if_neg (fun hh => by
        rw [Bool.and_eq_true, beq_iff_eq] at hh
        obtain ⟨s, e, a1, a2, a3⟩ := (ins_iff (vok_open h k)).1 hh.2
        have := h.one s e k u a1 ⟨hu, hh.1⟩ a2
        omega)]
      rw [if_neg (fun hh => by
        rw [Bool.and_eq_true, bne_iff_ne] at hh
        obtain ⟨hj, hne⟩ := hh
        obtain ⟨v, hv', hvn⟩ := nat_of (partner_iff.1 hu).2.1
        subst hv'
        have hr := h.reg _ _ hu hj
        simp only [Int.toNat_natCast] at hne
        rcases reg_is (vok_open h (k + 1)) with ⟨s1, e1, a1, a2, a3, a4⟩ | ⟨a1, a4⟩
        · have hse := (hr s1 e1 a1).1 ⟨a2, a3⟩
          rcases reg_is (vok_open h (v + 1)) with ⟨s2, e2, b1, b2, b3, b4⟩ | ⟨b1, b4⟩
          · have : s1 = s2 := by
              rcases Int.lt_trichotomy s1 s2 with hh | hh | hh
              · have := h.one _ _ _ _ a1 b1 hh; omega
              · exact hh
              · have := h.one _ _ _ _ b1 a1 hh; omega
            exact hne (by rw [a4, b4, this])
          · exact b1 s1 e1 a1 hse
        · rcases reg_is (vok_open h (v + 1)) with ⟨s2, e2, b1, b2, b3, b4⟩ | ⟨b1, b4⟩
          · exact a1 s2 e2 b1 ((hr s2 e2 b1).2 ⟨b2, b3⟩)
          · exact hne (by rw [a4, b4]))]

end Go.Proofs.YtichiccohmeecaaDoor
