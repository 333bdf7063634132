/- The walk of list: a sequence's elements up to its length. -/
import Derived.Test.YtpbbiidfahaamaaStV2
namespace Go.Proofs.Ytpbbiidfahaamaa
open Go.RowKit

/-- what list gives -/
def sqOut (q : Sq) : Option (List Int) :=
  if ((pad q.len.toNat q.els).drop q.len.toNat).all (fun x => x == 0) = true then some ((pad q.len.toNat q.els).take q.len.toNat) else none

def SqRes (base : Nat) (w : World) (o : Option (List Int)) (u : Value) : Prop :=
  match o with
  | some l => IntsNew base w u l
  | none => u = .slice none 0 0

theorem IntsAt.sub {w : World} {B g np c : Nat} {P : List Int} (h : IntsNew B w (.slice (some ⟨g, 0, none⟩) np c) P) (hP : ∀ x ∈ P, I64 x) {n : Nat} (hn : n ≤ np) : IntsAt w (.slice (some ⟨g, 0, none⟩) n c) (P.take n) := by
  have hI := IntsAt.of_own h hP
  obtain ⟨⟨a, c', he, h1, h2, h3⟩, _⟩ := hI
  injection he with e1 e2 e3
  subst e2 e3
  have hl : (P.take n).length = n := by rw [List.length_take]; omega
  refine ⟨⟨some ⟨g, 0, none⟩, c, by rw [hl], by omega, h2, fun hp => ?_⟩, fun x hx => hP x (List.mem_of_mem_take hx)⟩
  obtain ⟨g', o, e, hg, hq⟩ := h3 (by omega)
  rw [e] at e1
  injection e1 with e1
  injection e1 with e1 e4
  subst e1 e4
  refine ⟨g, 0, rfl, hg, fun i x hx => hq i x ?_⟩
  rw [List.getElem?_take] at hx
  split at hx
  · exact hx
  · cases hx

set_option maxRecDepth 100000 in
set_option maxHeartbeats 8000000 in
theorem seqlist_any (B b : Nat) (v : Value) (q : Sq) (w : World) (h : SeqAt B w b v q) (hq : q.els.length ≤ 5000) (hl0 : 0 ≤ q.len) (hl1 : q.len ≤ 4096) (hi64 : ∀ x ∈ q.els, I64 x) :
    Calls Try.prog 52 #[.pointer (some ⟨b, 0, none⟩)] w fun e w' => ∃ u, e = .returned (.tuple #[u, .bool (sqOut q).isSome]) ∧ SqRes w.heap.size w' (sqOut q) u ∧ Touch (SqB b v) w w' := by
  obtain ⟨len, els⟩ := q
  simp only at hq hl0 hl1 hi64
  obtain ⟨n, rfl⟩ := Int.eq_ofNat_of_zero_le hl0
  have hn : n ≤ 4096 := by omega
  have y0 := h.blk.cell 0
  simp only [List.getElem?_toArray, List.getElem?_cons_zero] at y0
  have hbl := h.blk.lt
  have HSQ := Lib.hid h
  have hpi : ∀ x ∈ pad n els, I64 x := by
    intro x hx
    unfold pad at hx
    rcases List.mem_append.1 hx with h | h
    · exact hi64 x h
    · rw [(List.mem_replicate.1 h).2]; simp [I64]
  have HPI := Lib.hid hpi
  have HOUT : Hid (sqOut ⟨n, els⟩ = if ((pad n els).drop n).all (fun x => x == 0) = true then some ((pad n els).take n) else none) := rfl
  have hpl : n ≤ (pad n els).length := by rw [pad_len]; omega
  have hpl2 : (pad n els).length ≤ 5000 := by rw [pad_len]; omega
  clear h hi64 hpi
  go_enter Try.func52, Try.ntmps52
  go_wp2_with fail
  refine (extend_any B b n _ _ _ HSQ.out (by omega) hq).mono ?_
  rintro e w1 ⟨rfl, v1, hsq1, ht1, hv1⟩
  simp only at hsq1
  generalize hpp : pad n els = P at *
  obtain ⟨a1, c1, rfl⟩ := own_form hsq1.els
  obtain ⟨np, hnp⟩ : ∃ np, P.length = np := ⟨_, rfl⟩
  have HNP := Lib.hid hnp
  rw [hnp] at hpl hpl2 hsq1 hv1
  have hels : IntsNew B w1 (.slice a1 np c1) P := hsq1.els
  rcases hels.2 with ⟨he, h0⟩ | ⟨g, cap, cur, he, hg, hh, hn2, hm2, hc2, htk⟩
  · injection he with e1 e2 e3
    subst e1 e2 e3
    have hn0 : n = 0 := by omega
    subst hn0
    have hP : P = [] := List.eq_nil_of_length_eq_zero HNP.out
    subst hP
    have hout : sqOut ⟨(0 : Nat), els⟩ = some [] := HOUT.out
    have HO := Lib.hid hout
    have z0 := hsq1.blk.cell 0
    have z1 := hsq1.blk.cell 1
    simp only [List.getElem?_toArray, List.getElem?_cons_succ, List.getElem?_cons_zero] at z0 z1
    have hb1 : b < w1.heap.size := hsq1.blk.lt
    have HT1 := Lib.hid ht1
    have hsz1 := ht1.size
    have HIN : Hid (∀ w', IntsAt w' (.slice none 0 0) []) := fun w' => ⟨⟨none, 0, rfl, Nat.le_refl _, by unfold maxLen; omega, fun h => absurd h (by decide)⟩, by simp⟩
    clear hsq1 hels ht1 hv1 hpp hnp hl0 hl1 y0 hout h0 hpl hpl2
    go_wp2
    go_quiet (fail)
    obtain ⟨W2, hW2⟩ : ∃ W2, W2 = w1.drewN nq := ⟨_, rfl⟩
    rw [← hW2]
    have hb2 : Below w1.heap.size w1 W2 := by rw [hW2]; exact ⟨rfl, rfl, rfl, Nat.le_refl _, fun _ _ => rfl⟩
    have x0 := cell_below hb2 hb1 z0
    have x1 := cell_below hb2 hb1 z1
    have HT2 : Hid (Touch (SqB b v) w W2) := by rw [hW2]; exact HT1.out.drewN nq
    have hsz2 : w.heap.size ≤ W2.heap.size := by rw [hW2]; exact hsz1
    have hb2' : b < W2.heap.size := Nat.lt_of_lt_of_le hb1 hb2.size
    clear z0 z1 hb2 hW2
    go_wp2
    go_loopg [22] 0 (fun q i wr => i = .int .i64 0 ∧ wr = W2)
    case atStart => exact ⟨rfl, rfl⟩
    case round =>
      obtain ⟨rfl, rfl⟩ := hrel
      go_wp2
      go_region_held3 (fun w' => w'.cell? ⟨b, 0, none⟩ = some (.int .i64 (0 : Nat)) ∧ w'.cell? ⟨b, 1, none⟩ = some (.slice none 0 0)) (first | exact ⟨x0, x1⟩ | exact ⟨cell_below (below_drew (below_undrew Hb3.out)) hb2' x0, cell_below (below_undrew Hb3.out) hb2' x1⟩ | go_keep) (first | (go_at_call 40; refine (clone_any [] _ _ (HIN.out _) (by simp)).mono ?_; rintro e w3 ⟨u3, rfl, hown3, hb3⟩; have Hown3 := Lib.hid hown3; have Hb3 := Lib.hid hb3; clear hown3 hb3))
      go_wp2
      go_ret2
      refine ⟨u3, ?_, ?_, ?_⟩
      · rw [HO.out]
        rfl
      · rw [HO.out]
        refine own_mono ?_ hsz2
        exact Hown3.out
      · exact HT2.out.trans (Touch.of_below (below_undrew Hb3.out)) (fun _ _ h => h)
  · injection he with e1 e2 e3
    subst e1 e3
    clear e2
    have hz := IntsAt.of_own hels HPI.out
    have hsub := IntsAt.sub hels HPI.out hpl
    have z0 := hsq1.blk.cell 0
    have z1 := hsq1.blk.cell 1
    simp only [List.getElem?_toArray, List.getElem?_cons_succ, List.getElem?_cons_zero] at z0 z1
    have hb1 : b < w1.heap.size := hsq1.blk.lt
    have hg1 : g < w1.heap.size := (Array.getElem?_eq_some_iff.1 hh).1
    obtain ⟨⟨a2, c2, he2, -, -, hq2⟩, -⟩ := hz
    have HQ : Hid (∀ i x, P[i]? = some x → w1.cell? ⟨g, i, none⟩ = some (.int .i64 x)) := by
      intro i x hx
      have hi : i < P.length := (List.getElem?_eq_some_iff.1 hx).1
      obtain ⟨g', o, e, _, hq⟩ := hq2 (by omega)
      injection he2 with f1 f2 f3
      rw [e] at f1
      injection f1 with f1
      injection f1 with f1 f4
      subst f1 f4
      have := hq i x hx
      rwa [Nat.zero_add] at this
    have HS1 := Lib.hid hsq1
    have HT1 := Lib.hid ht1
    have HSUB := Lib.hid hsub
    have n0 : (0 : Int) ≤ (n : Int) := Int.natCast_nonneg _
    have n1 : (n : Int) ≤ (np : Int) := by omega
    have n2 : (np : Int) ≤ (c1 : Int) := by omega
    have hsz1 := ht1.size
    clear hsq1 hels ht1 hv1 hsub hh hc2 htk he2 hq2 hpp hnp hl0 hl1 y0
    go_wp2
    go_quiet (fail)
    obtain ⟨W2, hW2⟩ : ∃ W2, W2 = w1.drewN nq := ⟨_, rfl⟩
    rw [← hW2]
    have hb2 : Below w1.heap.size w1 W2 := by rw [hW2]; exact ⟨rfl, rfl, rfl, Nat.le_refl _, fun _ _ => rfl⟩
    have x0 := cell_below hb2 hb1 z0
    have x1 := cell_below hb2 hb1 z1
    have HQ2 : Hid (∀ i x, P[i]? = some x → W2.cell? ⟨g, i, none⟩ = some (.int .i64 x)) := fun i x hx => cell_below hb2 hg1 (HQ.out i x hx)
    have HSUB2 := Lib.hid (HSUB.out.below hb2 (Nat.le_refl _))
    have HT2 : Hid (Touch (SqB b v) w W2) := by rw [hW2]; exact HT1.out.drewN nq
    have hsz2 : w.heap.size ≤ W2.heap.size := by rw [hW2]; exact hsz1
    have hb2' : b < W2.heap.size := Nat.lt_of_lt_of_le hb1 hb2.size
    clear z0 z1 hb2 hW2
    generalize had : (if c1 = n then some (⟨g, 0, none⟩ : Addr) else some ⟨g, n, none⟩) = ad
    have HAD : Hid (n < np → ad = some ⟨g, n, none⟩) := by
      intro hlt
      rw [← had, if_neg (by omega)]
    clear had
    obtain ⟨mm, hmm⟩ : ∃ mm, mm = np - n := ⟨_, rfl⟩
    rw [← hmm]
    have HMM := Lib.hid hmm
    have hmm5 : mm ≤ 5000 := by omega
    clear hmm
    go_wp2
    go_loopg [22] mm (fun q i wr => ∃ k : Nat, k + q = mm ∧ i = .int .i64 k ∧ wr = W2 ∧ ∀ t, t < k → P.getD (n + t) 0 = 0)
    case atStart => exact ⟨0, by omega, rfl, rfl, fun t ht => absurd ht (by omega)⟩
    case round =>
      obtain ⟨k, hk, rfl, rfl, hall⟩ := hrel
      have Hk := Lib.hid hk
      have hkm : k ≤ mm := by omega
      have HALL := Lib.hid hall
      clear hk hall
      by_cases hlt : k < mm
      · have hlt' : (k : Int) < (mm : Int) := by omega
        have hk0 : (0 : Int) ≤ (k : Int) := Int.natCast_nonneg _
        have hmm := HMM.out
        have hnk : n + k < P.length := by rw [HNP.out]; omega
        have had := HAD.out (by omega)
        subst had
        have hx := List.getElem?_eq_getElem hnk
        have hxd : P.getD (n + k) 0 = P[n + k] := by rw [List.getD_eq_getElem?_getD, hx]; rfl
        have hc := HQ2.out (n + k) _ hx
        rw [← hxd] at hc
        have HXD := Lib.hid hxd
        generalize hxx : P.getD (n + k) 0 = x at *
        have HXX := Lib.hid hxx
        clear hx hxd hmm hxx
        by_cases hx0 : x = 0
        · subst hx0
          have t0 : ((0 : Int) != 0) = false := by simp
          go_wp2
          have hk := Hk.out
          go_roundg (mm - (k + 1))
          case measure => omega
          case rel =>
            refine ⟨k + 1, by omega, by go_num, rfl, fun t ht => ?_⟩
            rcases Nat.lt_or_ge t k with h | h
            · exact HALL.out t h
            · have : t = k := by omega
              rw [this]
              exact HXX.out
        · have t0 : (x != 0) = true := by simpa using hx0
          go_wp2
          go_ret2
          refine ⟨.slice none 0 0, ?_, ?_, HT2.out⟩ <;>
          rw [HOUT.out, if_neg (fun hall => hx0 (by
            rw [List.all_eq_true] at hall
            have := hall x (by
              rw [HXD.out, List.mem_iff_getElem]
              exact ⟨k, by rw [List.length_drop, HNP.out]; have := HMM.out; omega, by rw [List.getElem_drop]⟩)
            simpa using this))]
          · rfl
          · rfl
      · have hge : ¬ (k : Int) < (mm : Int) := by omega
        have n1 : (n : Int) ≤ (np : Int) := by omega
        have n2 : (np : Int) ≤ (c1 : Int) := by omega
        have n0 : (0 : Int) ≤ (n : Int) := Int.natCast_nonneg _
        have n3 : (n : Int) ≤ (c1 : Int) := by omega
        have hout : sqOut ⟨n, els⟩ = some (P.take n) := by
          rw [HOUT.out, if_pos]
          rw [List.all_eq_true]
          intro x hx
          obtain ⟨t, ht, he⟩ := List.mem_iff_getElem.1 hx
          rw [List.length_drop, HNP.out] at ht
          have hmm := HMM.out
          have h0 := HALL.out t (by omega)
          rw [List.getElem_drop] at he
          rw [List.getD_eq_getElem?_getD, List.getElem?_eq_getElem (by rw [HNP.out]; omega), Option.getD_some] at h0
          rw [← he, h0]
          rfl
        have HO := Lib.hid hout
        clear hout
        go_wp2
        go_region_held3 (fun w' => w'.cell? ⟨b, 0, none⟩ = some (.int .i64 n) ∧ w'.cell? ⟨b, 1, none⟩ = some (.slice (some ⟨g, 0, none⟩) np c1)) (first | exact ⟨x0, x1⟩ | exact ⟨cell_below (below_drew (below_undrew Hb3.out)) hb2' x0, cell_below (below_undrew Hb3.out) hb2' x1⟩ | go_keep) (first | (go_at_call 40; refine (clone_any (P.take n) _ _ (by exact HSUB2.out) (by rw [List.length_take]; omega)).mono ?_; rintro e w3 ⟨u3, rfl, hown3, hb3⟩; have Hown3 := Lib.hid hown3; have Hb3 := Lib.hid hb3; clear hown3 hb3))
        go_wp2
        go_ret2
        refine ⟨u3, ?_, ?_, ?_⟩
        · rw [HO.out]
          rfl
        · rw [HO.out]
          refine own_mono ?_ hsz2
          have h := Hown3.out
          have hl : (P.take n).length = n := by rw [List.length_take, HNP.out]; omega
          exact h
        · exact HT2.out.trans (Touch.of_below (below_undrew Hb3.out)) (fun _ _ h => h)

end Go.Proofs.Ytpbbiidfahaamaa
