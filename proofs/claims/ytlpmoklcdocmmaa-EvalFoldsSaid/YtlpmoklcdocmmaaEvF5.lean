/- The walk of fold. -/
import Derived.Test.YtlpmoklcdocmmaaEvF4
import Derived.Deep.QuietTactic
import Derived.BigQuiet
namespace Go.Proofs.Ytlpmoklcdocmmaa
open Go.RowKit

theorem below_drewN {B : Nat} {a w : World} (h : Below B a w) (n : Nat) : Below B a (w.drewN n) := ⟨h.os, h.tape, h.output, h.size, h.block⟩
theorem FoldsP.next {B E E' : Nat} {w w' : World} {u : Value} {fs : List F} (h : FoldsP (PB B E w) w u fs) (hB : B ≤ w.heap.size) (hE : E' ≤ E) (hb : Below w.heap.size w w') : FoldsP (PB B E' w') w' u fs :=
  SliceAt.mono h hb.size (fun _ _ hg hq i f hi => (hq i f hi).nodes (fun _ _ _ e => cell_below hb hg e) (fun _ hv => hv.next hB hE hb))

theorem results_fold1 {fn : Func} {r : Tmp} (h : fn.results = #[.cell r 63]) (tmps : Array Value) (w : World) (g : Nat) (c0 c1 c2 c3 c4 c5 : Value) (hp : tmps.getD r undef = .pointer (some ⟨g, 0, none⟩)) (hb : Blk w g 63 #[c0, c1, c2, c3, c4, c5]) :
    (results fn tmps).run Try.prog w = .ok (.agg #[c0, c1, c2, c3, c4, c5]) w := by
  have b0 := hb.cell 0
  have b1 := hb.cell 1
  have b2 := hb.cell 2
  have b3 := hb.cell 3
  have b4 := hb.cell 4
  have b5 := hb.cell 5
  rw [Array.getD_eq_getD_getElem?] at hp
  simp [results, h, hp, go_sem, b0, b1, b2, b3, b4, b5]

def set6 (w : World) (g : Nat) (a b c d e f : Value) : World := (((((w.setCell ⟨g, 0, none⟩ a).setCell ⟨g, 1, none⟩ b).setCell ⟨g, 2, none⟩ c).setCell ⟨g, 3, none⟩ d).setCell ⟨g, 4, none⟩ e).setCell ⟨g, 5, none⟩ f
theorem set6_blk {w : World} {g : Nat} {t : TypeId} {x0 x1 x2 x3 x4 x5 : Value} (h : Blk w g t #[x0, x1, x2, x3, x4, x5]) (a b c d e f : Value) : Blk (set6 w g a b c d e f) g t #[a, b, c, d, e, f] := (((((h.set 0 a).set 1 b).set 2 c).set 3 d).set 4 e).set 5 f
theorem set6_far {w : World} {g k : Nat} (h : k ≠ g) (a b c d e f : Value) : (set6 w g a b c d e f).heap[k]? = w.heap[k]? := by
  unfold set6
  rw [Below.heap_setCell _ ⟨g, 5, none⟩ _ k h, Below.heap_setCell _ ⟨g, 4, none⟩ _ k h, Below.heap_setCell _ ⟨g, 3, none⟩ _ k h, Below.heap_setCell _ ⟨g, 2, none⟩ _ k h, Below.heap_setCell _ ⟨g, 1, none⟩ _ k h, Below.heap_setCell _ ⟨g, 0, none⟩ _ k h]
theorem set6_below {B : Nat} {W w : World} (h : Below B W w) {g : Nat} (hg : B ≤ g) (a b c d e f : Value) : Below B W (set6 w g a b c d e f) :=
  (((((h.setCell (p := ⟨g, 0, none⟩) hg a).setCell (p := ⟨g, 1, none⟩) hg b).setCell (p := ⟨g, 2, none⟩) hg c).setCell (p := ⟨g, 3, none⟩) hg d).setCell (p := ⟨g, 4, none⟩) hg e).setCell (p := ⟨g, 5, none⟩) hg f

theorem kids_all {k n : Int} {s : ByteArray} {ks : List T} (h : isN k n s (isL ks) = true) : (∀ t ∈ ks, isT t = true) ∧ ks.length ≤ 2 ∧ (1 ≤ k ∧ k ≤ 23) ∧ (k = 6 ∨ k = 7 → 1 ≤ ks.length) ∧ (8 ≤ k → 2 ≤ ks.length) := by
  rcases isN_cases h with ⟨rfl, _, _, e⟩ | ⟨hk, _, e⟩ | ⟨rfl, _, e⟩ | ⟨hk, _, e⟩ | ⟨hk, _, e⟩
  · have : ks = [] := List.eq_nil_of_length_eq_zero (by rw [← isL_len, e]; rfl)
    subst this
    exact ⟨by simp, by simp, by omega, by omega, by omega⟩
  · have : ks = [] := List.eq_nil_of_length_eq_zero (by rw [← isL_len, e]; rfl)
    subst this
    exact ⟨by simp, by simp, by omega, by omega, by omega⟩
  · obtain ⟨t, rfl, ht⟩ := isL_one e
    exact ⟨by simpa using ht, by simp, by omega, by simp, by omega⟩
  · obtain ⟨t, rfl, ht⟩ := isL_one e
    exact ⟨by simpa using ht, by simp, by omega, by simp, by omega⟩
  · obtain ⟨t, t', rfl, ht, ht'⟩ := isL_two e
    exact ⟨by simp [ht, ht'], by simp, by omega, by simp, by simp⟩

/-- the nodes of a row that each has made -/
theorem NList.kids {B E E' : Nat} {w3 w4 wf : World} {base : Nat} {ar : Option Addr} {cr : Nat} {xs : List Value} {fs : List F} (h : NList (PB B E w3) w3 xs fs) (hown : w4.ownsRow base 24 4 (.slice ar fs.length cr) fs.length xs) (hE : E' ≤ E) (hE2 : E' ≤ base)
    (hold : ∀ g, PB B E w3 g → wf.heap[g]? = w3.heap[g]?) (hnew : ∀ g, base ≤ g → g < w4.heap.size → wf.heap[g]? = w4.heap[g]?) : KidsP (PB B E' wf) wf (.slice ar fs.length cr) (fs.map (·.1)) := by
  rcases hown.2 with ⟨e, h0⟩ | ⟨g, cap, cur, e, hb, hg, hn, hm, hc, ht⟩
  · rw [List.eq_nil_of_length_eq_zero h0] at e ⊢
    injection e with e1 _ e3
    subst e1 e3
    exact kidsP_none _ _
  · injection e with e1 _ e3
    subst e1 e3
    have hlt : g < w4.heap.size := (Array.getElem?_eq_some_iff.1 hg).1
    refine ⟨_, cr, by rw [List.length_map], by rw [List.length_map]; exact hn, hm, fun hp => ⟨g, 0, rfl, .inr ⟨Nat.le_trans hE2 hb, cur, (hnew g hb hlt).trans hg⟩, NodesP.of fun i t hi => ?_⟩⟩
    rw [List.getElem?_map] at hi
    cases hf : fs[i]? with
    | none => rw [hf] at hi; cases hi
    | some f =>
      rw [hf] at hi
      simp only [Option.map_some, Option.some.injEq] at hi
      subst hi
      obtain ⟨kd, nm, s, a, n, cc, h0, h1, h2, h3, h4⟩ := h.2 i f hf
      have hil : i < fs.length := (List.getElem?_eq_some_iff.1 hf).1
      have key : ∀ j, j < 4 → wf.cell? ⟨g, 0 + (i * 4 + j), none⟩ = xs[i * 4 + j]? := fun j hj => by
        rw [World.cell?_of_block (a := ⟨g, 0 + (i * 4 + j), none⟩) (hnew g hb hlt), Nat.zero_add]
        exact hown.cellAt _ (by omega)
      refine ⟨_, _, _, _, (key 0 (by omega)).trans h0, ?_, ?_, ?_, h4.far hE hold⟩
      · have := (key 1 (by omega)).trans h1; rwa [← Nat.add_assoc] at this
      · have := (key 2 (by omega)).trans h2; rwa [← Nat.add_assoc] at this
      · have := (key 3 (by omega)).trans h3; rwa [← Nat.add_assoc] at this

set_option maxRecDepth 100000 in
set_option maxHeartbeats 8000000 in
theorem fold_any : ∀ (t : T), isT t = true → ∀ (v : Value) (W0 w : World), NodeAt W0 v t → Below W0.heap.size W0 w → Calls Try.prog 38 #[v] w (FoldR W0.heap.size (foldF t) w) := by
  intro t
  induction t using T.ind with
  | h kd nm s ks ih =>
    intro hT v W0 w h hb
    have hgood := fold_good [] _ v h hT
    rw [isT] at hT
    obtain ⟨hall, hlen, hk123, hl1, hl2⟩ := kids_all hT
    obtain ⟨u, rfl, hk255, hnm, hs, hkids⟩ := NodeAt.mk_iff.1 h
    obtain ⟨a, c, rfl, -, -, -⟩ := id hkids
    have hfl := foldL_len ks
    have hi64 : I64 (foldF (.mk kd nm s ks)).2.1 := hgood.2.2.1
    rw [foldF] at hi64 ⊢
    obtain ⟨n, hnk⟩ : ∃ n, n = ks.length := ⟨_, rfl⟩
    obtain ⟨w1, hw1⟩ : ∃ w1, w1 = (w.alloc (.cells #[.int .u8 kd, .int .i64 nm, .string s, .slice a n c] 24)).alloc (.cells #[.int .u8 0, .int .i64 0, .string ⟨#[]⟩, .slice none 0 0, .int .i64 0, .bool false] 63) := ⟨_, rfl⟩
    have hb1 : Below w.heap.size w w1 := by rw [hw1]; exact (below_alloc _ _).alloc (by simp) _
    have hk1 : Blk w1 w.heap.size 24 #[.int .u8 kd, .int .i64 nm, .string s, .slice a n c] := by rw [hw1]; exact (Blk.new _ _ _).al _
    have hr1 : Blk w1 (w.heap.size + 1) 63 #[.int .u8 0, .int .i64 0, .string ⟨#[]⟩, .slice none 0 0, .int .i64 0, .bool false] := by rw [hw1]; exact Blk.new' (by simp)
    have hs1 : w1.heap.size = w.heap.size + 1 + 1 := by rw [hw1]; simp
    have hbW1 : Below W0.heap.size W0 w1 := below_next hb (Nat.le_refl _) hb1
    have hsz0 := hb.size
    have HE1 := Lib.hid (each1_any ks W0 w1 (.slice a ks.length c) hkids hbW1 (by omega) (fun t ht => ih t ht (hall t ht)))
    rw [← hnk] at HE1 hfl ⊢
    have HN := Lib.hid hnk
    have HB := Lib.hid hb
    have HB1 := Lib.hid hb1
    have HK1 := Lib.hid hk1
    have HR1 := Lib.hid hr1
    have HW1 := Lib.hid hw1
    have HMK := Lib.hid (And.intro hk255 (And.intro hnm hs))
    have HI64 := Lib.hid hi64
    have HL := Lib.hid (And.intro hl1 hl2)
    generalize foldL ks = fs at *
    have HFL := Lib.hid hfl
    have hn2 : n ≤ 2 := by omega
    have hk123' := hk123
    clear hgood hT hall hkids hk255 hnm hs hfl hi64 hnk hw1 hb1 hk1 hr1 hbW1 h hl1 hl2 ih hk123 hb
    have k3 := HK1.out.cell 3
    rw [HW1.out] at k3
    go_enter Try.func38, Try.ntmps38
    go_wp2_with fail
    rw [← HW1.out]
    refine HE1.out.mono ?_
    rintro e w2 ⟨u3, rfl, hfo, hb2⟩
    obtain ⟨a3, c3, rfl, -, -, -⟩ := id hfo
    rw [HFL.out] at hfo ⊢
    have HFO := Lib.hid hfo
    have HB2 := Lib.hid hb2
    have hs2 := hb2.size
    have hk2 := HK1.out.next hb2
    have HK2 := Lib.hid hk2
    have j0 := hk2.cell 0
    have j1 := hk2.cell 1
    have j2 := hk2.cell 2
    have j3 := hk2.cell 3
    have HR2 := Lib.hid (HR1.out.next hb2)
    have HCV := Lib.hid (cvalue_any _ fs kd nm s a n c w2 _ hfo (by rw [HFL.out]; omega) hk123' (by rw [HFL.out, HN.out]; exact HL.out.1) (by rw [HFL.out, HN.out]; exact HL.out.2))
    have HFN : Hid (foldN kd nm s fs = if (cvN kd nm fs).2 = true then (litT (cvN kd nm fs).1, (cvN kd nm fs).1, true) else (.mk kd nm s (fs.map (·.1)), 0, false)) := rfl
    generalize foldN kd nm s fs = FN at *
    generalize cvN kd nm fs = CV at *
    obtain ⟨v, ok⟩ := CV
    clear hfo hb2 hk2 HE1 k3 HL
    go_wp2_with fail
    refine HCV.out.mono ?_
    rintro e w3 ⟨rfl, hb3⟩
    have HB3 := Lib.hid hb3
    have hs3 := hb3.size
    have HK3 := Lib.hid (HK2.out.next hb3)
    have hr3 := HR2.out.next hb3
    have HR3 := Lib.hid hr3
    clear hb3 HCV j0 j1 j2 j3 hr3
    cases ok with
    | true =>
      have hfn : FN = (litT v, v, true) := HFN.out.trans (if_pos rfl)
      subst hfn
      have HLC := Lib.hid (lit_any v HI64.out W0.heap.size w3)
      go_wp2_with fail
      refine HLC.out.mono ?_
      rintro e w4 ⟨kd4, nm4, s4, a4, n4, c4, rfl, hnode, hb4⟩
      have HND := Lib.hid hnode
      have HB4 := Lib.hid hb4
      have hs4 := hb4.size
      have hr4 := HR3.out.next hb4
      have hlt4 : w.heap.size + 1 < w4.heap.size := hr4.lt
      have HR4 := Lib.hid hr4
      have y0 := hr4.cell 0
      have z0 := hr4.free 0
      have y1 := hr4.cell 1
      have z1 := hr4.free 1
      have y2 := hr4.cell 2
      have z2 := hr4.free 2
      have y3 := hr4.cell 3
      have z3 := hr4.free 3
      have y4 := hr4.cell 4
      have z4 := hr4.free 4
      have y5 := hr4.cell 5
      have z5 := hr4.free 5
      clear hb4 hnode hr4 HLC
      go_wp2_with fail
      have hb24 : Below w.heap.size w w4 := below_next (below_next (below_next HB1.out (Nat.le_refl _) HB2.out) (Nat.le_refl _) HB3.out) (Nat.le_refl _) HB4.out
      refine bodyPost_ret (results_fold1 rfl _ _ (w.heap.size + 1) _ _ _ _ _ _ rfl (set6_blk HR4.out _ _ _ _ _ _)) rfl ⟨kd4, nm4, s4, a4, n4, c4, rfl, HND.out.far (by omega) (fun g hg => set6_far (fun e => ?_) _ _ _ _ _ _), HI64.out, set6_below hb24 (by omega) _ _ _ _ _ _⟩
      subst e
      rcases hg with hg | ⟨hg, _⟩ <;> omega
    | false =>
      have hfn : FN = (.mk kd nm s (fs.map (·.1)), 0, false) := HFN.out.trans (if_neg (by simp))
      subst hfn
      have HLC := Lib.hid (each2_any (PB W0.heap.size w1.heap.size w3) fs w3 _ (HFO.out.next (by omega) (Nat.le_refl _) HB3.out) (by rw [HFL.out]; omega))
      go_wp2_with fail
      refine HLC.out.mono ?_
      rintro e w4 ⟨r, xs, rfl, hown, hnl, hb4⟩
      obtain ⟨ar, cr, rfl⟩ := own_form hown
      have HOWN := Lib.hid hown
      have HNL := Lib.hid hnl
      have HB4 := Lib.hid hb4
      have hs4 := hb4.size
      have hr4 := HR3.out.next hb4
      have hk4 := HK3.out.next hb4
      have hlt4 : w.heap.size + 1 < w4.heap.size := hr4.lt
      have hlt4' : w.heap.size < w4.heap.size := by omega
      have HR4 := Lib.hid hr4
      have HK4 := Lib.hid hk4
      have x0 := hk4.cell 0
      have x1 := hk4.cell 1
      have x2 := hk4.cell 2
      have x3 := hk4.cell 3
      have v3 := hk4.free 3
      have y0 := hr4.cell 0
      have z0 := hr4.free 0
      have y1 := hr4.cell 1
      have z1 := hr4.free 1
      have y2 := hr4.cell 2
      have z2 := hr4.free 2
      have y3 := hr4.cell 3
      have z3 := hr4.free 3
      have y4 := hr4.cell 4
      have z4 := hr4.free 4
      have y5 := hr4.cell 5
      have z5 := hr4.free 5
      clear hb4 hown hnl hr4 hk4 HLC
      go_wp2_with fail
      have hb24 : Below w.heap.size w w4 := below_next (below_next (below_next HB1.out (Nat.le_refl _) HB2.out) (Nat.le_refl _) HB3.out) (Nat.le_refl _) HB4.out
      have hfar : ∀ g, g ≠ w.heap.size → g ≠ w.heap.size + 1 → (set6 (w4.setCell ⟨w.heap.size, 3, none⟩ (.slice ar fs.length cr)) (w.heap.size + 1) (.int .u8 kd) (.int .i64 nm) (.string s) (.slice ar fs.length cr) (.int .i64 0) (.bool false)).heap[g]? = w4.heap[g]? := fun g h1 h2 =>
        (set6_far h2 _ _ _ _ _ _).trans (Below.heap_setCell w4 ⟨w.heap.size, 3, none⟩ _ g h1)
      have hmk := HMK.out
      refine bodyPost_ret (results_fold1 rfl _ _ (w.heap.size + 1) _ _ _ _ _ _ rfl (set6_blk (HR4.out.far (p := ⟨w.heap.size, 3, none⟩) (by simp) _) _ _ _ _ _ _)) rfl ⟨kd, nm, s, ar, fs.length, cr, rfl, NodeP.mk_iff.2 ⟨_, rfl, hmk.1, hmk.2.1, hmk.2.2, ?_⟩, zero_in, set6_below (hb24.setCell (p := ⟨w.heap.size, 3, none⟩) (Nat.le_refl _) _) (by omega) _ _ _ _ _ _⟩
      refine HNL.out.kids HOWN.out (by omega) (by omega) (fun g hg => ?_) (fun g h1 _ => hfar g (by omega) (by omega))
      have hlt : g < w3.heap.size := hg.lt (by omega)
      exact (hfar g (by rcases hg with hg | ⟨hg, _⟩ <;> omega) (by rcases hg with hg | ⟨hg, _⟩ <;> omega)).trans (HB4.out.block g hlt)

set_option maxRecDepth 100000 in
set_option maxHeartbeats 2000000 in
theorem const_any (t : T) (hT : isT t = true) (v : Value) (w : World) (h : NodeAt w v t) : Calls Try.prog 23 #[v] w (CvR ((foldF t).2.1, (foldF t).2.2) w) := by
  obtain ⟨kd, nm, s, a, n, c, rfl⟩ := node_form h
  have hb1 := below_alloc w (.cells #[.int .u8 kd, .int .i64 nm, .string s, .slice a n c] 24)
  have hk1 := Blk.new w 24 #[.int .u8 kd, .int .i64 nm, .string s, .slice a n c]
  have HC := Lib.hid (isexpr_any t _ _ (h.below hb1 (Nat.le_refl _)))
  rw [hT] at HC
  have HH := Lib.hid (h.below hb1 (Nat.le_refl _))
  have HT := Lib.hid hT
  have HB1 := Lib.hid hb1
  have HK1 := Lib.hid hk1
  clear h hb1 hk1 hT
  go_enter Try.func23, Try.ntmps23
  go_wp2_with fail
  refine HC.out.mono ?_
  rintro e w2 ⟨rfl, hb2⟩
  have HB2 := Lib.hid (below_next HB1.out (Nat.le_refl _) hb2)
  have hk2 := HK1.out.next hb2
  have k0 := hk2.cell 0
  have k1 := hk2.cell 1
  have k2 := hk2.cell 2
  have k3 := hk2.cell 3
  have HV := Lib.hid (fold_any t HT.out _ w2 w2 (HH.out.below hb2 (Nat.le_refl _)) (Below.refl _ _))
  generalize foldF t = f at *
  obtain ⟨f1, f2, f3⟩ := f
  clear hb2 HC hk2 HH
  go_wp2_with fail
  refine HV.out.mono ?_
  rintro e w3 ⟨kd3, nm3, s3, a3, n3, c3, rfl, -, -, hb3⟩
  have HB3 := Lib.hid (below_next HB2.out (Nat.le_refl _) hb3)
  clear hb3 HV
  go_wp2_with fail
  go_quiet (fail)
  go_wp2_with fail
  go_ret2
  exact ⟨rfl, below_drewN (HB3.out.alloc HB3.out.size _) _⟩

theorem run_field (kd nm v : Int) (s : ByteArray) (a : Option Addr) (n c : Nat) (b : Bool) (w : World) : (Instr.field 63 (.agg #[.int .u8 kd, .int .i64 nm, .string s, .slice a n c, .int .i64 v, .bool b]) 0).run Try.prog w = .ok (.agg #[.int .u8 kd, .int .i64 nm, .string s, .slice a n c]) w := by kernel_rfl

def CexR (t : T) (w : World) (e : Ending) (w' : World) : Prop := ∃ r, e = .returned r ∧ NodeAt w' r t ∧ Below w.heap.size w w'

set_option maxRecDepth 100000 in
set_option maxHeartbeats 2000000 in
theorem cexpr_any (t : T) (hT : isT t = true) (v : Value) (w : World) (h : NodeAt w v t) : Calls Try.prog 24 #[v] w (CexR (foldF t).1 w) := by
  obtain ⟨kd, nm, s, a, n, c, rfl⟩ := node_form h
  obtain ⟨w1, hw1⟩ : ∃ w1, w1 = (w.alloc (.cells #[.int .u8 kd, .int .i64 nm, .string s, .slice a n c] 24)).alloc (.cells #[.int .u8 0, .int .i64 0, .string ⟨#[]⟩, .slice none 0 0] 24) := ⟨_, rfl⟩
  have hb1 : Below w.heap.size w w1 := by rw [hw1]; exact (below_alloc _ _).alloc (by simp) _
  have hk1 : Blk w1 w.heap.size 24 #[.int .u8 kd, .int .i64 nm, .string s, .slice a n c] := by rw [hw1]; exact (Blk.new _ _ _).al _
  have hr1 : Blk w1 (w.heap.size + 1) 24 #[.int .u8 0, .int .i64 0, .string ⟨#[]⟩, .slice none 0 0] := by rw [hw1]; exact Blk.new' (by simp)
  have HC := Lib.hid (isexpr_any t _ _ (h.below hb1 (Nat.le_refl _)))
  rw [hT] at HC
  have HH0 := Lib.hid h
  have HT := Lib.hid hT
  have HB1 := Lib.hid hb1
  have HK1 := Lib.hid hk1
  have HR1 := Lib.hid hr1
  have HW1 := Lib.hid hw1
  clear h hb1 hk1 hT hw1 hr1
  have hrf := run_field
  go_enter Try.func24, Try.ntmps24
  go_wp2_with fail
  rw [← HW1.out]
  refine HC.out.mono ?_
  rintro e w2 ⟨rfl, hb2⟩
  have HB2 := Lib.hid (below_next HB1.out (Nat.le_refl _) hb2)
  have hk2 := HK1.out.next hb2
  have k0 := hk2.cell 0
  have k1 := hk2.cell 1
  have k2 := hk2.cell 2
  have k3 := hk2.cell 3
  have HR2 := Lib.hid (HR1.out.next hb2)
  have HV := Lib.hid (fold_any t HT.out _ w w2 HH0.out HB2.out)
  generalize foldF t = f at *
  obtain ⟨f1, f2, f3⟩ := f
  clear hb2 HC hk2 HH0
  go_wp2_with fail
  refine HV.out.mono ?_
  rintro e w3 ⟨kd3, nm3, s3, a3, n3, c3, rfl, hnd, -, hb3⟩
  have HB3 := Lib.hid (below_next HB2.out (Nat.le_refl _) hb3)
  have HS3 := Lib.hid hb3.size
  have HS2 := Lib.hid HB2.out.size
  have HND := Lib.hid hnd
  have hr3 := HR2.out.next hb3
  have HR2S := Lib.hid HR2.out.lt
  have hlt3 : w.heap.size + 1 < w3.heap.size := hr3.lt
  have HR3 := Lib.hid hr3
  have y0 := hr3.cell 0
  have y1 := hr3.cell 1
  have y2 := hr3.cell 2
  have y3 := hr3.cell 3
  have z0 := hr3.free 0
  have z1 := hr3.free 1
  have z2 := hr3.free 2
  have z3 := hr3.free 3
  clear hb3 HV hnd hr3
  go_wp2_with fail
  have hs3 := HS3.out
  have hs2 := HS2.out
  have hl2 := HR2S.out
  have hset : ∀ g, g ≠ w.heap.size + 1 → (set4 w3 (w.heap.size + 1) (.int .u8 kd3) (.int .i64 nm3) (.string s3) (.slice a3 n3 c3)).heap[g]? = w3.heap[g]? := fun g hg => by
    unfold set4
    rw [Below.heap_setCell _ ⟨w.heap.size + 1, 3, none⟩ _ g hg, Below.heap_setCell _ ⟨w.heap.size + 1, 2, none⟩ _ g hg, Below.heap_setCell _ ⟨w.heap.size + 1, 1, none⟩ _ g hg, Below.heap_setCell _ ⟨w.heap.size + 1, 0, none⟩ _ g hg]
  have hn2 := HND.out.far (E' := w2.heap.size) (Nat.le_refl _) (fun g hg => hset g (by
    rcases hg with hg | ⟨hg, _⟩ <;> omega))
  refine bodyPost_ret (results_node1 rfl _ _ (w.heap.size + 1) _ _ _ _ rfl (set4_blk HR3.out _ _ _ _)) rfl ⟨_, rfl, hn2.at_ (fun g hg => hg.lt (by rw [set4_size]; omega)), set4_below HB3.out (by omega) _ _ _ _⟩
end Go.Proofs.Ytlpmoklcdocmmaa
