/- Walks: Fits, the reference's Fits. -/
import Derived.Test.YtklbaocgjegdfaaStW2
namespace Go.Proofs.Ytklbaocgjegdfaa
open Go.RowKit

theorem SliceAt.get {w : World} {a : Option Addr} {m c n : Nat} {Q : Nat → Nat → Prop} (h : SliceAt w (.slice a m c) n Q) (hm : 0 < m) : ∃ g o, a = some ⟨g, o, none⟩ ∧ g < w.heap.size ∧ Q g o := by
  obtain ⟨a', c', he, _, _, hq⟩ := h
  obtain ⟨rfl, rfl, rfl⟩ := Value.slice.inj he
  exact hq hm

theorem three_new (w : World) (x y z : Value) (t : TypeId) : (w.alloc (.cells #[x, y, z] t)).cell? ⟨w.heap.size, 0, none⟩ = some x ∧ (w.alloc (.cells #[x, y, z] t)).cell? ⟨w.heap.size, 1, none⟩ = some y ∧ (w.alloc (.cells #[x, y, z] t)).cell? ⟨w.heap.size, 2, none⟩ = some z := by
  refine ⟨?_, ?_, ?_⟩ <;> (rw [World.cell?_alloc_at _ _ _ _ rfl]; rfl)

def fitD (d : Decl) (n : Nat) : Bool := if d.kind = 3 then decide (n ≤ 1000) else decide ((n : Int) = fixedZ d)
def fitAll (D : List Decl) (L : List (List Int)) : Bool := (D.zip L).all fun p => fitD p.1 p.2.length
def fitsB (D : List Decl) (s : St) : Bool := validB D && decide (s.cells.length = D.length) && decide (s.inp.length ≤ 4096) && decide (s.out.length ≤ 4096) && fitAll D s.cells

set_option maxRecDepth 100000 in
set_option maxHeartbeats 4000000 in
theorem fits_any (D : List Decl) (s : St) (u v : Value) (w : World) (h1 : DeclsAt w u D) (h2 : StAt w v s) :
    Calls Try.prog 25 #[u, v] w fun e w' => e = .returned (.bool (fitsB D s)) ∧ Below w.heap.size w w' := by
  obtain ⟨c1, i1, o1, rfl, hc1, ⟨⟨ai, ci, rfl, _, _, _⟩, _⟩, ⟨⟨ao, co, rfl, _, _, _⟩, _⟩⟩ := h2
  obtain ⟨a1, k1, rfl, hn1, hm1, _⟩ := id hc1
  obtain ⟨L, I, O⟩ := s
  simp only at hc1 hn1 ⊢
  generalize hO : (Obj.cells #[.slice a1 L.length k1, .slice ai I.length ci, .slice ao O.length co] 35) = ob
  have HB0 := Lib.hid (below_alloc w ob)
  have HD := Lib.hid (h1.below HB0.out (Nat.le_refl _))
  have HL := Lib.hid (hc1.below HB0.out (Nat.le_refl _))
  have bx0 : (w.alloc ob).cell? ⟨w.heap.size, 0, none⟩ = some (.slice a1 L.length k1) := by subst hO; rw [World.cell?_alloc_at _ _ _ _ rfl]; rfl
  have bx1 : (w.alloc ob).cell? ⟨w.heap.size, 1, none⟩ = some (.slice ai I.length ci) := by subst hO; rw [World.cell?_alloc_at _ _ _ _ rfl]; rfl
  have bx2 : (w.alloc ob).cell? ⟨w.heap.size, 2, none⟩ = some (.slice ao O.length co) := by subst hO; rw [World.cell?_alloc_at _ _ _ _ rfl]; rfl
  have hlt : w.heap.size < (w.alloc ob).heap.size := by simp
  have HLT := Lib.hid hlt
  have BX0 := Lib.hid bx0
  have BX1 := Lib.hid bx1
  have BX2 := Lib.hid bx2
  have hv := valid_any D u (w.alloc ob) HD.out
  obtain ⟨ad, cd, rfl, hn, hm, _⟩ := id h1.1
  have hR : fitsB D ⟨L, I, O⟩ = (validB D && decide (L.length = D.length) && decide (I.length ≤ 4096) && decide (O.length ≤ 4096) && fitAll D L) := rfl
  have HVAL : Hid (validB D = true → ∀ d ∈ D, validD d = true) := fun h => by
    unfold validB at h
    rw [Bool.and_eq_true] at h
    exact List.all_eq_true.1 h.2
  generalize validB D = vb at *
  generalize hRR : fitsB D ⟨L, I, O⟩ = R at *
  have HR := Lib.hid hR
  have HV := Lib.hid hv
  obtain ⟨n, hnd⟩ : ∃ n, n = D.length := ⟨_, rfl⟩
  obtain ⟨m, hml⟩ : ∃ m, m = L.length := ⟨_, rfl⟩
  obtain ⟨ni, hni⟩ : ∃ ni, ni = I.length := ⟨_, rfl⟩
  obtain ⟨no, hno⟩ : ∃ no, no = O.length := ⟨_, rfl⟩
  rw [← hnd] at hn
  rw [← hml] at hn1
  have hn63 : n ≤ 9223372036854775807 := by unfold maxLen at hm; omega
  rw [← hnd, ← hml, ← hni, ← hno] at HR
  rw [← hnd] at HV HD
  rw [← hml] at HL
  rw [← hml] at BX0 hO
  rw [← hni] at BX1 hO
  rw [← hno] at BX2 hO
  rw [← hnd, ← hml, ← hni, ← hno]
  have ND := Lib.hid hnd
  have NL := Lib.hid hml
  have HO := Lib.hid hO
  clear hR hRR hv hn hm hn1 hm1 hnd hml hni hno hlt bx0 bx1 bx2 hc1 h1 hO
  go_enter Try.func25, Try.ntmps25
  go_wp2_with fail
  rw [HO.out]
  refine HV.out.mono ?_
  rintro e w1 ⟨rfl, hb1⟩
  have p0 := cell_below hb1 HLT.out BX0.out
  have p1 := cell_below hb1 HLT.out BX1.out
  have p2 := cell_below hb1 HLT.out BX2.out
  have Hb1 := Lib.hid hb1
  have HBW := Lib.hid (HB0.out.trans (hb1.mono HB0.out.size))
  clear hb1
  cases vb
  · have hr : R = false := by rw [HR.out]; rfl
    subst hr
    go_wp2
    go_ret
    exact ⟨rfl, HBW.out⟩
  have HVA := Lib.hid (HVAL.out rfl)
  clear HVAL
  by_cases l1 : m = n
  · subst l1
    by_cases l2 : 4096 < ni
    · have hr : R = false := by rw [HR.out, decide_eq_false (by omega : ¬ ni ≤ 4096)]; simp
      subst hr
      have l2' : (4096 : Int) < (ni : Int) := by omega
      go_wp2
      go_ret
      exact ⟨rfl, HBW.out⟩
    by_cases l3 : 4096 < no
    · have hr : R = false := by rw [HR.out, decide_eq_false (by omega : ¬ no ≤ 4096)]; simp
      subst hr
      have l2' : ¬ (4096 : Int) < (ni : Int) := by omega
      have l3' : (4096 : Int) < (no : Int) := by omega
      go_wp2
      go_ret
      exact ⟨rfl, HBW.out⟩
    have hr : R = fitAll D L := by
      rw [HR.out, decide_eq_true (by omega : ni ≤ 4096), decide_eq_true (by omega : no ≤ 4096)]
      simp
    have HRR := Lib.hid hr
    have l2' : (ni : Int) ≤ 4096 := by omega
    have l3' : (no : Int) ≤ 4096 := by omega
    clear hr l2 l3 HR
    go_wp2
    have HD1 := Lib.hid (HD.out.below Hb1.out (Nat.le_refl _))
    have HL1 := Lib.hid (HL.out.below Hb1.out (Nat.le_refl _))
    have hwl : w.heap.size < w1.heap.size := Nat.lt_of_lt_of_le HLT.out Hb1.out.size
    have HWL := Lib.hid hwl
    clear HD HL hwl Hb1 HB0 HLT BX0 BX1 BX2 HO p1 p2 HV
    have P0 := Lib.hid p0
    clear p0
    go_loopg [32] m (fun q i wr => ∃ k : Nat, k + q = m ∧ i = .int .i64 k ∧ Hid (((D.zip L).take k).all (fun p => fitD p.1 p.2.length) = true) ∧ Below w1.heap.size w1 wr)
    case atStart => exact ⟨0, by omega, rfl, rfl, Below.refl _ _⟩
    case round =>
      obtain ⟨k, hk, rfl, hal, hb⟩ := hrel
      have Hk := Lib.hid hk
      have hkn : k ≤ m := by omega
      have Hb := Lib.hid hb
      clear hk hb
      have hsz := Hb.out.size
      have hwl := HWL.out
      by_cases hlt : k < m
      · have hlt' : (k : Int) < (m : Int) := by omega
        obtain ⟨g1, f1, rfl, hg1, hq1⟩ := HD1.out.1.get (by omega)
        obtain ⟨g2, f2, rfl, hg2, hq2⟩ := SliceAt.get HL1.out (by omega)
        obtain ⟨d, hd⟩ := get_lt ND.out hlt
        obtain ⟨l, hl⟩ := get_lt NL.out hlt
        obtain ⟨e0, e1, e2⟩ := hq1 k d hd
        obtain ⟨ur, er, ⟨⟨ar, cr, rfl, _⟩, _⟩⟩ := hq2 k l hl
        have hz : (D.zip L)[k]? = some (d, l) := by rw [List.getElem?_zip_eq_some]; exact ⟨hd, hl⟩
        have m0 := cell_below Hb.out hg1 e0
        have m1 := cell_below Hb.out hg1 e1
        have m2 := cell_below Hb.out hg1 e2
        have r0 := cell_below Hb.out hg2 er
        have b0 := cell_below Hb.out HWL.out P0.out
        have HAT := Lib.hid (all_take (fun p : Decl × List Int => fitD p.1 p.2.length) hz)
        have HAF := Lib.hid (all_false (fun p : Decl × List Int => fitD p.1 p.2.length) hz)
        obtain ⟨nm, kd, ln⟩ := d
        simp only at m0 m1 m2 HAT HAF
        generalize l.length = nl at *
        clear hq1 hq2 hd hl e0 e1 e2 er hz
        replace r0 := alloc_cell r0
        replace b0 := alloc_cell b0
        by_cases k3 : kd = 3
        · subst k3
          by_cases h1000 : 1000 < nl
          · have h1' : (1000 : Int) < (nl : Int) := by omega
            have hr : R = false := by rw [HRR.out]; exact HAF.out (by simp [fitD]; omega)
            subst hr
            clear h1000
            go_wp2
            go_ret
            exact ⟨rfl, HBW.out.trans ((Hb.out.alloc hsz _).mono HBW.out.size)⟩
          · have h1' : (nl : Int) ≤ 1000 := by omega
            have hf : fitD ⟨nm, 3, ln⟩ nl = true := by simp [fitD]; omega
            have HF := Lib.hid hf
            clear h1000 hf
            go_wp2
            have hk := Hk.out
            go_roundg (m - (k + 1))
            case measure => omega
            case rel => exact ⟨k + 1, by omega, by go_num, by unfold Hid; rw [HAT.out, hal.out, HF.out]; rfl, Hb.out.alloc hsz _⟩
        · have j3 : ((kd : Int) == 3) = false := by simp; omega
          have hf : fitD ⟨nm, kd, ln⟩ nl = decide ((nl : Int) = fixedZ ⟨nm, kd, ln⟩) := by simp [fitD, k3]
          have HF := Lib.hid hf
          have HX := Lib.hid (fixed_any nm kd ln)
          generalize fixedZ ⟨nm, kd, ln⟩ = z at *
          clear hf k3
          go_wp2_with fail
          have c0 := b0 (.cells #[.string nm, .int .u8 kd, .int .i64 ln] 48)
          have c1 := r0 (.cells #[.string nm, .int .u8 kd, .int .i64 ln] 48)
          have c2 := (three_new wr (.string nm) (.int .u8 kd) (.int .i64 ln) 48).1
          have c3 := (three_new wr (.string nm) (.int .u8 kd) (.int .i64 ln) 48).2.1
          have c4 := (three_new wr (.string nm) (.int .u8 kd) (.int .i64 ln) 48).2.2
          have hbq := Hb.out.alloc hsz (.cells #[.string nm, .int .u8 kd, .int .i64 ln] 48)
          clear b0 r0 m0 m1 m2
          have hwq : wr.heap.size < (wr.alloc (.cells #[.string nm, .int .u8 kd, .int .i64 ln] 48)).heap.size := by simp
          generalize hq : wr.alloc (.cells #[.string nm, .int .u8 kd, .int .i64 ln] 48) = wq at *
          have Hbq := Lib.hid hbq
          have hs0 : w.heap.size < wq.heap.size := by omega
          have hs1 : g2 < wq.heap.size := by omega
          clear hbq hq
          by_cases hz : (nl : Int) = z
          · have hr0 : fitD ⟨nm, kd, ln⟩ nl = true := by rw [HF.out]; exact decide_eq_true hz
            have HR0 := Lib.hid hr0
            have hz' : ((nl : Int) != z) = false := by simpa using hz
            clear hr0 hz
            go_region_held3 (fun w' => w'.cell? ⟨w.heap.size, 0, none⟩ = some (.slice (some ⟨g2, f2, none⟩) m k1) ∧ w'.cell? ⟨g2, f2 + k, none⟩ = some (.slice ar nl cr) ∧ w'.cell? ⟨wr.heap.size, 0, none⟩ = some (.string nm) ∧ w'.cell? ⟨wr.heap.size, 1, none⟩ = some (.int .u8 kd) ∧ w'.cell? ⟨wr.heap.size, 2, none⟩ = some (.int .i64 ln))
              (first | exact ⟨c0, c1, c2, c3, c4⟩ | exact ⟨cell_below Hb2.out hs0 c0, cell_below Hb2.out hs1 c1, cell_below Hb2.out hwq c2, cell_below Hb2.out hwq c3, cell_below Hb2.out hwq c4⟩)
              (first | (go_at_call 44; refine (HX.out _).mono ?_; rintro e w2 ⟨rfl, hb2⟩; have Hb2 : Hid (Below wq.heap.size wq w2) := ⟨hb2.os, hb2.tape, hb2.output, hb2.size, hb2.block⟩; clear hb2))
            all_goals go_wp2
            have hk := Hk.out
            go_roundg (m - (k + 1))
            case measure => omega
            case rel => exact ⟨k + 1, by omega, by go_num, by unfold Hid; rw [HAT.out, hal.out, HR0.out]; rfl, Hbq.out.trans (Hb2.out.mono Hbq.out.size)⟩
          · have hr : R = false := by rw [HRR.out]; exact HAF.out (by rw [HF.out]; exact decide_eq_false hz)
            have hz' : ((nl : Int) != z) = true := by simpa using hz
            subst hr
            clear hz
            go_region_held3 (fun w' => w'.cell? ⟨w.heap.size, 0, none⟩ = some (.slice (some ⟨g2, f2, none⟩) m k1) ∧ w'.cell? ⟨g2, f2 + k, none⟩ = some (.slice ar nl cr) ∧ w'.cell? ⟨wr.heap.size, 0, none⟩ = some (.string nm) ∧ w'.cell? ⟨wr.heap.size, 1, none⟩ = some (.int .u8 kd) ∧ w'.cell? ⟨wr.heap.size, 2, none⟩ = some (.int .i64 ln))
              (first | exact ⟨c0, c1, c2, c3, c4⟩ | exact ⟨cell_below Hb2.out hs0 c0, cell_below Hb2.out hs1 c1, cell_below Hb2.out hwq c2, cell_below Hb2.out hwq c3, cell_below Hb2.out hwq c4⟩)
              (first | (go_at_call 44; refine (HX.out _).mono ?_; rintro e w2 ⟨rfl, hb2⟩; have Hb2 : Hid (Below wq.heap.size wq w2) := ⟨hb2.os, hb2.tape, hb2.output, hb2.size, hb2.block⟩; clear hb2))
            all_goals go_wp2
            go_ret
            exact ⟨rfl, HBW.out.trans ((Hbq.out.trans (Hb2.out.mono Hbq.out.size)).mono HBW.out.size)⟩
      · have hge : ¬ (k : Int) < (m : Int) := by omega
        have hr : R = true := by
          have h := hal.out
          rw [List.take_of_length_le (by rw [List.length_zip, ← ND.out, ← NL.out]; omega)] at h
          rw [HRR.out]
          exact h
        subst hr
        go_wp2
        go_ret
        exact ⟨rfl, HBW.out.trans (Hb.out.mono HBW.out.size)⟩
  · have l1' : ((m : Int) != (n : Int)) = true := by simp; omega
    have hr : R = false := by rw [HR.out, decide_eq_false l1]; rfl
    subst hr
    clear l1
    go_wp2
    go_ret
    exact ⟨rfl, HBW.out⟩

end Go.Proofs.Ytklbaocgjegdfaa
