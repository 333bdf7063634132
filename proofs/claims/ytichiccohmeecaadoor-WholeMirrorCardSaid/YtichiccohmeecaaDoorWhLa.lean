/- The walk of Great. -/
import Derived.Test.YtichiccohmeecaaDoorWhO
import Derived.Deep.RegionLaw
import Derived.Deep.MidRow
import Derived.Deep.WholeRow
namespace Go.Proofs.YtichiccohmeecaaDoor
open Go.RowKit

structure Small (im : Im) (m : Mach) : Prop where
  code : im.code.length ≤ 60
  mem : im.mem ≤ 40
  stacks : im.stacks ≤ 10
  M : m.M.length ≤ 40
  S : m.S.length ≤ 10
  calls : m.calls.length ≤ 100
  inp : m.inp.length ≤ 40
  out : m.out.length ≤ 40
  rows : ∀ s ∈ m.S, s.length ≤ 20
theorem mcs_lit (m : Mach) (V : MV) : mcs m V = #[.int .i64 m.pc, .int .i64 m.dir, .int .i64 (m.R 0), .int .i64 (m.R 1), .int .i64 (m.R 2), .int .i64 (m.R 3), .int .i64 (m.R 4), .int .i64 (m.R 5), .int .i64 (m.R 6), .int .i64 (m.R 7), .int .i64 (m.R 8), .int .i64 (m.R 9), .int .i64 (m.R 10), .int .i64 (m.R 11), .int .i64 (m.R 12), .int .i64 (m.R 13), .int .i64 (m.R 14), .int .i64 (m.R 15), V.vM, V.vS, V.vC, .int .i64 m.fp, .int .i64 m.sb, V.vI, V.vO] := rfl
/-- a machine as a value -/
def machA (m : Mach) (V : MV) : Value := .agg (mcs m V)
def GreatR (im : Im) (m : Mach) (w : World) (e : Ending) (w' : World) : Prop := ∃ k : Int, e = .returned (.int .i64 k) ∧ (k = 0 → Small im m) ∧ Below w.heap.size w w'

set_option maxRecDepth 100000 in
set_option maxHeartbeats 16000000 in
theorem great_any {P Q : Nat → Prop} (im : Im) (vc : Value) (m : Mach) (V : MV) (w : World) (hC : CodeIn P w vc im.code) (h : RowsR Q w m V) :
    Calls Tryd.prog 15 #[imV vc im, machA m V] w (GreatR im m w) := by
  obtain ⟨ac, cc, rfl, -, hcm, -⟩ := hC
  obtain ⟨⟨aM, cM, hvM, -, -, -⟩, -⟩ := id h.mem
  obtain ⟨aS, cS, hvS, hS1, hS2, hS3⟩ := id h.stk
  obtain ⟨⟨aA, cA, hvA, -, -, -⟩, -⟩ := id h.acts
  obtain ⟨⟨aI, cI, hvI, -, -, -⟩, -⟩ := id h.inp
  obtain ⟨⟨aO, cO, hvO, -, -, -⟩, -⟩ := id h.out
  obtain ⟨C, mem, stacks⟩ := im
  unfold imV machA
  rw [mcs_lit, hvM, hvS, hvA, hvI, hvO]
  dsimp only
  obtain ⟨n, hn⟩ : ∃ n, C.length = n := ⟨_, rfl⟩
  obtain ⟨lM, hlM⟩ : ∃ lM, m.M.length = lM := ⟨_, rfl⟩
  obtain ⟨lS, hlS⟩ : ∃ lS, m.S.length = lS := ⟨_, rfl⟩
  obtain ⟨lA, hlA⟩ : ∃ lA, m.calls.length = lA := ⟨_, rfl⟩
  obtain ⟨lI, hlI⟩ : ∃ lI, m.inp.length = lI := ⟨_, rfl⟩
  obtain ⟨lO, hlO⟩ : ∃ lO, m.out.length = lO := ⟨_, rfl⟩
  rw [hlS] at hS1 hS3
  have HN := Lib.hid hn
  have HM := Lib.hid hlM
  have HS := Lib.hid hlS
  have HA := Lib.hid hlA
  have HI := Lib.hid hlI
  have HO := Lib.hid hlO
  have HS3 := Lib.hid hS3
  rw [hn, hlM, hlS, hlA, hlI, hlO]
  have hl63 : lS ≤ 9223372036854775807 := by unfold maxLen at hS2; omega
  generalize m.pc = pc
  generalize m.dir = dir
  generalize m.fp = fp
  generalize m.sb = sb
  generalize m.R 0 = r0
  generalize m.R 1 = r1
  generalize m.R 2 = r2
  generalize m.R 3 = r3
  generalize m.R 4 = r4
  generalize m.R 5 = r5
  generalize m.R 6 = r6
  generalize m.R 7 = r7
  generalize m.R 8 = r8
  generalize m.R 9 = r9
  generalize m.R 10 = r10
  generalize m.R 11 = r11
  generalize m.R 12 = r12
  generalize m.R 13 = r13
  generalize m.R 14 = r14
  generalize m.R 15 = r15
  obtain ⟨WB, hWB⟩ : ∃ WB, WB = (w.alloc (.cells #[.slice ac n cc, .int .i64 mem, .int .i64 stacks] 24)).alloc (.cells #[.int .i64 pc, .int .i64 dir, .int .i64 r0, .int .i64 r1, .int .i64 r2, .int .i64 r3, .int .i64 r4, .int .i64 r5, .int .i64 r6, .int .i64 r7, .int .i64 r8, .int .i64 r9, .int .i64 r10, .int .i64 r11, .int .i64 r12, .int .i64 r13, .int .i64 r14, .int .i64 r15, .slice aM lM cM, .slice aS lS cS, .slice aA lA cA, .int .i64 fp, .int .i64 sb, .slice aI lI cI, .slice aO lO cO] 30) := ⟨_, rfl⟩
  obtain ⟨G, hG⟩ : ∃ G, w.heap.size + 1 = G := ⟨_, rfl⟩
  have hB : Below w.heap.size w WB := by rw [hWB]; exact below_al (below_alloc _ _) (Nat.le_refl _) _
  have hb : Blk WB G 30 #[.int .i64 pc, .int .i64 dir, .int .i64 r0, .int .i64 r1, .int .i64 r2, .int .i64 r3, .int .i64 r4, .int .i64 r5, .int .i64 r6, .int .i64 r7, .int .i64 r8, .int .i64 r9, .int .i64 r10, .int .i64 r11, .int .i64 r12, .int .i64 r13, .int .i64 r14, .int .i64 r15, .slice aM lM cM, .slice aS lS cS, .slice aA lA cA, .int .i64 fp, .int .i64 sb, .slice aI lI cI, .slice aO lO cO] := by
    rw [hWB]
    exact Blk.new' (by rw [← hG]; simp)
  have hi : Blk WB w.heap.size 24 #[.slice ac n cc, .int .i64 mem, .int .i64 stacks] := by rw [hWB]; exact (Blk.new _ _ _).next (below_alloc _ _)
  have HB := Lib.hid hB
  have HW := Lib.hid hWB
  have HGG := Lib.hid hG
  have b0 := hi.cell 0
  have b1 := hi.cell 1
  have b2 := hi.cell 2
  have y18 := hb.cell 18
  have y19 := hb.cell 19
  have y20 := hb.cell 20
  have y23 := hb.cell 23
  have y24 := hb.cell 24
  simp only [List.getElem?_toArray, List.getElem?_cons_succ, List.getElem?_cons_zero] at b0 b1 b2 y18 y19 y20 y23 y24
  clear hn hlM hlS hlA hlI hlO hvM hvS hvA hvI hvO hWB hB hb hi hG h hcm hS2 hS3
  by_cases h0 : (60 : Int) < (n : Int)
  · skip
    go_enter Tryd.func15, Tryd.ntmps15
    go_wp2_with fail
    rw [HGG.out, ← HW.out]
    go_wp2
    go_ret
    exact ⟨_, rfl, fun h => absurd h (by decide), HB.out⟩
  by_cases h1 : (40 : Int) < mem
  · skip
    go_enter Tryd.func15, Tryd.ntmps15
    go_wp2_with fail
    rw [HGG.out, ← HW.out]
    go_wp2
    go_ret
    exact ⟨_, rfl, fun h => absurd h (by decide), HB.out⟩
  by_cases h2 : (10 : Int) < stacks
  · skip
    go_enter Tryd.func15, Tryd.ntmps15
    go_wp2_with fail
    rw [HGG.out, ← HW.out]
    go_wp2
    go_ret
    exact ⟨_, rfl, fun h => absurd h (by decide), HB.out⟩
  by_cases h3 : (40 : Int) < (lM : Int)
  · skip
    go_enter Tryd.func15, Tryd.ntmps15
    go_wp2_with fail
    rw [HGG.out, ← HW.out]
    go_wp2
    go_ret
    exact ⟨_, rfl, fun h => absurd h (by decide), HB.out⟩
  by_cases h4 : (10 : Int) < (lS : Int)
  · skip
    go_enter Tryd.func15, Tryd.ntmps15
    go_wp2_with fail
    rw [HGG.out, ← HW.out]
    go_wp2
    go_ret
    exact ⟨_, rfl, fun h => absurd h (by decide), HB.out⟩
  by_cases h5 : (100 : Int) < (lA : Int)
  · skip
    go_enter Tryd.func15, Tryd.ntmps15
    go_wp2_with fail
    rw [HGG.out, ← HW.out]
    go_wp2
    go_ret
    exact ⟨_, rfl, fun h => absurd h (by decide), HB.out⟩
  by_cases h6 : (40 : Int) < (lI : Int)
  · skip
    go_enter Tryd.func15, Tryd.ntmps15
    go_wp2_with fail
    rw [HGG.out, ← HW.out]
    go_wp2
    go_ret
    exact ⟨_, rfl, fun h => absurd h (by decide), HB.out⟩
  by_cases h7 : (40 : Int) < (lO : Int)
  · skip
    go_enter Tryd.func15, Tryd.ntmps15
    go_wp2_with fail
    rw [HGG.out, ← HW.out]
    go_wp2
    go_ret
    exact ⟨_, rfl, fun h => absurd h (by decide), HB.out⟩
  go_enter Tryd.func15, Tryd.ntmps15
  go_wp2_with fail
  rw [HGG.out, ← HW.out]
  go_wp2
  go_loopg [54] lS (fun q i wr => ∃ k : Nat, k + q = lS ∧ i = .int .i64 k ∧ wr = WB ∧ ∀ j, j < k → ∀ s, m.S[j]? = some s → s.length ≤ 20)
  case atStart => exact ⟨0, by omega, rfl, rfl, fun j hj => absurd hj (by omega)⟩
  case round =>
    obtain ⟨k, hk, rfl, hw, hok⟩ := hrel
    obtain rfl := hw.symm
    have Hk := Lib.hid hk
    have HOK := Lib.hid hok
    have hkn : k ≤ lS := by omega
    clear hk hok
    by_cases hlt : k < lS
    · have hlt' : (k : Int) < (lS : Int) := by omega
      have hk0 : (0 : Int) ≤ (k : Int) := Int.natCast_nonneg _
      obtain ⟨gS, oS, haS, hgS, -, hSc⟩ := HS3.out (by omega)
      subst haS
      obtain ⟨s, hs⟩ := get_lt HS.out.symm hlt
      obtain ⟨u, hu, ⟨⟨au, cu, rfl, hsc1, hsc2, -⟩, -⟩⟩ := hSc k s hs
      have yu : WB.cell? ⟨gS, oS + k, none⟩ = some (.slice au s.length cu) := (HB.out.cell (p := ⟨gS, oS + k, none⟩) hgS).trans hu
      have hs63 : s.length ≤ 9223372036854775807 := by unfold maxLen at hsc2; omega
      have HSK := Lib.hid hs
      obtain ⟨ls, hls⟩ : ∃ ls, s.length = ls := ⟨_, rfl⟩
      rw [hls] at yu hs63
      have HLK := Lib.hid hls
      clear hu hs hsc1 hsc2 hls hSc
      by_cases hbig : (20 : Int) < (ls : Int)
      · go_wp2
        go_ret
        exact ⟨_, rfl, fun h => absurd h (by decide), HB.out⟩
      · go_wp2
        have hk := Hk.out
        go_roundg (lS - (k + 1))
        case measure => omega
        case rel => exact ⟨k + 1, by omega, by go_num, rfl, fun j hj s' hs' => by
          rcases Nat.lt_or_ge j k with h | h
          · exact HOK.out j h s' hs'
          · obtain rfl : j = k := by omega
            obtain rfl := Option.some.inj (HSK.out.symm.trans hs')
            rw [HLK.out]; omega⟩
    · have hge : ¬ (k : Int) < (lS : Int) := by omega
      have hkl : k = lS := by omega
      go_wp2
      go_ret
      refine ⟨_, rfl, fun _ => ⟨?_, ?_, ?_, ?_, ?_, ?_, ?_, ?_, fun s hs => ?_⟩, HB.out⟩
      · show C.length ≤ 60
        rw [HN.out]; omega
      · show mem ≤ 40
        omega
      · show stacks ≤ 10
        omega
      · rw [HM.out]; omega
      · rw [HS.out]; omega
      · rw [HA.out]; omega
      · rw [HI.out]; omega
      · rw [HO.out]; omega
      · obtain ⟨j, hj⟩ := List.getElem?_of_mem hs
        have hjl := (List.getElem?_eq_some_iff.1 hj).1
        exact HOK.out j (by rw [HS.out] at hjl; omega) s hj

  end Go.Proofs.YtichiccohmeecaaDoor

/- Equal data: slices.Equal at the two kinds of rows, slices.EqualFunc. -/
namespace Go.Proofs.YtichiccohmeecaaDoor
open Go.RowKit

def TrueR (w : World) (e : Ending) (w' : World) : Prop := e = .returned (.bool true) ∧ ∃ q, w' = w.drewN q

theorem IntsIn.drewN {P : Nat → Prop} {w : World} {v : Value} {l : List Int} (h : IntsIn P w v l) (q : Nat) : IntsIn P (w.drewN q) v l :=
  h.keep ⟨Nat.le_refl _, fun _ _ _ => rfl⟩ (fun _ h => h)
theorem ActsIn.drewN {P : Nat → Prop} {w : World} {v : Value} {l : List (Int × Bool)} (h : ActsIn P w v l) (q : Nat) : ActsIn P (w.drewN q) v l :=
  h.keep ⟨Nat.le_refl _, fun _ _ _ => rfl⟩ (fun _ h => h)

theorem eq_ints {P Q : Nat → Prop} {w : World} {u v : Value} {l : List Int} (h1 : IntsIn P w u l) (h2 : IntsIn Q w v l) :
    Calls Tryd.prog 22 #[u, v] w (TrueR w) := by
  obtain ⟨⟨a1, c1, rfl, hn1, hm1, hc1⟩, -⟩ := h1
  obtain ⟨⟨a2, c2, rfl, -, -, hc2⟩, -⟩ := h2
  have hn63 : l.length ≤ 9223372036854775807 := by unfold maxLen at hm1; omega
  rcases Nat.eq_zero_or_pos l.length with h0 | h0
  · rw [h0]
    refine (Tryd.slices_Equal_int_empty a1 a2 c1 0 c2 w (by omega)).mono ?_
    rintro e w' ⟨rfl, rfl⟩
    exact ⟨by rw [decide_eq_true rfl], 0, rfl⟩
  · obtain ⟨g1, o1, rfl, -, -, q1⟩ := hc1 h0
    obtain ⟨g2, o2, rfl, -, -, q2⟩ := hc2 h0
    have hg : ∀ j, j < l.length → l[j]? = some (l.getD j 0) := fun j hj => by rw [List.getD_eq_getElem?_getD, List.getElem?_eq_getElem hj]; rfl
    refine (Tryd.slices_Equal_int g1 o1 l.length c1 g2 o2 l.length c2 l l w (Nat.le_refl _) (Nat.le_refl _) hn63 hn63 (fun j hj => q1 j _ (hg j hj)) (fun j hj => q2 j _ (hg j hj))).mono ?_
    rintro e w' ⟨rfl, q, rfl⟩
    exact ⟨by rw [beq_self_eq_true], q, rfl⟩

theorem run_neq_act (x : Int) (b : Bool) : ∀ w, (binOp .neq 53 (.agg #[.int .i64 x, .bool b]) (.agg #[.int .i64 x, .bool b])).run Tryd.prog w = .ok (.bool false) w := fun w => by
  go_simp

set_option maxRecDepth 100000 in
set_option maxHeartbeats 2000000 in
theorem eq_acts {P Q : Nat → Prop} {w : World} {u v : Value} {l : List (Int × Bool)} (h1 : ActsIn P w u l) (h2 : ActsIn Q w v l) :
    Calls Tryd.prog 25 #[u, v] w (TrueR w) := by
  obtain ⟨⟨a1, c1, rfl, hn1, hm1, hc1⟩, -⟩ := h1
  obtain ⟨⟨a2, c2, rfl, -, -, hc2⟩, -⟩ := h2
  obtain ⟨n, hn⟩ : ∃ n, l.length = n := ⟨_, rfl⟩
  rw [hn] at hc1 hc2 hn1 ⊢
  have HC1 := Lib.hid hc1
  have HC2 := Lib.hid hc2
  have HN := Lib.hid hn
  have hn63 : n ≤ 9223372036854775807 := by unfold maxLen at hm1; omega
  clear hc1 hc2 hn hn1 hm1
  go_enter Tryd.func25, Tryd.ntmps25
  go_wp2
  go_loopg [13] n (fun q i wr => ∃ k : Nat, k + q = n ∧ i = .int .i64 k ∧ ∃ d, wr = w.drewN d)
  case atStart => exact ⟨0, by omega, rfl, 0, rfl⟩
  case round =>
    obtain ⟨k, hk, rfl, d, rfl⟩ := hrel
    have Hk := Lib.hid hk
    have hkn : k ≤ n := by omega
    clear hk
    by_cases hlt : k < n
    · have hlt' : (k : Int) < (n : Int) := by omega
      obtain ⟨g1, o1, rfl, -, -, hq1⟩ := HC1.out (by omega)
      obtain ⟨g2, o2, rfl, -, -, hq2⟩ := HC2.out (by omega)
      obtain ⟨s, hs⟩ := get_lt HN.out.symm hlt
      obtain ⟨p0, p1⟩ := hq1 k s hs
      obtain ⟨r0, r1⟩ := hq2 k s hs
      obtain ⟨sx, sb⟩ := s
      dsimp only at p0 p1 r0 r1
      have hne := run_neq_act sx sb
      clear hq1 hq2 hs
      go_wp2
      go_quiet (fail)
      go_wp2
      have hk := Hk.out
      go_roundg (n - (k + 1))
      case measure => omega
      case rel => exact ⟨k + 1, by omega, by go_num, _, by first | rfl | exact World.drewN_drewN _ _ _⟩
    · have hge : ¬ (k : Int) < (n : Int) := by omega
      go_wp2
      go_ret
      exact ⟨rfl, d, rfl⟩

theorem cf_eq1 (args : Array Value) (w : World) : (callFunc 24 args).run Tryd.prog w = .ok (.enter 24 args) w := by kernel_rfl
theorem eq_one {P Q : Nat → Prop} {w : World} {u v : Value} {l : List Int} (h1 : IntsIn P w u l) (h2 : IntsIn Q w v l) :
    Calls Tryd.prog 24 #[u, v] w (TrueR w) := by
  have HC := Lib.hid (eq_ints h1 h2)
  clear h1 h2
  go_enter Tryd.func24, Tryd.ntmps24
  go_wp2_with fail
  refine HC.out.mono ?_
  rintro e w' ⟨rfl, q, rfl⟩
  go_wp2
  go_ret
  exact ⟨rfl, q, rfl⟩

set_option maxRecDepth 100000 in
set_option maxHeartbeats 2000000 in
theorem eq_stk {P Q : Nat → Prop} {w : World} {u v : Value} {l : List (List Int)} (h1 : RowsIn P w u l) (h2 : RowsIn Q w v l) :
    Calls Tryd.prog 23 #[u, v, .func (.func 24) #[] #[]] w (TrueR w) := by
  obtain ⟨a1, c1, rfl, hn1, hm1, hc1⟩ := h1
  obtain ⟨a2, c2, rfl, -, -, hc2⟩ := h2
  obtain ⟨n, hn⟩ : ∃ n, l.length = n := ⟨_, rfl⟩
  rw [hn] at hc1 hc2 hn1 ⊢
  have HC1 := Lib.hid hc1
  have HC2 := Lib.hid hc2
  have HN := Lib.hid hn
  have hn63 : n ≤ 9223372036854775807 := by unfold maxLen at hm1; omega
  have hcf := cf_eq1
  clear hc1 hc2 hn hn1 hm1
  go_enter Tryd.func23, Tryd.ntmps23
  go_wp2
  go_loopg [17] n (fun q i wr => ∃ k : Nat, k + q = n ∧ i = .int .i64 k ∧ ∃ d, wr = w.drewN d)
  case atStart => exact ⟨0, by omega, rfl, 0, rfl⟩
  case round =>
    obtain ⟨k, hk, rfl, d, rfl⟩ := hrel
    have Hk := Lib.hid hk
    have hkn : k ≤ n := by omega
    clear hk
    by_cases hlt : k < n
    · have hlt' : (k : Int) < (n : Int) := by omega
      obtain ⟨g1, o1, rfl, -, -, hq1⟩ := HC1.out (by omega)
      obtain ⟨g2, o2, rfl, -, -, hq2⟩ := HC2.out (by omega)
      obtain ⟨s, hs⟩ := get_lt HN.out.symm hlt
      obtain ⟨u1, p0, i1⟩ := hq1 k s hs
      obtain ⟨u2, r0, i2⟩ := hq2 k s hs
      have HS : Hid (Calls Tryd.prog 24 #[u1, u2] (w.drewN d) (TrueR (w.drewN d))) := Lib.hid (eq_one (i1.drewN d) (i2.drewN d))
      clear hq1 hq2 hs i1 i2
      go_wp2_with fail
      refine HS.out.mono ?_
      rintro e w2 ⟨rfl, q2, rfl⟩
      go_wp2
      have hk := Hk.out
      go_roundg (n - (k + 1))
      case measure => omega
      case rel => exact ⟨k + 1, by omega, by go_num, _, by first | rfl | exact World.drewN_drewN _ _ _⟩
    · have hge : ¬ (k : Int) < (n : Int) := by omega
      go_wp2
      go_ret
      exact ⟨rfl, d, rfl⟩

end Go.Proofs.YtichiccohmeecaaDoor

/- == at two rows of registers. -/
namespace Go.Proofs.YtichiccohmeecaaDoor
open Go.RowKit

set_option maxRecDepth 100000 in
theorem eq_regs (r0 r1 r2 r3 r4 r5 r6 r7 r8 r9 r10 r11 r12 r13 r14 r15 : Int) (w : World) : (Op.equalIn 10000 25 (.agg #[.int .i64 r0, .int .i64 r1, .int .i64 r2, .int .i64 r3, .int .i64 r4, .int .i64 r5, .int .i64 r6, .int .i64 r7, .int .i64 r8, .int .i64 r9, .int .i64 r10, .int .i64 r11, .int .i64 r12, .int .i64 r13, .int .i64 r14, .int .i64 r15]) (.agg #[.int .i64 r0, .int .i64 r1, .int .i64 r2, .int .i64 r3, .int .i64 r4, .int .i64 r5, .int .i64 r6, .int .i64 r7, .int .i64 r8, .int .i64 r9, .int .i64 r10, .int .i64 r11, .int .i64 r12, .int .i64 r13, .int .i64 r14, .int .i64 r15])).run Tryd.prog w = .ok true w := by
  have u3 := Tryd.underlying3
  have a3 := Tryd.isAgg3
  have z3 := Tryd.sizeOf3
  rw [show (10000 : Nat) = 9999 + 1 from rfl, Op.equalIn]
  simp only [Sem.run_bind, run_underlying Tryd.underlying25, Result.andThen_ok]
  simp only [Std.Legacy.Range.forIn_eq_forIn_range', Std.Legacy.Range.size, Nat.sub_zero, Nat.add_sub_cancel, Nat.div_one, List.range'_succ, List.range'_zero, List.forIn_cons, List.forIn_nil]
  go_simp
set_option maxRecDepth 100000 in
theorem run_eq_regs (r0 r1 r2 r3 r4 r5 r6 r7 r8 r9 r10 r11 r12 r13 r14 r15 : Int) : ∀ w, (binOp .eql 25 (.agg #[.int .i64 r0, .int .i64 r1, .int .i64 r2, .int .i64 r3, .int .i64 r4, .int .i64 r5, .int .i64 r6, .int .i64 r7, .int .i64 r8, .int .i64 r9, .int .i64 r10, .int .i64 r11, .int .i64 r12, .int .i64 r13, .int .i64 r14, .int .i64 r15]) (.agg #[.int .i64 r0, .int .i64 r1, .int .i64 r2, .int .i64 r3, .int .i64 r4, .int .i64 r5, .int .i64 r6, .int .i64 r7, .int .i64 r8, .int .i64 r9, .int .i64 r10, .int .i64 r11, .int .i64 r12, .int .i64 r13, .int .i64 r14, .int .i64 r15])).run Tryd.prog w = .ok (.bool true) w := fun w => by
  have h := eq_regs r0 r1 r2 r3 r4 r5 r6 r7 r8 r9 r10 r11 r12 r13 r14 r15 w
  go_simp

end Go.Proofs.YtichiccohmeecaaDoor

/- Wide loads and stores (a machine, its registers), with the cells as one word. -/
namespace Go.Proofs.YtichiccohmeecaaDoor
open Go.RowKit

section
variable {P : Program} {ops : Array Oper}
theorem wpQuiet_load {C : World → Prop} {Q : Act → Prop} {a : Act} {o : Oper} {rest : List Oper} (ty : TypeId) (x : Operand) (ho : o.op = .load ty x) (b f : Nat) (hx : a.eval x = .pointer (some ⟨b, f, none⟩)) (cs : List Value) (d : TypeDesc)
    (hu : P.underlying ty = some d) (hd : d.isRow = true) (hi : (P.info? ty).map (·.size) = some cs.length) (hc : ∀ w, C w → w.rangeAt b f cs) (hw : Region.wanted o (yielded ops a.tmps) = true)
    (h : wpQuiet P ops C Q rest (a.put o.dst (.agg cs.toArray))) : wpQuiet P ops C Q (o :: rest) a := by
  unfold wpQuiet
  rw [if_pos hw]
  refine ⟨_, fun w hC => ?_, h⟩
  unfold Oper.quietAt execOp
  simp only [ho, hx, Instr.loadAt, Instr.sureAddr, Sem.run_bind, Sem.run_pure, Result.andThen_ok, run_loadVar_mid w b f ty cs d (hc w hC) hu hd hi]
  exact ⟨rfl, rfl⟩

theorem run_alloc_row {t : TypeId} {z : Array Value} {n : Nat} (hz : (P.info? t).map (fun i => (i.zero, i.size)) = some (some (.agg z), n)) (w : World) :
    (Instr.alloc t true (.tuple #[])).run P w = .ok (.pointer (some ⟨w.heap.size, 0, none⟩)) (w.alloc (.cells z t)) := by
  obtain ⟨hzv, -⟩ := zero_of_info hz
  have hzv := hzv w
  go_simp
theorem wpList_alloc_store {a : Act} {w : World} {Q : Exit → Act → World → Prop} {o o2 : Oper} {rest : List Oper} (g1 : o.guard = none) (g2 : o2.guard = none) (t : TypeId) (x y : Operand) (ho : o.op = .alloc t) (ho2 : o2.op = .store t x y)
    (z : Array Value) (n : Nat) (hz : (P.info? t).map (fun i => (i.zero, i.size)) = some (some (.agg z), n)) (hzn : z.size = n) (cs : Array Value) (hcn : cs.size = n) (h1 : cs.all (·.oneCell') = true)
    (hx : (a.put o.dst (.pointer (some ⟨w.heap.size, 0, none⟩))).eval x = .pointer (some ⟨w.heap.size, 0, none⟩)) (hy : (a.put o.dst (.pointer (some ⟨w.heap.size, 0, none⟩))).eval y = .agg cs)
    (h : wpList P ops Q rest ((a.put o.dst (.pointer (some ⟨w.heap.size, 0, none⟩))).put o2.dst undef) (w.alloc (.cells cs t))) : wpList P ops Q (o :: o2 :: rest) a w := by
  refine wpList_plain g1 fun K hK => ?_
  unfold Oper.wp execOp
  simp only [ho, Sem.run_bind, Sem.run_pure, Result.andThen_ok, run_alloc_row hz w]
  refine hK _ _ ?_
  refine wpList_plain g2 fun K hK => ?_
  unfold Oper.wp execOp
  simp only [ho2, hx, hy, Sem.run_bind, Sem.run_pure, Result.andThen_ok, run_storeAt_new w t z cs (by rw [(zero_of_info hz).2, hcn]) (by rw [hzn, hcn]) h1]
  exact hK _ _ h
end

theorem machSize : (Tryd.prog.info? 30).map (·.size) = some 25 := by kernel_rfl
theorem machZero : (Tryd.prog.info? 30).map (fun i => (i.zero, i.size)) = some (some (.agg #[.int .i64 0, .int .i64 0, .int .i64 0, .int .i64 0, .int .i64 0, .int .i64 0, .int .i64 0, .int .i64 0, .int .i64 0, .int .i64 0, .int .i64 0, .int .i64 0, .int .i64 0, .int .i64 0, .int .i64 0, .int .i64 0, .int .i64 0, .int .i64 0, .slice none 0 0, .slice none 0 0, .slice none 0 0, .int .i64 0, .int .i64 0, .slice none 0 0, .slice none 0 0]), 25) := by kernel_rfl
def regsL (m : Mach) : List Value := (List.range 16).map (fun j => .int .i64 (m.R j))
theorem mcs_size (m : Mach) (V : MV) : (mcs m V).size = 25 := by simp [mcs, arr]
def OneV (V : MV) : Prop := V.vM.oneCell' = true ∧ V.vS.oneCell' = true ∧ V.vC.oneCell' = true ∧ V.vI.oneCell' = true ∧ V.vO.oneCell' = true
theorem RowsR.one {P : Nat → Prop} {w : World} {m : Mach} {V : MV} (h : RowsR P w m V) : OneV V := by
  obtain ⟨⟨_, _, h1, _⟩, _⟩ := h.mem
  obtain ⟨_, _, h2, _⟩ := h.stk
  obtain ⟨⟨_, _, h3, _⟩, _⟩ := h.acts
  obtain ⟨⟨_, _, h4, _⟩, _⟩ := h.inp
  obtain ⟨⟨_, _, h5, _⟩, _⟩ := h.out
  exact ⟨by rw [h1]; rfl, by rw [h2]; rfl, by rw [h3]; rfl, by rw [h4]; rfl, by rw [h5]; rfl⟩
theorem mcs_one {m : Mach} {V : MV} (h : OneV V) : (mcs m V).all (·.oneCell') = true := by
  obtain ⟨h1, h2, h3, h4, h5⟩ := h
  rw [Array.all_eq_true_iff_forall_mem]
  intro v hv
  rw [mcs_lit] at hv
  simp only [Array.mem_iff_getElem?, List.getElem?_toArray] at hv
  obtain ⟨i, hi⟩ := hv
  have hm := List.mem_of_getElem? hi
  simp only [List.mem_cons, List.not_mem_nil, or_false] at hm
  rcases hm with rfl | rfl | rfl | rfl | rfl | rfl | rfl | rfl | rfl | rfl | rfl | rfl | rfl | rfl | rfl | rfl | rfl | rfl | rfl | rfl | rfl | rfl | rfl | rfl | rfl
  all_goals first | rfl | assumption

end Go.Proofs.YtichiccohmeecaaDoor

/- A great region that draws its order: the look at its operations, cheap for the kernel. -/
namespace Go.Proofs.YtichiccohmeecaaDoor
open Go.RowKit

def lexK (md : Region.Mode) (ops : Array Oper) : List Oper → Nat → Bool
  | [], _ => true
  | o :: rest, k => o.after.all (fun e => !Region.binds md e || decide (e.on < k)) && rest.all (fun oj => oj.after.any (fun e => Region.binds md e && e.on == k) || o.apart ops oj) && lexK md ops rest (k + 1)
/-- the first k are listed -/
def firstK (n k : Nat) : Array Bool := (Array.range n).map (fun j => decide (j < k))
theorem firstK_getD {n k j : Nat} (d : Bool) (hj : j < n) : (firstK n k).getD j d = decide (j < k) := by
  rw [Array.getD_eq_getD_getElem?]
  simp [firstK, hj]
theorem firstK_set {n k : Nat} : (firstK n k).setIfInBounds k true = firstK n (k + 1) := by
  apply Array.ext
  · simp [firstK]
  · intro i h1 h2
    have hi : i < n := by simpa [firstK] using h2
    rw [Array.getElem_setIfInBounds (by simpa [firstK] using hi)]
    simp only [firstK, Array.getElem_map, Array.getElem_range]
    by_cases e : k = i
    · subst e; rw [if_pos rfl]; exact (decide_eq_true (by omega)).symm
    · rw [if_neg e]; exact decide_eq_decide.2 (by omega)
theorem firstK_zero (n : Nat) : Array.replicate n false = firstK n 0 := by
  apply Array.ext
  · simp [firstK]
  · intro i h1 h2
    simp [firstK]
theorem lexFrom_of {md : Region.Mode} {ops : Array Oper} (hon : ∀ o ∈ ops, ∀ e ∈ o.after, e.on < ops.size) : ∀ (l : List Oper) (k : Nat), (∀ j, l[j]? = ops[k + j]?) → lexK md ops l k = true → Region.lexFrom md ops l.length k (firstK ops.size k) = true
  | [], k, hl, _ => by
    have hk : ops.size ≤ k := by
      have := hl 0
      simp only [List.getElem?_nil, Nat.add_zero] at this
      exact Nat.le_of_not_lt (fun h => by rw [Array.getElem?_eq_getElem h] at this; cases this)
    show (Region.ready md ops (firstK ops.size k)).isEmpty = true
    rw [List.isEmpty_iff]
    unfold Region.ready
    rw [List.filter_eq_nil_iff]
    intro i hi
    have hi : i < ops.size := by simpa using hi
    rw [firstK_getD _ hi, decide_eq_true (by omega)]
    simp
  | o :: l, k, hl, h => by
    have h0 : ops[k]? = some o := by simpa using (hl 0).symm
    have hk : k < ops.size := (Array.getElem?_eq_some_iff.1 h0).1
    simp only [lexK, Bool.and_eq_true] at h
    obtain ⟨⟨h1, h2⟩, h3⟩ := h
    have ih := lexFrom_of hon l (k + 1) (fun j => by have := hl (j + 1); simpa [Nat.add_assoc, Nat.add_comm 1 j] using this) h3
    show ((Region.ready md ops (firstK ops.size k)).contains k && Region.free md ops (firstK ops.size k) k && Region.lexFrom md ops l.length (k + 1) ((firstK ops.size k).setIfInBounds k true)) = true
    rw [firstK_set, ih, Bool.and_true, Bool.and_eq_true]
    refine ⟨?_, ?_⟩
    · rw [List.contains_iff_mem]
      unfold Region.ready
      rw [List.mem_filter]
      refine ⟨by simpa using hk, ?_⟩
      rw [firstK_getD _ hk, h0, decide_eq_false (by omega)]
      simp only [Bool.not_false, Bool.true_and, Option.map_some, Option.getD_some]
      rw [Array.all_eq_true_iff_forall_mem] at h1 ⊢
      intro e he
      have := h1 e he
      have hs : e.on < ops.size := hon o (Array.mem_of_getElem? h0) e he
      rw [firstK_getD _ hs]
      exact this
    · unfold Region.free
      rw [h0]
      dsimp only
      rw [List.all_eq_true]
      intro j hj
      have hj : j < ops.size := by simpa using hj
      rw [firstK_getD _ hj]
      rcases Nat.lt_trichotomy j k with h | h | h
      · rw [decide_eq_true h]; simp
      · subst h; simp
      · have hlj : l[j - (k + 1)]? = ops[j]? := by
          have := hl (j - (k + 1) + 1)
          rw [show k + (j - (k + 1) + 1) = j by omega] at this
          simpa using this
        rw [Array.getElem?_eq_getElem hj] at hlj ⊢
        have hm := List.mem_of_getElem? hlj
        have := (List.all_eq_true.1 h2) _ hm
        dsimp only
        rw [this, Bool.or_true]
theorem lexB_of {l : List Oper} (hs : Region.noSelect l.toArray = true) (hon : l.all (fun o => o.after.all (fun e => decide (e.on < l.length))) = true) (h : lexK .any l.toArray l 0 = true) : Region.lexB .any l.toArray = true := by
  unfold Region.lexB
  rw [hs, Bool.true_and, firstK_zero]
  have := lexFrom_of (md := .any) (ops := l.toArray) (fun o ho e he => by
    have h1 := (List.all_eq_true.1 hon) o (by simpa using ho)
    have h2 := (Array.all_eq_true_iff_forall_mem.1 h1) e he
    simpa using h2) l 0 (by simp) h
  simpa using this
theorem wp_region_quiet_great {P : Program} {id : Nat} {Q : Exit → Act → World → Prop} {a : Act} {w : World} {l : List Oper} (hm : P.follows .mixedOrders = true) (hs : Region.noSelect l.toArray = true)
    (hon : l.all (fun o => o.after.all (fun e => decide (e.on < l.length))) = true) (hk : lexK .any l.toArray l 0 = true)
    (h : wpQuiet P l.toArray (fun w' => ∃ n, w' = w.drewN n) (fun a' => ∀ w', (∃ n, w' = w.drewN n) → Q .normal a' w') l a) : (Code.region id l.toArray true).wp P Q a w :=
  wp_region_quiet_lit hm (lexB_of hs hon hk) h

end Go.Proofs.YtichiccohmeecaaDoor
