/- The walk of mirror. -/
import Derived.Test.YtichiccohmeecaaDoorWhN2
namespace Go.Proofs.YtichiccohmeecaaDoor
open Go.RowKit

theorem RX.mono {F F' : Nat → Prop} {g : Nat} {V : MV} (hp : ∀ h, F h → F' h) (h : Nat) (hr : RX F g V h) : RX F' g V h := ⟨⟨hp h hr.1.1, hr.1.2⟩, hr.2⟩
theorem MachX.keep {F F' : Nat → Prop} {w w' : World} {g : Nat} {m : Mach} {V : MV} (h : MachX F w g m V) (hk : Keep F w w') (hp : ∀ j, F j → F' j) : MachX F' w' g m V :=
  have hr : Keep (RX F g V) w w' := hk.mono (fun _ h => h.1.1)
  ⟨h.mach.keep hk hp, hk.own h.own (fun j hj => (h.vCF j hj).1), fun j hj => RO.mono hp j (h.vCF j hj), fun k l hl => by
    obtain ⟨u, h1, h2⟩ := h.rows k l hl
    exact ⟨u, h1, h2.keep hr (RX.mono hp)⟩, h.inp.keep hr (RX.mono hp), h.out.keep hr (RX.mono hp)⟩
theorem MachX.below {F : Nat → Prop} {w w' : World} {g : Nat} {m : Mach} {V : MV} (h : MachX F w g m V) (hb : Below w.heap.size w w') : MachX F w' g m V := h.keep (Keep.of_below hb) (fun _ h => h)
theorem RX.not_self {F : Nat → Prop} {g : Nat} {V : MV} : ¬ RX F g V g := fun h => h.1.2.1 rfl
theorem RX.not_acts {F : Nat → Prop} {g j : Nat} {V : MV} (h : V.vC.ownBlock = some j) : ¬ RX F g V j := fun hr => hr.2 h.symm
/-- a store into the machine's own cells -/
theorem MachX.put1 {F : Nat → Prop} {w : World} {g : Nat} {m m' : Mach} {V : MV} (h : MachX F w g m V) {k : Nat} {u : Value}
    (hs : (mcs m V).setIfInBounds k u = mcs m' V) (hM : m'.M = m.M) (hS : m'.S = m.S) (ha : m'.calls = m.calls) (hi : m'.inp = m.inp) (ho : m'.out = m.out) : MachX F (w.setCell ⟨g, k, none⟩ u) g m' V :=
  ⟨h.mach.put1 hs hM hS ha hi ho, by rw [ha]; exact own_set h.own h.mach.blk (by decide) _ _, h.vCF, fun i l hl => by
    rw [hS] at hl
    obtain ⟨x, h1, h2⟩ := h.rows i l hl
    exact ⟨x, h1, h2.set_far RX.not_self k u⟩, by rw [hi]; exact h.inp.set_far RX.not_self k u, by rw [ho]; exact h.out.set_far RX.not_self k u⟩
theorem MachX.dir {F : Nat → Prop} {w : World} {g : Nat} {m : Mach} {V : MV} (h : MachX F w g m V) (x : Int) : MachX F (w.setCell ⟨g, 1, none⟩ (.int .i64 x)) g { m with dir := x } V := h.put1 (mcs_dir m V x) rfl rfl rfl rfl rfl
theorem MachX.pc {F : Nat → Prop} {w : World} {g : Nat} {m : Mach} {V : MV} (h : MachX F w g m V) (x : Int) : MachX F (w.setCell ⟨g, 0, none⟩ (.int .i64 x)) g { m with pc := x } V := h.put1 (mcs_pc m V x) rfl rfl rfl rfl rfl

theorem actsV_set {l : List (Int × Bool)} {k : Nat} {a : Int × Bool} (ha : l[k]? = some a) (x : Int) : (actsV l).set (k * 2) (.int .i64 x) = actsV (l.set k (x, a.2)) := by
  have hk : k < l.length := (List.getElem?_eq_some_iff.1 ha).1
  apply List.ext_getElem?
  intro i
  by_cases hi : i < l.length * 2
  · obtain ⟨b, hb⟩ : ∃ b, l[i / 2]? = some b := ⟨_, List.getElem?_eq_getElem (by omega)⟩
    obtain ⟨b1, b2⟩ := actsV_get l _ b hb
    by_cases e : k = i / 2
    · subst e
      obtain rfl := Option.some.inj (ha.symm.trans hb)
      obtain ⟨c1, c2⟩ := actsV_get (l.set (i / 2) (x, a.2)) (i / 2) (x, a.2) (List.getElem?_set_self hk)
      rcases (show i = i / 2 * 2 ∨ i = i / 2 * 2 + 1 by omega) with h | h
      · rw [← h] at c1 ⊢
        rw [List.getElem?_set_self (by rw [actsV_len]; exact hi), c1]
      · rw [← h] at b2 c2
        rw [List.getElem?_set_ne (by omega), b2, c2]
    · have hb' : (l.set k (x, a.2))[i / 2]? = some b := by rw [List.getElem?_set_ne e]; exact hb
      obtain ⟨c1, c2⟩ := actsV_get _ _ b hb'
      rw [List.getElem?_set_ne (by omega)]
      rcases (show i = i / 2 * 2 ∨ i = i / 2 * 2 + 1 by omega) with h | h
      · rw [← h] at b1 c1
        rw [b1, c1]
      · rw [← h] at b2 c2
        rw [b2, c2]
  · rw [List.getElem?_eq_none (by simp [actsV_len]; omega), List.getElem?_eq_none (by rw [actsV_len, List.length_set]; omega)]

/-- a store into the site of call k -/
theorem MachX.site {F : Nat → Prop} {w : World} {g ga c k : Nat} {m : Mach} {V : MV} (h : MachX F w g m V) (hv : V.vC = .slice (some ⟨ga, 0, none⟩) m.calls.length c) {a : Int × Bool} (ha : m.calls[k]? = some a) (x : Int) :
    MachX F (w.setCell ⟨ga, k * 2, none⟩ (.int .i64 x)) g { m with calls := m.calls.set k (x, a.2) } V := by
  have hb : V.vC.ownBlock = some ga := by rw [hv]; rfl
  have hro := h.vCF ga hb
  have hown := h.own
  rw [hv] at hown
  have ho2 := (hown.stored (k * 2) (.int .i64 x)).1
  rw [actsV_set ha x] at ho2
  have hlen : (m.calls.set k (x, a.2)).length = m.calls.length := List.length_set
  have ho3 : (w.setCell ⟨ga, k * 2, none⟩ (.int .i64 x)).ownsRow 0 53 2 V.vC (m.calls.set k (x, a.2)).length (actsV (m.calls.set k (x, a.2))) := by rw [hv, hlen]; exact ho2
  have hrx : ∀ j, RX F g V j → RO F g V j := fun j hj => hj.1
  have kk : Keep (RX F g V) (w.setCell ⟨ga, k * 2, none⟩ (.int .i64 x)) (w.setCell ⟨ga, k * 2, none⟩ (.int .i64 x)) := ⟨Nat.le_refl _, fun _ _ _ => rfl⟩
  have hi := h.inp.set_far (RX.not_acts hb) (k * 2) (.int .i64 x)
  have ho := h.out.set_far (RX.not_acts hb) (k * 2) (.int .i64 x)
  have hr : ∀ (i : Nat) (l : List Int), m.S[i]? = some l → ∃ u, V.us[i]? = some u ∧ IntsIn (RX F g V) (w.setCell ⟨ga, k * 2, none⟩ (.int .i64 x)) u l := fun i l hl => by
    obtain ⟨u, h1, h2⟩ := h.rows i l hl
    exact ⟨u, h1, h2.set_far (RX.not_acts hb) _ _⟩
  refine ⟨⟨h.mach.own, ?_, ?_, h.mach.memF, ?_, h.mach.stkF, fun i l hl => ?_, own_acts ho3 h.vCF, hi.keep kk hrx, ho.keep kk hrx⟩, ho3, h.vCF, hr, hi, ho⟩
  · exact h.mach.blk.far (p := ⟨ga, k * 2, none⟩) (fun e => hro.2.1 e.symm) _
  · refine ownsRow_setCell_other h.mach.mem (a := ⟨ga, k * 2, none⟩) ?_ _
    exact fun e => hro.2.2.1 e.symm
  · refine ownsRow_setCell_other h.mach.stk (a := ⟨ga, k * 2, none⟩) ?_ _
    exact fun e => hro.2.2.2 e.symm
  · obtain ⟨u, h1, h2⟩ := hr i l hl
    exact ⟨u, h1, h2.keep kk hrx⟩

/-- the first k calls are mirrored -/
def mirK (n : Int) (m : Mach) (k : Nat) : Mach := { m with pc := n - m.pc, dir := -m.dir, calls := (m.calls.take k).map (mirC n) ++ m.calls.drop k }
theorem mirK_zero (n : Int) (m : Mach) : mirK n m 0 = { m with pc := n - m.pc, dir := -m.dir } := by unfold mirK; simp
theorem mirK_all (n : Int) (m : Mach) : mirK n m m.calls.length = mir n m := by unfold mirK mir; simp
theorem mirK_len (n : Int) (m : Mach) (k : Nat) : (mirK n m k).calls.length = m.calls.length := by
  unfold mirK
  simp only [List.length_append, List.length_map, List.length_take, List.length_drop]
  omega
theorem mirK_at {n : Int} {m : Mach} {k : Nat} {a : Int × Bool} (ha : m.calls[k]? = some a) : (mirK n m k).calls[k]? = some a := by
  have hk : k < m.calls.length := (List.getElem?_eq_some_iff.1 ha).1
  unfold mirK
  dsimp only
  rw [List.getElem?_append_right (by simp; omega)]
  simp only [List.length_map, List.length_take, List.getElem?_drop]
  rw [Nat.min_eq_left (by omega), Nat.sub_self, Nat.add_zero]
  exact ha
theorem mirK_step {n : Int} {m : Mach} {k : Nat} {a : Int × Bool} (ha : m.calls[k]? = some a) : { mirK n m k with calls := (mirK n m k).calls.set k (n - 1 - a.1, a.2) } = mirK n m (k + 1) := by
  have hk : k < m.calls.length := (List.getElem?_eq_some_iff.1 ha).1
  unfold mirK
  congr 1
  dsimp only
  have hd : m.calls.drop k = a :: m.calls.drop (k + 1) := by
    rw [List.drop_eq_getElem_cons hk]
    congr 1
    rw [List.getElem?_eq_getElem hk] at ha
    exact Option.some.inj ha
  have hl : ((m.calls.take k).map (mirC n)).length = k := by simp; omega
  rw [hd, List.set_append_right _ _ (by omega), hl, Nat.sub_self, List.set_cons_zero, List.take_add_one, ha]
  simp [mirC]

def MirR (n : Int) (m : Mach) (w : World) (e : Ending) (w' : World) : Prop := CloM (mir n m) w e w'

set_option maxRecDepth 100000 in
set_option maxHeartbeats 16000000 in
theorem mirror_any {P : Nat → Prop} (g : Nat) (m : Mach) (V : MV) (n : Nat) (w : World) (h : MachR P w g m V) (hM : m.M.length ≤ 1000000) (hS : m.S.length ≤ 1000000) (hA : m.calls.length ≤ 1000000) (hI : m.inp.length ≤ 1000000) (hO : m.out.length ≤ 1000000) (hL : ∀ s ∈ m.S, s.length ≤ 1000000)
    (hn : n ≤ 1000) (hp0 : 0 ≤ m.pc) (hp1 : m.pc ≤ n) (hd : m.dir = 1 ∨ m.dir = -1) (hs : ∀ a ∈ m.calls, 0 ≤ a.1 ∧ a.1 < n) :
    Calls Tryd.prog 13 #[.pointer (some ⟨g, 0, none⟩), .int .i64 n] w (MirR n m w) := by
  have HCL := Lib.hid (Clone_own g m V w h hM hS hA hI hO hL)
  have hgl := h.blk.lt
  obtain ⟨⟨aA, cA, hvA, -, -, hA3⟩, -⟩ := id h.rows.acts
  have y0 : w.cell? ⟨g, 0, none⟩ = some (.int .i64 m.pc) := h.cell (by decide)
  have y1 : w.cell? ⟨g, 1, none⟩ = some (.int .i64 m.dir) := h.cell (by decide)
  have y20 : w.cell? ⟨g, 20, none⟩ = some V.vC := h.cell (by decide)
  rw [hvA] at y20
  obtain ⟨nA, hnA⟩ : ∃ nA, m.calls.length = nA := ⟨_, rfl⟩
  rw [hnA] at y20 hA3
  have HNA := Lib.hid hnA
  have HA3 := Lib.hid hA3
  have HSI := Lib.hid hs
  have hA63 : nA ≤ 9223372036854775807 := by omega
  obtain ⟨pc, hpc⟩ : ∃ pc, m.pc = pc := ⟨_, rfl⟩
  obtain ⟨d, hdd⟩ : ∃ d, m.dir = d := ⟨_, rfl⟩
  rw [hpc] at y0 hp0 hp1
  rw [hdd] at y1 hd
  have HPC := Lib.hid hpc
  have HDD := Lib.hid hdd
  have hd1 : -1 ≤ d := by omega
  have hd2 : d ≤ 1 := by omega
  have hn0 : (0 : Int) ≤ (n : Int) := Int.natCast_nonneg _
  have hn1 : (n : Int) ≤ 1000 := by omega
  clear h hvA hnA hA3 hs hpc hdd hd hM hS hI hO hL hA
  go_enter Tryd.func13, Tryd.ntmps13
  go_wp2_with fail
  refine HCL.out.mono ?_
  rintro e w1 ⟨V1, G, rfl, hb1, hx1⟩
  have hGl : w.heap.size ≤ G := hx1.mach.own.1
  have hgG : g ≠ G := by omega
  have hGg : G ≠ g := Ne.symm hgG
  have HB1 := Lib.hid hb1
  have HX1 := Lib.hid hx1
  have y0 := cell_lo hb1 hgl y0
  have y1 := cell_lo hb1 hgl y1
  have Y20 := Lib.hid y20
  have y20 := cell_lo hb1 hgl y20
  have z0 : w1.cell? ⟨G, 0, none⟩ = some (.int .i64 m.pc) := hx1.mach.cell (by decide)
  have z1 : w1.cell? ⟨G, 1, none⟩ = some (.int .i64 m.dir) := hx1.mach.cell (by decide)
  have z20 : w1.cell? ⟨G, 20, none⟩ = some V1.vC := hx1.mach.cell (by decide)
  have f0 := hx1.mach.blk.free 0
  have f1 := hx1.mach.blk.free 1
  obtain ⟨aN, cN, hvN⟩ := own_form hx1.own
  rw [HNA.out] at hvN
  rw [hvN] at z20
  rw [HPC.out] at z0
  rw [HDD.out] at z1
  have HVN := Lib.hid hvN
  clear hb1 hx1 hvN
  go_wp2
  have hxs := (HX1.out.pc ((n : Int) - pc)).dir (-d)
  have hbs := (HB1.out.setCell (p := ⟨G, 0, none⟩) hGl (.int .i64 ((n : Int) - pc))).setCell (p := ⟨G, 1, none⟩) hGl (.int .i64 (-d))
  have hxs : MachX (fun j => w.heap.size ≤ j ∧ j < w1.heap.size) ((w1.setCell ⟨G, 0, none⟩ (.int .i64 ((n : Int) - pc))).setCell ⟨G, 1, none⟩ (.int .i64 (-d))) G (mirK n m 0) V1 := by rw [mirK_zero, HPC.out, HDD.out]; exact hxs
  obtain ⟨W2, hW2⟩ : ∃ W2, W2 = (w1.setCell ⟨G, 0, none⟩ (.int .i64 ((n : Int) - pc))).setCell ⟨G, 1, none⟩ (.int .i64 (-d)) := ⟨_, rfl⟩
  have hs2 : W2.heap.size = w1.heap.size := by rw [hW2]; simp [World.setCell]
  rw [← hW2] at hxs hbs ⊢
  have HX2 := Lib.hid hxs
  have HB2 := Lib.hid hbs
  clear hxs hbs hW2 y0 y1 y20 z0 z1 z20 f0 f1
  go_loopg [31] nA (fun q i wr => ∃ k : Nat, k + q = nA ∧ i = .int .i64 k ∧ wr.heap.size = w1.heap.size ∧ Hid (MachX (fun j => w.heap.size ≤ j ∧ j < w1.heap.size) wr G (mirK n m k) V1) ∧ Hid (Below w.heap.size w wr))
  case atStart => exact ⟨0, by omega, rfl, hs2, HX2, HB2⟩
  case round =>
    obtain ⟨k, hk, rfl, hsz, hx, hb⟩ := hrel
    have Hk := Lib.hid hk
    have hkn : k ≤ nA := by omega
    clear hk
    by_cases hlt : k < nA
    · have hlt' : (k : Int) < (nA : Int) := by omega
      have hk0 : (0 : Int) ≤ (k : Int) := Int.natCast_nonneg _
      obtain ⟨gO, oO, rfl, hgO, -, hq⟩ := HA3.out (by omega)
      obtain ⟨a, ha⟩ := get_lt HNA.out.symm hlt
      have m0 : wr.cell? ⟨gO, oO + k * 2, none⟩ = some (.int .i64 a.1) := cell_lo hb.out hgO (hq k a ha).1
      have y20 := cell_lo hb.out hgl Y20.out
      obtain ⟨s0, s1⟩ := HSI.out a (List.mem_of_getElem? ha)
      have hown := hx.out.own
      obtain ⟨ga, cg, hvg⟩ : ∃ ga cg, V1.vC = .slice (some ⟨ga, 0, none⟩) nA cg := by
        rcases hown.2 with ⟨_, hz⟩ | ⟨g', cap, cur, h0, _⟩
        · rw [mirK_len, HNA.out] at hz; omega
        · rw [mirK_len, HNA.out] at h0; exact ⟨g', cap, h0⟩
      have z20 : wr.cell? ⟨G, 20, none⟩ = some V1.vC := hx.out.mach.cell (by decide)
      have hgaG : ga ≠ G := (hx.out.vCF ga (by rw [hvg]; rfl)).2.1
      rw [hvg] at hown z20
      rw [mirK_len, HNA.out] at hown
      have c0 : wr.cell? ⟨ga, k * 2, none⟩ = some (.int .i64 a.1) := (hown.cellAt _ (by omega)).trans (actsV_get _ _ _ (mirK_at ha)).1
      have fz : wr.frozen? ⟨ga, k * 2, none⟩ = false := hown.frozenAt _
      have hsa : V1.vC = .slice (some ⟨ga, 0, none⟩) (mirK n m k).calls.length cg := by rw [mirK_len, HNA.out]; exact hvg
      have hx3 := hx.out.site hsa (mirK_at ha) ((n : Int) - 1 - a.1)
      rw [mirK_step ha] at hx3
      have hga : w.heap.size ≤ ga := (hx.out.vCF ga (by rw [hvg]; rfl)).1.1
      have HX3 := Lib.hid hx3
      have HB3 := Lib.hid (hb.out.setCell (p := ⟨ga, k * 2, none⟩) hga (.int .i64 ((n : Int) - 1 - a.1)))
      rw [HVN.out] at hvg
      injection hvg with hv1 hv2 hv3
      subst hv1 hv3
      generalize a.1 = s at *
      clear hq ha hown hsa hx3 hx hb HCL HX1 HX2 hv2
      go_wp2
      go_region
      all_goals go_wp2
      have hk := Hk.out
      go_roundg (nA - (k + 1))
      case measure => omega
      case rel => exact ⟨k + 1, by omega, by go_num, by simpa [World.setCell] using hsz, Lib.hid (HX3.out.keep ⟨Nat.le_refl _, fun _ _ _ => rfl⟩ (fun _ h => h)), Lib.hid (below_drew HB3.out)⟩
    · have hge : ¬ (k : Int) < (nA : Int) := by omega
      obtain rfl : k = nA := by omega
      have hxm := hx.out.mach
      rw [← HNA.out, mirK_all] at hxm
      go_wp2
      go_ret
      exact ⟨_, _, rfl, hb.out, hxm.mono (fun j hj => ⟨hj.1, by rw [hsz]; exact hj.2⟩)⟩

end Go.Proofs.YtichiccohmeecaaDoor
