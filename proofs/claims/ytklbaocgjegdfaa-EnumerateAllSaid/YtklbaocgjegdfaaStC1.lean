/- The walk of Clone. -/
import Derived.Test.YtklbaocgjegdfaaStN2
import Derived.Deep.DeepCutAuto
namespace Go.Proofs.Ytklbaocgjegdfaa
open Go.RowKit

theorem cell_set3 {w : World} {b j g : Nat} {u : Value} (h : w.cell? ⟨b, j, none⟩ = some u) (hne : b ≠ g) (x y z : Value) : (((w.setCell ⟨g, 0, none⟩ x).setCell ⟨g, 1, none⟩ y).setCell ⟨g, 2, none⟩ z).cell? ⟨b, j, none⟩ = some u := by
  have hn : ∀ i, (⟨g, i, none⟩ : Addr) ≠ ⟨b, j, none⟩ := fun i e => hne (by injection e with e1; exact e1.symm)
  rw [World.cell?_setCell_other _ _ _ _ (hn 2), World.cell?_setCell_other _ _ _ _ (hn 1), World.cell?_setCell_other _ _ _ _ (hn 0)]
  exact h

theorem results_state1 {fn : Func} {r : Tmp} (h : fn.results = #[.cell r 35]) (tmps : Array Value) (w : World) (g : Nat) (c i o : Value) (hp : tmps.getD r undef = .pointer (some ⟨g, 0, none⟩)) (hb : Blk w g 35 #[c, i, o]) :
    (results fn tmps).run Try.prog w = .ok (.agg #[c, i, o]) w := by
  have b0 := hb.cell 0
  have b1 := hb.cell 1
  have b2 := hb.cell 2
  rw [Array.getD_eq_getD_getElem?] at hp
  simp [results, h, hp, go_sem, b0, b1, b2]

theorem own_set {w : World} {base : Nat} {e : TypeId} {size n : Nat} {v : Value} {xs : List Value} (h : w.ownsRow base e size v n xs) {g : Nat} {t : TypeId} {cs : Array Value} (hb : Blk w g t cs) (hne : e ≠ t) (i : Nat) (u : Value) : (w.setCell ⟨g, i, none⟩ u).ownsRow base e size v n xs :=
  h.kept (gr_set (gr_refl w g) i u) (.inr (Ne.symm (hb.own_ne h hne)))

theorem set3_all {w : World} {g : Nat} {t : TypeId} {a b c : Value} (h : Blk w g t #[a, b, c]) (x y z : Value) :
    Blk (((w.setCell ⟨g, 0, none⟩ x).setCell ⟨g, 1, none⟩ y).setCell ⟨g, 2, none⟩ z) g t #[x, y, z] ∧
    (∀ {base : Nat} {e : TypeId} {size n : Nat} {v : Value} {xs : List Value}, w.ownsRow base e size v n xs → e ≠ t → (((w.setCell ⟨g, 0, none⟩ x).setCell ⟨g, 1, none⟩ y).setCell ⟨g, 2, none⟩ z).ownsRow base e size v n xs) ∧
    ∀ {B : Nat} {W : World}, Below B W w → B ≤ g → Below B W (((w.setCell ⟨g, 0, none⟩ x).setCell ⟨g, 1, none⟩ y).setCell ⟨g, 2, none⟩ z) := by
  have h1 := h.set 0 x
  have h2 := h1.set 1 y
  have h3 := h2.set 2 z
  exact ⟨h3, fun ho hne => own_set (own_set (own_set ho h hne 0 x) h1 hne 1 y) h2 hne 2 z,
    fun hb hB => ((hb.setCell (p := ⟨g, 0, none⟩) hB x).setCell (p := ⟨g, 1, none⟩) hB y).setCell (p := ⟨g, 2, none⟩) hB z⟩

set_option maxRecDepth 100000 in
set_option maxHeartbeats 8000000 in
theorem sclone_any (s : St) (v : Value) (w : World) (h : StAt w v s) (hz : Sized s) (hc40 : s.cells.length ≤ 1000000) :
    Calls Try.prog 22 #[v] w fun e w' => ∃ r, e = .returned r ∧ StNew w.heap.size w' r s ∧ Below w.heap.size w w' := by
  obtain ⟨c1, i1, o1, rfl, h1, h2, h3⟩ := id h
  obtain ⟨a1, k1, rfl, -, -, -⟩ := id h1
  obtain ⟨n, hn⟩ : ∃ n, n = s.cells.length := ⟨_, rfl⟩
  rw [← hn] at h1 ⊢
  obtain ⟨W, hW⟩ : ∃ W, W = (w.alloc (.cells #[.slice a1 n k1, i1, o1] 35)).alloc (.cells #[.slice none 0 0, .slice none 0 0, .slice none 0 0] 35) := ⟨_, rfl⟩
  have hB0 : Below w.heap.size w W := by rw [hW]; exact ((Below.refl _ _).alloc (Nat.le_refl _) _).alloc (by simp) _
  have hb1 : Blk W w.heap.size 35 #[.slice a1 n k1, i1, o1] := by rw [hW]; exact (Blk.new _ _ _).next (below_alloc _ _)
  have hb2 : Blk W (w.heap.size + 1) 35 #[.slice none 0 0, .slice none 0 0, .slice none 0 0] := by
    rw [hW]
    have := Blk.new (w.alloc (.cells #[.slice a1 n k1, i1, o1] 35)) 35 #[.slice none 0 0, .slice none 0 0, .slice none 0 0]
    simpa using this
  have HW := Lib.hid hW
  have HB0 := Lib.hid hB0
  have HK1 := Lib.hid hb1
  have HK2 := Lib.hid hb2
  have H1 := Lib.hid (h1.below hB0 (Nat.le_refl _))
  have H2 := Lib.hid (h2.below hB0 (Nat.le_refl _))
  have H3 := Lib.hid (h3.below hB0 (Nat.le_refl _))
  have HZ := Lib.hid hz
  have HN := Lib.hid hn
  have hn6 : n ≤ 1000000 := by omega
  have hWs : w.heap.size + 1 < W.heap.size := hb2.lt
  have b1 := hb1.cell 0
  have b2 := hb1.cell 1
  have b3 := hb1.cell 2
  have HCI : Hid (∀ w', Below W.heap.size W w' → Calls Try.prog 37 #[i1] w' _) := fun w' hb => clone_any s.inp _ w' (H2.out.below hb (Nat.le_refl _)) HZ.out.1
  have HCO : Hid (∀ w', Below W.heap.size W w' → Calls Try.prog 37 #[o1] w' _) := fun w' hb => clone_any s.out _ w' (H3.out.below hb (Nat.le_refl _)) HZ.out.2.1
  clear h h1 h2 h3 hW hB0 hb1 hb2 hz hn hc40
  go_enter Try.func22, Try.ntmps22
  go_upto_region 1 with (fail)
  rw [← HW.out]
  go_cut [3] (fun s3 wx => ∃ (g : Nat) (ui uo : Value), s3 = .pointer (some ⟨g, 0, none⟩) ∧ Blk wx g 35 #[.slice none 0 0, ui, uo] ∧ W.heap.size ≤ g ∧ IntsNew W.heap.size wx ui s.inp ∧ IntsNew W.heap.size wx uo s.out ∧ Below W.heap.size W wx)
  case first =>
    have HX : Hid (Below W.heap.size W W) := Below.refl _ _
    have bb2 := alloc_cell (show W.cell? ⟨w.heap.size, 1, none⟩ = some i1 from b2) (.cells #[.slice none 0 0, .slice none 0 0, .slice none 0 0] 35)
    have bb3 := alloc_cell (show W.cell? ⟨w.heap.size, 2, none⟩ = some o1 from b3) (.cells #[.slice none 0 0, .slice none 0 0, .slice none 0 0] 35)
    go_region_law
      (first
        | (go_simp; go_at_call 37; (with_reducible refine (HCI.out _ ?_).mono ?_); (first | exact HX.out | exact below_drew HX.out | exact HX.out.alloc HX.out.size _ | exact below_drew (HX.out.alloc HX.out.size _) | exact (below_drew HX.out).alloc (by exact HX.out.size) _); rintro e wa ⟨ui, rfl, howna, hba⟩; obtain ⟨aa, ca, rfl⟩ := own_form howna; have HX : Hid (Below W.heap.size W wa) := Lib.hid (by first | exact below_next HX.out (Nat.le_refl _) hba | exact below_next' HX.out (Nat.le_refl _) hba | exact below_next (HX.out.alloc HX.out.size _) (Nat.le_refl _) hba | exact below_next' (HX.out.alloc HX.out.size _) (Nat.le_refl _) hba); have HOa : Hid (IntsNew W.heap.size wa (.slice aa s.inp.length ca) s.inp) := Lib.hid (own_mono howna (by first | exact Nat.le_refl _ | simp)); have HXA := HX; have ka2 : wa.cell? ⟨w.heap.size, 2, none⟩ = some o1 := (HK1.out.next HX.out).cell 2; have ka3 := alloc_cell ka2 (.cells #[.slice none 0 0, .slice none 0 0, .slice none 0 0] 35); (try (have HZ0 : Hid (Blk wa W.heap.size 35 #[.slice none 0 0, .slice none 0 0, .slice none 0 0]) := Lib.hid (by first | exact (Blk.new W _ _).next hba | exact (Blk.new W _ _).next (below_undrew hba) | exact (Blk.new W.drew _ _).next hba | exact (Blk.new W.drew _ _).next (below_undrew hba)))); clear howna hba)
        | (go_simp; go_at_call 37; (with_reducible refine (HCO.out _ ?_).mono ?_); (first | exact HX.out | exact below_drew HX.out | exact HX.out.alloc HX.out.size _ | exact below_drew (HX.out.alloc HX.out.size _) | exact (below_drew HX.out).alloc (by exact HX.out.size) _); rintro e wb ⟨uo, rfl, hownb, hbb⟩; obtain ⟨ab, cb, rfl⟩ := own_form hownb; have HXB : Hid (Below wa.heap.size wa wb) := Lib.hid (by first | exact hbb | exact below_undrew hbb | exact below_next (below_alloc _ _) (Nat.le_refl _) hbb | exact below_next' (below_alloc _ _) (Nat.le_refl _) hbb); have HX : Hid (Below W.heap.size W wb) := Lib.hid (below_next HX.out (Nat.le_refl _) HXB.out); have HOb : Hid (IntsNew W.heap.size wb (.slice ab s.out.length cb) s.out) := Lib.hid (own_mono hownb (Nat.le_trans HXA.out.size (by first | exact Nat.le_refl _ | simp))); have kb1 : wb.cell? ⟨w.heap.size, 1, none⟩ = some i1 := (HK1.out.next HX.out).cell 1; have kb2 : wb.cell? ⟨w.heap.size, 2, none⟩ = some o1 := (HK1.out.next HX.out).cell 2; have ne1 : w.heap.size ≠ wa.heap.size := (by have := HXA.out.size; omega); have ne2 : w.heap.size ≠ W.heap.size := (by omega); (try (have HZ1 : Hid (Blk wb wa.heap.size 35 #[.slice none 0 0, .slice none 0 0, .slice none 0 0]) := Lib.hid (by first | exact (Blk.new wa _ _).next hbb | exact (Blk.new wa _ _).next (below_undrew hbb) | exact (Blk.new wa.drew _ _).next hbb | exact (Blk.new wa.drew _ _).next (below_undrew hbb)); have zz0 := HZ1.out.cell 0; have zz1 := HZ1.out.cell 1; have zz2 := HZ1.out.cell 2; have zz3 := HZ1.out.free 0; have zz4 := HZ1.out.free 1; have zz5 := HZ1.out.free 2)); (try (have HZ1 := Lib.hid (HZ0.out.next HXB.out); have zz0 := HZ1.out.cell 0; have zz1 := HZ1.out.cell 1; have zz2 := HZ1.out.cell 2; have zz3 := HZ1.out.free 0; have zz4 := HZ1.out.free 1; have zz5 := HZ1.out.free 2)); clear hownb hbb))
    all_goals
      go_wp2
      go_meet
      first
        | exact ⟨wb.heap.size, _, _, rfl, Blk.new _ _ _, HX.out.size, own_below (own_below HOa.out HXB.out) (below_alloc _ _), own_below HOb.out (below_alloc _ _), HX.out.alloc HX.out.size _⟩
        | exact ⟨wa.heap.size, _, _, rfl, (set3_all HZ1.out _ _ _).1, HXA.out.size, (set3_all HZ1.out _ _ _).2.1 (own_below HOa.out HXB.out) (by decide), (set3_all HZ1.out _ _ _).2.1 HOb.out (by decide), (set3_all HZ1.out _ _ _).2.2 HX.out HXA.out.size⟩
        | exact ⟨W.heap.size, _, _, rfl, (set3_all HZ1.out _ _ _).1, Nat.le_refl _, (set3_all HZ1.out _ _ _).2.1 (own_below HOa.out HXB.out) (by decide), (set3_all HZ1.out _ _ _).2.1 HOb.out (by decide), (set3_all HZ1.out _ _ _).2.2 HX.out (Nat.le_refl _)⟩
  case rest =>
    obtain ⟨g, ui, uo, hs3, hblk, hgW, hI, hO, hbW⟩ := hcut
    subst hs3
    obtain ⟨aui, cui, rfl⟩ := own_form hI
    obtain ⟨auo, cuo, rfl⟩ := own_form hO
    obtain ⟨j0, hj, hy0, hy1, hy2⟩ := info_parts rowInfo
    have bb1 : wc.cell? ⟨w.heap.size, 0, none⟩ = some (.slice a1 n k1) := (HK1.out.next hbW).cell 0
    have hgc := hblk.lt
    have HBL := Lib.hid hblk
    have HI := Lib.hid hI
    have HO := Lib.hid hO
    have HBW := Lib.hid hbW
    have hszW := hbW.size
    have hn63 : n ≤ 9223372036854775807 := by omega
    clear hblk hI hO hbW b1 b2 b3
    go_wp2
    go_loopg [16] n (fun q i wr => ∃ k : Nat, k + q = n ∧ i = .int .i64 k ∧ wc.grownBy wr (some g) ∧ ∃ c vs, Blk wr g 35 #[c, .slice aui s.inp.length cui, .slice auo s.out.length cuo] ∧ RowsNew wc.heap.size wr c vs (s.cells.take k))
    case atStart => exact ⟨0, by omega, rfl, gr_refl _ _, _, _, HBL.out, RowsNew.nil _ _⟩
    case round =>
      obtain ⟨k, hk, rfl, hgr, c, vs, hblk, hrow⟩ := hrel
      have Hk := Lib.hid hk
      have hkn : k ≤ n := by omega
      have HG := Lib.hid hgr
      have HK := Lib.hid hblk
      have HR := Lib.hid hrow
      have hszr := hgr.size
      have hkg := hblk.lt
      clear hk hgr hblk hrow
      by_cases hlt : k < n
      · have hlt' : (k : Int) < (n : Int) := by omega
        obtain ⟨g1, f1, rfl, hg1, hq⟩ := H1.out.get (by omega)
        obtain ⟨l, hl⟩ := get_lt HN.out hlt
        obtain ⟨u, hu, hiu⟩ := hq k l hl
        have hbr : Below W.heap.size W wr := HBW.out.grown HG.out HBW.out.size (fun j hj => by cases hj; exact hgW)
        have m0 := cell_below hbr hg1 hu
        have HIU := Lib.hid (hiu.below hbr (Nat.le_refl _))
        have hlz := HZ.out.2.2 l (List.mem_of_getElem? hl)
        have HT : Hid (s.cells.take (k + 1) = s.cells.take k ++ [l]) := by unfold Hid; rw [List.take_add_one, hl]; rfl
        have HLZ := Lib.hid hlz
        have HC : Hid (wr.ownsRow wc.heap.size 33 1 c k vs) := by
          have h := HR.out.1
          rw [List.length_take, ← HN.out, Nat.min_eq_left hkn] at h
          exact h
        have c0 : wr.cell? ⟨g, 0, none⟩ = some c := HK.out.cell 0
        have z0 := HK.out.free 0
        clear hq hl hu hiu hbr hlz
        go_wp2_with fail
        go_region_law (first
          | (go_simp; go_at_call 37; refine (clone_any l _ _ (by exact HIU.out) HLZ.out).mono ?_; rintro e w4 ⟨u4, rfl, hown4, hb4⟩; have HB4 : Hid (Below wr.heap.size wr w4) := ⟨hb4.os, hb4.tape, hb4.output, hb4.size, hb4.block⟩; have HO4 : Hid (IntsNew wc.heap.size w4 u4 l) := Lib.hid (own_mono hown4 (Nat.le_trans hszr (by first | exact Nat.le_refl _ | simp))); obtain ⟨a4, c4, rfl⟩ := own_form hown4; have y0 : w4.cell? ⟨g, 0, none⟩ = some c := (HK.out.next HB4.out).cell 0; have y2 := alloc_cell y0 (.cells #[.slice a4 l.length c4] 33); clear hown4 hb4)
          | (refine step_append_own (w4.alloc (.cells #[.slice a4 l.length c4] 33)) rfl (.tmp 21) (.tmp 24) 32 rfl wc.heap.size 33 j0 (.slice none 0 0) 1 24 Try.underlying32 hj hy0 hy1 hy2 rfl (by decide) c k vs ?hs ?hown ⟨w4.heap.size, 0, none⟩ 1 1 [.slice a4 l.length c4] ?hx rfl ?hn ?c2 ?c3 ?c4 ?c5 ?_
             case hs => simp [Act.eval]
             case hx => simp [Act.eval]
             case hown => exact (own_below HC.out HB4.out).alloc _
             case hn => exact cell_one_new _ _ _
             case c2 => intro u hu; simp only [List.mem_cons, List.not_mem_nil, or_false] at hu; rcases hu with rfl; rfl
             case c3 => unfold maxLen; omega
             case c4 => omega
             case c5 => have := HB4.out.size; simp at this ⊢; omega
             intro v5 w5 hown5 hgrow5
             obtain ⟨a5, cc5, rfl⟩ := own_form hown5
             have hk5 := (HK.out.next HB4.out).next (below_alloc w4 (.cells #[.slice a4 l.length c4] 33))
             have ho5 := (own_below HC.out HB4.out).alloc (.cells #[.slice a4 l.length c4] 33)
             have HK5 := Lib.hid (hk5.grown hgrow5 (hk5.own_ne ho5 (by decide)))
             have x0 := HK5.out.cell 0
             have z0 := HK5.out.free 0
             have Hown5 := Lib.hid hown5
             have Hgrow5 := Lib.hid hgrow5
             clear hown5 hgrow5 hk5 ho5))
        all_goals
          go_wp2
          have hw45 : Below wr.heap.size wr (w4.alloc (.cells #[.slice a4 l.length c4] 33)) := below_next HB4.out (Nat.le_refl _) (below_alloc _ _)
          have hrow5 := HR.out.next hw45
          have hu : IntsNew wc.heap.size (w4.alloc (.cells #[.slice a4 l.length c4] 33)) (.slice a4 l.length c4) l := own_below HO4.out (below_alloc _ _)
          have hrow6 := (hrow5.snoc hu (by rw [List.length_take, ← HN.out, Nat.min_eq_left hkn]; exact Hown5.out) Hgrow5.out).far hgc 0 (.slice a5 (k + 1) cc5)
          rw [← HT.out] at hrow6
          have hk6' := HK5.out.set 0 (.slice a5 (k + 1) cc5)
          have hg6 := gr_set (gr_grown (gr_below HG.out hw45) Hgrow5.out (fun j hj => .inr (((own_below HC.out hw45).lt j hj).1))) 0 (.slice a5 (k + 1) cc5)
          have HR6 := Lib.hid hrow6
          have HK6 := Lib.hid hk6'
          have HG6 := Lib.hid hg6
          clear hrow6 hk6' hg6 hu hrow5 hw45 HK5 Hown5 Hgrow5
          have hk := Hk.out
          go_roundg (n - (k + 1))
          case measure => omega
          case rel => exact ⟨k + 1, by omega, by go_num, HG6.out, _, _, HK6.out, HR6.out⟩
      · have hge : ¬ (k : Int) < (n : Int) := by omega
        have hrow := HR.out
        rw [List.take_of_length_le (by rw [← HN.out]; omega)] at hrow
        have HR2 := Lib.hid hrow
        obtain ⟨ac, cc, rfl⟩ := own_form hrow.1
        have b0 := HK.out.cell 0
        have b1 := HK.out.cell 1
        have b2 := HK.out.cell 2
        have hbk := (HK2.out.next HBW.out).grown HG.out (by simp; omega)
        have y0 := hbk.cell 0
        have y1 := hbk.cell 1
        have y2 := hbk.cell 2
        have z0 := hbk.free 0
        have z1 := hbk.free 1
        have z2 := hbk.free 2
        have HBK4 := Lib.hid hbk
        have HIN4 := Lib.hid (HI.out.kept HG.out (.inr (Ne.symm (HBL.out.own_ne HI.out (by decide)))))
        have HON4 := Lib.hid (HO.out.kept HG.out (.inr (Ne.symm (HBL.out.own_ne HO.out (by decide)))))
        have HB4 := Lib.hid ((below_next HB0.out (Nat.le_refl _) HBW.out).grown HG.out (Nat.le_trans HB0.out.size hszW) (fun j hj => by cases hj; have := HB0.out.size; omega))
        clear hrow HR hbk
        go_wp2
        have h3 := set3_all HBK4.out (.slice ac s.cells.length cc) (.slice aui s.inp.length cui) (.slice auo s.out.length cuo)
        have hk3 := h3.1
        have hr3 := ((HR2.out.far (by omega : w.heap.size + 1 < wc.heap.size) 0 (.slice ac s.cells.length cc)).far (by omega : w.heap.size + 1 < wc.heap.size) 1 (.slice aui s.inp.length cui)).far (by omega : w.heap.size + 1 < wc.heap.size) 2 (.slice auo s.out.length cuo)
        have hi3 := h3.2.1 HIN4.out (by decide)
        have ho3 := h3.2.1 HON4.out (by decide)
        have hb3 := h3.2.2 HB4.out (by omega)
        clear h3
        generalize World.setCell _ _ _ = wf at *
        refine bodyPost_ret (results_state1 rfl _ _ _ _ _ _ rfl hk3) rfl ⟨_, rfl, ?_, hb3⟩
        have hs : StNew W.heap.size wf (.agg #[.slice ac s.cells.length cc, .slice aui s.inp.length cui, .slice auo s.out.length cuo]) s :=
          ⟨_, _, _, _, rfl, ⟨own_mono hr3.1 hszW, fun j l' hl' => by
            obtain ⟨u', h1, h2⟩ := hr3.2 j l' hl'
            exact ⟨u', h1, own_mono h2 hszW⟩⟩, hi3, ho3⟩
        exact hs.mono HB0.out.size
end Go.Proofs.Ytklbaocgjegdfaa
