/- cpu.New at the image of one instruction. -/
import Derived.Test.YtichiccohmeecaaDoorWhL2
namespace Go.Proofs.YtichiccohmeecaaDoor
open Go.RowKit

def im0 : Im := ⟨[⟨4, 1, 5, 0, 0⟩], 1, 1⟩
def m0 : Mach := ⟨0, 1, fun _ => 0, [0], [[]], [], 0, 0, [], []⟩
def V0 (gM gS : Nat) : MV := ⟨.slice (some ⟨gM, 0, none⟩) 1 1, .slice (some ⟨gS, 0, none⟩) 1 1, .slice none 0 0, .slice none 0 0, .slice none 0 0, [.slice none 0 0]⟩
def zeros : Array Value := #[.int .i64 0, .int .i64 0, .int .i64 0, .int .i64 0, .int .i64 0, .int .i64 0, .int .i64 0, .int .i64 0, .int .i64 0, .int .i64 0, .int .i64 0, .int .i64 0, .int .i64 0, .int .i64 0, .int .i64 0, .int .i64 0, .int .i64 0, .int .i64 0, .slice none 0 0, .slice none 0 0, .slice none 0 0, .int .i64 0, .int .i64 0, .slice none 0 0, .slice none 0 0]

theorem im0_check : checkB im0 = true := by decide +kernel

theorem results_mach {fn : Func} {r t : Tmp} (h : fn.results = #[.cell r 30, .tmp t]) (tmps : Array Value) (w : World) (g : Nat) (cs : Array Value) (hc : cs.size = 25) (hp : tmps.getD r undef = .pointer (some ⟨g, 0, none⟩)) (hb : Blk w g 30 cs) :
    (results fn tmps).run Tryd.prog w = .ok (.tuple #[.agg cs, tmps.getD t undef]) w := by
  have hl := run_loadVar_row (P := Tryd.prog) w g 30 30 cs (0, 0) _ hb Tryd.underlying30 rfl (by rw [hc]; exact machSize)
  rw [Array.getD_eq_getD_getElem?] at hp
  simp [results, h, hp, asAddr, hl]

theorem build_mach : ∀ gM gS W, (Instr.build 30 #[(1, .int .i64 1), (3, .slice (some ⟨gM, 0, none⟩) 1 1), (4, .slice (some ⟨gS, 0, none⟩) 1 1), (8, .slice none 0 0)]).run Tryd.prog W = .ok (.agg (mcs m0 (V0 gM gS))) W := fun gM gS W => run_build W 30 _ _ (by kernel_rfl)
theorem make_one_row : ∀ W, (Instr.makeSlice 27 (.int .i64 1) (.int .i64 1)).run Tryd.prog W = .ok (.slice (some ⟨W.heap.size, 0, none⟩) 1 1) (W.alloc (.cells #[Value.slice none 0 0] 26)) := fun W => make_rows 1 (by decide) W
theorem make_one_int : ∀ W, (Instr.makeSlice 26 (.int .i64 1) (.int .i64 1)).run Tryd.prog W = .ok (.slice (some ⟨W.heap.size, 0, none⟩) 1 1) (W.alloc (.cells #[Value.int .i64 0] 3)) := fun W => by
  obtain ⟨i0, hi, hz0, hz1, hz2⟩ := info_parts intInfo
  have h := run_make (P := Tryd.prog) W 26 3 i0 (.int .i64 0) Tryd.underlying26 hi hz0 .i64 .i64 1 1 (by omega) (Int.le_refl _) (by rw [hz2]; omega) (by omega)
  rw [hz1] at h
  have e : madeCells (Value.cells (.int .i64 0)) 1 = #[Value.int .i64 0] := by
    apply Array.toList_inj.1
    exact toList_madeCells_one _ _
  rw [show Int.toNat 1 * 1 = 1 from rfl, e] at h
  exact h

theorem store_mach {W : World} {G : Nat} {old : Array Value} (hb : Blk W G 30 old) (ho : old.size = 25) {m : Mach} {V : MV} (hV : OneV V) :
    (storeCells ⟨G, 0, none⟩ (mcs m V).toList 0).run Tryd.prog W = .ok () (W.setRow G (mcs m V)) := by
  have h := run_storeVar_row (P := Tryd.prog) W G 30 30 old (mcs m V) hb (by rw [mcs_size]; exact machSize) (by rw [ho, mcs_size]) (mcs_one hV)
  have hz : ∀ w, (sizeOf 30).run Tryd.prog w = .ok 25 w := Tryd.sizeOf30
  simpa [storeVar, Sem.run_bind, Value.cells, mcs_size, hz] using h
theorem step_build {P : Program} (w : World) {ops : Array Oper} {o : Oper} {a : Act} {K : Act → World → Prop} {Q : Exit → Act → World → Prop} {E : Prop} (hgd : o.guard = none) (t : TypeId) (parts : Array (Nat × Operand)) (ho : o.op = .build t parts)
    (ps : Array (Nat × Value)) (hps : parts.map (fun (i, x) => (i, a.eval x)) = ps) (v : Value) (hrun : (Instr.build t ps).run P w = .ok v w) (h : K (a.put o.dst v) w) : if Region.wanted o (yielded ops a.tmps) = true then Oper.wp P o a w K Q else E := by
  have hw : Region.wanted o (yielded ops a.tmps) = true := by simp [Region.wanted, hgd]
  rw [if_pos hw]
  unfold Oper.wp execOp
  simp only [ho, Sem.run_bind, hps, hrun, Result.andThen_ok, Sem.run_pure]
  exact h
theorem step_store_row {P : Program} (w : World) {ops : Array Oper} {o : Oper} {a : Act} {K : Act → World → Prop} {Q : Exit → Act → World → Prop} {E : Prop} (hgd : o.guard = none) (ty : TypeId) (x y : Operand) (ho : o.op = .store ty x y)
    (g : Nat) (cells : Array Value) (hx : a.eval x = .pointer (some ⟨g, 0, none⟩)) (hy : a.eval y = .agg cells) (t : TypeId) (old : Array Value) (hg : w.heap[g]? = some (.cells old t (0, 0))) (hi : (P.info? ty).map (·.size) = some cells.size)
    (hold : old.size = cells.size) (h1 : cells.all (·.oneCell') = true) (h : K (a.put o.dst undef) (w.setRow g cells)) : if Region.wanted o (yielded ops a.tmps) = true then Oper.wp P o a w K Q else E := by
  have hw : Region.wanted o (yielded ops a.tmps) = true := by simp [Region.wanted, hgd]
  rw [if_pos hw]
  exact wp_store_row ty x y ho g cells hx hy t old hg hi hold h1 h
theorem new_end {w w1 : World} {G : Nat} (hb : Below w.heap.size w w1) (hG : w.heap.size + 1 = G) (hk : Blk w1 G 30 zeros) {t1 t2 : TypeId} {c1 c2 : Array Value} (o1 o2 : Obj) (cs : Array Value) (h1 : o1 = .cells c1 t1 := by rfl) (h2 : o2 = .cells c2 t2 := by rfl) :
    Blk (((w1.alloc o1).alloc o2).drew.setRow G cs) G 30 cs ∧ Below w.heap.size w (((w1.alloc o1).alloc o2).drew.setRow G cs) ∧ Blk (((w1.alloc o1).alloc o2).drew.setRow G cs) w1.heap.size t1 c1 ∧ Blk (((w1.alloc o1).alloc o2).drew.setRow G cs) (w1.heap.size + 1) t2 c2 := by
  subst h1 h2
  have hGl := hk.lt
  have hk2 : Blk (((w1.alloc (.cells c1 t1)).alloc (.cells c2 t2)).drew) G 30 zeros := ((hk.al _).al _).dr
  have hs := hb.size
  refine ⟨setRow_heap _ _ _ _ _ _ hk2, (below_drew (below_al (below_al hb (Nat.le_refl _) _) (Nat.le_refl _) _)).trans ⟨rfl, rfl, rfl, by simp [World.setRow], fun k hk => setRow_other _ _ _ _ (by omega)⟩, ?_, ?_⟩
  · have : Blk (((w1.alloc (.cells c1 t1)).alloc (.cells c2 t2)).drew) w1.heap.size t1 c1 := ((Blk.new _ _ _).al _).dr
    exact (setRow_other _ _ _ _ (by omega)).trans this
  · have : Blk (((w1.alloc (.cells c1 t1)).alloc (.cells c2 t2)).drew) (w1.heap.size + 1) t2 c2 := (Blk.new' (by simp)).dr
    exact (setRow_other _ _ _ _ (by omega)).trans this
/-- what New hands back -/
def NewR (w : World) (e : Ending) (w' : World) : Prop := ∃ gM gS, e = .returned (.tuple #[.agg (mcs m0 (V0 gM gS)), .int .i64 0]) ∧ Below w.heap.size w w' ∧ w.heap.size ≤ gM ∧ w.heap.size ≤ gS ∧ Blk w' gM 3 #[.int .i64 0] ∧ Blk w' gS 26 #[.slice none 0 0]

set_option maxRecDepth 100000 in
set_option maxHeartbeats 16000000 in
theorem New_any {P : Nat → Prop} (vc : Value) (w : World) (hC : CodeIn P w vc im0.code) (hT : TabAt w) :
    Calls Tryd.prog 14 #[imV vc im0, .slice none 0 0] w (NewR w) := by
  obtain ⟨W0, hW0⟩ : ∃ W0, W0 = (w.alloc (.cells #[vc, .int .i64 1, .int .i64 1] 24)).alloc (.cells zeros 30) := ⟨_, rfl⟩
  obtain ⟨G, hG⟩ : ∃ G, w.heap.size + 1 = G := ⟨_, rfl⟩
  have hB0 : Below w.heap.size w W0 := by rw [hW0]; exact below_al (below_alloc _ _) (Nat.le_refl _) _
  have hK0 : Blk W0 w.heap.size 24 #[vc, .int .i64 1, .int .i64 1] := by rw [hW0]; exact (Blk.new _ _ _).next (below_alloc _ _)
  have hK1 : Blk W0 G 30 zeros := by rw [hW0]; exact Blk.new' (by rw [← hG]; simp)
  have HV : Hid (Calls Tryd.prog 21 #[imV vc im0] W0 (FitsR true W0)) := Lib.hid (by
    have := image_valid im0 vc W0 (hC.below hB0) (hT.below hB0) (by decide)
    unfold ValidR at this
    rw [im0_check] at this
    exact this)
  obtain ⟨ac, cc, rfl, -, -, -⟩ := hC
  have HW0 := Lib.hid hW0
  have HB0 := Lib.hid hB0
  have HK0 := Lib.hid hK0
  have HK1 := Lib.hid hK1
  have HGG := Lib.hid hG
  have e0 : imV (.slice ac im0.code.length cc) im0 = .agg #[.slice ac 1 cc, .int .i64 1, .int .i64 1] := rfl
  rw [show im0.code.length = 1 from rfl] at *
  rw [show imV (.slice ac 1 cc) im0 = .agg #[.slice ac 1 cc, .int .i64 1, .int .i64 1] from rfl] at *
  have b0 := hK0.cell 0
  have b1 := hK0.cell 1
  have b2 := hK0.cell 2
  clear hW0 hB0 hK0 hK1 hG hT e0
  go_enter Tryd.func14, Tryd.ntmps14
  go_wp2_with fail
  have hw0 := HW0.out
  unfold zeros at hw0
  rw [← hw0, HGG.out]
  refine HV.out.mono ?_
  rintro e w1 ⟨rfl, hb⟩
  have hK0 := HK0.out.next hb
  have hK1 := HK1.out.next hb
  have y1 : w1.cell? ⟨w.heap.size, 1, none⟩ = some (.int .i64 1) := hK0.cell 1
  have y2 : w1.cell? ⟨w.heap.size, 2, none⟩ = some (.int .i64 1) := hK0.cell 2
  have HB1 := Lib.hid (below_next HB0.out (Nat.le_refl _) hb)
  have hlt : w.heap.size < w1.heap.size := hK0.lt
  have hGl : G < w1.heap.size := hK1.lt
  have hne : w.heap.size ≠ G := by have := HGG.out; omega
  have hm1 := make_one_row
  have hm2 := make_one_int
  have HK1 := Lib.hid hK1
  clear b0 b1 b2 hb hw0 hK0 hK1 HK0 HV
  go_wp2
  refine wp_region_held_drew (S := fun w' => w'.cell? ⟨w.heap.size, 1, none⟩ = some (.int .i64 1) ∧ w'.cell? ⟨w.heap.size, 2, none⟩ = some (.int .i64 1)) (by kernel_rfl) ⟨y1, y2⟩ (fun hS => ?_)
  refine wpAnyH_take (i := 0) (v := .pointer (some ⟨w.heap.size, 1, none⟩)) rfl (by kernel_rfl) (by kernel_rfl) (by kernel_rfl) (fun _ _ _ h => h) (Or.inl ⟨by rfl, fun w0 hw0 => by obtain ⟨s0, s1⟩ := hw0; go_simp⟩) hS ?_
  go_simp
  refine wpAnyH_take (i := 1) (v := .int .i64 1) rfl (by kernel_rfl) (by kernel_rfl) (by kernel_rfl) (fun _ _ _ h => h) (Or.inl ⟨by rfl, fun w0 hw0 => by obtain ⟨s0, s1⟩ := hw0; go_simp⟩) hS ?_
  go_simp
  refine wpAnyH_take (i := 3) (v := .pointer (some ⟨w.heap.size, 2, none⟩)) rfl (by kernel_rfl) (by kernel_rfl) (by kernel_rfl) (fun _ _ _ h => h) (Or.inl ⟨by rfl, fun w0 hw0 => by obtain ⟨s0, s1⟩ := hw0; go_simp⟩) hS ?_
  go_simp
  refine wpAnyH_take (i := 4) (v := .int .i64 1) rfl (by kernel_rfl) (by kernel_rfl) (by kernel_rfl) (fun _ _ _ h => h) (Or.inl ⟨by rfl, fun w0 hw0 => by obtain ⟨s0, s1⟩ := hw0; go_simp⟩) hS ?_
  go_simp
  refine wpAnyH_take (i := 6) (v := .slice none 0 0) rfl (by kernel_rfl) (by kernel_rfl) (by kernel_rfl) (fun _ _ _ h => h) (Or.inl ⟨by rfl, fun w0 hw0 => by obtain ⟨s0, s1⟩ := hw0; go_simp⟩) hS ?_
  go_simp
  have HSS : Hid (∀ W, Below w1.heap.size w1 W → W.cell? ⟨w.heap.size, 1, none⟩ = some (.int .i64 1) ∧ W.cell? ⟨w.heap.size, 2, none⟩ = some (.int .i64 1)) := Lib.hid (fun W hb => ⟨cell_lo hb hlt y1, cell_lo hb hlt y2⟩)
  refine wpAnyH_ready (rs := [2, 5, 7]) (by kernel_rfl) (by simp) ?_
  refine AllReadyH.cons rfl (fun K hK => ?_) (AllReadyH.cons rfl (fun K hK => ?_) (AllReadyH.cons rfl (fun K hK => ?_) AllReadyH.nil))
  · go_simp
    refine hK.out _ _ (HSS.out _ (below_drew (below_alloc _ _))) (fun hS => ?_)
    clear hK K
    refine wpAnyH_ready (rs := [5, 7]) (by kernel_rfl) (by simp) ?_
    refine AllReadyH.cons rfl (fun K hK => ?_) (AllReadyH.cons rfl (fun K hK => ?_) AllReadyH.nil)
    · go_simp
      refine hK.out _ _ (HSS.out _ (below_drew (below_al (below_alloc _ _) (Nat.le_refl _) _))) (fun hS => ?_)
      clear hK K
      refine wpAnyH_ready (rs := [7]) (by kernel_rfl) (by simp) ?_
      refine AllReadyH.cons rfl (fun K hK => ?_) AllReadyH.nil
      · go_simp
        go_at_call 19
        refine (Tryd.slices_Clone_int_nil 0 0 _).mono ?_
        rintro e w5 ⟨rfl, rfl⟩
        refine hK.out _ _ (HSS.out _ (below_drew (below_al (below_alloc _ _) (Nat.le_refl _) _))) (fun hS => ?_)
        clear hK K
        refine wpAnyH_ready (rs := [8]) (by kernel_rfl) (by simp) ?_
        refine AllReadyH.cons rfl (fun K hK => ?_) AllReadyH.nil
        refine step_build _ rfl 30 _ rfl #[(1, .int .i64 1), (3, .slice (some ⟨w1.heap.size, 0, none⟩) 1 1), (4, .slice (some ⟨(w1.heap.size + 1), 0, none⟩) 1 1), (8, .slice none 0 0)] (by simp [Act.eval]) _ (build_mach w1.heap.size (w1.heap.size + 1) _) ?_
        simp only [Act.put, List.setIfInBounds_toArray]
        refine hK.out _ _ hS (fun hS => ?_)
        clear hK K
        refine wpAnyH_ready (rs := [9]) (by kernel_rfl) (by simp) ?_
        refine AllReadyH.cons rfl (fun K hK => ?_) AllReadyH.nil
        refine step_store_row _ rfl 30 _ _ rfl G (mcs m0 (V0 w1.heap.size (w1.heap.size + 1))) rfl rfl 30 zeros ((HK1.out.al _).al _).dr (by rw [mcs_size]; exact machSize) (by rw [mcs_size]; rfl) (mcs_one ⟨rfl, rfl, rfl, rfl, rfl⟩) ?_
        simp only [Act.put]
        refine hK.out _ _ ⟨by rw [cell_setRow_other _ _ _ _ hne]; exact hS.1, by rw [cell_setRow_other _ _ _ _ hne]; exact hS.2⟩ (fun hS => ?_)
        clear hK K
        refine wpAnyH_ready (rs := [10]) (by kernel_rfl) (by simp) ?_
        refine AllReadyH.cons rfl (fun K hK => ?_) AllReadyH.nil
        obtain ⟨WE, hWE⟩ : ∃ WE, WE = ((w1.alloc (.cells #[Value.int .i64 0] 3)).alloc (.cells #[Value.slice none 0 0] 26)).drew.setRow G (mcs m0 (V0 w1.heap.size (w1.heap.size + 1))) := ⟨_, rfl⟩
        have hE := new_end HB1.out HGG.out HK1.out (.cells #[Value.int .i64 0] 3) (.cells #[Value.slice none 0 0] 26) (mcs m0 (V0 w1.heap.size (w1.heap.size + 1)))
        rw [← hWE] at hE hS ⊢
        have HE := Lib.hid hE
        clear hE hWE
        go_simp
        refine hK.out _ _ hS (fun hS => ?_)
        clear hK K
        refine wpAnyH_done (by kernel_rfl) ?_ _
        go_wp2
        refine bodyPost_ret (results_mach rfl _ _ _ _ (mcs_size _ _) rfl HE.out.1) rfl ⟨w1.heap.size, (w1.heap.size + 1), rfl, HE.out.2.1, ?_, ?_, ?_, ?_⟩
        · have := HB1.out.size; omega
        · have := HB1.out.size; omega
        · exact HE.out.2.2.1
        · exact HE.out.2.2.2
    · go_simp
      go_at_call 19
      refine (Tryd.slices_Clone_int_nil 0 0 _).mono ?_
      rintro e w5 ⟨rfl, rfl⟩
      refine hK.out _ _ (HSS.out _ (below_drew (below_alloc _ _))) (fun hS => ?_)
      clear hK K
      refine wpAnyH_ready (rs := [5]) (by kernel_rfl) (by simp) ?_
      refine AllReadyH.cons rfl (fun K hK => ?_) AllReadyH.nil
      · go_simp
        refine hK.out _ _ (HSS.out _ (below_drew (below_al (below_alloc _ _) (Nat.le_refl _) _))) (fun hS => ?_)
        clear hK K
        refine wpAnyH_ready (rs := [8]) (by kernel_rfl) (by simp) ?_
        refine AllReadyH.cons rfl (fun K hK => ?_) AllReadyH.nil
        refine step_build _ rfl 30 _ rfl #[(1, .int .i64 1), (3, .slice (some ⟨w1.heap.size, 0, none⟩) 1 1), (4, .slice (some ⟨(w1.heap.size + 1), 0, none⟩) 1 1), (8, .slice none 0 0)] (by simp [Act.eval]) _ (build_mach w1.heap.size (w1.heap.size + 1) _) ?_
        simp only [Act.put, List.setIfInBounds_toArray]
        refine hK.out _ _ hS (fun hS => ?_)
        clear hK K
        refine wpAnyH_ready (rs := [9]) (by kernel_rfl) (by simp) ?_
        refine AllReadyH.cons rfl (fun K hK => ?_) AllReadyH.nil
        refine step_store_row _ rfl 30 _ _ rfl G (mcs m0 (V0 w1.heap.size (w1.heap.size + 1))) rfl rfl 30 zeros ((HK1.out.al _).al _).dr (by rw [mcs_size]; exact machSize) (by rw [mcs_size]; rfl) (mcs_one ⟨rfl, rfl, rfl, rfl, rfl⟩) ?_
        simp only [Act.put]
        refine hK.out _ _ ⟨by rw [cell_setRow_other _ _ _ _ hne]; exact hS.1, by rw [cell_setRow_other _ _ _ _ hne]; exact hS.2⟩ (fun hS => ?_)
        clear hK K
        refine wpAnyH_ready (rs := [10]) (by kernel_rfl) (by simp) ?_
        refine AllReadyH.cons rfl (fun K hK => ?_) AllReadyH.nil
        obtain ⟨WE, hWE⟩ : ∃ WE, WE = ((w1.alloc (.cells #[Value.int .i64 0] 3)).alloc (.cells #[Value.slice none 0 0] 26)).drew.setRow G (mcs m0 (V0 w1.heap.size (w1.heap.size + 1))) := ⟨_, rfl⟩
        have hE := new_end HB1.out HGG.out HK1.out (.cells #[Value.int .i64 0] 3) (.cells #[Value.slice none 0 0] 26) (mcs m0 (V0 w1.heap.size (w1.heap.size + 1)))
        rw [← hWE] at hE hS ⊢
        have HE := Lib.hid hE
        clear hE hWE
        go_simp
        refine hK.out _ _ hS (fun hS => ?_)
        clear hK K
        refine wpAnyH_done (by kernel_rfl) ?_ _
        go_wp2
        refine bodyPost_ret (results_mach rfl _ _ _ _ (mcs_size _ _) rfl HE.out.1) rfl ⟨w1.heap.size, (w1.heap.size + 1), rfl, HE.out.2.1, ?_, ?_, ?_, ?_⟩
        · have := HB1.out.size; omega
        · have := HB1.out.size; omega
        · exact HE.out.2.2.1
        · exact HE.out.2.2.2
  · go_simp
    refine hK.out _ _ (HSS.out _ (below_drew (below_alloc _ _))) (fun hS => ?_)
    clear hK K
    refine wpAnyH_ready (rs := [2, 7]) (by kernel_rfl) (by simp) ?_
    refine AllReadyH.cons rfl (fun K hK => ?_) (AllReadyH.cons rfl (fun K hK => ?_) AllReadyH.nil)
    · go_simp
      refine hK.out _ _ (HSS.out _ (below_drew (below_al (below_alloc _ _) (Nat.le_refl _) _))) (fun hS => ?_)
      clear hK K
      refine wpAnyH_ready (rs := [7]) (by kernel_rfl) (by simp) ?_
      refine AllReadyH.cons rfl (fun K hK => ?_) AllReadyH.nil
      · go_simp
        go_at_call 19
        refine (Tryd.slices_Clone_int_nil 0 0 _).mono ?_
        rintro e w5 ⟨rfl, rfl⟩
        refine hK.out _ _ (HSS.out _ (below_drew (below_al (below_alloc _ _) (Nat.le_refl _) _))) (fun hS => ?_)
        clear hK K
        refine wpAnyH_ready (rs := [8]) (by kernel_rfl) (by simp) ?_
        refine AllReadyH.cons rfl (fun K hK => ?_) AllReadyH.nil
        refine step_build _ rfl 30 _ rfl #[(1, .int .i64 1), (3, .slice (some ⟨(w1.heap.size + 1), 0, none⟩) 1 1), (4, .slice (some ⟨w1.heap.size, 0, none⟩) 1 1), (8, .slice none 0 0)] (by simp [Act.eval]) _ (build_mach (w1.heap.size + 1) w1.heap.size _) ?_
        simp only [Act.put, List.setIfInBounds_toArray]
        refine hK.out _ _ hS (fun hS => ?_)
        clear hK K
        refine wpAnyH_ready (rs := [9]) (by kernel_rfl) (by simp) ?_
        refine AllReadyH.cons rfl (fun K hK => ?_) AllReadyH.nil
        refine step_store_row _ rfl 30 _ _ rfl G (mcs m0 (V0 (w1.heap.size + 1) w1.heap.size)) rfl rfl 30 zeros ((HK1.out.al _).al _).dr (by rw [mcs_size]; exact machSize) (by rw [mcs_size]; rfl) (mcs_one ⟨rfl, rfl, rfl, rfl, rfl⟩) ?_
        simp only [Act.put]
        refine hK.out _ _ ⟨by rw [cell_setRow_other _ _ _ _ hne]; exact hS.1, by rw [cell_setRow_other _ _ _ _ hne]; exact hS.2⟩ (fun hS => ?_)
        clear hK K
        refine wpAnyH_ready (rs := [10]) (by kernel_rfl) (by simp) ?_
        refine AllReadyH.cons rfl (fun K hK => ?_) AllReadyH.nil
        obtain ⟨WE, hWE⟩ : ∃ WE, WE = ((w1.alloc (.cells #[Value.slice none 0 0] 26)).alloc (.cells #[Value.int .i64 0] 3)).drew.setRow G (mcs m0 (V0 (w1.heap.size + 1) w1.heap.size)) := ⟨_, rfl⟩
        have hE := new_end HB1.out HGG.out HK1.out (.cells #[Value.slice none 0 0] 26) (.cells #[Value.int .i64 0] 3) (mcs m0 (V0 (w1.heap.size + 1) w1.heap.size))
        rw [← hWE] at hE hS ⊢
        have HE := Lib.hid hE
        clear hE hWE
        go_simp
        refine hK.out _ _ hS (fun hS => ?_)
        clear hK K
        refine wpAnyH_done (by kernel_rfl) ?_ _
        go_wp2
        refine bodyPost_ret (results_mach rfl _ _ _ _ (mcs_size _ _) rfl HE.out.1) rfl ⟨(w1.heap.size + 1), w1.heap.size, rfl, HE.out.2.1, ?_, ?_, ?_, ?_⟩
        · have := HB1.out.size; omega
        · have := HB1.out.size; omega
        · exact HE.out.2.2.2
        · exact HE.out.2.2.1
    · go_simp
      go_at_call 19
      refine (Tryd.slices_Clone_int_nil 0 0 _).mono ?_
      rintro e w5 ⟨rfl, rfl⟩
      refine hK.out _ _ (HSS.out _ (below_drew (below_alloc _ _))) (fun hS => ?_)
      clear hK K
      refine wpAnyH_ready (rs := [2]) (by kernel_rfl) (by simp) ?_
      refine AllReadyH.cons rfl (fun K hK => ?_) AllReadyH.nil
      · go_simp
        refine hK.out _ _ (HSS.out _ (below_drew (below_al (below_alloc _ _) (Nat.le_refl _) _))) (fun hS => ?_)
        clear hK K
        refine wpAnyH_ready (rs := [8]) (by kernel_rfl) (by simp) ?_
        refine AllReadyH.cons rfl (fun K hK => ?_) AllReadyH.nil
        refine step_build _ rfl 30 _ rfl #[(1, .int .i64 1), (3, .slice (some ⟨(w1.heap.size + 1), 0, none⟩) 1 1), (4, .slice (some ⟨w1.heap.size, 0, none⟩) 1 1), (8, .slice none 0 0)] (by simp [Act.eval]) _ (build_mach (w1.heap.size + 1) w1.heap.size _) ?_
        simp only [Act.put, List.setIfInBounds_toArray]
        refine hK.out _ _ hS (fun hS => ?_)
        clear hK K
        refine wpAnyH_ready (rs := [9]) (by kernel_rfl) (by simp) ?_
        refine AllReadyH.cons rfl (fun K hK => ?_) AllReadyH.nil
        refine step_store_row _ rfl 30 _ _ rfl G (mcs m0 (V0 (w1.heap.size + 1) w1.heap.size)) rfl rfl 30 zeros ((HK1.out.al _).al _).dr (by rw [mcs_size]; exact machSize) (by rw [mcs_size]; rfl) (mcs_one ⟨rfl, rfl, rfl, rfl, rfl⟩) ?_
        simp only [Act.put]
        refine hK.out _ _ ⟨by rw [cell_setRow_other _ _ _ _ hne]; exact hS.1, by rw [cell_setRow_other _ _ _ _ hne]; exact hS.2⟩ (fun hS => ?_)
        clear hK K
        refine wpAnyH_ready (rs := [10]) (by kernel_rfl) (by simp) ?_
        refine AllReadyH.cons rfl (fun K hK => ?_) AllReadyH.nil
        obtain ⟨WE, hWE⟩ : ∃ WE, WE = ((w1.alloc (.cells #[Value.slice none 0 0] 26)).alloc (.cells #[Value.int .i64 0] 3)).drew.setRow G (mcs m0 (V0 (w1.heap.size + 1) w1.heap.size)) := ⟨_, rfl⟩
        have hE := new_end HB1.out HGG.out HK1.out (.cells #[Value.slice none 0 0] 26) (.cells #[Value.int .i64 0] 3) (mcs m0 (V0 (w1.heap.size + 1) w1.heap.size))
        rw [← hWE] at hE hS ⊢
        have HE := Lib.hid hE
        clear hE hWE
        go_simp
        refine hK.out _ _ hS (fun hS => ?_)
        clear hK K
        refine wpAnyH_done (by kernel_rfl) ?_ _
        go_wp2
        refine bodyPost_ret (results_mach rfl _ _ _ _ (mcs_size _ _) rfl HE.out.1) rfl ⟨(w1.heap.size + 1), w1.heap.size, rfl, HE.out.2.1, ?_, ?_, ?_, ?_⟩
        · have := HB1.out.size; omega
        · have := HB1.out.size; omega
        · exact HE.out.2.2.2
        · exact HE.out.2.2.1
  · go_simp
    go_at_call 19
    refine (Tryd.slices_Clone_int_nil 0 0 _).mono ?_
    rintro e w5 ⟨rfl, rfl⟩
    refine hK.out _ _ (HSS.out _ (below_drew (Below.refl _ _))) (fun hS => ?_)
    clear hK K
    refine wpAnyH_ready (rs := [2, 5]) (by kernel_rfl) (by simp) ?_
    refine AllReadyH.cons rfl (fun K hK => ?_) (AllReadyH.cons rfl (fun K hK => ?_) AllReadyH.nil)
    · go_simp
      refine hK.out _ _ (HSS.out _ (below_drew (below_alloc _ _))) (fun hS => ?_)
      clear hK K
      refine wpAnyH_ready (rs := [5]) (by kernel_rfl) (by simp) ?_
      refine AllReadyH.cons rfl (fun K hK => ?_) AllReadyH.nil
      · go_simp
        refine hK.out _ _ (HSS.out _ (below_drew (below_al (below_alloc _ _) (Nat.le_refl _) _))) (fun hS => ?_)
        clear hK K
        refine wpAnyH_ready (rs := [8]) (by kernel_rfl) (by simp) ?_
        refine AllReadyH.cons rfl (fun K hK => ?_) AllReadyH.nil
        refine step_build _ rfl 30 _ rfl #[(1, .int .i64 1), (3, .slice (some ⟨w1.heap.size, 0, none⟩) 1 1), (4, .slice (some ⟨(w1.heap.size + 1), 0, none⟩) 1 1), (8, .slice none 0 0)] (by simp [Act.eval]) _ (build_mach w1.heap.size (w1.heap.size + 1) _) ?_
        simp only [Act.put, List.setIfInBounds_toArray]
        refine hK.out _ _ hS (fun hS => ?_)
        clear hK K
        refine wpAnyH_ready (rs := [9]) (by kernel_rfl) (by simp) ?_
        refine AllReadyH.cons rfl (fun K hK => ?_) AllReadyH.nil
        refine step_store_row _ rfl 30 _ _ rfl G (mcs m0 (V0 w1.heap.size (w1.heap.size + 1))) rfl rfl 30 zeros ((HK1.out.al _).al _).dr (by rw [mcs_size]; exact machSize) (by rw [mcs_size]; rfl) (mcs_one ⟨rfl, rfl, rfl, rfl, rfl⟩) ?_
        simp only [Act.put]
        refine hK.out _ _ ⟨by rw [cell_setRow_other _ _ _ _ hne]; exact hS.1, by rw [cell_setRow_other _ _ _ _ hne]; exact hS.2⟩ (fun hS => ?_)
        clear hK K
        refine wpAnyH_ready (rs := [10]) (by kernel_rfl) (by simp) ?_
        refine AllReadyH.cons rfl (fun K hK => ?_) AllReadyH.nil
        obtain ⟨WE, hWE⟩ : ∃ WE, WE = ((w1.alloc (.cells #[Value.int .i64 0] 3)).alloc (.cells #[Value.slice none 0 0] 26)).drew.setRow G (mcs m0 (V0 w1.heap.size (w1.heap.size + 1))) := ⟨_, rfl⟩
        have hE := new_end HB1.out HGG.out HK1.out (.cells #[Value.int .i64 0] 3) (.cells #[Value.slice none 0 0] 26) (mcs m0 (V0 w1.heap.size (w1.heap.size + 1)))
        rw [← hWE] at hE hS ⊢
        have HE := Lib.hid hE
        clear hE hWE
        go_simp
        refine hK.out _ _ hS (fun hS => ?_)
        clear hK K
        refine wpAnyH_done (by kernel_rfl) ?_ _
        go_wp2
        refine bodyPost_ret (results_mach rfl _ _ _ _ (mcs_size _ _) rfl HE.out.1) rfl ⟨w1.heap.size, (w1.heap.size + 1), rfl, HE.out.2.1, ?_, ?_, ?_, ?_⟩
        · have := HB1.out.size; omega
        · have := HB1.out.size; omega
        · exact HE.out.2.2.1
        · exact HE.out.2.2.2
    · go_simp
      refine hK.out _ _ (HSS.out _ (below_drew (below_alloc _ _))) (fun hS => ?_)
      clear hK K
      refine wpAnyH_ready (rs := [2]) (by kernel_rfl) (by simp) ?_
      refine AllReadyH.cons rfl (fun K hK => ?_) AllReadyH.nil
      · go_simp
        refine hK.out _ _ (HSS.out _ (below_drew (below_al (below_alloc _ _) (Nat.le_refl _) _))) (fun hS => ?_)
        clear hK K
        refine wpAnyH_ready (rs := [8]) (by kernel_rfl) (by simp) ?_
        refine AllReadyH.cons rfl (fun K hK => ?_) AllReadyH.nil
        refine step_build _ rfl 30 _ rfl #[(1, .int .i64 1), (3, .slice (some ⟨(w1.heap.size + 1), 0, none⟩) 1 1), (4, .slice (some ⟨w1.heap.size, 0, none⟩) 1 1), (8, .slice none 0 0)] (by simp [Act.eval]) _ (build_mach (w1.heap.size + 1) w1.heap.size _) ?_
        simp only [Act.put, List.setIfInBounds_toArray]
        refine hK.out _ _ hS (fun hS => ?_)
        clear hK K
        refine wpAnyH_ready (rs := [9]) (by kernel_rfl) (by simp) ?_
        refine AllReadyH.cons rfl (fun K hK => ?_) AllReadyH.nil
        refine step_store_row _ rfl 30 _ _ rfl G (mcs m0 (V0 (w1.heap.size + 1) w1.heap.size)) rfl rfl 30 zeros ((HK1.out.al _).al _).dr (by rw [mcs_size]; exact machSize) (by rw [mcs_size]; rfl) (mcs_one ⟨rfl, rfl, rfl, rfl, rfl⟩) ?_
        simp only [Act.put]
        refine hK.out _ _ ⟨by rw [cell_setRow_other _ _ _ _ hne]; exact hS.1, by rw [cell_setRow_other _ _ _ _ hne]; exact hS.2⟩ (fun hS => ?_)
        clear hK K
        refine wpAnyH_ready (rs := [10]) (by kernel_rfl) (by simp) ?_
        refine AllReadyH.cons rfl (fun K hK => ?_) AllReadyH.nil
        obtain ⟨WE, hWE⟩ : ∃ WE, WE = ((w1.alloc (.cells #[Value.slice none 0 0] 26)).alloc (.cells #[Value.int .i64 0] 3)).drew.setRow G (mcs m0 (V0 (w1.heap.size + 1) w1.heap.size)) := ⟨_, rfl⟩
        have hE := new_end HB1.out HGG.out HK1.out (.cells #[Value.slice none 0 0] 26) (.cells #[Value.int .i64 0] 3) (mcs m0 (V0 (w1.heap.size + 1) w1.heap.size))
        rw [← hWE] at hE hS ⊢
        have HE := Lib.hid hE
        clear hE hWE
        go_simp
        refine hK.out _ _ hS (fun hS => ?_)
        clear hK K
        refine wpAnyH_done (by kernel_rfl) ?_ _
        go_wp2
        refine bodyPost_ret (results_mach rfl _ _ _ _ (mcs_size _ _) rfl HE.out.1) rfl ⟨(w1.heap.size + 1), w1.heap.size, rfl, HE.out.2.1, ?_, ?_, ?_, ?_⟩
        · have := HB1.out.size; omega
        · have := HB1.out.size; omega
        · exact HE.out.2.2.2
        · exact HE.out.2.2.1

end Go.Proofs.YtichiccohmeecaaDoor
