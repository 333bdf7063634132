/- The walk of the reference's Clone. -/
import Derived.Test.YtpbbiidfahaamaaStK0
namespace Go.Proofs.Ytpbbiidfahaamaa
open Go.RowKit

theorem have_then {P Q : Prop} (h : P) (k : P → Q) : Q := k h

set_option maxRecDepth 100000 in
set_option maxHeartbeats 24000000 in
theorem rclone_any (s : St) (v : Value) (w : World) (h : StAt w v s) (hz : Sized s) (hc40 : s.cells.length ≤ 1000000) :
    Calls Try.prog 26 #[v] w fun e w' => ∃ r, e = .returned r ∧ StNew w.heap.size w' r s ∧ Below w.heap.size w w' := by
  obtain ⟨c1, i1, o1, rfl, h1, h2, h3⟩ := id h
  obtain ⟨a1, k1, rfl, -, -, -⟩ := id h1
  obtain ⟨⟨a2, k2, rfl, -, -, -⟩, -⟩ := id h2
  obtain ⟨⟨a3, k3, rfl, -, -, -⟩, -⟩ := id h3
  obtain ⟨n, hn⟩ : ∃ n, n = s.cells.length := ⟨_, rfl⟩
  rw [← hn] at h1 ⊢
  obtain ⟨W, hW⟩ : ∃ W, W = (w.alloc (.cells #[.slice a1 n k1, .slice a2 s.inp.length k2, .slice a3 s.out.length k3] 25)).alloc (.cells #[.slice none 0 0, .slice none 0 0, .slice none 0 0] 25) := ⟨_, rfl⟩
  have hB0 : Below w.heap.size w W := by rw [hW]; exact ((Below.refl _ _).alloc (Nat.le_refl _) _).alloc (by simp) _
  have hb1 : Blk W w.heap.size 25 #[.slice a1 n k1, .slice a2 s.inp.length k2, .slice a3 s.out.length k3] := by rw [hW]; exact (Blk.new _ _ _).next (below_alloc _ _)
  have hb2 : Blk W (w.heap.size + 1) 25 #[.slice none 0 0, .slice none 0 0, .slice none 0 0] := by
    rw [hW]
    have := Blk.new (w.alloc (.cells #[.slice a1 n k1, .slice a2 s.inp.length k2, .slice a3 s.out.length k3] 25)) 25 #[.slice none 0 0, .slice none 0 0, .slice none 0 0]
    simpa using this
  have HW := Lib.hid hW
  have HB0 := Lib.hid hB0
  have HK1 := Lib.hid hb1
  have HK2 := Lib.hid hb2
  have H1 := Lib.hid (h1.below hB0 (Nat.le_refl _))
  have H2 := Lib.hid (h2.below hB0 (Nat.le_refl _))
  have H3 := Lib.hid (h3.below hB0 (Nat.le_refl _))
  have HZ := Lib.hid hz
  have HN := Lib.hid hn
  have hn6 : n ≤ 1000000 := by omega
  have hWs : w.heap.size + 1 < W.heap.size := hb2.lt
  have b1 := hb1.cell 0
  have b2 := hb1.cell 1
  have b3 := hb1.cell 2
  clear h h1 h2 h3 hW hB0 hb1 hb2 hz hn hc40
  go_enter Try.func26, Try.ntmps26
  go_upto_region 1 with (fail)
  rw [← HW.out]
  go_cut [3] (fun s3 wx => ∃ (g : Nat) (ui uo : Value), s3 = .pointer (some ⟨g, 0, none⟩) ∧ Blk wx g 25 #[.slice none 0 0, ui, uo] ∧ W.heap.size ≤ g ∧ IntsNew W.heap.size wx ui s.inp ∧ IntsNew W.heap.size wx uo s.out ∧ Below W.heap.size W wx)
  case first =>
    have HX : Hid (Below W.heap.size W W) := Below.refl _ _
    have hwW : w.heap.size < W.heap.size := by omega
    have hm2 := HZ.out.1
    have hm3 := HZ.out.2.1
    go_region_held3 (fun w' => w'.cell? ⟨w.heap.size, 1, none⟩ = some (.slice a2 s.inp.length k2) ∧ w'.cell? ⟨w.heap.size, 2, none⟩ = some (.slice a3 s.out.length k3))
      (first | exact ⟨b2, b3⟩ | exact ⟨cell_below (B := W.heap.size) (by (repeat (first | (with_reducible exact HX.out) | (with_reducible refine below_drew ?_) | (with_reducible refine below_al ?_ (Nat.le_refl _) _) | (with_reducible refine Below.setCell ?_ (by first | exact Nat.le_refl _ | omega | (simp <;> omega)) _)))) hwW b2, cell_below (B := W.heap.size) (by (repeat (first | (with_reducible exact HX.out) | (with_reducible refine below_drew ?_) | (with_reducible refine below_al ?_ (Nat.le_refl _) _) | (with_reducible refine Below.setCell ?_ (by first | exact Nat.le_refl _ | omega | (simp <;> omega)) _)))) hwW b3⟩)
      (first
        | (refine step_clone_ints _ rfl (.tmp 5) (.tmp 7) rfl W.heap.size _ rfl (by (repeat (first | (with_reducible exact Blk.new _ _ _) | ((with_reducible refine Blk.new' ?_); simp; done) | (with_reducible refine Blk.dr ?_) | (with_reducible refine Blk.al ?_ _) | (with_reducible refine HA.out _ _ _ ?_) | (with_reducible refine HB.out _ _ _ ?_)))) (by first | exact Nat.le_refl _ | omega | (simp <;> omega)) _ s.inp rfl (H2.out.below (by (repeat (first | (with_reducible exact HX.out) | (with_reducible refine below_drew ?_) | (with_reducible refine below_al ?_ (Nat.le_refl _) _) | (with_reducible refine Below.setCell ?_ (by first | exact Nat.le_refl _ | omega | (simp <;> omega)) _)))) (Nat.le_refl _)) hm2 ?_; intro v8 w8 hown8 hb8; obtain ⟨a8, c8, rfl⟩ := own_form hown8; have HA : Hid (∀ b t cs, Blk _ b t cs → Blk w8 b t cs) := fun _ _ _ h => h.next hb8; have HAI : Hid (∀ u l, IntsNew W.heap.size _ u l → IntsNew W.heap.size w8 u l) := fun _ _ h => own_below h hb8; have HOA : Hid (IntsNew W.heap.size w8 (.slice a8 s.inp.length c8) s.inp) := Lib.hid hown8; have HX : Hid (Below W.heap.size W w8) := Lib.hid (below_next (by (repeat (first | (with_reducible exact HX.out) | (with_reducible refine below_drew ?_) | (with_reducible refine below_al ?_ (Nat.le_refl _) _) | (with_reducible refine Below.setCell ?_ (by first | exact Nat.le_refl _ | omega | (simp <;> omega)) _)))) (Nat.le_refl _) hb8); have hsz8 := HX.out.size; have bA2 : w8.cell? ⟨w.heap.size, 1, none⟩ = some (.slice a2 s.inp.length k2) := cell_below HX.out hwW b2; have bA3 : w8.cell? ⟨w.heap.size, 2, none⟩ = some (.slice a3 s.out.length k3) := cell_below HX.out hwW b3; (try (refine have_then (P := Blk w8 (W.heap.size) 25 #[.slice none 0 0, .slice none 0 0, .slice none 0 0]) ?_ (fun z0 => ?_); (focus ((repeat (first | (with_reducible exact Blk.new _ _ _) | ((with_reducible refine Blk.new' ?_); simp; done) | (with_reducible refine Blk.dr ?_) | (with_reducible refine Blk.al ?_ _) | (with_reducible refine HA.out _ _ _ ?_) | (with_reducible refine HB.out _ _ _ ?_))); done)); have zc := z0.cell 0; have zd := z0.cell 1; have ze := z0.cell 2; have zf := z0.free 0; have zg := z0.free 1; have zh := z0.free 2)); (try (refine have_then (P := Blk w8 (W.heap.size + 1) 25 #[.slice none 0 0, .slice none 0 0, .slice none 0 0]) ?_ (fun z1 => ?_); (focus ((repeat (first | (with_reducible exact Blk.new _ _ _) | ((with_reducible refine Blk.new' ?_); simp; done) | (with_reducible refine Blk.dr ?_) | (with_reducible refine Blk.al ?_ _) | (with_reducible refine HA.out _ _ _ ?_) | (with_reducible refine HB.out _ _ _ ?_))); done)); have zc := z1.cell 0; have zd := z1.cell 1; have ze := z1.cell 2; have zf := z1.free 0; have zg := z1.free 1; have zh := z1.free 2)); (try (refine have_then (P := Blk w8 (W.heap.size + 2) 25 #[.slice none 0 0, .slice none 0 0, .slice none 0 0]) ?_ (fun z2 => ?_); (focus ((repeat (first | (with_reducible exact Blk.new _ _ _) | ((with_reducible refine Blk.new' ?_); simp; done) | (with_reducible refine Blk.dr ?_) | (with_reducible refine Blk.al ?_ _) | (with_reducible refine HA.out _ _ _ ?_) | (with_reducible refine HB.out _ _ _ ?_))); done)); have zc := z2.cell 0; have zd := z2.cell 1; have ze := z2.cell 2; have zf := z2.free 0; have zg := z2.free 1; have zh := z2.free 2)); (try (refine have_then (P := Blk w8 (w12.heap.size) 25 #[.slice none 0 0, .slice none 0 0, .slice none 0 0]) ?_ (fun z3 => ?_); (focus ((repeat (first | (with_reducible exact Blk.new _ _ _) | ((with_reducible refine Blk.new' ?_); simp; done) | (with_reducible refine Blk.dr ?_) | (with_reducible refine Blk.al ?_ _) | (with_reducible refine HA.out _ _ _ ?_) | (with_reducible refine HB.out _ _ _ ?_))); done)); have zc := z3.cell 0; have zd := z3.cell 1; have ze := z3.cell 2; have zf := z3.free 0; have zg := z3.free 1; have zh := z3.free 2)); (try (refine have_then (P := Blk w8 (w12.heap.size + 1) 25 #[.slice none 0 0, .slice none 0 0, .slice none 0 0]) ?_ (fun z4 => ?_); (focus ((repeat (first | (with_reducible exact Blk.new _ _ _) | ((with_reducible refine Blk.new' ?_); simp; done) | (with_reducible refine Blk.dr ?_) | (with_reducible refine Blk.al ?_ _) | (with_reducible refine HA.out _ _ _ ?_) | (with_reducible refine HB.out _ _ _ ?_))); done)); have zc := z4.cell 0; have zd := z4.cell 1; have ze := z4.cell 2; have zf := z4.free 0; have zg := z4.free 1; have zh := z4.free 2)); clear hown8 hb8)
        | (refine step_clone_ints _ rfl (.tmp 9) (.tmp 11) rfl W.heap.size _ rfl (by (repeat (first | (with_reducible exact Blk.new _ _ _) | ((with_reducible refine Blk.new' ?_); simp; done) | (with_reducible refine Blk.dr ?_) | (with_reducible refine Blk.al ?_ _) | (with_reducible refine HA.out _ _ _ ?_) | (with_reducible refine HB.out _ _ _ ?_)))) (by first | exact Nat.le_refl _ | omega | (simp <;> omega)) _ s.out rfl (H3.out.below (by (repeat (first | (with_reducible exact HX.out) | (with_reducible refine below_drew ?_) | (with_reducible refine below_al ?_ (Nat.le_refl _) _) | (with_reducible refine Below.setCell ?_ (by first | exact Nat.le_refl _ | omega | (simp <;> omega)) _)))) (Nat.le_refl _)) hm3 ?_; intro v12 w12 hown12 hb12; obtain ⟨a12, c12, rfl⟩ := own_form hown12; have HB : Hid (∀ b t cs, Blk _ b t cs → Blk w12 b t cs) := fun _ _ _ h => h.next hb12; have HBI : Hid (∀ u l, IntsNew W.heap.size _ u l → IntsNew W.heap.size w12 u l) := fun _ _ h => own_below h hb12; have HOB : Hid (IntsNew W.heap.size w12 (.slice a12 s.out.length c12) s.out) := Lib.hid hown12; have HX : Hid (Below W.heap.size W w12) := Lib.hid (below_next (by (repeat (first | (with_reducible exact HX.out) | (with_reducible refine below_drew ?_) | (with_reducible refine below_al ?_ (Nat.le_refl _) _) | (with_reducible refine Below.setCell ?_ (by first | exact Nat.le_refl _ | omega | (simp <;> omega)) _)))) (Nat.le_refl _) hb12); have hsz12 := HX.out.size; have bB2 : w12.cell? ⟨w.heap.size, 1, none⟩ = some (.slice a2 s.inp.length k2) := cell_below HX.out hwW b2; have bB3 : w12.cell? ⟨w.heap.size, 2, none⟩ = some (.slice a3 s.out.length k3) := cell_below HX.out hwW b3; (try (refine have_then (P := Blk w12 (W.heap.size) 25 #[.slice none 0 0, .slice none 0 0, .slice none 0 0]) ?_ (fun z0 => ?_); (focus ((repeat (first | (with_reducible exact Blk.new _ _ _) | ((with_reducible refine Blk.new' ?_); simp; done) | (with_reducible refine Blk.dr ?_) | (with_reducible refine Blk.al ?_ _) | (with_reducible refine HA.out _ _ _ ?_) | (with_reducible refine HB.out _ _ _ ?_))); done)); have zc := z0.cell 0; have zd := z0.cell 1; have ze := z0.cell 2; have zf := z0.free 0; have zg := z0.free 1; have zh := z0.free 2)); (try (refine have_then (P := Blk w12 (W.heap.size + 1) 25 #[.slice none 0 0, .slice none 0 0, .slice none 0 0]) ?_ (fun z1 => ?_); (focus ((repeat (first | (with_reducible exact Blk.new _ _ _) | ((with_reducible refine Blk.new' ?_); simp; done) | (with_reducible refine Blk.dr ?_) | (with_reducible refine Blk.al ?_ _) | (with_reducible refine HA.out _ _ _ ?_) | (with_reducible refine HB.out _ _ _ ?_))); done)); have zc := z1.cell 0; have zd := z1.cell 1; have ze := z1.cell 2; have zf := z1.free 0; have zg := z1.free 1; have zh := z1.free 2)); (try (refine have_then (P := Blk w12 (W.heap.size + 2) 25 #[.slice none 0 0, .slice none 0 0, .slice none 0 0]) ?_ (fun z2 => ?_); (focus ((repeat (first | (with_reducible exact Blk.new _ _ _) | ((with_reducible refine Blk.new' ?_); simp; done) | (with_reducible refine Blk.dr ?_) | (with_reducible refine Blk.al ?_ _) | (with_reducible refine HA.out _ _ _ ?_) | (with_reducible refine HB.out _ _ _ ?_))); done)); have zc := z2.cell 0; have zd := z2.cell 1; have ze := z2.cell 2; have zf := z2.free 0; have zg := z2.free 1; have zh := z2.free 2)); (try (refine have_then (P := Blk w12 (w8.heap.size) 25 #[.slice none 0 0, .slice none 0 0, .slice none 0 0]) ?_ (fun z3 => ?_); (focus ((repeat (first | (with_reducible exact Blk.new _ _ _) | ((with_reducible refine Blk.new' ?_); simp; done) | (with_reducible refine Blk.dr ?_) | (with_reducible refine Blk.al ?_ _) | (with_reducible refine HA.out _ _ _ ?_) | (with_reducible refine HB.out _ _ _ ?_))); done)); have zc := z3.cell 0; have zd := z3.cell 1; have ze := z3.cell 2; have zf := z3.free 0; have zg := z3.free 1; have zh := z3.free 2)); (try (refine have_then (P := Blk w12 (w8.heap.size + 1) 25 #[.slice none 0 0, .slice none 0 0, .slice none 0 0]) ?_ (fun z4 => ?_); (focus ((repeat (first | (with_reducible exact Blk.new _ _ _) | ((with_reducible refine Blk.new' ?_); simp; done) | (with_reducible refine Blk.dr ?_) | (with_reducible refine Blk.al ?_ _) | (with_reducible refine HA.out _ _ _ ?_) | (with_reducible refine HB.out _ _ _ ?_))); done)); have zc := z4.cell 0; have zd := z4.cell 1; have ze := z4.cell 2; have zf := z4.free 0; have zg := z4.free 1; have zh := z4.free 2)); clear hown12 hb12))
    all_goals
      go_wp2
      go_meet
      first
        | (refine ⟨_, _, _, rfl, Blk.new' ?_, ?_, ?_, ?_, ?_⟩
           · simp; done
           · (first | omega | (simp <;> omega))
           · (repeat (first | (with_reducible exact HOA.out) | (with_reducible exact HOB.out) | (with_reducible refine IntsNew.dr ?_) | (with_reducible refine IntsNew.al ?_ _) | (with_reducible refine HAI.out _ _ ?_) | (with_reducible refine HBI.out _ _ ?_))); done
           · (repeat (first | (with_reducible exact HOA.out) | (with_reducible exact HOB.out) | (with_reducible refine IntsNew.dr ?_) | (with_reducible refine IntsNew.al ?_ _) | (with_reducible refine HAI.out _ _ ?_) | (with_reducible refine HBI.out _ _ ?_))); done
           · (repeat (first | (with_reducible exact HX.out) | (with_reducible refine below_drew ?_) | (with_reducible refine below_al ?_ (Nat.le_refl _) _) | (with_reducible refine Below.setCell ?_ (by first | exact Nat.le_refl _ | omega | (simp <;> omega)) _))); done)
        | (refine ⟨_, _, _, rfl, (set3_all (a := .slice none 0 0) (b := .slice none 0 0) (c := .slice none 0 0) ?hz _ _ _).1, ?h1, (set3_all (a := .slice none 0 0) (b := .slice none 0 0) (c := .slice none 0 0) ?hz _ _ _).2.1 ?h2 (by decide), (set3_all (a := .slice none 0 0) (b := .slice none 0 0) (c := .slice none 0 0) ?hz _ _ _).2.1 ?h3 (by decide), ?h4⟩
           case hz => (repeat (first | (with_reducible exact Blk.new _ _ _) | ((with_reducible refine Blk.new' ?_); simp; done) | (with_reducible refine Blk.dr ?_) | (with_reducible refine Blk.al ?_ _) | (with_reducible refine HA.out _ _ _ ?_) | (with_reducible refine HB.out _ _ _ ?_))); done
           case h1 => (first | omega | (simp <;> omega))
           case h2 => ((show IntsNew W.heap.size _ _ s.inp); (repeat (first | (with_reducible exact HOA.out) | (with_reducible exact HOB.out) | (with_reducible refine IntsNew.dr ?_) | (with_reducible refine IntsNew.al ?_ _) | (with_reducible refine HAI.out _ _ ?_) | (with_reducible refine HBI.out _ _ ?_))); done)
           case h3 => ((show IntsNew W.heap.size _ _ s.out); (repeat (first | (with_reducible exact HOA.out) | (with_reducible exact HOB.out) | (with_reducible refine IntsNew.dr ?_) | (with_reducible refine IntsNew.al ?_ _) | (with_reducible refine HAI.out _ _ ?_) | (with_reducible refine HBI.out _ _ ?_))); done)
           case h4 => (repeat (first | (with_reducible exact HX.out) | (with_reducible refine below_drew ?_) | (with_reducible refine below_al ?_ (Nat.le_refl _) _) | (with_reducible refine Below.setCell ?_ (by first | exact Nat.le_refl _ | omega | (simp <;> omega)) _))); done)
  case rest =>
    obtain ⟨g, ui, uo, hs3, hblk, hgW, hI, hO, hbW⟩ := hcut
    subst hs3
    obtain ⟨aui, cui, rfl⟩ := own_form hI
    obtain ⟨auo, cuo, rfl⟩ := own_form hO
    obtain ⟨j0, hj, hy0, hy1, hy2⟩ := info_parts rowInfo
    have hgc := hblk.lt
    have HBL := Lib.hid hblk
    have HI := Lib.hid hI
    have HO := Lib.hid hO
    have HBW := Lib.hid hbW
    have hszW := hbW.size
    have hn63 : n ≤ 9223372036854775807 := by omega
    clear hblk hI hO hbW b1 b2 b3
    go_wp2
    go_loopg [4] n (fun q i wr => ∃ k : Nat, k + q = n ∧ i = .int .i64 k ∧ wc.grownBy wr (some g) ∧ ∃ c vs, Blk wr g 25 #[c, .slice aui s.inp.length cui, .slice auo s.out.length cuo] ∧ RowsNew wc.heap.size wr c vs (s.cells.take k))
    case atStart => exact ⟨0, by omega, rfl, gr_refl _ _, _, _, HBL.out, RowsNew.nil _ _⟩
    case round =>
      obtain ⟨k, hk, rfl, hgr, c, vs, hblk, hrow⟩ := hrel
      have Hk := Lib.hid hk
      have hkn : k ≤ n := by omega
      have HG := Lib.hid hgr
      have HK := Lib.hid hblk
      have HR := Lib.hid hrow
      have hszr := hgr.size
      have hkg := hblk.lt
      have hbr : Below W.heap.size W wr := HBW.out.grown hgr HBW.out.size (fun j hj => by cases hj; exact hgW)
      have HBR := Lib.hid hbr
      have e0 := cell_below hbr (by omega) (HK1.out.cell 0)
      clear hk hgr hblk hrow hbr
      by_cases hlt : k < n
      · have hlt' : (k : Int) < (n : Int) := by omega
        have hk0' : (0 : Int) ≤ (k : Int) := by omega
        have hszWr : W.heap.size ≤ W.heap.size := Nat.le_refl _
        obtain ⟨g1, f1, rfl, hg1, hq⟩ := H1.out.get (by omega)
        obtain ⟨l, hl⟩ := get_lt HN.out hlt
        obtain ⟨u, hu, hiu⟩ := hq k l hl
        have m0 := cell_below HBR.out hg1 hu
        obtain ⟨⟨au, cu, rfl, -, -, -⟩, -⟩ := id hiu
        have HIU := Lib.hid hiu
        have hlz := HZ.out.2.2 l (List.mem_of_getElem? hl)
        have HT : Hid (s.cells.take (k + 1) = s.cells.take k ++ [l]) := by unfold Hid; rw [List.take_add_one, hl]; rfl
        have HLZ := Lib.hid hlz
        have HC : Hid (wr.ownsRow wc.heap.size 23 1 c k vs) := by
          have h := HR.out.1
          rw [List.length_take, ← HN.out, Nat.min_eq_left hkn] at h
          exact h
        have c0 : wr.cell? ⟨g, 0, none⟩ = some c := HK.out.cell 0
        have z0 := HK.out.free 0
        have HX := HBR
        have hwW : w.heap.size < W.heap.size := by omega
        have B0 := Lib.hid (HK1.out.cell 0)
        have M0 := Lib.hid hu
        clear hq hl hu hiu hlz 
        go_wp2_with fail
        have c0b := alloc_cell c0 (.cells #[] 3)
        have e0b := alloc_cell e0 (.cells #[] 3)
        have m0b := alloc_cell m0 (.cells #[] 3)
        go_region_law
          (first
            | (refine step_clone_ints _ rfl (.tmp 23) (.tmp 28) rfl wc.heap.size wr.heap.size rfl (by (repeat (first | (with_reducible exact Blk.new _ _ _) | ((with_reducible refine Blk.new' ?_); simp; done) | (with_reducible refine Blk.dr ?_) | (with_reducible refine Blk.al ?_ _) | (with_reducible refine HA.out _ _ _ ?_) | (with_reducible refine HB.out _ _ _ ?_)))) hszr _ l rfl (HIU.out.below (B := W.heap.size) (by (repeat (first | (with_reducible exact HX.out) | (with_reducible refine below_drew ?_) | (with_reducible refine below_al ?_ (Nat.le_refl _) _) | (with_reducible refine Below.setCell ?_ (by first | exact Nat.le_refl _ | omega | (simp <;> omega)) _)))) (Nat.le_refl _)) HLZ.out ?_; intro v4 w4 hown4 hb4; have HB4 : Hid (Below wr.heap.size wr w4) := Lib.hid (below_next (by repeat (first | (with_reducible exact Below.refl _ _) | (with_reducible refine below_drew ?_) | (with_reducible refine below_al ?_ (Nat.le_refl _) _))) (Nat.le_refl _) hb4); have HX : Hid (Below W.heap.size W w4) := Lib.hid (below_next HBR.out hszWr HB4.out); have HO4 : Hid (IntsNew wc.heap.size w4 v4 l) := Lib.hid hown4; obtain ⟨a4, c4, rfl⟩ := own_form hown4; have y0 : w4.cell? ⟨g, 0, none⟩ = some c := (HK.out.next HB4.out).cell 0; have y0b := alloc_cell y0 (.cells #[.slice a4 l.length c4] 23); clear hown4 hb4)
            | (refine step_append_own (w4.alloc (.cells #[.slice a4 l.length c4] 23)) rfl (.tmp 22) (.tmp 30) 22 rfl wc.heap.size 23 j0 (.slice none 0 0) 1 24 Try.underlying22 hj hy0 hy1 hy2 rfl (by decide) c k vs ?hs ?hown ⟨w4.heap.size, 0, none⟩ 1 1 [.slice a4 l.length c4] ?hx rfl ?hn ?c2 ?c3 ?c4 ?c5 ?_
               case hs => simp [Act.eval]
               case hx => simp [Act.eval]
               case hown => exact (own_below HC.out HB4.out).alloc _
               case hn => exact cell_one_new _ _ _
               case c2 => intro u hu; simp only [List.mem_cons, List.not_mem_nil, or_false] at hu; rcases hu with rfl; rfl
               case c3 => unfold maxLen; omega
               case c4 => omega
               case c5 => have := HB4.out.size; simp at this ⊢; omega
               intro v5 w5 hown5 hgrow5
               obtain ⟨a5, cc5, rfl⟩ := own_form hown5
               have hk5 := (HK.out.next HB4.out).next (below_alloc w4 (.cells #[.slice a4 l.length c4] 23))
               have ho5 := (own_below HC.out HB4.out).alloc (.cells #[.slice a4 l.length c4] 23)
               have HK5 := Lib.hid (hk5.grown hgrow5 (hk5.own_ne ho5 (by decide)))
               have x0 := HK5.out.cell 0
               have z0 := HK5.out.free 0
               have Hown5 := Lib.hid hown5
               have Hgrow5 := Lib.hid hgrow5
               have HX : Hid (Below W.heap.size W w5) := Lib.hid ((below_al HX.out (Nat.le_refl _) _).grown hgrow5 (below_al HX.out (Nat.le_refl _) (.cells #[.slice a4 l.length c4] 23)).size (fun j hj => Nat.le_trans hszW (ho5.lt j hj).1))
               clear hown5 hgrow5 hk5 ho5))
        all_goals
          go_wp2
          have hw45 : Below wr.heap.size wr (w4.alloc (.cells #[.slice a4 l.length c4] 23)) := below_next HB4.out (Nat.le_refl _) (below_alloc _ _)
          have hrow5 := HR.out.next hw45
          have hu : IntsNew wc.heap.size (w4.alloc (.cells #[.slice a4 l.length c4] 23)) (.slice a4 l.length c4) l := own_below HO4.out (below_alloc _ _)
          have hrow6 := (hrow5.snoc hu (by rw [List.length_take, ← HN.out, Nat.min_eq_left hkn]; exact Hown5.out) Hgrow5.out).far hgc 0 (.slice a5 (k + 1) cc5)
          rw [← HT.out] at hrow6
          have hk6' := HK5.out.set 0 (.slice a5 (k + 1) cc5)
          have hg6 := gr_set (gr_grown (gr_below HG.out hw45) Hgrow5.out (fun j hj => .inr (((own_below HC.out hw45).lt j hj).1))) 0 (.slice a5 (k + 1) cc5)
          have HR6 := Lib.hid hrow6
          have HK6 := Lib.hid hk6'
          have HG6 := Lib.hid hg6
          clear hrow6 hk6' hg6 hu hrow5 hw45 HK5 Hown5 Hgrow5
          have hk := Hk.out
          go_roundg (n - (k + 1))
          case measure => omega
          case rel => exact ⟨k + 1, by omega, by go_num, HG6.out, _, _, HK6.out, HR6.out⟩
      · have hge : ¬ (k : Int) < (n : Int) := by omega
        have hrow := HR.out
        rw [List.take_of_length_le (by rw [← HN.out]; omega)] at hrow
        have HR2 := Lib.hid hrow
        obtain ⟨ac, cc, rfl⟩ := own_form hrow.1
        have b0 := HK.out.cell 0
        have b1 := HK.out.cell 1
        have b2 := HK.out.cell 2
        have hbk := (HK2.out.next HBW.out).grown HG.out (by simp; omega)
        have y0 := hbk.cell 0
        have y1 := hbk.cell 1
        have y2 := hbk.cell 2
        have z0 := hbk.free 0
        have z1 := hbk.free 1
        have z2 := hbk.free 2
        have HBK4 := Lib.hid hbk
        have HIN4 := Lib.hid (HI.out.kept HG.out (.inr (Ne.symm (HBL.out.own_ne HI.out (by decide)))))
        have HON4 := Lib.hid (HO.out.kept HG.out (.inr (Ne.symm (HBL.out.own_ne HO.out (by decide)))))
        have HB4 := Lib.hid ((below_next HB0.out (Nat.le_refl _) HBW.out).grown HG.out (Nat.le_trans HB0.out.size hszW) (fun j hj => by cases hj; have := HB0.out.size; omega))
        clear hrow HR hbk
        go_wp2
        have h3 := set3_all HBK4.out (.slice ac s.cells.length cc) (.slice aui s.inp.length cui) (.slice auo s.out.length cuo)
        have hk3 := h3.1
        have hr3 := ((HR2.out.far (by omega : w.heap.size + 1 < wc.heap.size) 0 (.slice ac s.cells.length cc)).far (by omega : w.heap.size + 1 < wc.heap.size) 1 (.slice aui s.inp.length cui)).far (by omega : w.heap.size + 1 < wc.heap.size) 2 (.slice auo s.out.length cuo)
        have hi3 := h3.2.1 HIN4.out (by decide)
        have ho3 := h3.2.1 HON4.out (by decide)
        have hb3 := h3.2.2 HB4.out (by omega)
        clear h3
        generalize World.setCell _ _ _ = wf at *
        refine bodyPost_ret (results_state1 rfl _ _ _ _ _ _ rfl hk3) rfl ⟨_, rfl, ?_, hb3⟩
        have hs : StNew W.heap.size wf (.agg #[.slice ac s.cells.length cc, .slice aui s.inp.length cui, .slice auo s.out.length cuo]) s :=
          ⟨_, _, _, _, rfl, ⟨own_mono hr3.1 hszW, fun j l' hl' => by
            obtain ⟨u', h1, h2⟩ := hr3.2 j l' hl'
            exact ⟨u', h1, own_mono h2 hszW⟩⟩, hi3, ho3⟩
        exact hs.mono HB0.out.size
end Go.Proofs.Ytpbbiidfahaamaa
