/- The walk of New. -/
import Derived.Test.YtklbaocgjegdfaaStN0
import Derived.Test.YtklbaocgjegdfaaStW2
import Derived.Test.YtklbaocgjegdfaaStW5
import Derived.Deep.RegionLaw
import Derived.Deep.CutRange
namespace Go.Proofs.Ytklbaocgjegdfaa
open Go.RowKit

theorem results_state {fn : Func} {r t : Tmp} (h : fn.results = #[.cell r 35, .tmp t]) (tmps : Array Value) (w : World) (g : Nat) (c i o : Value) (hp : tmps.getD r undef = .pointer (some ⟨g, 0, none⟩)) (hb : Blk w g 35 #[c, i, o]) :
    (results fn tmps).run Try.prog w = .ok (.tuple #[.agg #[c, i, o], tmps.getD t undef]) w := by
  have b0 := hb.cell 0
  have b1 := hb.cell 1
  have b2 := hb.cell 2
  rw [Array.getD_eq_getD_getElem?] at hp
  simp [results, h, hp, go_sem, b0, b1, b2]

def zeroRow (d : Decl) : List Int := List.replicate (fixedZ d).toNat 0
def newB (D : List Decl) (l : List Int) : St := ⟨D.map zeroRow, l, []⟩

theorem fixed_bounds {d : Decl} (h : validD d = true) : 0 ≤ fixedZ d ∧ fixedZ d ≤ 16 := by
  unfold validD at h
  unfold fixedZ
  simp at h
  split <;> omega

theorem map_take {α β : Type} {l : List α} {k : Nat} {x : α} (f : α → β) (h : l[k]? = some x) : (l.take (k + 1)).map f = (l.take k).map f ++ [f x] := by
  rw [List.take_add_one, h, List.map_append]; rfl

set_option maxRecDepth 100000 in
set_option maxHeartbeats 8000000 in
theorem new_any (D : List Decl) (l : List Int) (u v : Value) (w : World) (h1 : DeclsAt w u D) (h2 : IntsAt w v l) (hl : l.length ≤ 4096) :
    Calls Try.prog 51 #[u, v] w fun e w' => ∃ r, e = .returned (.tuple #[r, .int .i64 (if validB D then 0 else 3)]) ∧ StNew w.heap.size w' r (if validB D then newB D l else ⟨[], [], []⟩) ∧ Below w.heap.size w w' := by
  obtain ⟨⟨ad, cd, rfl, -, -, -⟩, -⟩ := id h1
  obtain ⟨⟨ai, ci, rfl, -, -, -⟩, -⟩ := id h2
  obtain ⟨W, hW⟩ : ∃ W, W = w.alloc (.cells #[.slice none 0 0, .slice none 0 0, .slice none 0 0] 35) := ⟨_, rfl⟩
  have hB0 : Below w.heap.size w W := by rw [hW]; exact below_alloc _ _
  have hBK : Blk W w.heap.size 35 #[.slice none 0 0, .slice none 0 0, .slice none 0 0] := by rw [hW]; exact Blk.new _ _ _
  have HV := Lib.hid (valid_any D _ W (h1.below hB0 (Nat.le_refl _)))
  have HD := Lib.hid (h1.below hB0 (Nat.le_refl _))
  have HI := Lib.hid (h2.below hB0 (Nat.le_refl _))
  have HW := Lib.hid hW
  have HB0 := Lib.hid hB0
  have HBK := Lib.hid hBK
  have HVB : Hid (validB D = true → D.length ≤ 32 ∧ ∀ d ∈ D, validD d = true) := fun h => by
    unfold validB at h
    rw [Bool.and_eq_true, decide_eq_true_eq, List.all_eq_true] at h
    exact h
  generalize hn : D.length = n at *
  have HN := Lib.hid hn.symm
  generalize hm : l.length = m at *
  have HM := Lib.hid hm
  clear hn hm h1 h2 hW hB0 hBK
  generalize validB D = R at *
  have hl' : (m : Int) ≤ 4096 := by omega
  cases R with
  | false =>
    go_enter Try.func51, Try.ntmps51
    go_wp2_with fail
    rw [← HW.out]
    refine HV.out.mono ?_
    rintro e w1 ⟨rfl, hb1⟩
    have hbk := HBK.out.next hb1
    have b0 := hbk.cell 0
    have b1 := hbk.cell 1
    have b2 := hbk.cell 2
    have z0 := hbk.free 0
    have z1 := hbk.free 1
    have z2 := hbk.free 2
    have HB1 := Lib.hid (below_next HB0.out (Nat.le_refl _) hb1)
    have hsz := HB1.out.size
    have HK := Lib.hid hbk
    clear hb1 hbk
    go_wp2
    have hk3 := ((HK.out.set 0 (.slice none 0 0)).set 1 (.slice none 0 0)).set 2 (.slice none 0 0)
    have hb3 := ((HB1.out.setCell (p := ⟨w.heap.size, 0, none⟩) (Nat.le_refl _) (.slice none 0 0)).setCell (p := ⟨w.heap.size, 1, none⟩) (Nat.le_refl _) (.slice none 0 0)).setCell (p := ⟨w.heap.size, 2, none⟩) (Nat.le_refl _) (.slice none 0 0)
    generalize World.setCell _ _ _ = wf at *
    exact bodyPost_ret (results_state rfl _ _ _ _ _ _ rfl hk3) rfl ⟨_, rfl, st0_new _ _, hb3⟩
  | true =>
    obtain ⟨hn32, hval⟩ := HVB.out (by simp)
    have HVAL := Lib.hid hval
    have hn63 : (n : Int) ≤ 32 := by omega
    clear hval
    go_enter Try.func51, Try.ntmps51
    go_wp2_with fail
    rw [← HW.out]
    refine HV.out.mono ?_
    rintro e w1 ⟨rfl, hb1⟩
    have HBK1 := Lib.hid (HBK.out.next hb1)
    have HB1 := Lib.hid (below_next HB0.out (Nat.le_refl _) hb1)
    have HI1 := Lib.hid (HI.out.below hb1 (Nat.le_refl _))
    have HD1 := Lib.hid (HD.out.below hb1 (Nat.le_refl _))
    have hsz := HB1.out.size
    clear hb1 HV HI HD HBK
    go_wp2_with fail
    refine (clone_any l _ _ HI1.out (by rw [HM.out]; omega)).mono ?_
    rintro e w2 ⟨uI, rfl, hown2, hb2⟩
    have hf := own_form hown2
    rw [HM.out] at hf
    obtain ⟨aI, cI, rfl⟩ := hf
    obtain ⟨W3, hW3⟩ : ∃ W3, W3 = w2.alloc (.cells #[.slice none 0 0, (.slice aI m cI), .slice none 0 0] 35) := ⟨_, rfl⟩
    have hb23 : Below w2.heap.size w2 W3 := by rw [hW3]; exact below_alloc _ _
    have hb6 : Blk W3 w2.heap.size 35 #[.slice none 0 0, (.slice aI m cI), .slice none 0 0] := by rw [hW3]; exact Blk.new _ _ _
    have hb13 := below_next hb2 (Nat.le_refl _) hb23
    have HBK3 := Lib.hid (HBK1.out.next hb13)
    have HB3 := Lib.hid (below_next HB1.out (Nat.le_refl _) hb13)
    have HD3 := Lib.hid (HD1.out.below hb13 (Nat.le_refl _))
    have HIN3 := Lib.hid (own_below hown2 hb23)
    have H6 := Lib.hid hb6
    have hsz3 := hb13.size
    have hs26 := hb6.lt
    have hs12 := hb2.size
    have HW3 := Lib.hid hW3
    have H13 := Lib.hid hb13
    have hbox : w.heap.size < w1.heap.size := HBK1.out.lt
    clear hown2 hb2 hb23 hb6 hb13 hW3 HBK1 HB1 HI1
    obtain ⟨j0, hj, hy0, hy1, hy2⟩ := info_parts rowInfo
    go_wp2_with fail
    rw [← HW3.out]
    clear HW3
    generalize w2.heap.size = b6 at *
    go_loopg [22] n (fun q i wr => ∃ k : Nat, k + q = n ∧ i = .int .i64 k ∧ W3.grownBy wr (some b6) ∧ ∃ c vs, Blk wr b6 35 #[c, (.slice aI m cI), .slice none 0 0] ∧ RowsNew W3.heap.size wr c vs ((D.take k).map zeroRow))
    case atStart => exact ⟨0, by omega, rfl, gr_refl _ _, _, _, H6.out, RowsNew.nil _ _⟩
    case round =>
      obtain ⟨k, hk, rfl, hgr, c, vs, hblk, hrow⟩ := hrel
      have Hk := Lib.hid hk
      have hkn : k ≤ n := by omega
      have HG := Lib.hid hgr
      have HK := Lib.hid hblk
      have HR := Lib.hid hrow
      have hszr := hgr.size
      have hk6 := hblk.lt
      clear hk hgr hblk hrow
      by_cases hlt : k < n
      · have hlt' : (k : Int) < (n : Int) := by omega
        obtain ⟨g, off, rfl, hg, hq⟩ := HD1.out.1.get (by omega)
        obtain ⟨d, hd⟩ := get_lt HN.out hlt
        obtain ⟨q0, q1, q2⟩ := hq k d hd
        have m0 := HG.out.cell (cell_below H13.out hg q0) (by simp; omega)
        have m1 := HG.out.cell (cell_below H13.out hg q1) (by simp; omega)
        have m2 := HG.out.cell (cell_below H13.out hg q2) (by simp; omega)
        have hfb := fixed_bounds (HVAL.out d (List.mem_of_getElem? hd))
        obtain ⟨m', hm'⟩ := Int.eq_ofNat_of_zero_le hfb.1
        have hm16 : m' ≤ 16 := by omega
        have hz : zeroRow d = List.replicate m' 0 := by unfold zeroRow; rw [hm']; rfl
        have HT := Lib.hid (map_take zeroRow hd)
        have HM' := Lib.hid hm'
        have HZ := Lib.hid hz
        have hvl := HR.out.len
        rw [List.length_map, List.length_take, ← HN.out, Nat.min_eq_left hkn] at hvl
        have HVL := Lib.hid hvl
        have hmk := make_ints m' (by omega)
        obtain ⟨nm, kd, ln⟩ := d
        simp only at m0 m1 m2
        clear hq hd q0 q1 q2 hfb hm' hz hvl
        have c0 : (wr.alloc (.cells #[.string nm, .int .u8 kd, .int .i64 ln] 48)).cell? ⟨b6, 0, none⟩ = some c := alloc_cell (HK.out.cell 0) _
        have z0 : (wr.alloc (.cells #[.string nm, .int .u8 kd, .int .i64 ln] 48)).frozen? ⟨b6, 0, none⟩ = false := (HK.out.next (below_alloc _ _)).free 0
        go_wp2_with fail
        have HC : Hid (wr.ownsRow W3.heap.size 33 1 c k vs) := by
          have h := HR.out.1
          rw [List.length_map, List.length_take, ← HN.out, Nat.min_eq_left hkn] at h
          exact h
        go_region_law (first
          | (go_simp; go_at_call 44; refine (fixed_any _ _ _ _).mono ?_; rw [HM'.out]; rintro e w4 ⟨rfl, hb4⟩; have HB4 : Hid (Below (wr.alloc (.cells #[.string nm, .int .u8 kd, .int .i64 ln] 48)).heap.size (wr.alloc (.cells #[.string nm, .int .u8 kd, .int .i64 ln] 48)) w4) := ⟨hb4.os, hb4.tape, hb4.output, hb4.size, hb4.block⟩; have y0 : w4.cell? ⟨b6, 0, none⟩ = some c := ((HK.out.next (below_alloc _ _)).next HB4.out).cell 0; have y1 := alloc_cell y0 (.cells (Array.replicate m' (Value.int .i64 0)) 3); have y2 := alloc_cell y1 (.cells #[.slice (some ⟨w4.heap.size, 0, none⟩) m' m'] 33); clear hb4)
          | (refine step_append_own ((w4.alloc (.cells (Array.replicate m' (Value.int .i64 0)) 3)).alloc (.cells #[.slice (some ⟨w4.heap.size, 0, none⟩) m' m'] 33)) rfl (.tmp 27) (.tmp 31) 32 rfl W3.heap.size 33 j0 (.slice none 0 0) 1 24 Try.underlying32 hj hy0 hy1 hy2 rfl (by decide) c k vs ?hs ?hown ⟨(w4.alloc (.cells (Array.replicate m' (Value.int .i64 0)) 3)).heap.size, 0, none⟩ 1 1 [.slice (some ⟨w4.heap.size, 0, none⟩) m' m'] ?hx rfl ?hn ?c2 ?c3 ?c4 ?c5 ?_
             case hs => simp [Act.eval]
             case hx => simp [Act.eval]
             case hown => exact ((own_below (own_below HC.out (below_alloc _ _)) HB4.out).alloc _).alloc _
             case hn => exact cell_one_new _ _ _
             case c2 => intro u hu; simp only [List.mem_cons, List.not_mem_nil, or_false] at hu; rcases hu with rfl; rfl
             case c3 => unfold maxLen; omega
             case c4 => omega
             case c5 => have := HB4.out.size; simp at this ⊢; omega
             intro v5 w5 hown5 hgrow5
             obtain ⟨a5, cc5, rfl⟩ := own_form hown5
             have hk5 := (((HK.out.next (below_alloc _ _)).next HB4.out).next (below_alloc w4 (.cells (Array.replicate m' (Value.int .i64 0)) 3))).next (below_alloc _ (.cells #[.slice (some ⟨w4.heap.size, 0, none⟩) m' m'] 33))
             have ho5 := ((own_below (own_below HC.out (below_alloc _ _)) HB4.out).alloc (.cells (Array.replicate m' (Value.int .i64 0)) 3)).alloc (.cells #[.slice (some ⟨w4.heap.size, 0, none⟩) m' m'] 33)
             have HK5 := Lib.hid (hk5.grown hgrow5 (hk5.own_ne ho5 (by decide)))
             have x0 := HK5.out.cell 0
             have z0 := HK5.out.free 0
             have Hown5 := Lib.hid hown5
             have Hgrow5 := Lib.hid hgrow5
             clear hown5 hgrow5 hk5 ho5))
        all_goals
          go_wp2
          have hb4' : Below (wr.alloc (.cells #[.string nm, .int .u8 kd, .int .i64 ln] 48)).heap.size (wr.alloc (.cells #[.string nm, .int .u8 kd, .int .i64 ln] 48)) w4 := HB4.out
          have hw4 : Below wr.heap.size wr w4 := below_next (below_alloc _ _) (Nat.le_refl _) hb4'
          have hw45 : Below wr.heap.size wr ((w4.alloc (.cells (Array.replicate m' (Value.int .i64 0)) 3)).alloc (.cells #[.slice (some ⟨w4.heap.size, 0, none⟩) m' m'] 33)) := below_next (below_next hw4 (Nat.le_refl _) (below_alloc _ _)) (Nat.le_refl _) (below_alloc _ _)
          have hrow5 := HR.out.next hw45
          have hu : IntsNew W3.heap.size ((w4.alloc (.cells (Array.replicate m' (Value.int .i64 0)) 3)).alloc (.cells #[.slice (some ⟨w4.heap.size, 0, none⟩) m' m'] 33)) (.slice (some ⟨w4.heap.size, 0, none⟩) m' m') (List.replicate m' 0) := by
            have h := World.ownsRow_lit (base := W3.heap.size) (e := 3) (size := 1) w4 (Array.replicate m' (Value.int .i64 0)) m' (Nat.le_trans hszr hw4.size) (by unfold maxLen; omega) (by simp)
            have h2 := h.alloc (.cells #[.slice (some ⟨w4.heap.size, 0, none⟩) m' m'] 33)
            unfold IntsNew
            rw [List.length_replicate]
            have e : (Array.replicate m' (Value.int .i64 0)).toList = intsV (List.replicate m' 0) := by rw [Array.toList_replicate]; simp [intsV]
            rw [← e]
            exact h2
          have hrow6 := (hrow5.snoc hu (by rw [List.length_map, List.length_take, ← HN.out, Nat.min_eq_left hkn]; exact Hown5.out) Hgrow5.out).far hs26 0 (.slice a5 (k + 1) cc5)
          rw [← HZ.out, ← HT.out] at hrow6
          have hk6' := HK5.out.set 0 (.slice a5 (k + 1) cc5)
          have hg6 := gr_set (gr_grown (gr_below HG.out hw45) Hgrow5.out (fun j hj => .inr (((own_below HC.out hw45).lt j hj).1))) 0 (.slice a5 (k + 1) cc5)
          have HR6 := Lib.hid hrow6
          have HK6 := Lib.hid hk6'
          have HG6 := Lib.hid hg6
          clear hrow6 hk6' hg6 hu hrow5 hw45 hw4 hb4' HK5 Hown5 Hgrow5
          have hk := Hk.out
          go_roundg (n - (k + 1))
          case measure => omega
          case rel => exact ⟨k + 1, by omega, by go_num, HG6.out, _, _, HK6.out, HR6.out⟩
      · have hge : ¬ (k : Int) < (n : Int) := by omega
        have hrow := HR.out
        rw [List.take_of_length_le (by rw [← HN.out]; omega)] at hrow
        have HR2 := Lib.hid hrow
        have hf := own_form hrow.1
        rw [List.length_map, ← HN.out] at hf
        obtain ⟨ac, cc, rfl⟩ := hf
        have b0 := HK.out.cell 0
        have b1 := HK.out.cell 1
        have b2 := HK.out.cell 2
        have hbk := HBK3.out.grown HG.out (by simp; omega)
        have y0 := hbk.cell 0
        have y1 := hbk.cell 1
        have y2 := hbk.cell 2
        have z0 := hbk.free 0
        have z1 := hbk.free 1
        have z2 := hbk.free 2
        have HBK4 := Lib.hid hbk
        have hin := HIN3.out.kept HG.out (.inr (Ne.symm (H6.out.own_ne HIN3.out (by decide))))
        have HIN4 := Lib.hid hin
        have HB4 := Lib.hid (HB3.out.grown HG.out HB3.out.size (fun j hj => by cases hj; omega))
        clear hrow HR hbk hin
        go_wp2
        have hk3 := ((HBK4.out.set 0 (.slice ac n cc)).set 1 (.slice aI m cI)).set 2 (.slice none 0 0)
        have hb3 := ((HB4.out.setCell (p := ⟨w.heap.size, 0, none⟩) (Nat.le_refl _) (.slice ac n cc)).setCell (p := ⟨w.heap.size, 1, none⟩) (Nat.le_refl _) (.slice aI m cI)).setCell (p := ⟨w.heap.size, 2, none⟩) (Nat.le_refl _) (.slice none 0 0)
        have hr3 := ((HR2.out.far (by omega : w.heap.size < W3.heap.size) 0 (.slice ac n cc)).far (by omega : w.heap.size < W3.heap.size) 1 (.slice aI m cI)).far (by omega : w.heap.size < W3.heap.size) 2 (.slice none 0 0)
        have hi3 := own_far (own_far (own_far HIN4.out hbox 0 (.slice ac n cc)) hbox 1 (.slice aI m cI)) hbox 2 (.slice none 0 0)
        generalize World.setCell _ _ _ = wf at *
        refine bodyPost_ret (results_state rfl _ _ _ _ _ _ rfl hk3) rfl ⟨_, rfl, ?_, hb3⟩
        have hs : StNew w1.heap.size wf (.agg #[.slice ac n cc, .slice aI m cI, .slice none 0 0]) (newB D l) :=
          ⟨_, _, _, _, rfl, ⟨own_mono hr3.1 (by omega), fun j l' hl' => by
            obtain ⟨u', h1, h2⟩ := hr3.2 j l' hl'
            exact ⟨u', h1, own_mono h2 (by omega)⟩⟩, hi3, World.ownsRow_nil _ _ _ _⟩
        exact hs.mono (by omega)

end Go.Proofs.Ytklbaocgjegdfaa
