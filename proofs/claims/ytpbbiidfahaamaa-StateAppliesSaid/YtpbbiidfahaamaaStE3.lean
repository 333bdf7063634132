/- The walk of Encode. -/
import Derived.Test.YtpbbiidfahaamaaStE2
import Derived.Deep.Onto
namespace Go.Proofs.Ytpbbiidfahaamaa
open Go.RowKit

theorem bytesOf_len (n : Int) (size : Nat) : (bytesOf n size).length = size := by simp [bytesOf]

set_option maxRecDepth 100000 in
set_option maxHeartbeats 4000000 in
theorem encode_any (D : List Decl) (s : St) (u v : Value) (w : World) (h1 : DeclsAt w u D) (h2 : StAt w v s) :
    Calls Try.prog 25 #[u, v] w fun e w' => ∃ b, e = .returned (.tuple #[b, .int .i64 (if fitsB D s then 0 else 3)]) ∧
      w'.ownsRow w.heap.size 5 1 b (if fitsB D s then encB D s else []).length (bytesV (if fitsB D s then encB D s else [])) ∧ Below w.heap.size w w' := by
  obtain ⟨c1, i1, o1, rfl, hc, hi, ho⟩ := id h2
  generalize hO : (Obj.cells #[c1, i1, o1] 25) = ob
  have HB0 := Lib.hid (below_alloc w ob)
  have HD := Lib.hid (h1.below HB0.out (Nat.le_refl _))
  have HS := Lib.hid (h2.below HB0.out (Nat.le_refl _))
  have HC := Lib.hid (hc.below HB0.out (Nat.le_refl _))
  have HI := Lib.hid (hi.below HB0.out (Nat.le_refl _))
  have HOO := Lib.hid (ho.below HB0.out (Nat.le_refl _))
  have bx := three_new w c1 i1 o1 25
  rw [hO] at bx
  obtain ⟨bx0, bx1, bx2⟩ := bx
  have hlt : w.heap.size < (w.alloc ob).heap.size := by simp
  have HLT := Lib.hid hlt
  have HX0 := Lib.hid bx0
  have HX1 := Lib.hid bx1
  have HX2 := Lib.hid bx2
  have HF := Lib.hid (fits_any D s u _ _ HD.out HS.out)
  have HO := Lib.hid hO
  have HP := Lib.hid (fits_parts (D := D) (s := s))
  clear h1 h2 hc hi ho hlt hO bx0 bx1 bx2
  generalize fitsB D s = R at *
  go_enter Try.func25, Try.ntmps25
  go_wp2_with fail
  rw [HO.out]
  refine HF.out.mono ?_
  rintro e w1 ⟨rfl, hb1⟩
  have Hb1 := Lib.hid hb1
  have HBW := Lib.hid (HB0.out.trans (hb1.mono HB0.out.size))
  clear hb1
  cases R
  · go_wp2
    go_ret2
    exact ⟨_, rfl, World.ownsRow_nil _ _ _ _, HBW.out⟩
  · obtain ⟨hD32, hlen, hi4, ho4, hval, hfit⟩ := HP.out rfl
    have q0 := cell_below Hb1.out HLT.out HX0.out
    have q1 := cell_below Hb1.out HLT.out HX1.out
    have q2 := cell_below Hb1.out HLT.out HX2.out
    have HD1 := Lib.hid (HD.out.below Hb1.out (Nat.le_refl _))
    have HC1 := Lib.hid (HC.out.below Hb1.out (Nat.le_refl _))
    have HI1 := Lib.hid (HI.out.below Hb1.out (Nat.le_refl _))
    have HO1 := Lib.hid (HOO.out.below Hb1.out (Nat.le_refl _))
    have hw1 : w.heap.size < w1.heap.size := Nat.lt_of_lt_of_le HLT.out Hb1.out.size
    have HW1 := Lib.hid hw1
    have Q0 := Lib.hid q0
    have Q1 := Lib.hid q1
    have Q2 := Lib.hid q2
    have HVAL := Lib.hid hval
    have HFIT := Lib.hid hfit
    have HLEN := Lib.hid hlen
    have HI4 := Lib.hid hi4
    have HO4 := Lib.hid ho4
    obtain ⟨L, I, O⟩ := s
    simp only at HC1 HI1 HO1 HLEN HI4 HO4 HFIT
    obtain ⟨ad, cd, rfl, _, _, _⟩ := id HD1.out.1
    obtain ⟨ac, cc, rfl, _, _, _⟩ := id HC1.out
    obtain ⟨n, hn⟩ : ∃ n, n = D.length := ⟨_, rfl⟩
    have hnl : n = L.length := by rw [hn, HLEN.out]
    rw [← hn] at HD1 hD32 ⊢
    rw [← hnl] at HC1 Q0
    have ND := Lib.hid hn
    have NL := Lib.hid hnl
    have hn63 : n ≤ 9223372036854775807 := by omega
    clear HF HO HX0 HX1 HX2 HD HS HC HI HOO HB0 HLT hi4 ho4 hval hfit hlen q0 q1 q2 hn hnl HP hw1
    go_wp2
    go_loopg [6, 15] n (fun q v6 i wr => ∃ k : Nat, k + q = n ∧ i = .int .i64 k ∧ wr.ownsRow w1.heap.size 5 1 v6 (((D.zip L).take k).flatMap encOne).length (bytesV (((D.zip L).take k).flatMap encOne)) ∧ (((D.zip L).take k).flatMap encOne).length ≤ 10000 * k ∧ Below w1.heap.size w1 wr)
    case atStart => exact ⟨0, by omega, rfl, World.ownsRow_nil _ _ _ _, Nat.le_refl _, Below.refl _ _⟩
    case round =>
      obtain ⟨k, hk, rfl, hown, hle, hb⟩ := hrel
      have Hk := Lib.hid hk
      have hkn : k ≤ n := by omega
      have Hown := Lib.hid hown
      have Hle := Lib.hid hle
      have Hb := Lib.hid hb
      clear hk hown hle hb
      have hsz := Hb.out.size
      have hwl := HW1.out
      by_cases hlt : k < n
      · have hlt' : (k : Int) < (n : Int) := by omega
        obtain ⟨g1, f1, rfl, hg1, hq1⟩ := HD1.out.1.get (by omega)
        obtain ⟨g2, f2, rfl, hg2, hq2⟩ := SliceAt.get HC1.out (by omega)
        obtain ⟨d, hd⟩ := get_lt ND.out hlt
        obtain ⟨l, hl⟩ := get_lt NL.out hlt
        obtain ⟨e0, e1, e2⟩ := hq1 k d hd
        obtain ⟨ur, er, hur⟩ := hq2 k l hl
        have HL := Lib.hid hur
        have hz : (D.zip L)[k]? = some (d, l) := by rw [List.getElem?_zip_eq_some]; exact ⟨hd, hl⟩
        have hll : l.length ≤ 1000 := fit_len (HVAL.out d (List.mem_of_getElem? hd)) (HFIT.out (d, l) (List.mem_of_getElem? hz))
        have HT := Lib.hid (encRows_take hz)
        have m0 := cell_below Hb.out hg1 e0
        have m1 := cell_below Hb.out hg1 e1
        have m2 := cell_below Hb.out hg1 e2
        have r0 := alloc_cell (cell_below Hb.out hg2 er)
        have b0 := alloc_cell (cell_below Hb.out hwl Q0.out)
        have HER := Lib.hid er
        obtain ⟨nm, kd, ln⟩ := d
        simp only at m0 m1 m2
        have HLE : Hid ((((D.zip L).take (k + 1)).flatMap encOne).length ≤ 10000 * (k + 1)) := by
          unfold Hid
          rw [HT.out, List.length_append]
          have := Hle.out
          have e : (encOne (⟨nm, kd, ln⟩, l)).length ≤ 8002 := by
            unfold encOne
            rw [List.length_append, bytesL_len]
            split
            · simp [bytesOf]; omega
            · simp; omega
          omega
        clear hq1 hq2 hd hl e0 e1 e2 er hur hz
        by_cases k3 : kd = 3
        · subst k3
          have hE : encOne (⟨nm, 3, ln⟩, l) = bytesOf l.length 2 ++ bytesL l := rfl
          have HE := Lib.hid hE
          obtain ⟨al, cl, rfl, _, _, _⟩ := id HL.out.1
          have HLL := Lib.hid hll
          have hr0 := below_alloc
          clear hE hr0
          go_wp2_with fail
          refine (appBytes_any w1.heap.size _ _ (l.length : Nat) 2 (by omega) _ (Hown.out.alloc _) (by simp; omega) (by have := Hle.out; omega)).mono ?_
          rintro e w2 ⟨u2, rfl, hown2, hb2⟩
          have hb12 := (Hb.out.alloc hsz (.cells #[.string nm, .int .u8 3, .int .i64 ln] 44)).trans hb2
          have Hown2 := Lib.hid hown2
          have c0 := cell_below hb12 hwl Q0.out
          have c1 := cell_below hb12 hg2 HER.out
          have Hb12 := Lib.hid hb12
          have hsz2 := hb12.size
          clear hown2 hb2 hb12 b0 r0 m0 m1 m2
          go_wp2_with fail
          refine (appList_any w1.heap.size _ _ _ l w1 _ Hown2.out (by omega) (by have := Hle.out; rw [List.length_append, bytesOf_len]; omega) (by have := HLL.out; omega) HL.out (Nat.le_refl _) Hb12.out).mono ?_
          rintro e w3 ⟨u3, rfl, hown3, hb3⟩
          rw [List.append_assoc, ← HE.out, ← HT.out] at hown3
          have Hown3 := Lib.hid hown3
          have Hb3 := Lib.hid (Hb12.out.trans hb3)
          clear hown3 hb3
          go_wp2
          have hk := Hk.out
          go_roundg (n - (k + 1))
          case measure => omega
          case rel => exact ⟨k + 1, by omega, by go_num, Hown3.out, HLE.out, Hb3.out⟩
        · have j3 : ((kd : Int) == 3) = false := by simp; omega
          have hE : encOne (⟨nm, kd, ln⟩, l) = bytesL l := by simp [encOne, k3]
          have HE := Lib.hid hE
          clear k3 hE
          go_wp2_with fail
          refine (appList_any w1.heap.size _ _ _ l w1 _ (Hown.out.alloc _) (by simp; omega) (by have := Hle.out; omega) (by omega) HL.out (Nat.le_refl _) (Hb.out.alloc hsz _)).mono ?_
          rintro e w3 ⟨u3, rfl, hown3, hb3⟩
          rw [← HE.out, ← HT.out] at hown3
          have Hown3 := Lib.hid hown3
          have Hb3 := Lib.hid ((Hb.out.alloc hsz _).trans hb3)
          clear hown3 hb3
          go_wp2
          have hk := Hk.out
          go_roundg (n - (k + 1))
          case measure => omega
          case rel => exact ⟨k + 1, by omega, by go_num, Hown3.out, HLE.out, Hb3.out⟩
      · have hge : ¬ (k : Int) < (n : Int) := by omega
        have hown := Hown.out
        have hle2 := Hle.out
        rw [List.take_of_length_le (by rw [List.length_zip, ← ND.out, ← NL.out]; omega)] at hown hle2
        have hq1 := cell_below Hb.out hwl Q1.out
        have hq2 := cell_below Hb.out hwl Q2.out
        obtain ⟨ai, ci, rfl, _, _, _⟩ := id HI1.out.1
        obtain ⟨ao, co, rfl, _, _, _⟩ := id HO1.out.1
        have Hown2 := Lib.hid hown
        have Hle2 := Lib.hid hle2
        have HZ := Lib.hid hq2
        clear hown hle2 Hown Hle hq2
        go_wp2
        go_region_held3 (fun w' => w'.cell? ⟨w.heap.size, 1, none⟩ = some (.slice ai I.length ci))
          (first | exact hq1 | exact cell_below Ha.out hwl hq1 | exact cell_below Hc.out hwl (cell_below Ha.out hwl hq1))
          (first
            | (go_at_call 44; refine (appBytes_any w1.heap.size _ _ (I.length : Nat) 2 (by omega) _ (by exact Hown2.out) (by exact hsz) (by have := Hle2.out; omega)).mono ?_; rintro e wa ⟨ua, rfl, howna, hba⟩; have Howna := Lib.hid howna; have Ha : Hid (Below w1.heap.size wr wa) := ⟨hba.os, hba.tape, hba.output, hba.size, hba.block⟩; clear howna hba)
            | (go_at_call 45; refine (appList_any w1.heap.size _ _ _ I w1 _ (by exact Howna.out) (by exact Nat.le_trans hsz Ha.out.size) (by have := Hle2.out; rw [List.length_append, bytesOf_len]; omega) (by have := HI4.out; omega) HI1.out (Nat.le_refl _) (by exact Hb.out.trans Ha.out)).mono ?_; rintro e wc ⟨uc, rfl, hownc, hbc⟩; have Hownc := Lib.hid hownc; have Hc : Hid (Below w1.heap.size wa wc) := ⟨hbc.os, hbc.tape, hbc.output, hbc.size, hbc.block⟩; clear hownc hbc))
        all_goals go_wp2
        have hz2 := cell_below Hc.out hwl (cell_below Ha.out hwl HZ.out)
        have Hbc := Lib.hid (Hb.out.trans (Ha.out.trans Hc.out))
        have hszc := Hbc.out.size
        go_region_held3 (fun w' => w'.cell? ⟨w.heap.size, 2, none⟩ = some (.slice ao O.length co))
          (first | exact hz2 | exact cell_below Hd.out hwl hz2 | exact cell_below Hf.out hwl (cell_below Hd.out hwl hz2))
          (first
            | (go_at_call 44; refine (appBytes_any w1.heap.size _ _ (O.length : Nat) 2 (by omega) _ (by exact Hownc.out) (by exact hszc) (by have := Hle2.out; have := HI4.out; rw [List.length_append, List.length_append, bytesOf_len, bytesL_len]; omega)).mono ?_; rintro e wd ⟨ud, rfl, hownd, hbd⟩; have Hownd := Lib.hid hownd; have Hd : Hid (Below w1.heap.size wc wd) := ⟨hbd.os, hbd.tape, hbd.output, hbd.size, hbd.block⟩; clear hownd hbd)
            | (go_at_call 45; refine (appList_any w1.heap.size _ _ _ O w1 _ (by exact Hownd.out) (by exact Nat.le_trans hszc Hd.out.size) (by have := Hle2.out; have := HI4.out; rw [List.length_append, List.length_append, List.length_append, bytesOf_len, bytesOf_len, bytesL_len]; omega) (by have := HO4.out; omega) HO1.out (Nat.le_refl _) (by exact Hbc.out.trans Hd.out)).mono ?_; rintro e wf ⟨uf, rfl, hownf, hbf⟩; have Hownf := Lib.hid hownf; have Hf : Hid (Below w1.heap.size wd wf) := ⟨hbf.os, hbf.tape, hbf.output, hbf.size, hbf.block⟩; clear hownf hbf))
        all_goals go_wp2
        go_ret2
        have hfin := Hownf.out
        simp only [List.append_assoc] at hfin
        refine ⟨_, rfl, ?_, HBW.out.trans ((Hbc.out.trans (Hd.out.trans Hf.out)).mono HBW.out.size)⟩
        exact (World.ownsRow.mono hfin (Nat.le_of_lt HW1.out))

end Go.Proofs.Ytpbbiidfahaamaa
