/- The walk of Apply. -/
import Derived.Test.YtpbbiidfahaamaaStV6
namespace Go.Proofs.Ytpbbiidfahaamaa
open Go.RowKit

theorem cell_map {w w' : World} {bm m : Nat} {g : Int → Option Nat} (hm : MapAt w bm m g) (ht : Touch (fun j => j = bm) w w') {b j : Nat} {u : Value} (h : w.cell? ⟨b, j, none⟩ = some u) : w'.cell? ⟨b, j, none⟩ = some u := by
  have hlt := World.block_lt_of_cell? w ⟨b, j, none⟩ h
  have hne : ¬ b = bm := by
    rintro rfl
    obtain ⟨D, ⟨es, clock, hh, _⟩, _⟩ := hm
    simp [World.cell?, hh] at h
  have hb := ht.block b hlt hne
  simp only [World.cell?] at h ⊢
  rw [hb]
  exact h

theorem IntsAt.mapkept {w w' : World} {bm m : Nat} {g : Int → Option Nat} (hm : MapAt w bm m g) (ht : Touch (fun j => j = bm) w w') {v : Value} {l : List Int} (h : IntsAt w v l) : IntsAt w' v l :=
  ⟨h.1.mono ht.size (fun _ _ _ hq i x hx => cell_map hm ht (hq i x hx)), h.2⟩
theorem RowsAt.mapkept {w w' : World} {bm m : Nat} {g : Int → Option Nat} (hm : MapAt w bm m g) (ht : Touch (fun j => j = bm) w w') {v : Value} {L : List (List Int)} (h : RowsAt w v L) : RowsAt w' v L :=
  SliceAt.mono h ht.size (fun _ _ _ hq i l hl => by
    obtain ⟨u, h1, h2⟩ := hq i l hl
    exact ⟨u, cell_map hm ht h1, h2.mapkept hm ht⟩)
theorem BoxAt.mapkept {w w' : World} {bm m : Nat} {g : Int → Option Nat} (hm : MapAt w bm m g) (ht : Touch (fun j => j = bm) w w') {b : Nat} {s : St} (h : BoxAt w b s) : BoxAt w' b s := by
  obtain ⟨h0, c, i, o, h1, h2, h3, h4, h5, h6⟩ := h
  exact ⟨Nat.lt_of_lt_of_le h0 ht.size, c, i, o, cell_map hm ht h1, cell_map hm ht h2, cell_map hm ht h3, h4.mapkept hm ht, h5.mapkept hm ht, h6.mapkept hm ht⟩

theorem RowsNew.touch {S : Nat → Prop} {B : Nat} {w w' : World} {c : Value} {vs : List Value} {L : List (List Int)} (h : RowsNew B w c vs L) (ht : Touch S w w') (hS : ∀ j, S j → j < B) : RowsNew B w' c vs L :=
  ⟨ht.own h.1 (fun j hj hs => by have := (h.1.lt j hj).1; have := hS j hs; omega), fun i l hl => by
    obtain ⟨u, h1, h2⟩ := h.2 i l hl
    exact ⟨u, h1, ht.own h2 (fun j hj hs => by have := (h2.lt j hj).1; have := hS j hs; omega)⟩⟩
theorem IntsNew.touch {S : Nat → Prop} {B : Nat} {w w' : World} {u : Value} {l : List Int} (h : IntsNew B w u l) (ht : Touch S w w') (hS : ∀ j, S j → j < B) : IntsNew B w' u l :=
  ht.own h (fun j hj hs => by have := (h.lt j hj).1; have := hS j hs; omega)

def resAt (n : Nat) (F : Int → Sq) (k : Nat) : St := ⟨((compsL n).take k).map (outC F), if n < k then (outC F (-1)).reverse else [], if n + 1 < k then outC F (-2) else []⟩
theorem compsL_len (n : Nat) : (compsL n).length = n := by simp [compsL]
theorem resAt_lt {n k : Nat} (F : Int → Sq) (h : k < n) : resAt n F (k + 1) = ⟨(resAt n F k).cells ++ [outC F k], (resAt n F k).inp, (resAt n F k).out⟩ := by
  unfold resAt
  rw [compsL_take h, List.map_append]
  simp only [St.mk.injEq, List.map_cons, List.map_nil, true_and]
  rw [if_neg (by omega), if_neg (by omega), if_neg (by omega), if_neg (by omega)]
  exact ⟨rfl, rfl⟩
theorem resAt_n (n : Nat) (F : Int → Sq) : resAt n F (n + 1) = ⟨(resAt n F n).cells, (outC F (-1)).reverse, (resAt n F n).out⟩ := by
  unfold resAt
  rw [List.take_of_length_le (by rw [compsL_len]; omega), List.take_of_length_le (by rw [compsL_len]; omega)]
  simp
  omega
theorem resAt_n1 (n : Nat) (F : Int → Sq) : resAt n F (n + 1 + 1) = ⟨(resAt n F (n + 1)).cells, (resAt n F (n + 1)).inp, outC F (-2)⟩ := by
  unfold resAt
  rw [List.take_of_length_le (by rw [compsL_len]; omega), List.take_of_length_le (by rw [compsL_len]; omega)]
  simp
  omega
theorem resAt_end (n : Nat) (F : Int → Sq) : resAt n F (n + 2) = ⟨(compsL n).map (outC F), (outC F (-1)).reverse, outC F (-2)⟩ := by
  unfold resAt
  rw [List.take_of_length_le (by rw [compsL_len]; omega)]
  simp
theorem comps_get {n k : Nat} {c : Int} (h : (comps n)[k]? = some c) : (k < n ∧ c = k) ∨ (k = n ∧ c = -1) ∨ (k = n + 1 ∧ c = -2) := by
  unfold comps at h
  rcases Nat.lt_or_ge k n with hk | hk
  · rw [List.getElem?_append_left (by rw [compsL_len]; exact hk)] at h
    left
    refine ⟨hk, ?_⟩
    simp [compsL, hk] at h
    omega
  · rw [List.getElem?_append_right (by rw [compsL_len]; exact hk), compsL_len] at h
    right
    rcases Nat.lt_or_ge (k - n) 1 with h1 | h1
    · have e : k - n = 0 := by omega
      rw [e] at h
      simp at h
      exact .inl ⟨by omega, h.symm⟩
    · rcases Nat.lt_or_ge (k - n) 2 with h2 | h2
      · have e : k - n = 1 := by omega
        rw [e] at h
        simp at h
        exact .inr ⟨by omega, h.symm⟩
      · rw [List.getElem?_eq_none (by simp; omega)] at h
        cases h

theorem SeqsAt.sub {B : Nat} {w : World} {Dm Dm' : Int → Prop} {bs : Int → Nat} {vs : Int → Value} {F : Int → Sq} (h : SeqsAt B w Dm bs vs F) (hd : ∀ c, Dm' c → Dm c) : SeqsAt B w Dm' bs vs F :=
  ⟨fun c hc => h.at_ c (hd c hc), fun c c' hc hc' hne => h.apart c c' (hd c hc) (hd c' hc') hne⟩
theorem drop_mem {α : Type} {L : List α} {k : Nat} {x : α} (h : x ∈ L.drop (k + 1)) : x ∈ L.drop k := by
  obtain ⟨i, hi⟩ := List.mem_iff_getElem?.1 h
  rw [List.getElem?_drop] at hi
  exact List.mem_iff_getElem?.2 ⟨i + 1, by rw [List.getElem?_drop, show k + (i + 1) = k + 1 + i by omega]; exact hi⟩
theorem drop_ne {α : Type} {L : List α} (hn : L.Nodup) {k : Nat} {c x : α} (hc : L[k]? = some c) (h : x ∈ L.drop (k + 1)) : c ≠ x := by
  obtain ⟨i, hi⟩ := List.mem_iff_getElem?.1 h
  rw [List.getElem?_drop] at hi
  obtain ⟨h1, h2⟩ := List.getElem?_eq_some_iff.1 hi
  obtain ⟨h3, h4⟩ := List.getElem?_eq_some_iff.1 hc
  have := List.pairwise_iff_getElem.1 hn k (k + 1 + i) h3 h1 (by omega)
  rw [h2, h4] at this
  exact this
theorem sqOut_len {q : Sq} {l : List Int} (h : sqOut q = some l) (hq : q.len ≤ 4096) : l.length ≤ 4096 := by
  unfold sqOut at h
  split at h
  · injection h with h
    rw [← h, List.length_take]
    omega
  · cases h

theorem Big.sized {s : St} (h : Big s) : Sized s := by
  have h1 := h.2.1 (-1)
  have h2 := h.2.1 (-2)
  have e1 : part s (-1) = s.inp.reverse := rfl
  have e2 : part s (-2) = s.out := rfl
  rw [e1, List.length_reverse] at h1
  rw [e2] at h2
  refine ⟨by omega, by omega, fun l hl => ?_⟩
  obtain ⟨k, hk⟩ := List.mem_iff_getElem?.1 hl
  have h3 := h.2.1 (k : Int)
  have : part s (k : Int) = l := by
    unfold part
    rw [if_neg (by omega), if_neg (by omega), Int.toNat_natCast, List.getD_eq_getElem?_getD, hk]
    rfl
  rw [this] at h3
  omega

set_option maxRecDepth 100000 in
set_option maxHeartbeats 16000000 in
theorem apply_any (s : St) (C : List Chg) (vs vc : Value) (w : World) (h : StAt w vs s) (hC : ChgsAt w vc C) (hs : Big s) (hCl : C.length ≤ 100000) :
    Calls Try.prog 31 #[vs, vc] w fun e w' => ∃ r, e = .returned (.tuple #[r, .int .i64 ((applyP s C).1 : Nat)]) ∧ StNew w.heap.size w' r (applyP s C).2 ∧ Below w.heap.size w w' := by
  obtain ⟨c0, i0, o0, rfl, h1, h2, h3⟩ := id h
  obtain ⟨n, hn⟩ : ∃ n, n = s.cells.length := ⟨_, rfl⟩
  obtain ⟨ac, cc, rfl, -, -, -⟩ := id h1
  rw [← hn] at h h1 ⊢
  obtain ⟨⟨am, cm, rfl, hcm1, hcm2, hcm3⟩, hcf⟩ := hC
  obtain ⟨M, hM⟩ : ∃ M, M = C.length := ⟨_, rfl⟩
  rw [← hM] at hcm1 hcm3 hCl ⊢
  -- the world in which the walk begins: two boxes and the map
  obtain ⟨W, hW⟩ : ∃ W, W = ((w.alloc (.cells #[.slice ac n cc, i0, o0] 25)).alloc (.cells #[.slice none 0 0, .slice none 0 0, .slice none 0 0] 25)).alloc (.map #[] 0) := ⟨_, rfl⟩
  have hB0 : Below w.heap.size w W := by rw [hW]; exact (((Below.refl _ _).alloc (Nat.le_refl _) _).alloc (by simp) _).alloc (by simp; omega) _
  have hb0 : Blk W w.heap.size 25 #[.slice ac n cc, i0, o0] := by rw [hW]; exact ((Blk.new _ _ _).al _).al _
  have hb1 : Blk W (w.heap.size + 1) 25 #[.slice none 0 0, .slice none 0 0, .slice none 0 0] := by rw [hW]; exact (Blk.new' (by simp)).al _
  have hb2 : MapAt W (w.heap.size + 2) 0 (gOf ((comps n).take 0) (fun _ => 0)) := by
    have := MapAt.made ((w.alloc (.cells #[.slice ac n cc, i0, o0] 25)).alloc (.cells #[.slice none 0 0, .slice none 0 0, .slice none 0 0] 25))
    rw [hW]
    have e : gOf ((comps n).take 0) (fun _ => 0) = fun _ => none := by funext x; simp [gOf]
    rw [e]
    simpa using this
  have hWs : W.heap.size = w.heap.size + 3 := by rw [hW]; simp
  have hst : StAt W (.agg #[.slice ac n cc, i0, o0]) s := h.below hB0 (Nat.le_refl _)
  have HW := Lib.hid hW
  have HB0 := Lib.hid hB0
  have HK0 := Lib.hid hb0
  have HK1 := Lib.hid hb1
  have HM0 := Lib.hid hb2
  have HST := Lib.hid hst
  have HS := Lib.hid hs
  have HCF := Lib.hid hcf
  have HCM := Lib.hid hcm3
  have HMM := Lib.hid hM
  have HN := Lib.hid hn
  have hn40 : n ≤ 40 := by rw [hn]; exact hs.1
  have HG0 := Lib.hid (Good.seq0 hs)
  have hap : applyP s C = if (runL n (seq0 s) C).1 = 0 then finP n (runL n (seq0 s) C).2 else ((runL n (seq0 s) C).1, st0) := by rw [hn]; rfl
  generalize applyP s C = AP at *
  have HAP := Lib.hid hap
  clear h h1 h2 h3 hW hB0 hb0 hb1 hb2 hst hs hcf hcm3 hM hn hap
  have hmm := @run_makeMap Try.prog
  obtain ⟨jr, hjr, hy0, hy1, hy2⟩ := info_parts rowInfo
  go_enter Try.func31, Try.ntmps31
  go_wp2_with fail
  rw [← HW.out]
  clear HW
  refine (elements_any s _ _ (by exact HST.out)).mono ?_
  rintro e w2 ⟨rfl, hbx, hb2⟩
  have HBX := Lib.hid hbx
  have HK02 := Lib.hid (HK0.out.next hb2)
  have HK12 := Lib.hid (HK1.out.next hb2)
  have HM02 := Lib.hid (HM0.out.below hb2 (by omega))
  have HB2 := Lib.hid (HB0.out.trans (hb2.mono HB0.out.size))
  have y0 := HK02.out.cell 0
  simp only [List.getElem?_toArray, List.getElem?_cons_zero] at y0
  have hlt2 : w.heap.size + 3 < w2.heap.size := by have := hbx.1; omega
  rw [hWs] at *
  clear hbx hb2 HK0 HK1 HM0 HST HB0 hWs
  go_wp2_with fail
  refine (comps_any n (by omega) _).mono ?_
  rintro e w3 ⟨u3, rfl, hown3, hb3⟩
  obtain ⟨a3, k3, rfl⟩ := own_form hown3
  have hNN : (comps n).length = n + 2 := by simp [comps, compsL]
  have hnd := comps_nodup n
  have hcmem : ∀ (k : Nat) (c : Int), (comps n)[k]? = some c → (c = -1 ∨ c = -2 ∨ 0 ≤ c ∧ c < n) ∧ I64 c := by
    intro k c hc
    have hm := List.mem_of_getElem? hc
    exact ⟨comps_mem hm, comps_i64 (by omega) c hm⟩
  have HBX3 := Lib.hid (HBX.out.below hb3 (Nat.le_refl _))
  have HK03 := Lib.hid (HK02.out.next hb3)
  have HK13 := Lib.hid (HK12.out.next hb3)
  have HM03 := Lib.hid (HM02.out.below hb3 (by omega))
  have HB3 := Lib.hid (HB2.out.trans (hb3.mono HB2.out.size))
  have hsz3 := hb3.size
  obtain ⟨L, hL⟩ : ∃ L, L = comps n := ⟨_, rfl⟩
  rw [← hL] at hown3 hNN hnd hcmem ⊢
  have HCI : Hid (∀ c ∈ L, I64 c) := by rw [hL]; exact comps_i64 (by omega)
  obtain ⟨N, hN⟩ : ∃ N, L.length = N := ⟨_, rfl⟩
  rw [hN] at hown3 hNN ⊢
  have HNL := Lib.hid hN
  have HND := Lib.hid hnd
  have HCM2 := Lib.hid hcmem
  have HO3 := Lib.hid hown3
  have HLL := Lib.hid hL
  have HNN := Lib.hid hNN
  have hN42 : N ≤ 42 := by omega
  have hN42' : (N : Int) ≤ 42 := by omega
  clear hb3 HBX HK02 HK12 HM02 HB2 hown3 hN hnd hcmem hL hNN
  go_wp2_with fail
  go_loopg [29] N (fun q i wr => ∃ (k : Nat) (bs : Int → Nat) (us : Int → Value), k + q = N ∧ i = .int .i64 k ∧ MapAt wr (w.heap.size + 2) k (gOf (L.take k) bs) ∧ SeqsAt w3.heap.size wr (fun x => x ∈ L.take k) bs us (seq0 s) ∧ Touch (fun j => j = w.heap.size + 2) w3 wr)
  case atStart => exact ⟨0, _, fun _ => undef, by omega, rfl, HM03.out, ⟨fun c hc => absurd hc (by simp), fun c c' hc => absurd hc (by simp)⟩, Touch.refl _ _⟩
  case round =>
    obtain ⟨k, bs, us, hk, rfl, hm, hsq, ht⟩ := hrel
    have Hk := Lib.hid hk
    have hkn : k ≤ N := by omega
    have HMr := Lib.hid hm
    have HSr := Lib.hid hsq
    have HTr := Lib.hid ht
    have hszr := ht.size
    have HOr := Lib.hid (ht.own HO3.out (fun j hj => by have := (HO3.out.lt j hj).1; omega))
    clear hk hm hsq ht
    by_cases hlt : k < N
    · have hlt' : (k : Int) < (N : Int) := by omega
      obtain ⟨c, hc⟩ := get_lt (l := L) HNL.out.symm hlt
      have hI : IntsAt wr (.slice a3 N k3) L := by
        have h := HOr.out
        rw [← HNL.out] at h ⊢
        exact IntsAt.of_own h HCI.out
      have hsl := hI.1
      rw [HNL.out] at hsl
      obtain ⟨g3, f3, rfl, hg3, hq3⟩ := hsl.get (by omega)
      have m0 := hq3 k c hc
      have hbx := HBX3.out.mapkept HM03.out HTr.out
      have HBXr := Lib.hid hbx
      have HC := Lib.hid hc
      have HCC := Lib.hid (HCM2.out k c hc)
      clear hI hsl hq3 hbx hc
      go_wp2_with fail
      refine (elem_any s _ c wr (by exact HBXr.out) HS.out.sized (by rw [← HN.out]; exact HCC.out.1)).mono ?_
      rintro e w4 ⟨u4, rfl, hown4, hb4⟩
      obtain ⟨a4, k4, rfl⟩ := own_form hown4
      have hpl : (part s c).length ≤ 4096 := HS.out.2.1 c
      have HO4 := Lib.hid hown4
      have HB4 := Lib.hid hb4
      have HM4 := Lib.hid (HMr.out.below hb4 (by omega))
      have hs4 := hb4.size
      obtain ⟨pl, hpl'⟩ : ∃ pl, pl = (part s c).length := ⟨_, rfl⟩
      rw [← hpl'] at hpl ⊢
      have HPL := Lib.hid hpl'
      have hpl0 : (pl : Int) ≤ 4096 := by omega
      clear hown4 hb4 hpl'
      have hmap5 : MapAt (w4.alloc (.cells #[.int .i64 pl, .slice a4 pl k4] 79)) (w.heap.size + 2) k (gOf (L.take k) bs) := HM4.out.below (below_alloc w4 (.cells #[.int .i64 pl, .slice a4 pl k4] 79)) (by omega)
      have HM5 := Lib.hid hmap5
      clear hmap5
      go_wp2_with (at_mapUpdate; refine wpList_put_seq rfl (.tmp 36) (.tmp 37) (.tmp 42) rfl (w.heap.size + 2) k _ rfl HM5.out (by omega) c HCC.out.2 rfl w4.heap.size rfl ?_)
      intro w6 hm6 ht6
      have hb45 := below_alloc w4 (.cells #[.int .i64 pl, .slice a4 pl k4] 79)
      have hseq : SeqAt wr.heap.size (w4.alloc (.cells #[.int .i64 pl, .slice a4 pl k4] 79)) w4.heap.size (.slice a4 pl k4) (seq0 s c) := by
        refine ⟨hs4, ?_, ?_⟩
        · show Blk _ _ _ #[.int .i64 ((part s c).length : Nat), _]
          rw [← HPL.out]
          exact Blk.new _ _ _
        · have := own_below HO4.out hb45
          rw [← HPL.out] at this
          show IntsNew _ _ _ (part s c)
          unfold IntsNew
          rw [← HPL.out]
          exact this
      have hadd := HSr.out.add (below_next HB4.out (Nat.le_refl _) hb45) c (take_not_mem HND.out HC.out) hszr hseq
      have hadd2 := hadd.touch ht6 (fun x hx j hj he => by
        have := ((hadd.at_ x hx).lt j hj).1
        omega)
      rw [dm_take HC.out] at hadd2
      rw [gOf_take HC.out] at hm6
      have HA2 := Lib.hid hadd2
      have HM6 := Lib.hid hm6
      have HT6 := Lib.hid ((HTr.out.trans (Touch.of_below (below_next HB4.out (Nat.le_refl _) hb45)) (fun _ _ h => h)).trans ht6 (fun _ _ h => h))
      clear hm6 ht6 hadd hadd2 hseq hb45
      go_wp2
      have hk := Hk.out
      go_roundg (N - (k + 1))
      case measure => omega
      case rel => exact ⟨k + 1, _, _, by omega, by go_num, HM6.out, HA2.out, HT6.out⟩
    · have hge : ¬ (k : Int) < (N : Int) := by omega
      have hkN : N = k := by omega
      subst hkN
      have e1 : L.take N = L := List.take_of_length_le (by rw [HNL.out]; exact Nat.le_refl _)
      have hm4 := HMr.out
      have hs4 := HSr.out
      rw [e1] at hm4 hs4
      have HM4 := Lib.hid hm4
      have HS4 := Lib.hid hs4
      have HK04 := Lib.hid (HTr.out.blk HK03.out (by omega))
      have HK14 := Lib.hid (HTr.out.blk HK13.out (by omega))
      have HB4 := Lib.hid (HB3.out.trans (HTr.out.low (B := w.heap.size) (fun j hj => by omega) (by omega)))
      clear hm4 hs4 e1 HMr HSr HTr HOr HM03 HK03 HK13 HB3 HBX3
      clear hlt hkn
      obtain ⟨w4, hw4⟩ : ∃ w4 : World, w4 = wr := ⟨_, rfl⟩
      subst hw4
      go_wp2
      go_loopg [46] M (fun q i w5 => ∃ (j : Nat) (us' : Int → Value) (F : Int → Sq), j + q = M ∧ i = .int .i64 j ∧ runL n (seq0 s) (C.take j) = (0, F) ∧ SeqsAt w3.heap.size w5 (fun x => x ∈ L) bs us' F ∧ Below w3.heap.size w4 w5)
      case atStart => exact ⟨0, us, seq0 s, by omega, rfl, rfl, HS4.out, Below.refl _ _⟩
      case round =>
        obtain ⟨j, us', F, hj, rfl, hrun, hsq, hb⟩ := hrel
        obtain ⟨w5, hw5⟩ : ∃ w5 : World, w5 = wr := ⟨_, rfl⟩
        subst hw5
        have Hj := Lib.hid hj
        have hjM : j ≤ M := by omega
        have HRUN := Lib.hid hrun
        have HSQ := Lib.hid hsq
        have HB5 := Lib.hid hb
        have hs5 := hb.size
        clear hj hrun hsq hb
        by_cases hlt : j < M
        · have hlt' : (j : Int) < (M : Int) := by omega
          have hj0 : (0 : Int) ≤ (j : Int) := Int.natCast_nonneg _
          obtain ⟨g, o, rfl, hg, hq⟩ := HCM.out (by omega)
          obtain ⟨x, hx⟩ := get_lt HMM.out hlt
          obtain ⟨q0, q1, q2, q3⟩ := hq j x hx
          have hbw : Below w.heap.size w w5 := HB4.out.trans (HB5.out.mono (by omega))
          have m0 := cell_below hbw hg q0
          have m1 := cell_below hbw hg q1
          have m2 := cell_below hbw hg q2
          have m3 := cell_below hbw hg q3
          have hg5 : g < w5.heap.size := Nat.lt_of_lt_of_le hg hbw.size
          have HX := Lib.hid hx
          have HXF := Lib.hid (HCF.out x (List.mem_of_getElem? hx))
          have HBW := Lib.hid hbw
          clear hq hx q0 q1 q2 q3 hbw
          obtain ⟨xc, xp, xo, xn⟩ := x
          simp only at m0 m1 m2 m3
          obtain ⟨W6, hW6⟩ : ∃ W6, W6 = w5.alloc (.cells #[.int .i64 xc, .int .i64 xp, .int .i64 xo, .int .i64 xn] 61) := ⟨_, rfl⟩
          have hb6 : Below w5.heap.size w5 W6 := by rw [hW6]; exact below_alloc _ _
          have hbx6 : Blk W6 w5.heap.size 61 #[.int .i64 xc, .int .i64 xp, .int .i64 xo, .int .i64 xn] := by rw [hW6]; exact Blk.new _ _ _
          have HW6 := Lib.hid hW6
          have HBX6 := Lib.hid hbx6
          have HSQ6 := Lib.hid (HSQ.out.next hb6)
          have HB6 := Lib.hid (HB5.out.trans (hb6.mono (by omega)))
          have HBW6 := Lib.hid (HBW.out.trans (hb6.mono (by omega)))
          have HM6 := Lib.hid (HM4.out.below HB6.out (by omega))
          have hk1 := HK14.out.below HB6.out (by omega)
          have z0 := hk1.free 0
          have z1 := hk1.free 1
          have z2 := hk1.free 2
          have t0 := hk1.cell 0
          have t1 := hk1.cell 1
          have t2 := hk1.cell 2
          have d0 := hbx6.cell 0
          have d1 := hbx6.cell 1
          have d2 := hbx6.cell 2
          have d3 := hbx6.cell 3
          simp only [List.getElem?_toArray, List.getElem?_cons_succ, List.getElem?_cons_zero] at d0 d1 d2 d3 t0 t1 t2
          have hk1l : w.heap.size + 1 < W6.heap.size := hk1.lt
          have HK16 := Lib.hid hk1
          have hs6 : W6.heap.size = w5.heap.size + 1 := by rw [hW6]; simp
          have hxcI : I64 xc := HXF.out.1
          have HXC := Lib.hid hxcI
          clear hW6 hb6 hbx6 hk1 hxcI
          by_cases hin : xc ∈ L
          · have hg0 : gOf L bs xc = some (bs xc) := by unfold gOf; rw [if_pos hin]
            have hst : stepP n F ⟨xc, xp, xo, xn⟩ = ((chgP ⟨xc, xp, xo, xn⟩ (F xc)).1, upd F xc (chgP ⟨xc, xp, xo, xn⟩ (F xc)).2) := by unfold stepP; rw [if_pos (by rw [← HLL.out]; exact hin)]
            have hgood : Good (F xc) := by
              have := Good.run (n := n) (C.take j) HG0.out (fun c hc => HCF.out c (List.mem_of_mem_take hc)) xc
              rw [HRUN.out] at this
              exact this
            have HG := Lib.hid hg0
            have HIN := Lib.hid hin
            have HST := Lib.hid hst
            have HGO := Lib.hid hgood
            clear hg0 hst hin hgood
            go_wp2_with (at_lookup; rw [← HW6.out]; refine wpList_look_seq rfl (.tmp 51) (.tmp 53) true rfl (w.heap.size + 2) N _ rfl HM6.out xc HXC.out rfl (.tuple #[.pointer (some ⟨bs xc, 0, none⟩), .bool true]) (.inr ⟨_, HG.out, rfl⟩) ?_)
            refine (change_any w3.heap.size (bs xc) ⟨xc, xp, xo, xn⟩ (us' xc) (F xc) W6 (HSQ6.out.at_ xc HIN.out) HXF.out (by have := HGO.out.els; omega) HGO.out.i64).mono ?_
            rintro e w7 ⟨rfl, v7, hsq7, ht7, hv7⟩
            have hch := HSQ6.out.change xc HIN.out hsq7 ht7 hv7
            have hlow : Below w3.heap.size W6 w7 := ht7.low (fun j hj => ((HSQ6.out.at_ xc HIN.out).lt j hj).1) (by omega)
            have HCH := Lib.hid hch
            have HB7 := Lib.hid (HB6.out.trans hlow)
            have HBW7 := Lib.hid (HBW6.out.trans (hlow.mono (by omega)))
            have hk1 := HK14.out.below HB7.out (by omega)
            have HK17 := Lib.hid hk1
            have z0 := hk1.free 0
            have z1 := hk1.free 1
            have z2 := hk1.free 2
            have t0 := hk1.cell 0
            have t1 := hk1.cell 1
            have t2 := hk1.cell 2
            simp only [List.getElem?_toArray, List.getElem?_cons_succ, List.getElem?_cons_zero] at t0 t1 t2
            have hk1l7 : w.heap.size + 1 < w7.heap.size := hk1.lt
            have hst := HST.out
            generalize hce : (chgP ⟨xc, xp, xo, xn⟩ (F xc)).1 = err at *
            have HST2 := Lib.hid hst
            clear hch hlow hk1 hsq7 ht7 hv7 hst hce d0 d1 d2 d3
            by_cases he : err = 0
            · subst he
              have he0 : (((0 : Nat) : Int) != 0) = false := by simp
              go_wp2
              have hj := Hj.out
              go_roundg (M - (j + 1))
              case measure => omega
              case rel =>
                refine ⟨j + 1, updN us' xc v7, _, by omega, by go_num, run_next HRUN.out HX.out (by rw [HST2.out]), ?_, HB7.out⟩
                rw [HST2.out]
                exact HCH.out
            · have he0 : ((err : Int) != 0) = true := by simpa using he
              have hr := run_fail HRUN.out HX.out (by rw [HST2.out]; exact he)
              have hap2 : AP = (err, st0) := by rw [HAP.out, if_neg (by rw [hr, HST2.out]; exact he), hr, HST2.out]
              have HAP2 := Lib.hid hap2
              clear hr hap2
              go_wp2
              have hk3 := ((HK17.out.set 0 (.slice none 0 0)).set 1 (.slice none 0 0)).set 2 (.slice none 0 0)
              have hb3 := ((HBW7.out.setCell (p := ⟨w.heap.size + 1, 0, none⟩) (by simp) (.slice none 0 0)).setCell (p := ⟨w.heap.size + 1, 1, none⟩) (by simp) (.slice none 0 0)).setCell (p := ⟨w.heap.size + 1, 2, none⟩) (by simp) (.slice none 0 0)
              generalize World.setCell _ _ _ = wf at *
              have hap2 := HAP2.out
              subst hap2
              exact bodyPost_ret (results_state rfl _ _ _ _ _ _ rfl hk3) rfl ⟨_, rfl, st0_new _ _, hb3⟩
          · have hg0 : gOf L bs xc = none := by unfold gOf; rw [if_neg hin]
            have hst : stepP n F ⟨xc, xp, xo, xn⟩ = (2, F) := by unfold stepP; rw [if_neg (by rw [← HLL.out]; exact hin)]
            have hr := run_fail HRUN.out HX.out (by rw [hst]; simp)
            have hap2 : AP = (2, st0) := by rw [HAP.out, if_neg (by rw [hr, hst]; simp), hr, hst]
            have HG := Lib.hid hg0
            have HAP2 := Lib.hid hap2
            clear hg0 hst hr hap2 hin
            go_wp2_with (at_lookup; rw [← HW6.out]; refine wpList_look_seq rfl (.tmp 51) (.tmp 53) true rfl (w.heap.size + 2) N _ rfl HM6.out xc HXC.out rfl (.tuple #[.pointer none, .bool false]) (.inl ⟨HG.out, rfl⟩) ?_)
            have hk3 := ((HK16.out.set 0 (.slice none 0 0)).set 1 (.slice none 0 0)).set 2 (.slice none 0 0)
            have hb3 := ((HBW6.out.setCell (p := ⟨w.heap.size + 1, 0, none⟩) (by simp) (.slice none 0 0)).setCell (p := ⟨w.heap.size + 1, 1, none⟩) (by simp) (.slice none 0 0)).setCell (p := ⟨w.heap.size + 1, 2, none⟩) (by simp) (.slice none 0 0)
            generalize World.setCell _ _ _ = wf at *
            have hap2 := HAP2.out
            subst hap2
            exact bodyPost_ret (results_state rfl _ _ _ _ _ _ rfl hk3) rfl ⟨_, rfl, st0_new _ _, hb3⟩
        · have hge : ¬ (j : Int) < (M : Int) := by omega
          have hjM2 : M = j := by omega
          subst hjM2
          have hr := HRUN.out
          rw [List.take_of_length_le (by rw [← HMM.out]; exact Nat.le_refl _)] at hr
          have hap2 : AP = finP n F := by rw [HAP.out, if_pos (by rw [hr]), hr]
          have HAP2 := Lib.hid hap2
          have HLO : Hid (∀ c ∈ L, ∀ j, SqB (bs c) (us' c) j → w3.heap.size ≤ j ∧ j < w5.heap.size) := fun c hc => (HSQ.out.at_ c hc).lt
          have HGF : Hid (∀ c, Good (F c)) := by
            intro c
            have := Good.run (n := n) C HG0.out HCF.out c
            rw [hr] at this
            exact this
          obtain ⟨W6, hW6⟩ : ∃ W6, W6 = w5.alloc (.cells #[.slice none 0 0, .slice none 0 0, .slice none 0 0] 25) := ⟨_, rfl⟩
          have hb6 : Below w5.heap.size w5 W6 := by rw [hW6]; exact below_alloc _ _
          have hbr6 : Blk W6 w5.heap.size 25 #[.slice none 0 0, .slice none 0 0, .slice none 0 0] := by rw [hW6]; exact Blk.new _ _ _
          have HW6 := Lib.hid hW6
          have HBR6 := Lib.hid hbr6
          have HSQ6 := Lib.hid (HSQ.out.next hb6)
          have HB6 := Lib.hid (HB5.out.trans (hb6.mono (by omega)))
          have hs6 : W6.heap.size = w5.heap.size + 1 := by rw [hW6]; simp
          have hk0 := HK04.out.below HB6.out (by omega)
          have y0 := hk0.cell 0
          simp only [List.getElem?_toArray, List.getElem?_cons_zero] at y0
          have hk0l : w.heap.size < W6.heap.size := hk0.lt
          have hk5 := HK04.out.below HB5.out (by omega)
          have y5 := hk5.cell 0
          simp only [List.getElem?_toArray, List.getElem?_cons_zero] at y5
          have hk5l : w.heap.size < w5.heap.size := hk5.lt
          clear hr hap2 hW6 hb6 hbr6 hk0 hk5
          go_wp2_with fail
          rw [← HW6.out]
          clear HW6
          refine (comps_any n (by omega) _).mono ?_
          rintro e w7 ⟨u7, rfl, hown7, hb7⟩
          obtain ⟨a7, k7, rfl⟩ := own_form hown7
          have hll := HLL.out
          rw [← hll, HNL.out] at hown7
          rw [← hll, HNL.out]
          generalize hbr : w5.heap.size = br at *
          have HO7 := Lib.hid hown7
          have HBR7 := Lib.hid (HBR6.out.next hb7)
          have HSQ7 := Lib.hid (HSQ6.out.next hb7)
          have HB7 := Lib.hid (HB6.out.trans (hb7.mono (by omega)))
          have hs7 := hb7.size
          have hbr7 : br < w7.heap.size := by omega
          obtain ⟨B7, hB7⟩ : ∃ B7, B7 = w7.heap.size := ⟨_, rfl⟩
          have HB7S := Lib.hid hB7
          clear hown7 hb7 HBR6 HSQ6 HB6 hll HSQ y0 y5 hB7
          go_wp2
          go_loopg [73] N (fun q i w8 => ∃ (k : Nat) (cv iv ov : Value) (ws : List Value), k + q = N ∧ i = .int .i64 k ∧ Blk w8 br 25 #[cv, iv, ov] ∧ RowsNew B7 w8 cv ws (resAt n F k).cells ∧ IntsNew B7 w8 iv (resAt n F k).inp ∧ IntsNew B7 w8 ov (resAt n F k).out ∧
            SeqsAt w3.heap.size w8 (fun x => x ∈ L.drop k) bs us' F ∧ Touch (fun j => w3.heap.size ≤ j ∧ j ≤ br) w7 w8 ∧ ∀ c ∈ L.take k, okC F c = true)
          case atStart =>
            refine ⟨0, _, _, _, [], by omega, rfl, HBR7.out, ?_, ?_, ?_, HSQ7.out, Touch.refl _ _, by simp⟩
            · exact RowsNew.nil _ _
            · exact World.ownsRow_nil _ _ _ _
            · exact World.ownsRow_nil _ _ _ _
          case round =>
            obtain ⟨k, cv, iv, ov, ws, hk, rfl, hblk, hrow, hinp, hout, hsq, ht, hok⟩ := hrel
            obtain ⟨w8, hw8⟩ : ∃ w8 : World, w8 = wr := ⟨_, rfl⟩
            subst hw8
            have Hk := Lib.hid hk
            have hkn : k ≤ N := by omega
            have HBL := Lib.hid hblk
            have HRW := Lib.hid hrow
            have HIN := Lib.hid hinp
            have HOU := Lib.hid hout
            have HSQ8 := Lib.hid hsq
            have HT8 := Lib.hid ht
            have HOK := Lib.hid hok
            have hs8 := ht.size
            have hlow8 : Below w3.heap.size w4 w8 := HB7.out.trans (ht.low (fun j hj => hj.1) (by omega))
            have hk18 := HK14.out.below hlow8 (by omega)
            have HK18 := Lib.hid hk18
            have HBW8 := Lib.hid (HB4.out.trans (hlow8.mono (by omega)))
            have HO8 := Lib.hid (ht.own HO7.out (fun j hj hh => by have := (HO7.out.lt j hj).1; omega))
            have HM8 := Lib.hid (HM4.out.below hlow8 (by omega))
            clear hk hblk hrow hinp hout hsq ht hok hlow8 hk18
            by_cases hlt : k < N
            · have hlt' : (k : Int) < (N : Int) := by omega
              obtain ⟨c, hc⟩ := get_lt (l := L) HNL.out.symm hlt
              have hI : IntsAt w8 (.slice a7 N k7) L := by
                have h := HO8.out
                rw [← HNL.out] at h ⊢
                exact IntsAt.of_own h HCI.out
              have hsl := hI.1
              rw [HNL.out] at hsl
              obtain ⟨g7, f7, rfl, hg7, hq7⟩ := hsl.get (by omega)
              have m0 := hq7 k c hc
              have hcL : c ∈ L := List.mem_of_getElem? hc
              have hcd : c ∈ L.drop k := by
                rw [List.mem_iff_getElem?]
                exact ⟨0, by rw [List.getElem?_drop]; exact hc⟩
              have hg0 : gOf L bs c = some (bs c) := by unfold gOf; rw [if_pos hcL]
              have HC := Lib.hid hc
              have HCC := Lib.hid (HCM2.out k c hc)
              have HG := Lib.hid hg0
              have HCL := Lib.hid hcL
              have HCD := Lib.hid hcd
              clear hI hsl hq7 hc hcL hcd hg0
              go_wp2_with (at_lookup; refine wpList_look_seq rfl (.tmp 78) (.tmp 79) false rfl (w.heap.size + 2) N _ rfl HM8.out c HCC.out.2 rfl (.pointer (some ⟨bs c, 0, none⟩)) (.inr ⟨_, HG.out, rfl⟩) ?_)
              refine (seqlist_any w3.heap.size (bs c) (us' c) (F c) w8 (HSQ8.out.at_ c HCD.out) (by have := (HGF.out c).els; omega) (HGF.out c).lo (HGF.out c).hi (HGF.out c).i64).mono ?_
              rintro e w9 ⟨u9, rfl, hres, ht9⟩
              have hsqb : ∀ j, SqB (bs c) (us' c) j → w3.heap.size ≤ j ∧ j < br := HLO.out c HCL.out
              have hk19 := ht9.blk HK18.out (fun hs => by have := (hsqb _ hs).1; omega)
              have hbl9 := ht9.blk HBL.out (fun hs => by have := (hsqb _ hs).2; omega)
              have HBW9 : Hid (Below w.heap.size w w9) := HBW8.out.trans (ht9.low (fun j hj => by have := (hsqb j hj).1; omega) (by omega))
              have HK19 := Lib.hid hk19
              have HBL9 := Lib.hid hbl9
              have HT9 : Hid (Touch (fun j => w3.heap.size ≤ j ∧ j ≤ br) w7 w9) := HT8.out.trans ht9 (fun j _ hj => ⟨(hsqb j hj).1, by have := (hsqb j hj).2; omega⟩)
              have HSQ9 : Hid (SeqsAt w3.heap.size w9 (fun x => x ∈ L.drop (k + 1)) bs us' F) := (HSQ8.out.sub (fun x hx => drop_mem hx)).touch ht9 (fun x hx j hj hs => by
                have hap := HSQ8.out.apart c x HCD.out (drop_mem hx) (drop_ne HND.out HC.out hx)
                rcases hj with rfl | hj
                · exact hap.1 hs
                · exact hap.2 j hj hs)
              have HRW9 := Lib.hid (HRW.out.touch ht9 (fun j hj => by have := (hsqb j hj).2; have := HB7S.out; omega))
              have HIN9 := Lib.hid (HIN.out.touch ht9 (fun j hj => by have := (hsqb j hj).2; have := HB7S.out; omega))
              have HOU9 := Lib.hid (HOU.out.touch ht9 (fun j hj => by have := (hsqb j hj).2; have := HB7S.out; omega))
              have hs9 := ht9.size
              have z0 := hk19.free 0
              have z1 := hk19.free 1
              have z2 := hk19.free 2
              have t0 := hk19.cell 0
              have t1 := hk19.cell 1
              have t2 := hk19.cell 2
              have x0 := hbl9.free 0
              have x1 := hbl9.free 1
              have x2 := hbl9.free 2
              have v0 := hbl9.cell 0
              have v1 := hbl9.cell 1
              have v2 := hbl9.cell 2
              simp only [List.getElem?_toArray, List.getElem?_cons_succ, List.getElem?_cons_zero] at t0 t1 t2 v0 v1 v2
              have hk1l9 : w.heap.size + 1 < w9.heap.size := hk19.lt
              have hbr9 : br < w9.heap.size := hbl9.lt
              have HRES := Lib.hid hres
              have HT89 := Lib.hid ht9
              have HSQB := Lib.hid hsqb
              clear hk19 hbl9 hsqb ht9 hres HSQ8 HBL HT8
              cases hso : sqOut (F c) with
              | none =>
                have hres := HRES.out
                rw [hso] at hres
                have hu : u9 = .slice none 0 0 := hres
                subst hu
                have hap2 : AP = (20, st0) := by
                  rw [HAP2.out]
                  unfold finP
                  rw [if_neg]
                  intro hall
                  rw [List.all_eq_true] at hall
                  have := hall c (by rw [← HLL.out]; exact HCL.out)
                  unfold okC at this
                  rw [hso] at this
                  cases this
                have HAP3 := Lib.hid hap2
                clear hres hap2
                go_wp2
                have hk3 := ((HK19.out.set 0 (.slice none 0 0)).set 1 (.slice none 0 0)).set 2 (.slice none 0 0)
                have hb3 := ((HBW9.out.setCell (p := ⟨w.heap.size + 1, 0, none⟩) (by simp) (.slice none 0 0)).setCell (p := ⟨w.heap.size + 1, 1, none⟩) (by simp) (.slice none 0 0)).setCell (p := ⟨w.heap.size + 1, 2, none⟩) (by simp) (.slice none 0 0)
                generalize World.setCell _ _ _ = wf at *
                have hap2 := HAP3.out
                subst hap2
                exact bodyPost_ret (results_state rfl _ _ _ _ _ _ rfl hk3) rfl ⟨_, rfl, st0_new _ _, hb3⟩
              | some l =>
                have hres := HRES.out
                rw [hso] at hres
                have hown9 : IntsNew w8.heap.size w9 u9 l := hres
                have HOK9 : Hid (∀ c ∈ L.take (k + 1), okC F c = true) := by
                  intro x hx
                  rcases (take_mem HC.out x).1 hx with rfl | hx
                  · unfold okC
                    rw [hso]
                    rfl
                  · exact HOK.out x hx
                have HLC : Hid (outC F c = l) := by
                  show outC F c = l
                  unfold outC
                  rw [hso]
                  rfl
                have hll := sqOut_len hso (HGF.out c).hi
                obtain ⟨a9, k9, rfl⟩ := own_form hown9
                have HU9 := Lib.hid hown9
                have hcg := comps_get (by rw [← HLL.out]; exact HC.out)
                have REL : Hid (∀ (w' : World), Touch (fun j => j = br ∨ B7 ≤ j) w9 w' → SeqsAt w3.heap.size w' (fun x => x ∈ L.drop (k + 1)) bs us' F ∧ Touch (fun j => w3.heap.size ≤ j ∧ j ≤ br) w7 w') := by
                  intro w' hw'
                  refine ⟨HSQ9.out.touch hw' (fun x hx j hj hs => ?_), HT9.out.trans hw' (fun j hj hs => ?_)⟩
                  · have := (HLO.out x (List.mem_of_mem_drop hx) j hj).2
                    have := HB7S.out
                    have hs' : j = br ∨ B7 ≤ j := hs
                    omega
                  · have := HB7S.out
                    omega
                clear hres hown9 hso HRES HT9 HSQ9
                rcases hcg with ⟨hkn2, rfl⟩ | ⟨hkn2, rfl⟩ | ⟨hkn2, rfl⟩
                · have hk0 : ((k : Int) == -1) = false := by simp
                  have hk1 : ((k : Int) == -2) = false := by simp
                  obtain ⟨acv, ccv, rfl⟩ := own_form HRW9.out.1
                  have hcl : (resAt n F k).cells.length ≤ 40 := by
                    unfold resAt
                    show (List.map (outC F) ((compsL n).take k)).length ≤ 40
                    rw [List.length_map, List.length_take, compsL_len]
                    omega
                  have HRA := Lib.hid (resAt_lt F hkn2)
                  generalize hrk : resAt n F k = R at *
                  go_wp2_with (at_builtin; refine wpList_append_own _ rfl (.tmp 89) (.tmp 91) 22 rfl B7 23 jr (.slice none 0 0) 1 24 Try.underlying22 hjr hy0 hy1 hy2 rfl (by decide) _ _ _ rfl (HRW9.out.1.alloc _) ⟨w9.heap.size, 0, none⟩ 1 1 [.slice a9 l.length k9] rfl rfl ?c1 ?c2 ?c3 ?c4 ?c5 ?_)
                  case c1 => exact cell_one_new _ _ _
                  case c2 => intro u hu; simp only [List.mem_cons, List.not_mem_nil, or_false] at hu; rcases hu with rfl; rfl
                  case c3 => unfold maxLen; omega
                  case c4 => omega
                  case c5 => have := HB7S.out; simp; omega
                  intro v10 w10 hown10 hgrow10 _
                  obtain ⟨a10, k10, rfl⟩ := own_form hown10
                  have hrow10 := (HRW9.out.next (below_alloc w9 (.cells #[.slice a9 l.length k9] 23))).snoc (own_mono (own_below HU9.out (below_alloc _ _)) (by have := HB7S.out; omega)) hown10 hgrow10
                  have hbl10 := (HBL9.out.al (.cells #[.slice a9 l.length k9] 23)).grown hgrow10 (Blk.own_ne (HBL9.out.al (.cells #[.slice a9 l.length k9] 23)) (HRW9.out.1.alloc _) (by decide))
                  have hin10 := (HIN9.out.next (below_alloc w9 (.cells #[.slice a9 l.length k9] 23))).kept hgrow10 (own_own_ne (HIN9.out.next (below_alloc w9 (.cells #[.slice a9 l.length k9] 23))) (HRW9.out.1.alloc _) (by decide))
                  have hou10 := (HOU9.out.next (below_alloc w9 (.cells #[.slice a9 l.length k9] 23))).kept hgrow10 (own_own_ne (HOU9.out.next (below_alloc w9 (.cells #[.slice a9 l.length k9] 23))) (HRW9.out.1.alloc _) (by decide))
                  have ht10 : Touch (fun j => j = br ∨ B7 ≤ j) w9 w10 := Touch.trans (Touch.of_below (below_alloc w9 (.cells #[.slice a9 l.length k9] 23))) (Touch.of_grown hgrow10) (fun j _ hj => .inr ((HRW9.out.1.lt j hj.symm).1))
                  have x0 := hbl10.free 0
                  have v0 := hbl10.cell 0
                  simp only [List.getElem?_toArray, List.getElem?_cons_zero] at v0
                  have hbr10 : br < w10.heap.size := hbl10.lt
                  have HBL10 := Lib.hid hbl10
                  have HRW10 := Lib.hid hrow10
                  have HIN10 := Lib.hid hin10
                  have HOU10 := Lib.hid hou10
                  have HT10 := Lib.hid ht10
                  have HRK := Lib.hid hrk
                  clear hbl10 hrow10 hin10 hou10 ht10 hown10 hgrow10 hrk
                  go_wp2
                  have hk := Hk.out
                  have hB7 := HB7S.out
                  have hrk := HRK.out
                  obtain ⟨hsqx, htx⟩ := REL.out _ (Touch.trans (S := fun j => j = br ∨ B7 ≤ j) HT10.out (Touch.of_set w10 br 0 (.slice a10 (R.cells.length + 1) k10)) (fun j _ h => .inl h))
                  go_roundg (N - (k + 1))
                  case measure => omega
                  case rel =>
                    have e : resAt n F (k + 1) = ⟨R.cells ++ [l], R.inp, R.out⟩ := by rw [HRA.out, HLC.out]
                    refine ⟨k + 1, _, iv, ov, ws ++ [.slice a9 l.length k9], by omega, by go_num, HBL10.out.set 0 _, ?_, ?_, ?_, hsqx, htx, HOK9.out⟩
                    · rw [e]
                      exact HRW10.out.far (by omega) _ _
                    · rw [e]
                      exact IntsNew.far HIN10.out (by omega) _ _
                    · rw [e]
                      exact IntsNew.far HOU10.out (by omega) _ _
                · go_wp2_with fail
                  refine (reverse_any w8.heap.size l _ w9 HU9.out (by omega)).mono ?_
                  rintro e w10 ⟨rfl, hown10, hb10⟩
                  have hbl10 := HBL9.out.below hb10 (by omega)
                  have x1 := hbl10.free 1
                  have v1 := hbl10.cell 1
                  simp only [List.getElem?_toArray, List.getElem?_cons_succ, List.getElem?_cons_zero] at v1
                  have hbr10 : br < w10.heap.size := hbl10.lt
                  have HBL10 := Lib.hid hbl10
                  have HOWN10 := Lib.hid hown10
                  have HB10 := Lib.hid hb10
                  clear hown10 hb10 hbl10
                  go_wp2
                  have hk := Hk.out
                  have hB7 := HB7S.out
                  have htX : Touch (fun j => j = br ∨ B7 ≤ j) w9 (w10.setCell ⟨br, 1, none⟩ (.slice a9 l.length k9)) :=
                    Touch.trans (b := w10) ⟨HB10.out.os, HB10.out.tape, HB10.out.output, HB10.out.size, fun j _ hn => HB10.out.block j (by have hn' : ¬ (j = br ∨ B7 ≤ j) := hn; omega)⟩ (Touch.of_set w10 br 1 (.slice a9 l.length k9)) (fun j _ hj => .inl hj)
                  obtain ⟨hsqx, htx⟩ := REL.out _ htX
                  go_roundg (N - (k + 1))
                  case measure => omega
                  case rel =>
                    have ht810 : Touch (SqB (bs (-1)) (us' (-1))) w8 w10 := HT89.out.trans (T := fun j => w8.heap.size ≤ j) ⟨HB10.out.os, HB10.out.tape, HB10.out.output, HB10.out.size, fun j _ hn => HB10.out.block j (by have hn' : ¬ (w8.heap.size ≤ j) := hn; omega)⟩ (fun j hj hj2 => absurd hj2 (by omega))
                    have hsb : ∀ j, SqB (bs (-1)) (us' (-1)) j → j < B7 := fun j hj => by have := (HSQB.out j hj).2; omega
                    have e : resAt n F (k + 1) = ⟨(resAt n F k).cells, l.reverse, (resAt n F k).out⟩ := by rw [hkn2, resAt_n, HLC.out]
                    refine ⟨k + 1, cv, _, ov, ws, by omega, by go_num, HBL10.out.set 1 _, ?_, ?_, ?_, hsqx, htx, HOK9.out⟩
                    · rw [e]
                      exact (HRW.out.touch ht810 hsb).far (by omega) _ _
                    · rw [e]
                      refine IntsNew.far (own_mono ?_ (show B7 ≤ w8.heap.size by omega)) (by omega) _ _
                      have h := HOWN10.out
                      show w10.ownsRow _ _ _ _ l.reverse.length (intsV l.reverse)
                      rw [List.length_reverse]
                      exact h
                    · rw [e]
                      exact (HOU.out.touch ht810 hsb).far (by omega) _ _
                · have hbr9' : ¬ br = w.heap.size + 1 := by omega
                  go_wp2
                  have hk := Hk.out
                  have hB7 := HB7S.out
                  obtain ⟨hsqx, htx⟩ := REL.out _ (Touch.trans (S := fun j => j = br ∨ B7 ≤ j) (Touch.refl _ w9) (Touch.of_set w9 br 2 (.slice a9 l.length k9)) (fun j _ h => .inl h))
                  go_roundg (N - (k + 1))
                  case measure => omega
                  case rel =>
                    have e : resAt n F (k + 1) = ⟨(resAt n F k).cells, (resAt n F k).inp, l⟩ := by rw [hkn2, resAt_n1, HLC.out]
                    refine ⟨k + 1, cv, iv, _, ws, by omega, by go_num, HBL9.out.set 2 _, ?_, ?_, ?_, hsqx, htx, HOK9.out⟩
                    · rw [e]
                      exact HRW9.out.far (by omega) _ _
                    · rw [e]
                      exact HIN9.out.far (by omega) _ _
                    · rw [e]
                      exact IntsNew.far (own_mono HU9.out (show B7 ≤ w8.heap.size by omega)) (by omega) _ _
            · have hge : ¬ (k : Int) < (N : Int) := by omega
              have hkN : k = N := by omega
              have hok := HOK.out
              rw [List.take_of_length_le (by rw [HNL.out]; omega)] at hok
              have hap2 : AP = (0, resAt n F k) := by
                rw [HAP2.out, hkN, HNN.out, resAt_end]
                unfold finP
                rw [if_pos]
                rw [List.all_eq_true]
                intro x hx
                exact hok x (by rw [HLL.out]; exact hx)
              have HAP3 := Lib.hid hap2
              have hbl8 := HBL.out
              have v0 := hbl8.cell 0
              have v1 := hbl8.cell 1
              have v2 := hbl8.cell 2
              have hk18 := HK18.out
              have z0 := hk18.free 0
              have z1 := hk18.free 1
              have z2 := hk18.free 2
              have t0 := hk18.cell 0
              have t1 := hk18.cell 1
              have t2 := hk18.cell 2
              simp only [List.getElem?_toArray, List.getElem?_cons_succ, List.getElem?_cons_zero] at t0 t1 t2 v0 v1 v2
              have hk1l8 : w.heap.size + 1 < w8.heap.size := hk18.lt
              have hbrl8 : br < w8.heap.size := hbl8.lt
              clear hok hap2 hbl8 hk18
              obtain ⟨acv, ccv, rfl⟩ := own_form HRW.out.1
              obtain ⟨aiv, civ, rfl⟩ := own_form HIN.out
              obtain ⟨aov, cov, rfl⟩ := own_form HOU.out
              generalize (resAt n F k) = R at *
              generalize R.cells.length = l1 at *
              generalize R.inp.length = l2 at *
              generalize R.out.length = l3 at *
              go_wp2
              have hk3 := ((HK18.out.set 0 (.slice acv l1 ccv)).set 1 (.slice aiv l2 civ)).set 2 (.slice aov l3 cov)
              have hb3 := ((HBW8.out.setCell (p := ⟨w.heap.size + 1, 0, none⟩) (by simp) (.slice acv l1 ccv)).setCell (p := ⟨w.heap.size + 1, 1, none⟩) (by simp) (.slice aiv l2 civ)).setCell (p := ⟨w.heap.size + 1, 2, none⟩) (by simp) (.slice aov l3 cov)
              have hB7 := HB7S.out
              have hlt1 : w.heap.size + 1 < B7 := by omega
              have r1 := (((HRW.out.far hlt1 0 (.slice acv l1 ccv)).far hlt1 1 (.slice aiv l2 civ)).far hlt1 2 (.slice aov l3 cov))
              have r2 := IntsNew.far (IntsNew.far (IntsNew.far HIN.out hlt1 0 (.slice acv l1 ccv)) hlt1 1 (.slice aiv l2 civ)) hlt1 2 (.slice aov l3 cov)
              have r3 := IntsNew.far (IntsNew.far (IntsNew.far HOU.out hlt1 0 (.slice acv l1 ccv)) hlt1 1 (.slice aiv l2 civ)) hlt1 2 (.slice aov l3 cov)
              have hap2 := HAP3.out
              subst hap2
              generalize World.setCell _ _ _ = wf at *
              have hnew : StNew B7 wf (.agg #[.slice acv l1 ccv, .slice aiv l2 civ, .slice aov l3 cov]) R := ⟨_, _, _, ws, rfl, r1, r2, r3⟩
              exact bodyPost_ret (results_state rfl _ _ _ _ _ _ rfl hk3) rfl ⟨_, rfl, hnew.mono (by omega), hb3⟩

end Go.Proofs.Ytpbbiidfahaamaa
