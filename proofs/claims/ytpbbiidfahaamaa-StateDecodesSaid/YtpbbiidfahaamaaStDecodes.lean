/- The walk of the law StateDecodes. -/
import Derived.Test.YtpbbiidfahaamaaStT3
import Derived.Test.YtpbbiidfahaamaaStEncodes
import Derived.Laws.IdiomStrings
import Derived.Laws.BytesArg
namespace Go.Proofs.Ytpbbiidfahaamaa
open Go.RowKit

/-! an error that is read is not 0 -/
theorem counted_err {most : Nat} {l : List UInt8} {e : Nat} (h : countedP most l = .error e) : e ≠ 0 := by
  unfold countedP at h
  split at h
  · cases h; decide
  · split at h
    · cases h; decide
    · split at h
      · cases h; decide
      · cases h
theorem cell_err {d : Decl} {l : List UInt8} {e : Nat} (h : cellP d l = .error e) : e ≠ 0 := by
  unfold cellP at h
  split at h
  · exact counted_err h
  · split at h
    · cases h; decide
    · cases h
theorem cells_err : ∀ {D : List Decl} {l : List UInt8} {e : Nat}, cellsP D l = .error e → e ≠ 0 := by
  intro D
  induction D with
  | nil => intro l e h; cases h
  | cons d D ih =>
    intro l e h
    simp only [cellsP] at h
    cases hc : cellP d l with
    | error k => rw [hc] at h; cases h; exact cell_err hc
    | ok p =>
      obtain ⟨x, r⟩ := p
      rw [hc] at h
      simp only at h
      cases hr : cellsP D r with
      | error k => rw [hr] at h; cases h; exact ih hr
      | ok p2 => rw [hr] at h; cases h
theorem dec_err {D : List Decl} {l : List UInt8} {e : Nat} (h : decP D l = .error e) : e ≠ 0 := by
  unfold decP at h
  split at h
  · cases hc : cellsP D l with
    | error k => rw [hc] at h; cases h; exact cells_err hc
    | ok p =>
      obtain ⟨L, r⟩ := p
      rw [hc] at h
      simp only at h
      unfold tailP at h
      cases h1 : countedP 4096 r with
      | error k => rw [h1] at h; cases h; exact counted_err h1
      | ok p1 =>
        obtain ⟨i, r1⟩ := p1
        rw [h1] at h
        simp only at h
        cases h2 : countedP 4096 r1 with
        | error k => rw [h2] at h; cases h; exact counted_err h2
        | ok p2 =>
          obtain ⟨o, q⟩ := p2
          rw [h2] at h
          simp only at h
          split at h
          · cases h; decide
          · cases h
  · cases h; decide

theorem dec_split (D : List Decl) (l : List UInt8) : ∃ E T, errOf (decP D l) = E ∧ stOf (decP D l) = T ∧ InSt T ∧ (E ≠ 0 ∨ (E = 0 ∧ fitsB D T = true ∧ encB D T = l)) := by
  cases h : decP D l with
  | error k => exact ⟨k, ⟨[], [], []⟩, rfl, rfl, ⟨by simp, by simp, by simp⟩, .inl (dec_err h)⟩
  | ok s =>
    obtain ⟨h1, h2, h3⟩ := enc_dec h
    exact ⟨0, s, rfl, rfl, h3, .inr ⟨rfl, h1, h2⟩⟩

/-! bytes that came in -/
section
variable {H : Type} {enc : TypeId × Value → H} {w : World} {sp : Nat → Bool} {held : Bool} {base : Nat}
theorem bytes_open {fuel : Nat} {v : Value} {x : DataW H × List MemPlace} (h : DataW.trod enc Try.prog w base sp held fuel 47 [v] = some x) : ∃ l, BytesAt w v l := by
  rcases Go.ChangeShapes.open_ints Try.underlying47 Try.underlying5 cellsU8 h with ⟨hcs, _⟩ | ⟨a, len, cap, zs, hcs, _, hl, hm, hz, _, hcell, hwz⟩
  · simp at hcs
    exact ⟨[], none, 0, hcs, Nat.le_refl _, by unfold maxLen; omega, fun h => absurd h (by decide)⟩
  · simp at hcs
    have hlz : len ≤ zs.length := by rw [hz]; split <;> omega
    have hlen : ((zs.take len).map fun z => UInt8.ofNat z.toNat).length = len := by rw [List.length_map, List.length_take]; omega
    refine ⟨(zs.take len).map fun z => UInt8.ofNat z.toNat, some a, cap, by rw [hlen]; exact hcs, by omega, hm, fun hp => ?_⟩
    obtain ⟨b, off, spot⟩ := a
    have k0 := hcell 0 (by omega)
    have hspot : spot = none := by simpa [Addr.add] using World.cell?_spot k0
    subst hspot
    have hb : b < w.heap.size := by simpa [Addr.add] using World.block_lt_of_cell? w _ k0
    refine ⟨b, off, rfl, hb, fun i y hy => ?_⟩
    rw [List.getElem?_map, List.getElem?_take] at hy
    split at hy
    · have hi := hcell i (by omega)
      rw [Go.WideShapes.add_plain] at hi
      cases hz2 : zs[i]? with
      | none => rw [hz2] at hy; cases hy
      | some z =>
        rw [hz2] at hy
        simp only [Option.map_some, Option.some.injEq] at hy
        rw [List.getD_eq_getElem?_getD, hz2] at hi
        obtain ⟨n, hn, hle⟩ := u8_of (hwz z (List.mem_of_getElem? hz2))
        rw [hi, ← hy]
        subst hn
        rw [Int.toNat_natCast, u8_ofNat n (by omega)]
        rfl
    · cases hy
theorem bytes_top {r : Reach} {b0 : Nat} {v : Value} {d : DataW H} {p : List MemPlace} (hv : Value.okWide Try.prog w r b0 47 v) (h : DataW.Trod enc Try.prog w base sp held 47 v d p) : ∃ l, BytesAt w v l := by
  obtain ⟨fuel, hf⟩ := one_cell Try.underlying47 hv h
  exact bytes_open hf
end

theorem BytesAt.convert {w : World} {v : Value} {l : List UInt8} (h : BytesAt w v l) :
    (Go.convert 47 9 v).run Try.prog w = .ok (.string ⟨l.toArray⟩) w := by
  obtain ⟨a, c, rfl, _, _, h3⟩ := h
  rcases Nat.eq_zero_or_pos l.length with h0 | h0
  · have : l = [] := List.eq_nil_of_length_eq_zero h0
    subst this
    rw [List.length_nil, run_convert_bytes_string w 47 9 5 a 0 c Try.underlying47 Try.underlying5 Try.underlying9]
    cases a <;> simp [Conv.bytesToString, loadCells]
    all_goals rfl
  · obtain ⟨g, o, rfl, _, hq⟩ := h3 h0
    refine run_convert_bytes_back w 47 9 5 _ c l Try.underlying47 Try.underlying5 Try.underlying9 fun j hj => ?_
    rw [Go.WideShapes.add_plain]
    exact hq j _ (List.getElem?_eq_getElem hj)

set_option maxRecDepth 100000 in
set_option maxHeartbeats 8000000 in
theorem decodeslaw_any (D : List Decl) (l : List UInt8) (u v : Value) (w : World) (h0 : DeclsAt w u D) (h1 : BytesAt w v l) :
    Calls Try.prog 9 #[u, v] w fun e w' => e = .returned (.bool true) ∧ Below w.heap.size w w' := by
  obtain ⟨⟨ad, cd, rfl, -, -, -⟩, -⟩ := id h0
  obtain ⟨av, cv, rfl, -, -, -⟩ := id h1
  obtain ⟨E, T, hE, hT, hin, hor⟩ := dec_split D l
  have HDE : Hid (∀ w', Below w.heap.size w w' → Calls Try.prog 28 #[.slice ad D.length cd, .slice av l.length cv] w' fun e w'' => ∃ r, e = .returned (.tuple #[r, .int .i64 E]) ∧ StNew w'.heap.size w'' r T ∧ Below w'.heap.size w' w'') := fun w' hb => by
    have := decode_any D l _ _ w' (h0.below hb (Nat.le_refl _)) (h1.below hb (Nat.le_refl _))
    rwa [hE, hT] at this
  have HRD : Hid (∀ w', Below w.heap.size w w' → Calls Try.prog 30 #[.slice ad D.length cd, .slice av l.length cv] w' fun e w'' => ∃ r, e = .returned (.tuple #[r, .int .i64 E]) ∧ StNew w'.heap.size w'' r T ∧ Below w'.heap.size w' w'') := fun w' hb => by
    have := rdecode_any D l _ _ w' (h0.below hb (Nat.le_refl _)) (h1.below hb (Nat.le_refl _))
    rwa [hE, hT] at this
  have HEN : Hid (fitsB D T = true → encB D T = l → ∀ x w', StAt w' x T → Below w.heap.size w w' → Calls Try.prog 25 #[.slice ad D.length cd, x] w' fun e w'' => ∃ b, e = .returned (.tuple #[b, .int .i64 0]) ∧ w''.ownsRow w'.heap.size 5 1 b l.length (bytesV l) ∧ Below w'.heap.size w' w'') := fun hf he x w' hx hb => by
    have := encode_any D T _ x w' (h0.below hb (Nat.le_refl _)) hx
    rwa [hf, he] at this
  have HFI : Hid (fitsB D T = true → ∀ x w', StAt w' x T → Below w.heap.size w w' → Calls Try.prog 21 #[.slice ad D.length cd, x] w' fun e w'' => e = .returned (.bool true) ∧ Below w'.heap.size w' w'') := fun hf x w' hx hb => by
    have := fits_any D T _ x w' (h0.below hb (Nat.le_refl _)) hx
    rwa [hf] at this
  have HEQ : Hid (∀ x y w', StAt w' x T → StAt w' y T → Calls Try.prog 20 #[x, y] w' fun e w'' => e = .returned (.bool true) ∧ Below w'.heap.size w' w'') := fun x y w' hx hy => by
    have := requal_any T T _ _ w' hx hy
    rwa [decide_eq_true rfl] at this
  have HCV : Hid (∀ w', Below w.heap.size w w' → (Go.convert 47 9 (.slice av l.length cv)).run Try.prog w' = .ok (.string ⟨l.toArray⟩) w') := fun w' hb => (h1.below hb (Nat.le_refl _)).convert
  have HCO : Hid (∀ (v : Value) (w' : World) (base : Nat), w'.ownsRow base 5 1 v l.length (bytesV l) → (Go.convert 47 9 v).run Try.prog w' = .ok (.string ⟨l.toArray⟩) w') := fun v w' base h => own_convert h
  have HIN := Lib.hid hin
  clear h0 h1 hin hE hT
  generalize fitsB D T = F at *
  generalize hb : encB D T = B at *
  clear hb
  generalize bytesV l = BV at *
  have e1 : ((ByteArray.mk l.toArray).toList == (ByteArray.mk l.toArray).toList) = true := by simp
  generalize ByteArray.mk l.toArray = X at *
  generalize D.length = n at *
  have hcase : ((6 : Int) < (n : Int) ∨ (600 : Int) < (l.length : Int)) ∨ (¬ (6 : Int) < (n : Int) ∧ ¬ (600 : Int) < (l.length : Int)) := by omega
  rcases hcase with hbig | ⟨hs1, hs2⟩
  · go_enter Try.func9, Try.ntmps9
    go_wp2_with fail
    refine (awake_any _).mono ?_
    rintro e w1 ⟨rfl, hb1⟩
    have HF1 := Lib.hid hb1
    clear hb1 HDE HRD HEN HFI HEQ HCV HCO HIN hor e1
    by_cases h6 : (6 : Int) < (n : Int)
    · clear hbig
      go_wp2
      go_ret
      exact ⟨rfl, HF1.out⟩
    · have h60 : (600 : Int) < (l.length : Int) := by omega
      clear hbig
      go_wp2
      go_ret
      exact ⟨rfl, HF1.out⟩
  · go_enter Try.func9, Try.ntmps9
    go_wp2_with fail
    refine (awake_any _).mono ?_
    rintro e w1 ⟨rfl, hb1⟩
    have H1 := Lib.hid hb1
    clear hb1
    go_wp2_with fail
    refine (HDE.out _ H1.out).mono ?_
    rintro e w2 ⟨r, rfl, hst, hb2⟩
    obtain ⟨c, i, o, vs, rfl, hr, hi, ho⟩ := id hst
    obtain ⟨ac, cc, rfl⟩ := own_form hr.1
    obtain ⟨ai, ci, rfl⟩ := own_form hi
    obtain ⟨ao, co, rfl⟩ := own_form ho
    obtain ⟨w3, hw3⟩ : ∃ w3, w3 = w2.alloc (.cells #[.slice ac T.cells.length cc, .slice ai T.inp.length ci, .slice ao T.out.length co] 25) := ⟨_, rfl⟩
    have hb23 : Below w2.heap.size w2 w3 := by rw [hw3]; exact below_alloc _ _
    have HX3 : Hid (Blk w3 w2.heap.size 25 #[.slice ac T.cells.length cc, .slice ai T.inp.length ci, .slice ao T.out.length co]) := by rw [hw3]; exact Blk.new _ _ _
    have H3 := Lib.hid (below_next H1.out (Nat.le_refl _) (below_next hb2 (Nat.le_refl _) hb23))
    have HST3 := Lib.hid ((hst.at_ HIN.out).below hb23 (Nat.le_refl _))
    have HW3 := Lib.hid hw3
    clear hw3 hst hr hi ho hb2 hb23
    generalize T.cells.length = n1 at *
    generalize T.inp.length = n2 at *
    generalize T.out.length = n3 at *
    go_wp2_with fail
    rw [← HW3.out]
    refine (HRD.out _ H3.out).mono ?_
    rintro e w4 ⟨r, rfl, hst, hb4⟩
    obtain ⟨c, i, o, vs, rfl, hr, hi, ho⟩ := id hst
    obtain ⟨bc, dc, rfl⟩ := own_form hr.1
    obtain ⟨bi, di, rfl⟩ := own_form hi
    obtain ⟨bo, eo, rfl⟩ := own_form ho
    obtain ⟨w5, hw5⟩ : ∃ w5, w5 = w4.alloc (.cells #[.slice bc T.cells.length dc, .slice bi T.inp.length di, .slice bo T.out.length eo] 25) := ⟨_, rfl⟩
    have hb45 : Below w4.heap.size w4 w5 := by rw [hw5]; exact below_alloc _ _
    have HX5 : Hid (Blk w5 w4.heap.size 25 #[.slice bc T.cells.length dc, .slice bi T.inp.length di, .slice bo T.out.length eo]) := by rw [hw5]; exact Blk.new _ _ _
    have hb35 := below_next hb4 (Nat.le_refl _) hb45
    have H5 := Lib.hid (below_next H3.out (Nat.le_refl _) hb35)
    have HST5 := Lib.hid (HST3.out.below hb35 (Nat.le_refl _))
    have HTT5 := Lib.hid ((hst.at_ HIN.out).below hb45 (Nat.le_refl _))
    have HX35 := Lib.hid (HX3.out.next hb35)
    have HW5 := Lib.hid hw5
    clear hw5 hst hr hi ho hb4 hb45 hb35
    generalize T.cells.length = m1 at *
    generalize T.inp.length = m2 at *
    generalize T.out.length = m3 at *
    have p0 : w5.cell? ⟨w2.heap.size, 0, none⟩ = some (.slice ac n1 cc) := HX35.out.cell 0
    have p1 : w5.cell? ⟨w2.heap.size, 1, none⟩ = some (.slice ai n2 ci) := HX35.out.cell 1
    have p2 : w5.cell? ⟨w2.heap.size, 2, none⟩ = some (.slice ao n3 co) := HX35.out.cell 2
    have q0 : w5.cell? ⟨w4.heap.size, 0, none⟩ = some (.slice bc m1 dc) := HX5.out.cell 0
    have q1 : w5.cell? ⟨w4.heap.size, 1, none⟩ = some (.slice bi m2 di) := HX5.out.cell 1
    have q2 : w5.cell? ⟨w4.heap.size, 2, none⟩ = some (.slice bo m3 eo) := HX5.out.cell 2
    go_upto_region 7 with (fail)
    rw [← HW5.out]
    go_wp2_with fail
    refine (HEQ.out _ _ _ HST5.out HTT5.out).mono ?_
    rintro e w6 ⟨rfl, hb6⟩
    have H6 := Lib.hid (below_next H5.out (Nat.le_refl _) hb6)
    have HST6 := Lib.hid (HST5.out.below hb6 (Nat.le_refl _))
    have HX6 := Lib.hid (HX35.out.next hb6)
    clear p0 p1 p2 q0 q1 q2 hb6 HX5 HTT5 HST5 HX35
    rcases hor with hE | ⟨hE, hf, he⟩
    · have hE' : ¬ (E : Int) = 0 := by omega
      clear hE
      go_wp2
      go_ret
      exact ⟨rfl, H6.out⟩
    · have hE' : (E : Int) = 0 := by omega
      have HENC := Lib.hid (HEN.out hf he)
      have HFIT := Lib.hid (HFI.out hf)
      clear hE hf he HEN HFI
      have p0 : w6.cell? ⟨w2.heap.size, 0, none⟩ = some (.slice ac n1 cc) := HX6.out.cell 0
      have p1 : w6.cell? ⟨w2.heap.size, 1, none⟩ = some (.slice ai n2 ci) := HX6.out.cell 1
      have p2 : w6.cell? ⟨w2.heap.size, 2, none⟩ = some (.slice ao n3 co) := HX6.out.cell 2
      go_wp2_with fail
      refine (HENC.out _ _ HST6.out H6.out).mono ?_
      rintro e w7 ⟨b, rfl, hown, hb7⟩
      have hco := HCO.out _ _ _ hown
      obtain ⟨ab, cb, rfl⟩ := own_form hown
      have H7 := Lib.hid (below_next H6.out (Nat.le_refl _) hb7)
      have HST7 := Lib.hid (HST6.out.below hb7 (Nat.le_refl _))
      have HX7 := Lib.hid (HX6.out.next hb7)
      have hcv := HCV.out _ H7.out
      clear p0 p1 p2 hb7 hown
      have p0 : w7.cell? ⟨w2.heap.size, 0, none⟩ = some (.slice ac n1 cc) := HX7.out.cell 0
      have p1 : w7.cell? ⟨w2.heap.size, 1, none⟩ = some (.slice ai n2 ci) := HX7.out.cell 1
      have p2 : w7.cell? ⟨w2.heap.size, 2, none⟩ = some (.slice ao n3 co) := HX7.out.cell 2
      go_wp2_with fail
      refine (HFIT.out _ _ HST7.out H7.out).mono ?_
      rintro e w8 ⟨rfl, hb8⟩
      have H8 := Lib.hid (below_next H7.out (Nat.le_refl _) hb8)
      clear p0 p1 p2 hb8 hco hcv
      go_wp2
      go_ret
      exact ⟨rfl, H8.out⟩

open Go.ChangeShapes Go.WideShapes in
theorem decodeslaw_top {H : Type} {enc : TypeId × Value → H} {r : Reach} {b0 : Nat} {w : World} {base : Nat} {sp : Nat → Bool} {held : Bool} (u : Value) (du : DataW H) (pu : List MemPlace) (hu : Value.okWide Try.prog w r b0 36 u) (tu : DataW.Trod enc Try.prog w base sp held 36 u du pu)
    (va : Value) (da : DataW H) (pa : List MemPlace) (ha : Value.okWide Try.prog w r b0 47 va) (ta : DataW.Trod enc Try.prog w base sp held 47 va da pa) (w' : World) (hw : w' = w := by rfl) :
    Calls Try.prog 9 #[u, va] w' fun e w'' => e = .returned (.bool true) ∧ Below w'.heap.size w' w'' := by
  subst hw
  obtain ⟨D, h0⟩ := decls_top hu tu
  obtain ⟨l, h1⟩ := bytes_top ha ta
  exact decodeslaw_any D l u va _ h0 h1
end Go.Proofs.Ytpbbiidfahaamaa
