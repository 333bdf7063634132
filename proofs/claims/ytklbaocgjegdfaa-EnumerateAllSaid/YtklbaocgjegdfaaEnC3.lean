/- The walks of the reference's Valid and Count, and of small. -/
import Derived.Test.YtklbaocgjegdfaaEnC2
import Derived.Deep.Cut
namespace Go.Proofs.Ytklbaocgjegdfaa
open Go.RowKit

/-- whether a box is valid -/
def ValidP (D : List Decl) (v le inp : Int) : Prop := validB D = true ∧ Small1000 v ∧ Small1000 le ∧ Small1000 inp
def ValidPost (D : List Decl) (v le inp : Int) (w : World) (e : Ending) (w' : World) : Prop := ∃ b, e = .returned (.bool b) ∧ (b = true ↔ ValidP D v le inp) ∧ Below w.heap.size w w'
theorem validP_all {D : List Decl} {v le inp : Int} (h : ValidP D v le inp) : D.length ≤ 32 ∧ ∀ d ∈ D, validD d = true := by
  have := h.1
  unfold validB at this
  rw [Bool.and_eq_true, decide_eq_true_eq, List.all_eq_true] at this
  exact this

set_option maxRecDepth 100000 in
set_option maxHeartbeats 16000000 in
theorem rvalidr_any (D : List Decl) (u : Value) (v le inp : Int) (w : World) (h1 : DeclsAt w u D) :
    Calls Try.prog 27 #[u, .int .i64 v, .int .i64 le, .int .i64 inp] w (ValidPost D v le inp w) := by
  obtain ⟨⟨ad, cd, rfl, hc1, hc2, -⟩, hdn⟩ := id h1
  have HD := Lib.hid h1
  have HDN := Lib.hid hdn
  obtain ⟨n, hn⟩ : ∃ n, D.length = n := ⟨_, rfl⟩
  rw [hn] at hc1 ⊢
  have h63 : (n : Int) ≤ 9223372036854775807 := by unfold maxLen at hc2; omega
  have HN := Lib.hid hn.symm
  have HBAD : Hid (∀ (k : Nat) d, D[k]? = some d → validD d = false → ¬ ValidP D v le inp) := fun k d hd hv hp => by
    have := (validP_all hp).2 d (List.mem_of_getElem? hd)
    rw [hv] at this
    cases this
  have HLONG : Hid (32 < n → ¬ ValidP D v le inp) := fun h hp => by
    have := (validP_all hp).1
    omega
  have HOK : Hid (n ≤ 32 → (∀ d ∈ D, validD d = true) → (ValidP D v le inp ↔ Small1000 v ∧ Small1000 le ∧ Small1000 inp)) := fun h hd => by
    unfold ValidP validB
    rw [Bool.and_eq_true, decide_eq_true_eq, List.all_eq_true, hn]
    exact ⟨fun h => h.2, fun h2 => ⟨⟨h, hd⟩, h2⟩⟩
  clear hn h1 hdn hc1 hc2
  by_cases h32 : 32 < n
  · have h32' : (32 : Int) < (n : Int) := by omega
    go_enter Try.func27, Try.ntmps27
    go_wp2
    go_ret
    exact ⟨false, rfl, ⟨(fun h => by cases h), fun h => absurd h (HLONG.out h32)⟩, Below.refl _ _⟩
  have h32' : ¬ (32 : Int) < (n : Int) := by omega
  go_enter Try.func27, Try.ntmps27
  go_wp2
  go_loopg [9] n (fun q i wr => ∃ k : Nat, k + q = n ∧ i = .int .i64 k ∧ (∀ d ∈ D.take k, validD d = true) ∧ Below w.heap.size w wr)
  case atStart => exact ⟨0, by omega, rfl, by simp, Below.refl _ _⟩
  case round =>
    obtain ⟨k, hk, rfl, hv, hb⟩ := hrel
    have Hk := Lib.hid hk
    have hkn : k ≤ n := by omega
    have HV := Lib.hid hv
    have HB := Lib.hid hb
    have hszb := hb.size
    clear hk hv hb
    by_cases hlt : k < n
    · have hlt' : (k : Int) < (n : Int) := by omega
      obtain ⟨g, off, rfl, hg, hq⟩ := HD.out.1.get (by have := HN.out; omega)
      obtain ⟨d, hd⟩ := get_lt HN.out hlt
      obtain ⟨q0, q1, q2⟩ := hq k d hd
      have m0 := cell_below HB.out hg q0
      have m1 := cell_below HB.out hg q1
      have m2 := cell_below HB.out hg q2
      have HKD := Lib.hid hd
      have u1 : IntKind.i64.wrap ((k : Int) + 1) = (k : Int) + 1 := IntWalk.i64_in _ (by omega)
      have HALL : Hid (∀ o, Below w.heap.size w (wr.alloc o)) := fun o => below_next HB.out (Nat.le_refl _) (below_alloc _ _)
      obtain ⟨nm, kd, ln⟩ := d
      simp only at m0 m1 m2
      clear hq hd q0 q1 q2
      rcases (by omega : kd = 0 ∨ 3 < kd ∨ kd = 2 ∨ kd = 1 ∨ kd = 3) with hkd | hkd | hkd | hkd | hkd
      · have f1 : (kd : Int) < 1 := by omega
        have HF : Hid (validD ⟨nm, kd, ln⟩ = false) := by unfold Hid validD; simp; omega
        go_wp2
        go_ret
        exact ⟨false, rfl, ⟨(fun h => by cases h), fun h => absurd h (HBAD.out k _ HKD.out HF.out)⟩, HALL.out _⟩
      · have f1 : ¬ (kd : Int) < 1 := by omega
        have f2 : 3 < (kd : Int) := by omega
        have HF : Hid (validD ⟨nm, kd, ln⟩ = false) := by unfold Hid validD; simp; omega
        go_wp2
        go_ret
        exact ⟨false, rfl, ⟨(fun h => by cases h), fun h => absurd h (HBAD.out k _ HKD.out HF.out)⟩, HALL.out _⟩
      · have f1 : ¬ (kd : Int) < 1 := by omega
        have f2 : ¬ 3 < (kd : Int) := by omega
        have e2 : ((kd : Int) == 2) = true := by simp; omega
        have n2 : ((kd : Int) != 2) = false := by simp; omega
        by_cases l1 : ln < 1
        · have HF : Hid (validD ⟨nm, kd, ln⟩ = false) := by unfold Hid validD; simp; omega
          go_wp2
          go_ret
          exact ⟨false, rfl, ⟨(fun h => by cases h), fun h => absurd h (HBAD.out k _ HKD.out HF.out)⟩, HALL.out _⟩
        · by_cases l2 : 16 < ln
          · have HF : Hid (validD ⟨nm, kd, ln⟩ = false) := by unfold Hid validD; simp; omega
            go_wp2
            go_ret
            exact ⟨false, rfl, ⟨(fun h => by cases h), fun h => absurd h (HBAD.out k _ HKD.out HF.out)⟩, HALL.out _⟩
          · have HF : Hid (validD ⟨nm, kd, ln⟩ = true) := by unfold Hid validD; simp; omega
            go_wp2
            have hk := Hk.out
            go_roundg (n - (k + 1))
            case measure => omega
            case rel =>
              refine ⟨k + 1, by omega, by go_num, fun z hz => ?_, HALL.out _⟩
              rw [List.take_add_one, HKD.out] at hz
              rcases List.mem_append.1 hz with hz | hz
              · exact HV.out z hz
              · simp at hz; subst hz; exact HF.out
      · have f1 : ¬ (kd : Int) < 1 := by omega
        have f2 : ¬ 3 < (kd : Int) := by omega
        have e2 : ((kd : Int) == 2) = false := by simp; omega
        have n2 : ((kd : Int) != 2) = true := by simp; omega
        by_cases l1 : ln = 0
        · have l2 : (ln != 0) = false := by simp [l1]
          have HF : Hid (validD ⟨nm, kd, ln⟩ = true) := by unfold Hid validD; simp; omega
          go_wp2
          have hk := Hk.out
          go_roundg (n - (k + 1))
          case measure => omega
          case rel =>
            refine ⟨k + 1, by omega, by go_num, fun z hz => ?_, HALL.out _⟩
            rw [List.take_add_one, HKD.out] at hz
            rcases List.mem_append.1 hz with hz | hz
            · exact HV.out z hz
            · simp at hz; subst hz; exact HF.out
        · have l2 : (ln != 0) = true := by simp [l1]
          have HF : Hid (validD ⟨nm, kd, ln⟩ = false) := by unfold Hid validD; simp; omega
          go_wp2
          go_ret
          exact ⟨false, rfl, ⟨(fun h => by cases h), fun h => absurd h (HBAD.out k _ HKD.out HF.out)⟩, HALL.out _⟩
      · have f1 : ¬ (kd : Int) < 1 := by omega
        have f2 : ¬ 3 < (kd : Int) := by omega
        have e2 : ((kd : Int) == 2) = false := by simp; omega
        have n2 : ((kd : Int) != 2) = true := by simp; omega
        by_cases l1 : ln = 0
        · have l2 : (ln != 0) = false := by simp [l1]
          have HF : Hid (validD ⟨nm, kd, ln⟩ = true) := by unfold Hid validD; simp; omega
          go_wp2
          have hk := Hk.out
          go_roundg (n - (k + 1))
          case measure => omega
          case rel =>
            refine ⟨k + 1, by omega, by go_num, fun z hz => ?_, HALL.out _⟩
            rw [List.take_add_one, HKD.out] at hz
            rcases List.mem_append.1 hz with hz | hz
            · exact HV.out z hz
            · simp at hz; subst hz; exact HF.out
        · have l2 : (ln != 0) = true := by simp [l1]
          have HF : Hid (validD ⟨nm, kd, ln⟩ = false) := by unfold Hid validD; simp; omega
          go_wp2
          go_ret
          exact ⟨false, rfl, ⟨(fun h => by cases h), fun h => absurd h (HBAD.out k _ HKD.out HF.out)⟩, HALL.out _⟩
    · have hge : ¬ (k : Int) < (n : Int) := by omega
      have HVA : Hid (∀ d ∈ D, validD d = true) := fun d hd => HV.out d (by rw [List.take_of_length_le (by rw [← HN.out]; omega)]; exact hd)
      have HIFF : Hid (ValidP D v le inp ↔ Small1000 v ∧ Small1000 le ∧ Small1000 inp) := HOK.out (by omega) HVA.out
      by_cases a0 : 0 ≤ v
      · by_cases b0 : v ≤ 1000
        · skip
          by_cases a1 : 0 ≤ le
          · by_cases b1 : le ≤ 1000
            · skip
              by_cases a2 : 0 ≤ inp
              · by_cases b2 : inp ≤ 1000
                · have HF : Hid (Small1000 v ∧ Small1000 le ∧ Small1000 inp) := ⟨⟨a0, b0⟩, ⟨a1, b1⟩, ⟨a2, b2⟩⟩
                  go_wp2
                  go_ret
                  exact ⟨true, rfl, ⟨fun _ => HIFF.out.2 HF.out, fun _ => rfl⟩, HB.out⟩
                · have HF : Hid (¬ (Small1000 v ∧ Small1000 le ∧ Small1000 inp)) := fun h => by obtain ⟨⟨_, _⟩, ⟨_, _⟩, _, _⟩ := h; omega
                  go_wp2
                  go_ret
                  exact ⟨false, rfl, ⟨(fun h => by cases h), fun h => absurd (HIFF.out.1 h) HF.out⟩, HB.out⟩
              · have HF : Hid (¬ (Small1000 v ∧ Small1000 le ∧ Small1000 inp)) := fun h => by obtain ⟨⟨_, _⟩, ⟨_, _⟩, _, _⟩ := h; omega
                go_wp2
                go_ret
                exact ⟨false, rfl, ⟨(fun h => by cases h), fun h => absurd (HIFF.out.1 h) HF.out⟩, HB.out⟩
            · have HF : Hid (¬ (Small1000 v ∧ Small1000 le ∧ Small1000 inp)) := fun h => by obtain ⟨⟨_, _⟩, ⟨_, _⟩, _, _⟩ := h; omega
              go_wp2
              go_ret
              exact ⟨false, rfl, ⟨(fun h => by cases h), fun h => absurd (HIFF.out.1 h) HF.out⟩, HB.out⟩
          · have HF : Hid (¬ (Small1000 v ∧ Small1000 le ∧ Small1000 inp)) := fun h => by obtain ⟨⟨_, _⟩, ⟨_, _⟩, _, _⟩ := h; omega
            go_wp2
            go_ret
            exact ⟨false, rfl, ⟨(fun h => by cases h), fun h => absurd (HIFF.out.1 h) HF.out⟩, HB.out⟩
        · have HF : Hid (¬ (Small1000 v ∧ Small1000 le ∧ Small1000 inp)) := fun h => by obtain ⟨⟨_, _⟩, ⟨_, _⟩, _, _⟩ := h; omega
          go_wp2
          go_ret
          exact ⟨false, rfl, ⟨(fun h => by cases h), fun h => absurd (HIFF.out.1 h) HF.out⟩, HB.out⟩
      · have HF : Hid (¬ (Small1000 v ∧ Small1000 le ∧ Small1000 inp)) := fun h => by obtain ⟨⟨_, _⟩, ⟨_, _⟩, _, _⟩ := h; omega
        go_wp2
        go_ret
        exact ⟨false, rfl, ⟨(fun h => by cases h), fun h => absurd (HIFF.out.1 h) HF.out⟩, HB.out⟩

theorem cntP_snoc (v : Nat) (B : List Bd) (b : Bd) : cntP v (B ++ [b]) = cntP v B * cntB v b := by simp [cntP, List.foldl_append]
theorem validD_cases {d : Decl} (h : validD d = true) : (d.kind = 1 ∧ d.len = 0) ∨ (d.kind = 2 ∧ 1 ≤ d.len ∧ d.len ≤ 16) ∨ (d.kind = 3 ∧ d.len = 0) := by
  unfold validD at h
  simp at h
  omega

set_option maxRecDepth 100000 in
set_option maxHeartbeats 8000000 in
theorem rcount_any (D : List Decl) (u : Value) (v le inp : Nat) (w : World) (h1 : DeclsAt w u D) (hval : validB D = true) (hv : v ≤ 1000) (hl : le ≤ 1000) (hi : inp ≤ 1000) :
    Calls Try.prog 28 #[u, .int .i64 v, .int .i64 le, .int .i64 inp] w fun e w' => e = .returned (.int .i64 (sat (cntP v (lensP D le inp)) : Nat)) ∧ w = w' := by
  obtain ⟨⟨ad, cd, rfl, -, -, -⟩, -⟩ := id h1
  have HD := Lib.hid h1
  have hvb : D.length ≤ 32 ∧ ∀ d ∈ D, validD d = true := by
    unfold validB at hval
    rw [Bool.and_eq_true, decide_eq_true_eq, List.all_eq_true] at hval
    exact hval
  obtain ⟨hn32, hvd⟩ := hvb
  have HVD := Lib.hid hvd
  obtain ⟨c0, hc0⟩ : ∃ c, cntB v ⟨0, inp⟩ = c := ⟨_, rfl⟩
  have HU0 : Hid (∀ w, Calls Try.prog 47 #[.int .i64 (2 * (v : Int) + 1), .int .i64 inp] w fun e w' => e = .returned (.int .i64 (sat c0 : Nat)) ∧ w = w') := fun w => by
    have := upTo_any (2 * v + 1) inp hi w
    have e : ((2 * v + 1 : Nat) : Int) = 2 * (v : Int) + 1 := by omega
    rw [e] at this
    have e2 : cntB v ⟨0, inp⟩ = powS (2 * v + 1) 0 (inp + 1) := by
      have := cntB_nat v 0 inp
      simpa using this
    rw [← hc0, e2]
    exact this
  have HUL : Hid (∀ w, Calls Try.prog 47 #[.int .i64 (2 * (v : Int) + 1), .int .i64 le] w fun e w' => e = .returned (.int .i64 (sat (cntB v ⟨0, le⟩) : Nat)) ∧ w = w') := fun w => by
    have := upTo_any (2 * v + 1) le hl w
    have e : ((2 * v + 1 : Nat) : Int) = 2 * (v : Int) + 1 := by omega
    rw [e] at this
    have e2 : cntB v ⟨0, le⟩ = powS (2 * v + 1) 0 (le + 1) := by
      have := cntB_nat v 0 le
      simpa using this
    rw [e2]
    exact this
  have HPW : Hid (∀ m : Nat, m ≤ 16 → ∀ w, Calls Try.prog 49 #[.int .i64 (2 * (v : Int) + 1), .int .i64 m] w fun e w' => e = .returned (.int .i64 (sat ((2 * v + 1) ^ m) : Nat)) ∧ w = w') := fun m hm w => by
    have := power_any (2 * v + 1) m (by omega) w
    have e : ((2 * v + 1 : Nat) : Int) = 2 * (v : Int) + 1 := by omega
    rwa [e] at this
  obtain ⟨S, hS⟩ : ∃ S : Nat → Nat, S = fun k => sat (c0 * cntP v ((D.map (lenD le)).take k)) := ⟨_, rfl⟩
  have H0 : Hid (S 0 = sat c0) := by unfold Hid; rw [hS]; simp [cntP]
  have HSS : Hid (∀ k d y, D[k]? = some d → sat y = sat (cntB v (lenD le d)) → ∀ w, Calls Try.prog 48 #[.int .i64 (S k : Nat), .int .i64 (y : Nat)] w fun e w' => e = .returned (.int .i64 (S (k + 1) : Nat)) ∧ w = w') := fun k d y hd hy w => by
    have := times_any (S k) y w
    have e : sat (S k * y) = S (k + 1) := by
      rw [← sat_mul2, hy, hS]
      simp only
      rw [sat_mul, sat_mul2, cntP_take (b := lenD le d) (by rw [List.getElem?_map, hd]; rfl), Nat.mul_assoc]
    rwa [e] at this
  obtain ⟨n, hn⟩ : ∃ n, D.length = n := ⟨_, rfl⟩
  have HSN : Hid (S n = sat (cntP v (lensP D le inp))) := by
    unfold Hid lensP
    rw [hS]
    simp only
    rw [List.take_of_length_le (by rw [List.length_map, hn]; exact Nat.le_refl _), cntP_snoc, hc0, Nat.mul_comm]
  rw [← HSN.out]
  rw [hn] at hn32 ⊢
  have HN := Lib.hid hn.symm
  have hn63 : (n : Int) ≤ 32 := by omega
  have f1 : IntKind.i64.wrap (2 * (v : Int)) = 2 * (v : Int) := IntWalk.i64_in _ (by omega)
  have f2 : IntKind.i64.wrap (2 * (v : Int) + 1) = 2 * (v : Int) + 1 := IntWalk.i64_in _ (by omega)
  have HLP : Hid (∀ d : Decl, d.kind = 3 → lenD le d = ⟨0, le⟩) := fun d h => if_pos h
  clear hS hn hc0 h1 hval hvd HSN
  go_enter Try.func28, Try.ntmps28
  go_wp2_with fail
  refine (HU0.out _).mono ?_
  rintro e w' ⟨rfl, rfl⟩
  rw [← H0.out]
  go_wp2
  go_loopg [9, 10] n (fun q s i wr => ∃ k : Nat, k + q = n ∧ i = .int .i64 k ∧ s = .int .i64 (S k) ∧ w = wr)
  case atStart => exact ⟨0, by omega, rfl, rfl, rfl⟩
  case round =>
    obtain ⟨k, hk, rfl, rfl, rfl⟩ := hrel
    have Hk := Lib.hid hk
    have hkn : k ≤ n := by omega
    clear hk
    by_cases hlt : k < n
    · have hlt' : (k : Int) < (n : Int) := by omega
      obtain ⟨g, off, rfl, hg, hq⟩ := HD.out.1.get (by have := HN.out; omega)
      obtain ⟨d, hd⟩ := get_lt HN.out hlt
      obtain ⟨-, q1, q2⟩ := hq k d hd
      have hvd := validD_cases (HVD.out d (List.mem_of_getElem? hd))
      have HKD := Lib.hid hd
      have HTI : Hid (∀ y, sat y = sat (cntB v (lenD le d)) → ∀ w, Calls Try.prog 48 #[.int .i64 (S k : Nat), .int .i64 (y : Nat)] w fun e w' => e = .returned (.int .i64 (S (k + 1) : Nat)) ∧ w = w') := fun y hy => HSS.out k d y hd hy
      have u1 : IntKind.i64.wrap ((k : Int) + 1) = (k : Int) + 1 := IntWalk.i64_in _ (by omega)
      clear hq hd
      obtain ⟨nm, kd, ln⟩ := d
      simp only at q1 q2 hvd
      rcases hvd with ⟨hk1, hl0⟩ | ⟨hk2, hl1, hl2⟩ | ⟨hk3, hl0⟩
      · subst hk1
        have e1 : cntB v (lenD le ⟨nm, 1, ln⟩) = 2 * v + 1 := by
          have h := cntB_nat v 1 1
          unfold lenD
          rw [if_neg (by simp)]
          unfold fixedZ
          rw [if_pos rfl]
          simpa [powS] using h
        have HC : Hid (∀ w, Calls Try.prog 48 #[.int .i64 (S k : Nat), .int .i64 (2 * (v : Int) + 1)] w fun e w' => e = .returned (.int .i64 (S (k + 1) : Nat)) ∧ w = w') := fun w => by
          have := HTI.out (2 * v + 1) (by rw [e1]) w
          have e : ((2 * v + 1 : Nat) : Int) = 2 * (v : Int) + 1 := by omega
          rwa [e] at this
        clear e1
        go_wp2_with fail
        refine (HC.out _).mono ?_
        rintro e w' ⟨rfl, rfl⟩
        go_wp2
        have hk := Hk.out
        go_roundg (n - (k + 1))
        case measure => omega
        case rel => exact ⟨k + 1, by omega, by go_num, rfl, rfl⟩
      · subst hk2
        obtain ⟨m, rfl⟩ := Int.eq_ofNat_of_zero_le (show 0 ≤ ln by omega)
        have hm16 : m ≤ 16 := by omega
        have e1 : cntB v (lenD le ⟨nm, 2, m⟩) = (2 * v + 1) ^ m := by
          unfold lenD
          rw [if_neg (by simp)]
          unfold fixedZ
          rw [if_neg (by simp)]
          simp only
          rw [cntB_nat, show m + 1 - m = 1 by omega]
          simp [powS]
        have HC := Lib.hid (HTI.out (sat ((2 * v + 1) ^ m)) (by rw [e1]; unfold sat; omega))
        have HP := Lib.hid (HPW.out m hm16)
        clear e1
        go_wp2_with fail
        refine (HP.out _).mono ?_
        rintro e w' ⟨rfl, rfl⟩
        go_wp2_with fail
        refine (HC.out _).mono ?_
        rintro e w' ⟨rfl, rfl⟩
        go_wp2
        have hk := Hk.out
        go_roundg (n - (k + 1))
        case measure => omega
        case rel => exact ⟨k + 1, by omega, by go_num, rfl, rfl⟩
      · subst hk3
        have e1 : lenD le ⟨nm, 3, ln⟩ = ⟨0, le⟩ := HLP.out _ rfl
        have HC := Lib.hid (HTI.out (sat (cntB v ⟨0, le⟩)) (by rw [e1]; unfold sat; omega))
        clear e1
        go_wp2_with fail
        refine (HUL.out _).mono ?_
        rintro e w' ⟨rfl, rfl⟩
        go_wp2_with fail
        refine (HC.out _).mono ?_
        rintro e w' ⟨rfl, rfl⟩
        go_wp2
        have hk := Hk.out
        go_roundg (n - (k + 1))
        case measure => omega
        case rel => exact ⟨k + 1, by omega, by go_num, rfl, rfl⟩
    · have hge : ¬ (k : Int) < (n : Int) := by omega
      have hke : n = k := by omega
      subst hke
      go_wp2
      go_ret
      exact ⟨rfl, rfl⟩

/-- what a small box is -/
structure SmallP (D : List Decl) (v le inp : Nat) : Prop where
  six : D.length ≤ 6
  val : validB D = true
  v1000 : v ≤ 1000
  le1000 : le ≤ 1000
  inp1000 : inp ≤ 1000
  few : cntP v (lensP D le inp) ≤ 500
def SmallPost (D : List Decl) (v le inp : Int) (w : World) (e : Ending) (w' : World) : Prop := ∃ b, e = .returned (.bool b) ∧ (b = true → ∃ v' le' inp' : Nat, v = v' ∧ le = le' ∧ inp = inp' ∧ SmallP D v' le' inp') ∧ Below w.heap.size w w'

set_option maxRecDepth 100000 in
set_option maxHeartbeats 8000000 in
theorem small_any2 (D : List Decl) (u : Value) (v le inp : Int) (w : World) (h1 : DeclsAt w u D) :
    Calls Try.prog 12 #[u, .agg #[.int .i64 v, .int .i64 le, .int .i64 inp]] w (SmallPost D v le inp w) := by
  obtain ⟨⟨ad, cd, rfl, hc1, hc2, -⟩, -⟩ := id h1
  obtain ⟨W, hW⟩ : ∃ W, W = w.alloc (.cells #[.int .i64 v, .int .i64 le, .int .i64 inp] 24) := ⟨_, rfl⟩
  have hB0 : Below w.heap.size w W := by rw [hW]; exact below_alloc _ _
  have hBK : Blk W w.heap.size 24 #[.int .i64 v, .int .i64 le, .int .i64 inp] := by rw [hW]; exact Blk.new _ _ _
  have HVL : Hid (Calls Try.prog 27 #[.slice ad D.length cd, .int .i64 v, .int .i64 le, .int .i64 inp] W (ValidPost D v le inp W)) := rvalidr_any D _ v le inp W (h1.below hB0 (Nat.le_refl _))
  have HDW := Lib.hid (h1.below hB0 (Nat.le_refl _))
  have HBK := Lib.hid hBK
  have HB0 := Lib.hid hB0
  have HW := Lib.hid hW
  have y0 := hBK.cell 0
  have y1 := hBK.cell 1
  have y2 := hBK.cell 2
  simp only [List.getElem?_toArray, List.getElem?_cons_zero, List.getElem?_cons_succ] at y0 y1 y2
  obtain ⟨n, hn⟩ : ∃ n, D.length = n := ⟨_, rfl⟩
  rw [hn] at hc1 HVL ⊢
  have HN := Lib.hid hn
  have h63 : (n : Int) ≤ 9223372036854775807 := by unfold maxLen at hc2; omega
  clear hn h1 hc1 hc2 hW hB0 hBK
  by_cases h6 : 6 < n
  · have h6' : ¬ (n : Int) ≤ 6 := by omega
    clear h6
    go_enter Try.func12, Try.ntmps12
    go_upto_region 1 with (fail)
    rw [← HW.out]
    go_wp2
    go_ret
    exact ⟨false, rfl, (fun h => by cases h), HB0.out⟩
  have h6' : (n : Int) ≤ 6 := by omega
  go_enter Try.func12, Try.ntmps12
  go_upto_region 1 with (fail)
  rw [← HW.out]
  go_wp2_with fail
  refine HVL.out.mono ?_
  rintro e w1 ⟨b, rfl, hiff, hb1⟩
  have HIF := Lib.hid hiff
  have HB1 := Lib.hid (below_next HB0.out (Nat.le_refl _) hb1)
  have HBK1 := Lib.hid (HBK.out.next hb1)
  have HD1 := Lib.hid (HDW.out.below hb1 (Nat.le_refl _))
  clear hiff hb1 y0 y1 y2
  cases b with
  | false =>
    go_wp2
    go_ret
    exact ⟨false, rfl, (fun h => by cases h), HB1.out⟩
  | true =>
    obtain ⟨hval, ⟨v1, v2⟩, ⟨l1, l2⟩, i1, i2⟩ := HIF.out.1 rfl
    obtain ⟨v', rfl⟩ := Int.eq_ofNat_of_zero_le v1
    obtain ⟨le', rfl⟩ := Int.eq_ofNat_of_zero_le l1
    obtain ⟨inp', rfl⟩ := Int.eq_ofNat_of_zero_le i1
    have y0 := HBK1.out.cell 0
    have y1 := HBK1.out.cell 1
    have y2 := HBK1.out.cell 2
    simp only [List.getElem?_toArray, List.getElem?_cons_zero, List.getElem?_cons_succ] at y0 y1 y2
    have hct := rcount_any D _ v' le' inp' w1 HD1.out hval (by omega) (by omega) (by omega)
    rw [HN.out] at hct
    have HCT := Lib.hid hct
    have HVALID := Lib.hid hval
    clear hct hval HIF
    go_wp2_with fail
    refine HCT.out.mono ?_
    rintro e w2 ⟨rfl, rfl⟩
    obtain ⟨c, hc⟩ : ∃ c, cntP v' (lensP D le' inp') = c := ⟨_, rfl⟩
    have HC := Lib.hid hc
    rw [hc]
    by_cases h5 : sat c ≤ 500
    · have h5' : ((sat c : Nat) : Int) ≤ 500 := by omega
      have HFEW : Hid (c ≤ 500) := by unfold Hid; unfold sat at h5; omega
      clear h5 hc
      go_wp2
      go_ret
      exact ⟨true, rfl, fun _ => ⟨v', le', inp', rfl, rfl, rfl, by rw [HN.out]; omega, HVALID.out, by omega, by omega, by omega, by rw [HC.out]; exact HFEW.out⟩, HB1.out⟩
    · have h5' : ¬ ((sat c : Nat) : Int) ≤ 500 := by omega
      clear h5 hc
      go_wp2
      go_ret
      exact ⟨_, rfl, (fun h => by have := of_decide_eq_true h; omega), HB1.out⟩
end Go.Proofs.Ytklbaocgjegdfaa
