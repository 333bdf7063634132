/- The walks of cmp.Compare, cmp.Or, compare. -/
import Derived.Test.YtklbaocgjegdfaaEnX3
namespace Go.Proofs.Ytklbaocgjegdfaa
open Go.RowKit

theorem quiet_add {P : Program} {f : FuncId} {args : Array Value} {w : World} {a n : Nat} {v : Value}
    (h : Calls P f args (w.drewN (a + n)) fun e w' => e = .returned v ∧ ∃ m, w' = (w.drewN (a + n)).drewN m) :
    Calls P f args (w.drewN (a + n)) fun e w'' => e = .returned v ∧ ∃ m, w'' = w.drewN (a + m) :=
  h.mono fun _ _ ⟨he, m, hm⟩ => ⟨he, n + m, by rw [hm, World.drewN_drewN, Nat.add_assoc]⟩
theorem quiet_add_same {P : Program} {f : FuncId} {args : Array Value} {w : World} {a n : Nat} {v : Value}
    (h : Calls P f args (w.drewN (a + n)) fun e w' => e = .returned v ∧ w' = w.drewN (a + n)) :
    Calls P f args (w.drewN (a + n)) fun e w'' => e = .returned v ∧ ∃ m, w'' = w.drewN (a + m) :=
  h.mono fun _ _ ⟨he, hm⟩ => ⟨he, n, hm⟩
def cmpI (a b : Int) : Int := if a < b then -1 else if b < a then 1 else 0
def orI (a b : Int) : Int := if a = 0 then b else a
def cmpL (l m : List Int) : Int := if l.length = m.length then lexP (l.map rankP) (m.map rankP) else cmpI l.length m.length
theorem cmpI_cases (a b : Int) : cmpI a b = -1 ∨ cmpI a b = 0 ∨ cmpI a b = 1 := by unfold cmpI; split <;> (try split) <;> simp
theorem cmpL_cases (l m : List Int) : cmpL l m = -1 ∨ cmpL l m = 0 ∨ cmpL l m = 1 := by
  unfold cmpL
  split
  · exact lexP_cases _ _
  · exact cmpI_cases _ _
theorem lskey_cons (l m : List Int) (X Y : List (List Int)) : lexP (lskey (l :: X)) (lskey (m :: Y)) = orI (cmpL l m) (lexP (lskey X) (lskey Y)) := by
  have e : ∀ (z : List Int) (Z : List (List Int)), lskey (z :: Z) = lkey z ++ lskey Z := fun z Z => by simp [lskey]
  rw [e, e, lkey_append]
  by_cases h1 : l.length < m.length
  · have ec : cmpL l m = -1 := by unfold cmpL cmpI; rw [if_neg (by omega), if_pos (by omega)]
    rw [if_pos h1, ec]; rfl
  · rw [if_neg h1]
    by_cases h2 : m.length < l.length
    · have ec : cmpL l m = 1 := by unfold cmpL cmpI; rw [if_neg (by omega), if_neg (by omega), if_pos (by omega)]
      rw [if_pos h2, ec]; rfl
    · have ec : cmpL l m = lexP (l.map rankP) (m.map rankP) := by unfold cmpL; rw [if_pos (by omega)]
      rw [if_neg h2, ec]
      rfl
theorem cmpP_or (a b : St) : cmpP a b = orI (cmpI (IntKind.i64.wrap (wtsP (listsS a))) (IntKind.i64.wrap (wtsP (listsS b)))) (orI (cmpI a.cells.length b.cells.length) (lexP (lskey (listsS a)) (lskey (listsS b)))) := by
  unfold cmpP keyP orI cmpI
  simp only [lexP]
  by_cases h1 : IntKind.i64.wrap (wtsP (listsS a)) < IntKind.i64.wrap (wtsP (listsS b))
  · simp [h1]
  · by_cases h2 : IntKind.i64.wrap (wtsP (listsS b)) < IntKind.i64.wrap (wtsP (listsS a))
    · simp [h1, h2]
    · by_cases h3 : (a.cells.length : Int) < b.cells.length
      · have h3' : a.cells.length < b.cells.length := by omega
        simp [h1, h2, h3']
      · by_cases h4 : (b.cells.length : Int) < a.cells.length
        · have h3' : ¬ a.cells.length < b.cells.length := by omega
          have h4' : b.cells.length < a.cells.length := by omega
          simp [h1, h2, h3', h4']
        · have h3' : ¬ a.cells.length < b.cells.length := by omega
          have h4' : ¬ b.cells.length < a.cells.length := by omega
          simp [h1, h2, h3', h4']

theorem nan_any (x : Int) (w : World) : Calls Try.prog 54 #[.int .i64 x] w fun e w' => e = .returned (.bool false) ∧ w = w' := by
  have t : (x != x) = false := by simp
  go_enter Try.func54, Try.ntmps54
  go_wp2
  go_ret
  exact ⟨rfl, rfl⟩

set_option maxRecDepth 100000 in
set_option maxHeartbeats 1000000 in
theorem cmpc_any (x y : Int) (w : World) : Calls Try.prog 41 #[.int .i64 x, .int .i64 y] w fun e w' => e = .returned (.int .i64 (cmpI x y)) ∧ w = w' := by
  have HN : Hid (∀ x w, Calls Try.prog 54 #[.int .i64 x] w fun e w' => e = .returned (.bool false) ∧ w = w') := nan_any
  rcases (by omega : x < y ∨ (¬ x < y ∧ y < x) ∨ (¬ x < y ∧ ¬ y < x)) with h | ⟨h, h2⟩ | ⟨h, h2⟩
  · have e0 : cmpI x y = -1 := if_pos h
    rw [e0]
    clear e0
    go_enter Try.func41, Try.ntmps41
    go_wp2_with fail
    refine (HN.out _ _).mono ?_
    rintro e w' ⟨rfl, rfl⟩
    go_wp2_with fail
    refine (HN.out _ _).mono ?_
    rintro e w' ⟨rfl, rfl⟩
    go_wp2
    go_ret
    exact ⟨rfl, rfl⟩
  · have e0 : cmpI x y = 1 := by unfold cmpI; rw [if_neg h, if_pos h2]
    rw [e0]
    clear e0
    go_enter Try.func41, Try.ntmps41
    go_wp2_with fail
    refine (HN.out _ _).mono ?_
    rintro e w' ⟨rfl, rfl⟩
    go_wp2_with fail
    refine (HN.out _ _).mono ?_
    rintro e w' ⟨rfl, rfl⟩
    go_wp2
    go_ret
    exact ⟨rfl, rfl⟩
  · have e0 : cmpI x y = 0 := by unfold cmpI; rw [if_neg h, if_neg h2]
    rw [e0]
    clear e0
    go_enter Try.func41, Try.ntmps41
    go_wp2_with fail
    refine (HN.out _ _).mono ?_
    rintro e w' ⟨rfl, rfl⟩
    go_wp2_with fail
    refine (HN.out _ _).mono ?_
    rintro e w' ⟨rfl, rfl⟩
    go_wp2
    go_ret
    exact ⟨rfl, rfl⟩

set_option maxRecDepth 100000 in
set_option maxHeartbeats 2000000 in
theorem or_any (x y : Int) (g c : Nat) (w : World) (h0 : w.cell? ⟨g, 0, none⟩ = some (.int .i64 x)) (h1 : w.cell? ⟨g, 1, none⟩ = some (.int .i64 y)) :
    Calls Try.prog 40 #[.slice (some ⟨g, 0, none⟩) 2 c] w fun e w' => e = .returned (.int .i64 (orI x y)) ∧ w = w' := by
  have HO : Hid (x ≠ 0 → orI x y = x) := fun h => if_neg h
  have HO2 : Hid (x = 0 → orI x y = y) := fun h => if_pos h
  have HX := Lib.hid h0
  have HY := Lib.hid h1
  clear h0 h1
  go_enter Try.func40, Try.ntmps40
  go_wp2
  go_loopg [8] 2 (fun q i wr => ∃ k : Nat, k + q = 2 ∧ i = .int .i64 k ∧ (1 ≤ k → x = 0) ∧ (2 ≤ k → y = 0) ∧ w = wr)
  case atStart => exact ⟨0, by omega, rfl, fun h => by omega, fun h => by omega, rfl⟩
  case round =>
    obtain ⟨k, hk, rfl, hx, hy, rfl⟩ := hrel
    have Hk := Lib.hid hk
    have H1 := Lib.hid hx
    have H2 := Lib.hid hy
    have hk2 : k ≤ 2 := by omega
    clear hk hx hy
    rcases (by omega : k = 0 ∨ k = 1 ∨ k = 2) with rfl | rfl | rfl
    · have m0 := HX.out
      by_cases h : x = 0
      · have e0 : (x != 0) = false := by simp [h]
        have HH := Lib.hid h
        clear h
        go_wp2
        go_roundg 1
        case measure => have := Hk.out; omega
        case rel => exact ⟨1, by omega, by go_num, fun _ => HH.out, fun h => by omega, rfl⟩
      · have e0 : (x != 0) = true := by simp [h]
        have HR : Hid (orI x y = x) := HO.out h
        clear h
        go_wp2
        go_ret
        exact ⟨by rw [HR.out]; rfl, rfl⟩
    · have m1 := HY.out
      have HR : Hid (orI x y = y) := HO2.out (H1.out (by omega))
      by_cases h : y = 0
      · have e0 : (y != 0) = false := by simp [h]
        have HH := Lib.hid h
        clear h
        go_wp2
        go_roundg 0
        case measure => have := Hk.out; omega
        case rel => exact ⟨2, by omega, by go_num, fun _ => H1.out (by omega), fun _ => HH.out, rfl⟩
      · have e0 : (y != 0) = true := by simp [h]
        clear h
        go_wp2
        go_ret
        exact ⟨by rw [HR.out]; rfl, rfl⟩
    · have HR : Hid (orI x y = 0) := by
        unfold Hid
        rw [HO2.out (H1.out (by omega))]
        exact H2.out (by omega)
      go_wp2
      go_ret
      exact ⟨by rw [HR.out]; rfl, rfl⟩

theorem lex_drop {p q : List Int} {k : Nat} {x y : Int} (hx : p[k]? = some x) (hy : q[k]? = some y) : lexP (p.drop k) (q.drop k) = if x < y then -1 else if y < x then 1 else lexP (p.drop (k + 1)) (q.drop (k + 1)) := by
  have h1 := (List.getElem?_eq_some_iff.1 hx)
  have h2 := (List.getElem?_eq_some_iff.1 hy)
  rw [List.drop_eq_getElem_cons h1.1, List.drop_eq_getElem_cons h2.1]
  simp only [lexP, h1.2, h2.2]

set_option maxRecDepth 100000 in
set_option maxHeartbeats 4000000 in
theorem compare_any (l m : List Int) (u v : Value) (w : World) (h1 : IntsAt w u l) (h2 : IntsAt w v m) (hl : MidL l) (hm : MidL m) :
    Calls Try.prog 42 #[u, v] w fun e w' => e = .returned (.int .i64 (cmpL l m)) ∧ ∃ q, w' = w.drewN q := by
  obtain ⟨⟨au, cu, rfl, hu1, hu2, hqu⟩, -⟩ := h1
  obtain ⟨⟨av, cv, rfl, hv1, hv2, hqv⟩, -⟩ := h2
  have HQU := Lib.hid hqu
  have HQV := Lib.hid hqv
  have HML := Lib.hid hl
  have HMM := Lib.hid hm
  have HC : Hid (∀ x y w, Calls Try.prog 41 #[.int .i64 x, .int .i64 y] w fun e w' => e = .returned (.int .i64 (cmpI x y)) ∧ w = w') := cmpc_any
  have HR : Hid (∀ x, Mid x → ∀ w, Calls Try.prog 16 #[.int .i64 x] w fun e w' => e = .returned (.int .i64 (rankP x)) ∧ w' = w) := rank_any
  obtain ⟨n, hn⟩ : ∃ n, l.length = n := ⟨_, rfl⟩
  obtain ⟨k0, hk0⟩ : ∃ n, m.length = n := ⟨_, rfl⟩
  rw [hn] at HQU hu1 ⊢
  rw [hk0] at HQV hv1 ⊢
  have h63 : (n : Int) ≤ 9223372036854775807 := by unfold maxLen at hu2; omega
  have h64 : (k0 : Int) ≤ 9223372036854775807 := by unfold maxLen at hv2; omega
  have HN := Lib.hid hn
  have HK := Lib.hid hk0
  have HCL : Hid (cmpL l m = if n = k0 then lexP (l.map rankP) (m.map rankP) else cmpI n k0) := by unfold Hid cmpL; rw [hn, hk0]
  clear hqu hqv hl hm hn hk0 hu1 hu2 hv1 hv2
  by_cases he : n = k0
  · subst he
    have t0 : ((n : Int) != (n : Int)) = false := by simp
    have HCE : Hid (cmpL l m = lexP (l.map rankP) (m.map rankP)) := by unfold Hid; rw [HCL.out, if_pos rfl]
    rw [HCE.out]
    clear HCE HCL
    obtain ⟨res, hres⟩ : ∃ res, lexP (l.map rankP) (m.map rankP) = res := ⟨_, rfl⟩
    have HRES := Lib.hid hres
    rw [hres]
    clear hres
    go_enter Try.func42, Try.ntmps42
    go_wp2
    go_loopg [19] n (fun q i wr => ∃ k : Nat, k + q = n ∧ i = .int .i64 k ∧ lexP ((l.map rankP).drop k) ((m.map rankP).drop k) = res ∧ ∃ d, wr = w.drewN d)
    case atStart => exact ⟨0, by omega, rfl, by rw [List.drop_zero, List.drop_zero]; exact HRES.out, 0, rfl⟩
    case round =>
      obtain ⟨k, hk, rfl, hx, d, rfl⟩ := hrel
      have Hk := Lib.hid hk
      have HX := Lib.hid hx
      have hkn : k ≤ n := by omega
      clear hk hx
      by_cases hlt : k < n
      · have hlt' : (k : Int) < (n : Int) := by omega
        obtain ⟨g, o, rfl, hg, hq⟩ := HQU.out (by omega)
        obtain ⟨g2, o2, rfl, hg2, hq2⟩ := HQV.out (by omega)
        obtain ⟨x, hxl⟩ := get_lt HN.out.symm hlt
        obtain ⟨y, hyl⟩ := get_lt HK.out.symm hlt
        have m0 := hq k x hxl
        have m1 := hq2 k y hyl
        have HRX : Hid (∀ w, Calls Try.prog 16 #[.int .i64 x] w fun e w' => e = .returned (.int .i64 (rankP x)) ∧ w' = w) := HR.out x (HML.out x (List.mem_of_getElem? hxl))
        have HRY : Hid (∀ w, Calls Try.prog 16 #[.int .i64 y] w fun e w' => e = .returned (.int .i64 (rankP y)) ∧ w' = w) := HR.out y (HMM.out y (List.mem_of_getElem? hyl))
        have hld := lex_drop (p := l.map rankP) (q := m.map rankP) (k := k) (x := rankP x) (y := rankP y) (by rw [List.getElem?_map, hxl]; rfl) (by rw [List.getElem?_map, hyl]; rfl)
        obtain ⟨rx, hrx⟩ : ∃ rx, rankP x = rx := ⟨_, rfl⟩
        obtain ⟨ry, hry⟩ : ∃ ry, rankP y = ry := ⟨_, rfl⟩
        rw [hrx] at HRX hld
        rw [hry] at HRY hld
        have HLD := Lib.hid hld
        have HCX : Hid (∀ w, Calls Try.prog 41 #[.int .i64 rx, .int .i64 ry] w fun e w' => e = .returned (.int .i64 (cmpI rx ry)) ∧ w' = w) := fun w => (HC.out rx ry w).mono fun _ _ ⟨a, b⟩ => ⟨a, b.symm⟩
        have u1 : IntKind.i64.wrap ((k : Int) + 1) = (k : Int) + 1 := IntWalk.i64_in _ (by omega)
        have HCV : Hid (cmpI rx ry = 0 ∧ lexP ((l.map rankP).drop (k + 1)) ((m.map rankP).drop (k + 1)) = res ∨ cmpI rx ry ≠ 0 ∧ cmpI rx ry = res) := by
          have h1 := HLD.out
          rw [HX.out] at h1
          unfold Hid cmpI
          by_cases a1 : rx < ry
          · rw [if_pos a1] at h1 ⊢; exact .inr ⟨by decide, h1.symm⟩
          · rw [if_neg a1] at h1 ⊢
            by_cases a2 : ry < rx
            · rw [if_pos a2] at h1 ⊢; exact .inr ⟨by decide, h1.symm⟩
            · rw [if_neg a2] at h1 ⊢; exact .inl ⟨rfl, h1.symm⟩
        obtain ⟨cv', hcv⟩ : ∃ z, cmpI rx ry = z := ⟨_, rfl⟩
        rw [hcv] at HCX HCV
        clear hq hq2 hxl hyl hld hrx hry hcv HLD
        by_cases hz : cv' = 0
        · have e0 : (cv' != 0) = false := by simp [hz]
          have HNX : Hid (lexP ((l.map rankP).drop (k + 1)) ((m.map rankP).drop (k + 1)) = res) := by
            rcases HCV.out with h | h
            · exact h.2
            · exact absurd hz h.1
          clear hz HCV
          go_wp2
          go_quiet ((first
            | (go_at_call 16; first | (with_reducible exact quiet_add_same (HRX.out _)) | (with_reducible exact quiet_add_same (HRY.out _)) | (with_reducible exact Calls.quiet_of_same (HRX.out _)) | (with_reducible exact Calls.quiet_of_same (HRY.out _)))
            | (go_at_call 41; first | (with_reducible exact quiet_add_same (HCX.out _)) | (with_reducible exact Calls.quiet_of_same (HCX.out _)))))
          go_wp2
          have hk := Hk.out
          go_roundg (n - (k + 1))
          case measure => omega
          case rel => exact ⟨k + 1, by omega, by go_num, HNX.out, _, rfl⟩
        · have e0 : (cv' != 0) = true := by simp [hz]
          have HNX : Hid (cv' = res) := by
            rcases HCV.out with h | h
            · exact absurd h.1 hz
            · exact h.2
          clear hz HCV
          go_wp2
          go_quiet ((first
            | (go_at_call 16; first | (with_reducible exact quiet_add_same (HRX.out _)) | (with_reducible exact quiet_add_same (HRY.out _)) | (with_reducible exact Calls.quiet_of_same (HRX.out _)) | (with_reducible exact Calls.quiet_of_same (HRY.out _)))
            | (go_at_call 41; first | (with_reducible exact quiet_add_same (HCX.out _)) | (with_reducible exact Calls.quiet_of_same (HCX.out _)))))
          go_wp2
          go_ret
          rw [← HNX.out]
          exact ⟨rfl, _, rfl⟩
      · have hge : ¬ (k : Int) < (n : Int) := by omega
        have hke : n = k := by omega
        subst hke
        have HZ : Hid (res = 0) := by
          have := HX.out
          rw [List.drop_of_length_le (by rw [List.length_map, HN.out]; exact Nat.le_refl _)] at this
          exact this.symm
        go_wp2
        go_ret
        rw [HZ.out]
        exact ⟨rfl, _, rfl⟩
  · have t0 : ((n : Int) != (k0 : Int)) = true := by simp; omega
    have HCE : Hid (cmpL l m = cmpI n k0) := by unfold Hid; rw [HCL.out, if_neg he]
    rw [HCE.out]
    clear HCE HCL
    go_enter Try.func42, Try.ntmps42
    go_wp2_with fail
    refine (HC.out _ _ _).mono ?_
    rintro e w' ⟨rfl, rfl⟩
    go_wp2
    go_ret
    exact ⟨rfl, 0, rfl⟩
end Go.Proofs.Ytklbaocgjegdfaa
