/- The walk of the law EvalOwn. -/
import Derived.Test.YtlpmoklcdocmmaaEvEnv
import Derived.Test.YtlpmoklcdocmmaaEvRows
import Derived.Deep.QuietTactic
import Derived.BigQuiet
namespace Go.Proofs.Ytlpmoklcdocmmaa
open Go.RowKit

theorem great_lens {t : T} {env : Env} (h : greatE t env = false) : env.length ≤ 10 ∧ ∀ c ∈ env, c.2.length ≤ 20 := by
  unfold greatE at h
  rw [Bool.or_eq_false_iff, Bool.or_eq_false_iff] at h
  refine ⟨by have := of_decide_eq_false h.1.1; omega, fun c hc => ?_⟩
  have := List.any_eq_false.1 h.2 c hc
  simp [longB] at this
  omega

theorem below_drewN {B : Nat} {a w : World} (h : Below B a w) (n : Nat) : Below B a (w.drewN n) := ⟨h.os, h.tape, h.output, h.size, h.block⟩
theorem asz (w : World) (o : Obj) : (w.alloc o).heap.size = w.heap.size + 1 := by simp
theorem cell_one_new (w : World) (u : Value) (t : TypeId) : ∀ j x, [u][j]? = some x → (w.alloc (.cells #[u] t)).cell? ((⟨w.heap.size, 0, none⟩ : Addr).add j) = some x
  | 0, x, h => by simp at h; subst h; rw [Go.WideShapes.add_plain, Nat.add_zero, World.cell?_alloc_at _ _ _ _ rfl]; rfl

set_option maxRecDepth 100000 in
set_option maxHeartbeats 8000000 in
theorem ownlaw_any (t : T) (env : Env) (v l : Value) (w : World) (h : NodeAt w v t) (hl : EnvAt w l env) :
    Calls Try.prog 8 #[v, l] w fun e w' => e = .returned (.bool true) ∧ Below w.heap.size w w' := by
  have hgl := @great_lens t env
  obtain ⟨kd, nm, s, a, n, c, rfl⟩ := node_form h
  obtain ⟨⟨ea, ec, rfl, -, -, -⟩, -⟩ := id hl
  obtain ⟨m, hmk⟩ : ∃ m, m = env.length := ⟨_, rfl⟩
  rw [← hmk] at hl ⊢
  obtain ⟨W, hW⟩ : ∃ W, W = w.alloc (.cells #[.int .u8 kd, .int .i64 nm, .string s, .slice a n c] 24) := ⟨_, rfl⟩
  have hb0 : Below w.heap.size w W := by rw [hW]; exact below_alloc _ _
  have hk0 : Blk W w.heap.size 24 #[.int .u8 kd, .int .i64 nm, .string s, .slice a n c] := by rw [hW]; exact Blk.new _ _ _
  have hwW : w.heap.size < W.heap.size := hk0.lt
  have HCELL : Hid (∀ w', Below W.heap.size W w' → w'.cell? ⟨w.heap.size, 0, none⟩ = some (.int .u8 kd) ∧ w'.cell? ⟨w.heap.size, 1, none⟩ = some (.int .i64 nm) ∧ w'.cell? ⟨w.heap.size, 2, none⟩ = some (.string s) ∧ w'.cell? ⟨w.heap.size, 3, none⟩ = some (.slice a n c)) :=
    fun w' hb => ⟨cell_below hb hwW (hk0.cell 0), cell_below hb hwW (hk0.cell 1), cell_below hb hwW (hk0.cell 2), cell_below hb hwW (hk0.cell 3)⟩
  have hn1 := h.below hb0 (Nat.le_refl _)
  have he1 := hl.below hb0 (Nat.le_refl _)
  have HN : Hid (∀ w', Below W.heap.size W w' → NodeAt w' (.agg #[.int .u8 kd, .int .i64 nm, .string s, .slice a n c]) t) := fun w' hb => hn1.below hb (Nat.le_refl _)
  have HE : Hid (∀ w', Below W.heap.size W w' → EnvAt w' (.slice ea m ec) env) := fun w' hb => he1.below hb (Nat.le_refl _)
  have HX : Hid (Below W.heap.size W W) := Below.refl _ _
  have HG : Hid (∀ w', Below W.heap.size W w' → Calls Try.prog 12 #[.agg #[.int .u8 kd, .int .i64 nm, .string s, .slice a n c], .slice ea m ec] w' fun e w'' => e = .returned (.int .i64 (b2i (greatE t env))) ∧ Below w'.heap.size w' w'') := fun w' hb => greate_any t env _ _ w' (hn1.below hb (Nat.le_refl _)) (he1.below hb (Nat.le_refl _))
  generalize greatE t env = G at *
  have HB0 := Lib.hid hb0
  have HMK := Lib.hid hmk
  have HGL := Lib.hid hgl
  have HW := Lib.hid hW
  clear h hl hn1 he1 hb0 hk0 hmk hW hgl
  have HV : Hid (∀ f w', Below W.heap.size W w' → AtL w' f env → Calls Try.prog 15 #[.agg #[.int .u8 kd, .int .i64 nm, .string s, .slice a n c], f] w' (ValR (exprV env t) w')) := fun f w' hb hf => expr_any env t _ _ w' (HN.out w' hb) hf
  have HT : Hid (∀ f w', Below W.heap.size W w' → AtL w' f env → Calls Try.prog 18 #[.agg #[.int .u8 kd, .int .i64 nm, .string s, .slice a n c], f] w' (TestR (exprV env t) w')) := fun f w' hb hf => test_any env t _ _ w' (HN.out w' hb) hf
  have HI : Hid (∀ f w', Below W.heap.size W w' → AtL w' f env → Calls Try.prog 20 #[.agg #[.int .u8 kd, .int .i64 nm, .string s, .slice a n c], f] w' (ValR (idxV env t) w')) := fun f w' hb hf => index_any env t _ _ w' (HN.out w' hb) hf
  have NV : Hid (∀ w', Below W.heap.size W w' → Calls Try.prog 15 #[.agg #[.int .u8 kd, .int .i64 nm, .string s, .slice a n c], .nilFunc] w' (ValR (0, 1) w')) := fun w' hb => expr_nil t _ w' (HN.out w' hb)
  have NT : Hid (∀ w', Below W.heap.size W w' → Calls Try.prog 18 #[.agg #[.int .u8 kd, .int .i64 nm, .string s, .slice a n c], .nilFunc] w' (TestR (0, 1) w')) := fun w' hb => test_nil t _ w' (HN.out w' hb)
  have NI : Hid (∀ w', Below W.heap.size W w' → Calls Try.prog 20 #[.agg #[.int .u8 kd, .int .i64 nm, .string s, .slice a n c], .nilFunc] w' (ValR (0, 1) w')) := fun w' hb => index_nil t _ w' (HN.out w' hb)
  generalize exprV env t = R at *
  generalize idxV env t = R' at *
  obtain ⟨j0, hj0, hy0, hy1, hy2⟩ := info_parts rowInfo
  have HENV := Lib.hid (HE.out W HX.out)
  go_enter Try.func8, Try.ntmps8
  go_wp2_with fail
  rw [← HW.out]
  clear HW
  refine (awake_any _).mono ?_
  rintro e wn ⟨rfl, hbn⟩
  have HX := Lib.hid (by first | exact below_next HX.out (Nat.le_refl _) hbn | exact below_next' HX.out (Nat.le_refl _) hbn)
  clear hbn
  obtain ⟨c0, c1, c2, c3⟩ := HCELL.out _ HX.out
  go_wp2_with fail
  refine (HG.out _ HX.out).mono ?_
  rintro e wn ⟨rfl, hbn⟩
  have HX := Lib.hid (by first | exact below_next HX.out (Nat.le_refl _) hbn | exact below_next' HX.out (Nat.le_refl _) hbn)
  clear hbn c0 c1 c2 c3
  obtain ⟨c0, c1, c2, c3⟩ := HCELL.out _ HX.out
  cases G with
  | true =>
    have e1 : ((b2i true) == 1) = true := rfl
    go_wp2_with fail
    go_ret
    exact ⟨rfl, below_next HB0.out (Nat.le_refl _) HX.out⟩
  | false =>
  obtain ⟨hm10, hl20⟩ := HGL.out (by simp)
  rw [← HMK.out] at hm10
  have HL20 := Lib.hid hl20
  have hm63 : m ≤ 9223372036854775807 := by omega
  have e1 : ((b2i false) == 1) = false := rfl
  clear hl20
  go_wp2_with fail
  go_loopg [5, 25] m (fun q v i wr => ∃ (k : Nat) (vs : List Value), k + q = m ∧ i = .int .i64 k ∧ RowsNew W.heap.size wr v vs ((env.map (·.2)).take k) ∧ Below W.heap.size W wr)
  case atStart => exact ⟨0, [], by omega, rfl, RowsNew.nil _ _, HX.out⟩
  case round =>
    obtain ⟨k, vs, hk, rfl, hrow, hb⟩ := hrel
    have Hk := Lib.hid hk
    have hkn : k ≤ m := by omega
    have HX := Lib.hid hb
    have HR := Lib.hid hrow
    have hszX := hb.size
    clear hk hb hrow c0 c1 c2 c3
    by_cases hlt : k < m
    · have hlt' : (k : Int) < (m : Int) := by omega
      have hkn' : k < env.length := by rw [← HMK.out]; exact hlt
      obtain ⟨a0, cc0, e0, -, -, hq⟩ := HENV.out.1
      obtain ⟨rfl, -, rfl⟩ : ea = a0 ∧ m = env.length ∧ ec = cc0 := by simpa using e0
      obtain ⟨g, off, rfl, hg, hq⟩ := hq (by omega)
      obtain ⟨⟨x, cl⟩, hx⟩ : ∃ p, env[k]? = some p := ⟨_, List.getElem?_eq_getElem hkn'⟩
      obtain ⟨q0, u, q1, hi⟩ := hq k _ hx
      obtain ⟨⟨ua, uc, rfl, -, -, -⟩, -⟩ := id hi
      simp only at q0 q1 hi
      have m0 := cell_below HX.out hg q0
      have m1 := cell_below HX.out hg q1
      have HIC := Lib.hid hi
      have hcl : cl.length ≤ 20 := HL20.out _ (List.mem_of_getElem? hx)
      have HT1 : Hid ((env.map (·.2)).take (k + 1) = (env.map (·.2)).take k ++ [cl]) := by
        unfold Hid
        rw [List.take_add_one, List.getElem?_map, hx]; rfl
      have hlen : ((env.map (·.2)).take k).length = k := by rw [List.length_take, List.length_map, ← HMK.out]; omega
      have HLEN := Lib.hid hlen
      have hown := HR.out.1
      rw [hlen] at hown
      have HOWN := Lib.hid hown
      clear hq q0 q1 hx hi e0 hlen hown hkn'
      go_wp2_with (first
        | (refine wpList_clone_ints rfl (.tmp 30) (.tmp 32) rfl W.heap.size (wr.heap.size + 1) rfl (by exact Blk.new' (by simp)) (by omega) _ cl rfl (HIC.out.below (by exact (HX.out.alloc hszX _).alloc (by rw [asz]; omega) _) (Nat.le_refl _)) (by omega) ?_; intro v4 w4 hown4 hb4; have HO4 := Lib.hid hown4; obtain ⟨a4, c4, rfl⟩ := own_form hown4; have HB4 : Hid (Below wr.heap.size wr w4) := Lib.hid ((((Below.refl wr.heap.size wr).alloc (Nat.le_refl _) _).alloc (by simp) _).trans (hb4.mono (by simp only [asz]; omega))); clear hown4 hb4)
        | (refine wpList_append_own _ rfl (.tmp 29) (.tmp 34) 48 rfl W.heap.size 26 j0 (.slice none 0 0) 1 24 Try.underlying48 hj0 hy0 hy1 hy2 rfl (by decide) _ k vs rfl ((own_below HOWN.out HB4.out).alloc _) ⟨w4.heap.size, 0, none⟩ 1 1 [.slice a4 cl.length c4] rfl rfl (cell_one_new _ _ _) (by simp [Value.oneCell']) (by unfold maxLen; omega) (by omega) (by have := HB4.out.size; simp only [asz]; omega) ?_; intro v5 w5 hown5 hgr5 _; have HOWN5 := Lib.hid hown5; have HGR5 := Lib.hid hgr5; clear hown5 hgr5))
      have hb45 : Below w4.heap.size w4 (w4.alloc (.cells #[.slice a4 cl.length c4] 26)) := below_alloc _ _
      have hrow4 := (HR.out.next HB4.out).next hb45
      have hu4 : IntsNew W.heap.size (w4.alloc (.cells #[.slice a4 cl.length c4] 26)) (.slice a4 cl.length c4) cl := own_below HO4.out hb45
      have hrow5 := hrow4.snoc hu4 (by rw [HLEN.out]; exact HOWN5.out) HGR5.out
      rw [← HT1.out] at hrow5
      have hx4 := below_next (below_next HX.out (Nat.le_refl _) HB4.out) (Nat.le_refl _) hb45
      have hx5 := hx4.grown HGR5.out hx4.size (fun j hj => (own_below HOWN.out HB4.out).lt j hj |>.1)
      have HR5 := Lib.hid hrow5
      have HX5 := Lib.hid hx5
      clear hb45 hrow4 hu4 hrow5 hx4 hx5
      have hk := Hk.out
      go_roundg (m - (k + 1))
      case measure => omega
      case rel => exact ⟨k + 1, _, by omega, by go_num, HR5.out, HX5.out⟩
    · have hge : ¬ (k : Int) < (m : Int) := by omega
      have hrow := HR.out
      rw [List.take_of_length_le (by rw [List.length_map, ← HMK.out]; omega)] at hrow
      have HR2 := Lib.hid hrow
      obtain ⟨c0, c1, c2, c3⟩ := HCELL.out _ HX.out
      have hlm : (env.map (·.2)).length = m := by rw [List.length_map, HMK.out]
      have hown := hrow.1
      rw [hlm] at hown
      obtain ⟨av, cv, rfl⟩ := own_form hown
      have hbX := HX.out
      have HCELL := Lib.hid (fun w'' (hb : Below wr.heap.size wr w'') => HCELL.out w'' (below_next hbX (Nat.le_refl _) hb))
      have HE := Lib.hid (fun w'' (hb : Below wr.heap.size wr w'') => HE.out w'' (below_next hbX (Nat.le_refl _) hb))
      have HV := Lib.hid (fun f w'' (hb : Below wr.heap.size wr w'') => HV.out f w'' (below_next hbX (Nat.le_refl _) hb))
      have HT := Lib.hid (fun f w'' (hb : Below wr.heap.size wr w'') => HT.out f w'' (below_next hbX (Nat.le_refl _) hb))
      have HI := Lib.hid (fun f w'' (hb : Below wr.heap.size wr w'') => HI.out f w'' (below_next hbX (Nat.le_refl _) hb))
      have NV := Lib.hid (fun w'' (hb : Below wr.heap.size wr w'') => NV.out w'' (below_next hbX (Nat.le_refl _) hb))
      have NT := Lib.hid (fun w'' (hb : Below wr.heap.size wr w'') => NT.out w'' (below_next hbX (Nat.le_refl _) hb))
      have NI := Lib.hid (fun w'' (hb : Below wr.heap.size wr w'') => NI.out w'' (below_next hbX (Nat.le_refl _) hb))
      have HB0 := Lib.hid (below_next HB0.out (Nat.le_refl _) hbX)
      have HENV := Lib.hid (HENV.out.below hbX (Nat.le_refl _))
      have HX : Hid (Below wr.heap.size wr wr) := Below.refl _ _
      clear hrow HR hbX hlm hown HG
      obtain ⟨wo, hwo⟩ : ∃ wo : World, wo = wr := ⟨_, rfl⟩
      subst hwo
      go_wp2_with fail
      go_region_held3 (fun w' => w'.cell? ⟨w.heap.size, 0, none⟩ = some (.int .u8 kd) ∧ w'.cell? ⟨w.heap.size, 1, none⟩ = some (.int .i64 nm) ∧ w'.cell? ⟨w.heap.size, 2, none⟩ = some (.string s) ∧ w'.cell? ⟨w.heap.size, 3, none⟩ = some (.slice a n c))
        (first | exact HCELL.out _ HX.out | exact HCELL.out _ (below_drew HX.out))
        (first
          | (go_at_call 16; refine (lookup_any env _ _ (HE.out _ (by first | exact HX.out | exact below_drew HX.out))).mono ?_; rintro e wn ⟨f, rfl, hA, hbn⟩; have HX := Lib.hid (by first | exact below_next HX.out (Nat.le_refl _) hbn | exact below_next' HX.out (Nat.le_refl _) hbn); obtain ⟨b1, ev1, rfl, -, -, -⟩ := id hA; have HA := Lib.hid hA; clear hA hbn)
          | (go_at_call 15; (with_reducible refine (HV.out _ _ HX.out HA.out).mono ?_); rintro e wn ⟨rfl, hbn⟩; have HX := Lib.hid (by first | exact below_next HX.out (Nat.le_refl _) hbn | exact below_next' HX.out (Nat.le_refl _) hbn); clear hbn HA))
      clear c0 c1 c2 c3
      obtain ⟨c0, c1, c2, c3⟩ := HCELL.out _ HX.out
      go_wp2_with fail
      go_region_held3 (fun w' => w'.cell? ⟨w.heap.size, 0, none⟩ = some (.int .u8 kd) ∧ w'.cell? ⟨w.heap.size, 1, none⟩ = some (.int .i64 nm) ∧ w'.cell? ⟨w.heap.size, 2, none⟩ = some (.string s) ∧ w'.cell? ⟨w.heap.size, 3, none⟩ = some (.slice a n c))
        (first | exact HCELL.out _ HX.out | exact HCELL.out _ (below_drew HX.out))
        (first
          | (go_at_call 16; refine (lookup_any env _ _ (HE.out _ (by first | exact HX.out | exact below_drew HX.out))).mono ?_; rintro e wn ⟨f, rfl, hA, hbn⟩; have HX := Lib.hid (by first | exact below_next HX.out (Nat.le_refl _) hbn | exact below_next' HX.out (Nat.le_refl _) hbn); obtain ⟨b1, ev1, rfl, -, -, -⟩ := id hA; have HA := Lib.hid hA; clear hA hbn)
          | (go_at_call 18; (with_reducible refine (HT.out _ _ HX.out HA.out).mono ?_); rintro e wn ⟨rfl, hbn⟩; have HX := Lib.hid (by first | exact below_next HX.out (Nat.le_refl _) hbn | exact below_next' HX.out (Nat.le_refl _) hbn); clear hbn HA))
      clear c0 c1 c2 c3
      obtain ⟨c0, c1, c2, c3⟩ := HCELL.out _ HX.out
      go_wp2_with fail
      go_region_held3 (fun w' => w'.cell? ⟨w.heap.size, 0, none⟩ = some (.int .u8 kd) ∧ w'.cell? ⟨w.heap.size, 1, none⟩ = some (.int .i64 nm) ∧ w'.cell? ⟨w.heap.size, 2, none⟩ = some (.string s) ∧ w'.cell? ⟨w.heap.size, 3, none⟩ = some (.slice a n c))
        (first | exact HCELL.out _ HX.out | exact HCELL.out _ (below_drew HX.out))
        (first
          | (go_at_call 16; refine (lookup_any env _ _ (HE.out _ (by first | exact HX.out | exact below_drew HX.out))).mono ?_; rintro e wn ⟨f, rfl, hA, hbn⟩; have HX := Lib.hid (by first | exact below_next HX.out (Nat.le_refl _) hbn | exact below_next' HX.out (Nat.le_refl _) hbn); obtain ⟨b1, ev1, rfl, -, -, -⟩ := id hA; have HA := Lib.hid hA; clear hA hbn)
          | (go_at_call 20; (with_reducible refine (HI.out _ _ HX.out HA.out).mono ?_); rintro e wn ⟨rfl, hbn⟩; have HX := Lib.hid (by first | exact below_next HX.out (Nat.le_refl _) hbn | exact below_next' HX.out (Nat.le_refl _) hbn); clear hbn HA))
      clear c0 c1 c2 c3
      obtain ⟨c0, c1, c2, c3⟩ := HCELL.out _ HX.out
      go_wp2_with fail
      go_loopg [51] m (fun q i wr => ∃ k : Nat, k + q = m ∧ i = .int .i64 k ∧ Below wo.heap.size wo wr)
      case atStart => exact ⟨0, by omega, rfl, HX.out⟩
      case round =>
        obtain ⟨k, hk, rfl, hb⟩ := hrel
        have Hk := Lib.hid hk
        have hkn : k ≤ m := by omega
        have HX := Lib.hid hb
        have hszX := hb.size
        clear hk hb c0 c1 c2 c3
        by_cases hlt : k < m
        · have hlt' : (k : Int) < (m : Int) := by omega
          have hk0 : (0 : Int) ≤ (k : Int) := by omega
          have hkn' : k < env.length := by rw [← HMK.out]; exact hlt
          obtain ⟨a0, cc0, e0, -, -, hq⟩ := HENV.out.1
          obtain ⟨rfl, -, rfl⟩ : ea = a0 ∧ m = env.length ∧ ec = cc0 := by simpa using e0
          obtain ⟨g, off, rfl, hg, hq⟩ := hq (by omega)
          obtain ⟨⟨x, cl⟩, hx⟩ : ∃ p, env[k]? = some p := ⟨_, List.getElem?_eq_getElem hkn'⟩
          obtain ⟨q0, u, q1, hi⟩ := hq k _ hx
          simp only at q0 q1 hi
          have hLk : k < (env.map (·.2)).length := by rw [List.length_map]; exact hkn'
          obtain ⟨gh, cc', u2, e1, -, -, hcell, hin⟩ := rows_cell (HR2.out.next HX.out) (j := k) hLk
          have hLe : (env.map (·.2))[k] = cl := by
            have : (env.map (·.2))[k]? = some cl := by rw [List.getElem?_map, hx]; rfl
            rw [List.getElem?_eq_getElem hLk] at this
            exact Option.some.inj this
          rw [hLe] at hin
          obtain ⟨rfl, -⟩ : av = some ⟨gh, 0, none⟩ ∧ True := by simp at e1; exact ⟨e1.1, trivial⟩
          obtain ⟨a6, c6, rfl⟩ := own_form hin
          obtain ⟨⟨ua, uc, rfl, hnc, hmc, hqc⟩, -⟩ := hi
          have hcl : cl.length ≤ 20 := HL20.out _ (List.mem_of_getElem? hx)
          have m0 := cell_below HX.out hg q0
          have m1 := cell_below HX.out hg q1
          have HQC := Lib.hid hqc
          have HIN := Lib.hid hin
          obtain ⟨cn, hcn⟩ : ∃ cn, cn = cl.length := ⟨_, rfl⟩
          rw [← hcn] at m1 hcell hcl
          have HCN := Lib.hid hcn
          have e2 : ((cn : Int) != (cn : Int)) = false := by simp
          have e3 : ((cn : Int) == (cn : Int)) = true := by simp
          have hghr : gh < wr.heap.size := World.block_lt_of_cell? wr _ hcell
          clear hq q0 q1 hx e0 e1 hLe hLk hkn' hqc hin hnc hmc hcn
          go_wp2_with fail
          go_quiet (fail)
          have hbA : Below wr.heap.size wr (wr.alloc (.cells #[.string x, .slice ua cn uc] 32)) := below_alloc _ _
          have HBA := Lib.hid (below_next HX.out (Nat.le_refl _) hbA)
          have HBR := Lib.hid hbA
          have hnb : (wr.alloc (.cells #[.string x, .slice ua cn uc] 32)).cell? ⟨wr.heap.size, 1, none⟩ = some (.slice ua cn uc) := (Blk.new _ _ _).cell 1
          have hhc := cell_below hbA hghr hcell
          have hsW : wr.heap.size + 1 = (wr.alloc (.cells #[.string x, .slice ua cn uc] 32)).heap.size := (asz _ _).symm
          generalize wr.alloc (.cells #[.string x, .slice ua cn uc] 32) = wc at *
          clear hbA
          go_wp2_with fail
          go_loopg [68] cn (fun q i wd => ∃ j d : Nat, j + q = cn ∧ i = .int .i64 j ∧ wd = wc.drewN d)
          case atStart => exact ⟨0, _, by omega, rfl, rfl⟩
          case round =>
            obtain ⟨j, d, hj, rfl, rfl⟩ := hrel
            have Hj := Lib.hid hj
            have hjm : j ≤ cn := by omega
            clear hj
            by_cases hltj : j < cn
            · have hltj' : (j : Int) < (cn : Int) := by omega
              have hj0 : (0 : Int) ≤ (j : Int) := by omega
              have hjl : j < cl.length := by rw [← HCN.out]; exact hltj
              obtain ⟨gc, oc, rfl, hgc, hc⟩ := HQC.out (by omega)
              have n0 := cell_below HBA.out hgc (hc j _ (List.getElem?_eq_getElem hjl))
              obtain ⟨gi, ci, e5, hgi, hci⟩ : ∃ gi ci, Value.slice a6 cl.length c6 = .slice (some ⟨gi, 0, none⟩) cl.length ci ∧ gi < wr.heap.size ∧ wr.cell? ⟨gi, j, none⟩ = some (.int .i64 cl[j]) := by
                rcases HIN.out.2 with ⟨h9, h8⟩ | ⟨gi, ci, cur, h9, _, hh, _⟩
                · omega
                · refine ⟨gi, ci, h9, (Array.getElem?_eq_some_iff.1 hh).1, ?_⟩
                  have hin := HIN.out
                  rw [h9] at hin
                  rw [World.ownsRow.cellAt hin j (by omega)]
                  simp [intsV, List.getElem?_map, List.getElem?_eq_getElem hjl]
              obtain ⟨rfl, -⟩ : a6 = some ⟨gi, 0, none⟩ ∧ True := by simp at e5; exact ⟨e5.1, trivial⟩
              have n1 := cell_below HBR.out hgi hci
              generalize cl[j] = y at *
              have e4 : (y != y) = false := by simp
              clear hc hci e5 hjl
              go_wp2_with fail
              go_quiet (fail)
              go_wp2_with fail
              have hj := Hj.out
              go_roundg (cn - (j + 1))
              case measure => omega
              case rel => exact ⟨j + 1, _, by omega, by go_num, by first | rfl | exact World.drewN_drewN _ _ _⟩
            · have hgej : ¬ (j : Int) < (cn : Int) := by omega
              go_wp2_with fail
              have hk := Hk.out
              go_roundg (m - (k + 1))
              case measure => omega
              case rel => exact ⟨k + 1, by omega, by go_num, below_drewN HBA.out _⟩
        · have hge : ¬ (k : Int) < (m : Int) := by omega
          obtain ⟨c0, c1, c2, c3⟩ := HCELL.out _ HX.out
          go_wp2_with fail
          refine (NV.out _ HX.out).mono ?_
          rintro e wn ⟨rfl, hbn⟩
          have HX := Lib.hid (below_next HX.out (Nat.le_refl _) hbn)
          clear hbn c0 c1 c2 c3
          obtain ⟨c0, c1, c2, c3⟩ := HCELL.out _ HX.out
          go_wp2_with fail
          refine (NT.out _ HX.out).mono ?_
          rintro e wn ⟨rfl, hbn⟩
          have HX := Lib.hid (below_next HX.out (Nat.le_refl _) hbn)
          clear hbn c0 c1 c2 c3
          obtain ⟨c0, c1, c2, c3⟩ := HCELL.out _ HX.out
          go_wp2_with fail
          refine (NI.out _ HX.out).mono ?_
          rintro e wn ⟨rfl, hbn⟩
          have HX := Lib.hid (below_next HX.out (Nat.le_refl _) hbn)
          clear hbn c0 c1 c2 c3
          go_wp2_with fail
          go_ret
          exact ⟨rfl, below_next HB0.out (Nat.le_refl _) HX.out⟩

theorem ownlaw_top {H : Type} {enc : TypeId × Value → H} {r : Reach} {b0 : Nat} {w : World} {base : Nat} {sp : Nat → Bool} {held : Bool} (v0 : Value) (d0 : DataW H) (p0 : List MemPlace) (h0 : Value.okWide Try.prog w r b0 24 v0) (t0 : DataW.Trod enc Try.prog w base sp held 24 v0 d0 p0) (v1 : Value) (d1 : DataW H) (p1 : List MemPlace) (h1 : Value.okWide Try.prog w r b0 25 v1) (t1 : DataW.Trod enc Try.prog w base sp held 25 v1 d1 p1) (w' : World) (hw : w' = w := by rfl) :
    Calls Try.prog 8 #[v0, v1] w' fun e w'' => e = .returned (.bool true) ∧ Below w'.heap.size w' w'' := by
  subst hw
  obtain ⟨t, ht⟩ := node_top h0 t0
  obtain ⟨env, he⟩ := env_top h1 t1
  exact ownlaw_any t env v0 v1 _ ht he
end Go.Proofs.Ytlpmoklcdocmmaa
