/- Walks: the second each; the value of a node of constants. -/
import Derived.Test.YtlpmoklcdocmmaaEvF3
import Derived.Deep.RegionHeld3
namespace Go.Proofs.Ytlpmoklcdocmmaa
open Go.RowKit

theorem cf_fold1 (args : Array Value) (w : World) : (callFunc 50 args).run Try.prog w = .ok (.enter 50 args) w := by kernel_rfl

theorem fold1_any (kd nm v : Int) (s : ByteArray) (a : Option Addr) (n c : Nat) (b : Bool) (w : World) :
    Calls Try.prog 50 #[.agg #[.int .u8 kd, .int .i64 nm, .string s, .slice a n c, .int .i64 v, .bool b]] w fun e w' => e = .returned (.agg #[.int .u8 kd, .int .i64 nm, .string s, .slice a n c]) ∧ Below w.heap.size w w' := by
  go_enter Try.func50, Try.ntmps50
  go_wp2_with fail
  exact bodyPost_ret (results_node1 rfl _ _ (w.heap.size + 1) _ _ _ _ rfl (Blk.new' (by simp))) rfl ⟨rfl, (below_alloc _ _).alloc (by simp) _⟩

def NList (P : Nat → Prop) (w : World) (xs : List Value) (fs : List F) : Prop := xs.length = fs.length * 4 ∧ ∀ i f, fs[i]? = some f →
  ∃ kd nm s a n cc, xs[i * 4]? = some (.int .u8 kd) ∧ xs[i * 4 + 1]? = some (.int .i64 nm) ∧ xs[i * 4 + 2]? = some (.string s) ∧ xs[i * 4 + 3]? = some (.slice a n cc) ∧ NodeP P w (.agg #[.int .u8 kd, .int .i64 nm, .string s, .slice a n cc]) f.1
theorem NList.nil (P : Nat → Prop) (w : World) : NList P w [] [] := ⟨rfl, fun i f h => by simp at h⟩
theorem NList.snoc {P : Nat → Prop} {w : World} {xs : List Value} {fs : List F} {f : F} (h : NList P w xs fs) {kd nm : Int} {s : ByteArray} {a : Option Addr} {n c : Nat} (hf : NodeP P w (.agg #[.int .u8 kd, .int .i64 nm, .string s, .slice a n c]) f.1) :
    NList P w (xs ++ [.int .u8 kd, .int .i64 nm, .string s, .slice a n c]) (fs ++ [f]) := by
  refine ⟨by rw [List.length_append, List.length_append, h.1]; simp; omega, fun i g hg => ?_⟩
  have hl := h.1
  rcases Nat.lt_or_ge i fs.length with hlt | hge
  · rw [List.getElem?_append_left hlt] at hg
    obtain ⟨kd', nm', s', a', n', c', h0, h1, h2, h3, h4⟩ := h.2 i g hg
    exact ⟨kd', nm', s', a', n', c', by rw [List.getElem?_append_left (by omega)]; exact h0, by rw [List.getElem?_append_left (by omega)]; exact h1, by rw [List.getElem?_append_left (by omega)]; exact h2, by rw [List.getElem?_append_left (by omega)]; exact h3, h4⟩
  · rw [List.getElem?_append_right hge] at hg
    have h0 : i - fs.length = 0 := by
      rcases Nat.eq_zero_or_pos (i - fs.length) with h0 | h0
      · exact h0
      · rw [List.getElem?_eq_none (by simp; omega)] at hg; cases hg
    rw [h0] at hg
    simp only [List.getElem?_cons_zero, Option.some.injEq] at hg
    subst hg
    have e : ∀ j, (xs ++ [Value.int .u8 kd, .int .i64 nm, .string s, .slice a n c])[i * 4 + j]? = [Value.int .u8 kd, .int .i64 nm, .string s, .slice a n c][j]? := fun j => by
      rw [List.getElem?_append_right (by omega), show i * 4 + j - xs.length = j by omega]
    exact ⟨kd, nm, s, a, n, c, e 0, e 1, e 2, e 3, hf⟩
theorem news4 (w : World) (c0 c1 c2 c3 : Value) (t : TypeId) : ∀ j x, [c0, c1, c2, c3][j]? = some x → (w.alloc (.cells #[c0, c1, c2, c3] t)).cell? ((⟨w.heap.size, 0, none⟩ : Addr).add j) = some x := fun j x h => by
  rw [Go.WideShapes.add_plain, Nat.zero_add, World.cell?_alloc_at _ _ _ _ rfl]
  simpa using h
theorem one4 (kd nm : Int) (s : ByteArray) (a : Option Addr) (n c : Nat) : ∀ u ∈ [Value.int .u8 kd, .int .i64 nm, .string s, .slice a n c], u.oneCell' = true := by
  intro u hu
  simp only [List.mem_cons, List.not_mem_nil, or_false] at hu
  rcases hu with rfl | rfl | rfl | rfl <;> rfl

/-- the cells of a folded expression, as a walk spells them -/
theorem FoldsP.cells {P : Nat → Prop} {w : World} {g o : Nat} {fs : List F} (h : ∀ i f, fs[i]? = some f → FAt P w (fun j => w.cell? ⟨g, o + (i * 6 + j), none⟩) f) {i : Nat} {f : F} (hi : fs[i]? = some f) :
    ∃ kd nm s a n cc, w.cell? ⟨g, o + i * 6, none⟩ = some (.int .u8 kd) ∧ w.cell? ⟨g, o + i * 6 + 1, none⟩ = some (.int .i64 nm) ∧ w.cell? ⟨g, o + i * 6 + 2, none⟩ = some (.string s) ∧ w.cell? ⟨g, o + i * 6 + 3, none⟩ = some (.slice a n cc) ∧
      w.cell? ⟨g, o + i * 6 + 4, none⟩ = some (.int .i64 f.2.1) ∧ w.cell? ⟨g, o + i * 6 + 5, none⟩ = some (.bool f.2.2) ∧ NodeP P w (.agg #[.int .u8 kd, .int .i64 nm, .string s, .slice a n cc]) f.1 ∧ I64 f.2.1 := by
  obtain ⟨kd, nm, s, a, n, cc, h0, h1, h2, h3, h4, h5, h6, h7⟩ := h i f hi
  have e : ∀ j, o + (i * 6 + j) = o + i * 6 + j := fun j => by omega
  simp only [e, Nat.add_zero] at h0 h1 h2 h3 h4 h5
  exact ⟨kd, nm, s, a, n, cc, h0, h1, h2, h3, h4, h5, h6, h7⟩

def Each2R (P : Nat → Prop) (fs : List F) (w : World) (e : Ending) (w' : World) : Prop := ∃ r xs, e = .returned r ∧ w'.ownsRow w.heap.size 24 4 r fs.length xs ∧ NList P w xs fs ∧ Below w.heap.size w w'

set_option maxRecDepth 100000 in
set_option maxHeartbeats 4000000 in
theorem each2_any (P : Nat → Prop) (fs : List F) (w : World) (u : Value) (hk : FoldsP P w u fs) (hlen : fs.length ≤ 1000) :
    Calls Try.prog 49 #[u, .func (.func 50) #[] #[]] w (Each2R P fs w) := by
  obtain ⟨a, c, rfl, hn, hm, hq⟩ := hk
  obtain ⟨n, hnk⟩ : ∃ n, n = fs.length := ⟨_, rfl⟩
  rw [← hnk] at hn hlen ⊢
  have hn63 : n ≤ 9223372036854775807 := by omega
  obtain ⟨j0, hj0, hy0, hy1, hy2⟩ := info_parts nodeInfo
  have HQ := Lib.hid hq
  have HN := Lib.hid hnk
  have hcf := cf_fold1
  clear hq hnk hn hm
  go_enter Try.func49, Try.ntmps49
  go_wp2_with fail
  go_loopg [5, 10] n (fun q v i wr => ∃ (k : Nat) (xs : List Value), k + q = n ∧ i = .int .i64 k ∧ wr.ownsRow w.heap.size 24 4 v k xs ∧ NList P w xs (fs.take k) ∧ Below w.heap.size w wr)
  case atStart => exact ⟨0, [], by omega, rfl, World.ownsRow_nil _ _ _ _, NList.nil _ _, Below.refl _ _⟩
  case round =>
    obtain ⟨k, xs, hk, rfl, hown, hfl, hb⟩ := hrel
    have Hk := Lib.hid hk
    have hkn : k ≤ n := by omega
    have HOWN := Lib.hid hown
    have HFL := Lib.hid hfl
    have HX := Lib.hid hb
    have hsz := hb.size
    clear hk hown hfl hb
    by_cases hlt : k < n
    · have hlt' : (k : Int) < (n : Int) := by omega
      obtain ⟨g, off, rfl, hg, hq⟩ := HQ.out (by rw [← HN.out]; omega)
      obtain ⟨f, hf⟩ : ∃ f, fs[k]? = some f := ⟨_, List.getElem?_eq_getElem (by rw [← HN.out]; omega)⟩
      obtain ⟨kd, nm, s, a', n', c', q0, q1, q2, q3, q4, q5, q6, -⟩ := FoldsP.cells hq hf
      have m0 := cell_below HX.out hg q0
      have m1 := cell_below HX.out hg q1
      have m2 := cell_below HX.out hg q2
      have m3 := cell_below HX.out hg q3
      have m4 := cell_below HX.out hg q4
      have m5 := cell_below HX.out hg q5
      have HT : Hid (fs.take (k + 1) = fs.take k ++ [f]) := by unfold Hid; rw [List.take_add_one, hf]; rfl
      have HND := Lib.hid q6
      obtain ⟨f1, f2, f3⟩ := f
      simp only at m4 m5
      have HC := Lib.hid (fold1_any kd nm f2 s a' n' c' f3)
      clear hq q0 q1 q2 q3 q4 q5 q6 hf
      go_wp2_with fail
      refine (HC.out _).mono ?_
      rintro e w4 ⟨rfl, hb4⟩
      have HB4 : Hid (Below wr.heap.size wr w4) := Lib.hid (below_next (below_alloc wr _) (Nat.le_refl _) hb4)
      have hsz4 : wr.heap.size ≤ w4.heap.size := HB4.out.size
      clear hb4 HC
      go_wp2_with (refine wpList_append_own _ rfl (.tmp 14) (.tmp 18) 22 rfl w.heap.size 24 j0 (.agg #[.int .u8 0, .int .i64 0, .string ⟨#[]⟩, .slice none 0 0]) 4 56 Try.underlying22 hj0 hy0 hy1 hy2 rfl (by decide) _ k xs rfl ((own_gt HOWN.out HB4.out).alloc _) ⟨w4.heap.size, 0, none⟩ 1 1 [.int .u8 kd, .int .i64 nm, .string s, .slice a' n' c'] rfl rfl (news4 _ _ _ _ _ _) (one4 _ _ _ _ _ _) (by unfold maxLen; omega) (by omega) (by simp only [asz]; omega) ?_; intro v5 w5 hown5 hgr5 _; have HOWN5 := Lib.hid hown5; have HGR5 := Lib.hid hgr5; clear hown5 hgr5)
      have hb45 : Below w4.heap.size w4 (w4.alloc (.cells #[.int .u8 kd, .int .i64 nm, .string s, .slice a' n' c'] 24)) := below_alloc _ _
      have ho4 : (w4.alloc (.cells #[.int .u8 kd, .int .i64 nm, .string s, .slice a' n' c'] 24)).ownsRow w.heap.size 24 4 _ k xs := (own_gt HOWN.out HB4.out).alloc _
      have hfl5 := HFL.out.snoc (f := (f1, f2, f3)) HND.out
      rw [← HT.out] at hfl5
      have hx5 := (below_next (below_next HX.out (Nat.le_refl _) HB4.out) (Nat.le_refl _) hb45).grown HGR5.out (by simp only [asz]; omega) (fun j hj => (ho4.lt j hj).1)
      have HFL5 := Lib.hid hfl5
      have HX5 := Lib.hid hx5
      clear hb45 ho4 hfl5 hx5
      have hk := Hk.out
      go_roundg (n - (k + 1))
      case measure => omega
      case rel => exact ⟨k + 1, _, by omega, by go_num, HOWN5.out, HFL5.out, HX5.out⟩
    · have hge : ¬ (k : Int) < (n : Int) := by omega
      have hkn2 : k = n := by omega
      have hfl := HFL.out
      rw [List.take_of_length_le (by rw [← HN.out]; omega)] at hfl
      have hown := HOWN.out
      rw [hkn2, HN.out] at hown
      have HF := Lib.hid hfl
      have HO := Lib.hid hown
      clear hfl hown hkn2
      go_wp2_with fail
      go_ret
      exact ⟨_, _, rfl, HO.out, HF.out, HX.out⟩

theorem all_take_s {fs : List F} {k : Nat} {f : F} (h : (fs.take k).all (·.2.2) = true) (hf : fs[k]? = some f) (h2 : f.2.2 = true) : (fs.take (k + 1)).all (·.2.2) = true := by
  rw [List.take_add_one, List.all_append, h, hf]; simp [h2]
theorem cvN_1 {n : Int} {fs : List F} (h : fs.all (·.2.2) = true) : cvN 1 n fs = (n, true) := by unfold cvN; rw [if_pos h, if_pos rfl]
theorem cvN_var {k n : Int} {fs : List F} (hk : k = 2 ∨ k = 3 ∨ k = 4 ∨ k = 5) : cvN k n fs = (0, false) := by
  unfold cvN
  by_cases h : fs.all (·.2.2) = true
  · rw [if_pos h, if_neg (by omega), if_pos hk]
  · rw [if_neg h]
theorem cvN_un {k n : Int} {f : F} {l : List F} (h : (f :: l).all (·.2.2) = true) (hk : k = 6 ∨ k = 7) : cvN k n (f :: l) = (unV k f.2.1, unE k == 0) := by
  unfold cvN; rw [if_pos h, if_neg (by omega), if_neg (by omega), if_pos hk]
theorem cvN_bin {k n : Int} {f f' : F} {l : List F} (h : (f :: f' :: l).all (·.2.2) = true) (hk : k < 1 ∨ 7 < k) : cvN k n (f :: f' :: l) = (applyV k f.2.1 f'.2.1, applyE k f'.2.1 == 0) := by
  unfold cvN; rw [if_pos h, if_neg (by omega), if_neg (by omega), if_neg (by omega)]
theorem cvN_not {k n : Int} {fs : List F} {i : Nat} {f : F} (hf : fs[i]? = some f) (h : f.2.2 = false) : cvN k n fs = (0, false) := by
  unfold cvN
  rw [if_neg]
  intro ha
  have := List.all_eq_true.1 ha f (List.mem_of_getElem? hf)
  rw [h] at this
  cases this

def CvR (r : Int × Bool) (w : World) (e : Ending) (w' : World) : Prop := e = .returned (.tuple #[.int .i64 r.1, .bool r.2]) ∧ Below w.heap.size w w'

set_option maxRecDepth 100000 in
set_option maxHeartbeats 8000000 in
theorem cvalue_any (P : Nat → Prop) (fs : List F) (kd nm : Int) (s : ByteArray) (a : Option Addr) (m c : Nat) (w : World) (u : Value) (hk : FoldsP P w u fs) (hlen : fs.length ≤ 1000)
    (hk0 : 1 ≤ kd ∧ kd ≤ 23) (h1 : kd = 6 ∨ kd = 7 → 1 ≤ fs.length) (h2 : 8 ≤ kd → 2 ≤ fs.length) :
    Calls Try.prog 47 #[.agg #[.int .u8 kd, .int .i64 nm, .string s, .slice a m c], u] w (CvR (cvN kd nm fs) w) := by
  obtain ⟨a1, c1, rfl, hn, hm, hq⟩ := hk
  obtain ⟨n, hnk⟩ : ∃ n, n = fs.length := ⟨_, rfl⟩
  rw [← hnk] at hn hlen h1 h2 ⊢
  have hn63 : n ≤ 9223372036854775807 := by omega
  have hb1 := below_alloc w (.cells #[.int .u8 kd, .int .i64 nm, .string s, .slice a m c] 24)
  have hbk := Blk.new w 24 #[.int .u8 kd, .int .i64 nm, .string s, .slice a m c]
  have hltw := hbk.lt
  have HQ := Lib.hid hq
  have HN := Lib.hid hnk
  have HB1 := Lib.hid hb1
  have HK1 := Lib.hid hbk
  have H1 := Lib.hid h1
  have H2 := Lib.hid h2
  obtain ⟨R, hR⟩ : ∃ R, R = cvN kd nm fs := ⟨_, rfl⟩
  rw [← hR]
  have HR := Lib.hid hR
  obtain ⟨hk01, hk023⟩ := hk0
  clear hq hnk hn hm hb1 hbk h1 h2 hR
  go_enter Try.func47, Try.ntmps47
  go_wp2_with fail
  generalize w.alloc (.cells #[.int .u8 kd, .int .i64 nm, .string s, .slice a m c] 24) = W at *
  go_loopg [12] n (fun q i wr => ∃ k : Nat, k + q = n ∧ i = .int .i64 k ∧ Hid ((fs.take k).all (·.2.2) = true) ∧ Below W.heap.size W wr)
  case atStart => exact ⟨0, by omega, rfl, rfl, Below.refl _ _⟩
  case round =>
    obtain ⟨k, hk, rfl, hal, hb⟩ := hrel
    have Hk := Lib.hid hk
    have hkn : k ≤ n := by omega
    have HX := Lib.hid hb
    have hsz := hb.size
    have hszW := HB1.out.size
    have hbw : Below w.heap.size w wr := below_next HB1.out (Nat.le_refl _) hb
    have HBW := Lib.hid hbw
    clear hk hb hbw
    by_cases hlt : k < n
    · have hlt' : (k : Int) < (n : Int) := by omega
      obtain ⟨g, off, rfl, hg, hq⟩ := HQ.out (by rw [← HN.out]; omega)
      obtain ⟨f, hf⟩ : ∃ f, fs[k]? = some f := ⟨_, List.getElem?_eq_getElem (by rw [← HN.out]; omega)⟩
      obtain ⟨kd', nm', s', a', n', c', q0, q1, q2, q3, q4, q5, -, -⟩ := FoldsP.cells hq hf
      have m0 := cell_below HBW.out hg q0
      have m1 := cell_below HBW.out hg q1
      have m2 := cell_below HBW.out hg q2
      have m3 := cell_below HBW.out hg q3
      have m4 := cell_below HBW.out hg q4
      have m5 := cell_below HBW.out hg q5
      have hx : f.2.2 = true → Hid ((fs.take (k + 1)).all (·.2.2) = true) := fun h => all_take_s hal.out hf h
      have hy : f.2.2 = false → R = (0, false) := fun h => HR.out.trans (cvN_not hf h)
      have HXX := Lib.hid hx
      have HYY := Lib.hid hy
      obtain ⟨f1, f2, f3⟩ := f
      simp only at m4 m5
      clear hq q0 q1 q2 q3 q4 q5 hf hx hy hal
      cases f3 with
      | false =>
        have hr := HYY.out (by simp)
        subst hr
        clear HXX HYY
        go_wp2_with fail
        go_ret2
        exact ⟨rfl, HBW.out.alloc HBW.out.size _⟩
      | true =>
        have hal := HXX.out (by simp)
        clear HXX HYY
        go_wp2_with fail
        have hk := Hk.out
        go_roundg (n - (k + 1))
        case measure => omega
        case rel => exact ⟨k + 1, by omega, by go_num, hal, HX.out.alloc hsz _⟩
    · have hge : ¬ (k : Int) < (n : Int) := by omega
      have hall : fs.all (·.2.2) = true := by
        have := hal.out
        rwa [List.take_of_length_le (by rw [← HN.out]; omega)] at this
      have HALL := Lib.hid hall
      have k0 := cell_below HX.out (by omega) (HK1.out.cell 0)
      have k1 := cell_below HX.out (by omega) (HK1.out.cell 1)
      clear hal hall
      by_cases e1 : kd = 1
      · subst e1
        have hr : R = (nm, true) := HR.out.trans (cvN_1 HALL.out)
        subst hr
        go_wp2_with fail
        go_ret2
        exact ⟨rfl, HBW.out⟩
      by_cases e2 : kd = 2 ∨ kd = 3 ∨ kd = 4 ∨ kd = 5
      · have hr : R = (0, false) := HR.out.trans (cvN_var e2)
        subst hr
        rcases e2 with rfl | rfl | rfl | rfl
        all_goals
          go_wp2_with fail
          go_ret2
          exact ⟨rfl, HBW.out⟩
      by_cases e3 : kd = 6 ∨ kd = 7
      · have hn1 := H1.out e3
        obtain ⟨g, off, rfl, hg, hq⟩ := HQ.out (by rw [← HN.out]; omega)
        obtain ⟨f, l, rfl⟩ : ∃ f l, fs = f :: l := by
          cases fs with
          | nil => have := HN.out; simp at this; omega
          | cons f l => exact ⟨f, l, rfl⟩
        have hr := HR.out
        · rw [cvN_un HALL.out e3] at hr
          subst hr
          obtain ⟨kd', nm', s', a', n', c', q0, q1, q2, q3, q4, q5, -, -⟩ := FoldsP.cells hq (i := 0) rfl
          have m4 := cell_below HBW.out hg q4
          rw [Nat.zero_mul, Nat.add_zero] at m4
          obtain ⟨f1, f2, f3⟩ := f
          simp only at m4 ⊢
          have hn1' : (0 : Int) < (n : Int) := by omega
          have hn1n : 0 < n := by omega
          clear hq q0 q1 q2 q3 q4 q5 HR HALL HQ HN H1 H2 e1 e2 Hk
          rcases e3 with rfl | rfl
          · go_wp2_with fail
            go_region_held3 (fun w' => w'.cell? ⟨w.heap.size, 0, none⟩ = some (.int .u8 6) ∧ w'.cell? ⟨g, off + 4, none⟩ = some (.int .i64 f2))
              (first | exact ⟨k0, m4⟩)
              (first | (go_at_call 43; refine (unary_any _ _ _).mono ?_; rintro e wq ⟨rfl, hwq⟩; subst hwq))
            go_wp2_with fail
            go_ret2
            exact ⟨rfl, below_drew HBW.out⟩
          · go_wp2_with fail
            go_region_held3 (fun w' => w'.cell? ⟨w.heap.size, 0, none⟩ = some (.int .u8 7) ∧ w'.cell? ⟨g, off + 4, none⟩ = some (.int .i64 f2))
              (first | exact ⟨k0, m4⟩)
              (first | (go_at_call 43; refine (unary_any _ _ _).mono ?_; rintro e wq ⟨rfl, hwq⟩; subst hwq))
            go_wp2_with fail
            go_ret2
            exact ⟨rfl, below_drew HBW.out⟩
      · have e8 : 8 ≤ kd := by omega
        have hn2 := H2.out e8
        obtain ⟨g, off, rfl, hg, hq⟩ := HQ.out (by rw [← HN.out]; omega)
        have b1 : (kd == 1) = false := by simp; omega
        have b2 : (kd == 2) = false := by simp; omega
        have b3 : (kd == 3) = false := by simp; omega
        have b4 : (kd == 4) = false := by simp; omega
        have b5 : (kd == 5) = false := by simp; omega
        have b6 : (kd == 6) = false := by simp; omega
        have b7 : (kd == 7) = false := by simp; omega
        obtain ⟨f, f', l, rfl⟩ : ∃ f f' l, fs = f :: f' :: l := by
          match fs, HN.out with
          | [], h => simp at h; omega
          | [f], h => simp at h; omega
          | f :: f' :: l, _ => exact ⟨f, f', l, rfl⟩
        · have hr := HR.out
          rw [cvN_bin HALL.out (.inr (by omega))] at hr
          subst hr
          obtain ⟨kd', nm', s', a', n', c', q0, q1, q2, q3, q4, q5, -, -⟩ := FoldsP.cells hq (i := 0) rfl
          obtain ⟨kd2, nm2, s2, a2, n2, c2, p0, p1, p2, p3, p4, p5, -, -⟩ := FoldsP.cells hq (i := 1) rfl
          have m4 := cell_below HBW.out hg q4
          have n4 := cell_below HBW.out hg p4
          rw [Nat.zero_mul, Nat.add_zero] at m4
          rw [Nat.one_mul] at n4
          obtain ⟨f1, f2, f3⟩ := f
          obtain ⟨g1, g2, g3⟩ := f'
          simp only at m4 n4 ⊢
          have hn1' : (0 : Int) < (n : Int) := by omega
          have hn2' : (1 : Int) < (n : Int) := by omega
          have hn1n : 0 < n := by omega
          have hn2n : 1 < n := by omega
          clear hq q0 q1 q2 q3 q4 q5 p0 p1 p2 p3 p4 p5 HR HALL HQ HN H1 H2 e1 e2 e3 Hk
          go_wp2_with fail
          go_region_held3 (fun w' => w'.cell? ⟨w.heap.size, 0, none⟩ = some (.int .u8 kd) ∧ w'.cell? ⟨g, off + 4, none⟩ = some (.int .i64 f2) ∧ w'.cell? ⟨g, off + 6 + 4, none⟩ = some (.int .i64 g2))
            (first | exact ⟨k0, m4, n4⟩)
            (first | (go_at_call 44; refine (apply_any _ _ _ _).mono ?_; rintro e wq ⟨rfl, hwq⟩; subst hwq))
          go_wp2_with fail
          go_ret2
          exact ⟨rfl, below_drew HBW.out⟩
end Go.Proofs.Ytlpmoklcdocmmaa
