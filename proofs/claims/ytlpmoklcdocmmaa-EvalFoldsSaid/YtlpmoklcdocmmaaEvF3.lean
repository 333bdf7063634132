/- Folded expressions in rows of the call's own; the walk of the first each. -/
import Derived.Test.YtlpmoklcdocmmaaEvF2
import Derived.Test.YtlpmoklcdocmmaaEvEnv
namespace Go.Proofs.Ytlpmoklcdocmmaa
open Go.RowKit

theorem foldInfo : (Try.prog.info? 63).map (fun i => (i.zero, i.size, i.bytes)) = some (some (.agg #[.int .u8 0, .int .i64 0, .string ⟨#[]⟩, .slice none 0 0, .int .i64 0, .bool false]), 6, 72) := by kernel_rfl
theorem nodeInfo : (Try.prog.info? 24).map (fun i => (i.zero, i.size, i.bytes)) = some (some (.agg #[.int .u8 0, .int .i64 0, .string ⟨#[]⟩, .slice none 0 0]), 4, 56) := by kernel_rfl

def FoldR (B : Nat) (f : F) (w : World) (e : Ending) (w' : World) : Prop := ∃ kd nm s a n c, e = .returned (.agg #[.int .u8 kd, .int .i64 nm, .string s, .slice a n c, .int .i64 f.2.1, .bool f.2.2]) ∧ NodeP (PB B w.heap.size w') w' (.agg #[.int .u8 kd, .int .i64 nm, .string s, .slice a n c]) f.1 ∧ I64 f.2.1 ∧ Below w.heap.size w w'

def FAt (P : Nat → Prop) (w : World) (c : Nat → Option Value) (f : F) : Prop :=
  ∃ kd nm s a n cc, c 0 = some (.int .u8 kd) ∧ c 1 = some (.int .i64 nm) ∧ c 2 = some (.string s) ∧ c 3 = some (.slice a n cc) ∧ c 4 = some (.int .i64 f.2.1) ∧ c 5 = some (.bool f.2.2) ∧ NodeP P w (.agg #[.int .u8 kd, .int .i64 nm, .string s, .slice a n cc]) f.1 ∧ I64 f.2.1
def FList (P : Nat → Prop) (w : World) (xs : List Value) (fs : List F) : Prop := xs.length = fs.length * 6 ∧ ∀ i f, fs[i]? = some f → FAt P w (fun j => xs[i * 6 + j]?) f
def FoldsP (P : Nat → Prop) (w : World) (u : Value) (fs : List F) : Prop := SliceAt w u fs.length (fun g o => ∀ i f, fs[i]? = some f → FAt P w (fun j => w.cell? ⟨g, o + (i * 6 + j), none⟩) f)

theorem FAt.nodes {P P' : Nat → Prop} {w w' : World} {c c' : Nat → Option Value} {f : F} (h : FAt P w c f) (hc : ∀ j u, j < 6 → c j = some u → c' j = some u) (hn : ∀ v, NodeP P w v f.1 → NodeP P' w' v f.1) : FAt P' w' c' f := by
  obtain ⟨kd, nm, s, a, n, cc, h0, h1, h2, h3, h4, h5, h6, h7⟩ := h
  exact ⟨kd, nm, s, a, n, cc, hc 0 _ (by omega) h0, hc 1 _ (by omega) h1, hc 2 _ (by omega) h2, hc 3 _ (by omega) h3, hc 4 _ (by omega) h4, hc 5 _ (by omega) h5, hn _ h6, h7⟩

theorem FList.nil (P : Nat → Prop) (w : World) : FList P w [] [] := ⟨rfl, fun i f h => by simp at h⟩
theorem FList.mono {P P' : Nat → Prop} {w w' : World} {xs : List Value} {fs : List F} (h : FList P w xs fs) (hn : ∀ v t, NodeP P w v t → NodeP P' w' v t) : FList P' w' xs fs :=
  ⟨h.1, fun i f hi => (h.2 i f hi).nodes (fun _ _ _ e => e) (fun v => hn v _)⟩
theorem FList.snoc {P : Nat → Prop} {w : World} {xs : List Value} {fs : List F} {f : F} (h : FList P w xs fs) {kd nm : Int} {s : ByteArray} {a : Option Addr} {n c : Nat} (hf : NodeP P w (.agg #[.int .u8 kd, .int .i64 nm, .string s, .slice a n c]) f.1) (hi : I64 f.2.1) :
    FList P w (xs ++ [.int .u8 kd, .int .i64 nm, .string s, .slice a n c, .int .i64 f.2.1, .bool f.2.2]) (fs ++ [f]) := by
  refine ⟨by rw [List.length_append, List.length_append, h.1]; simp; omega, fun i g hg => ?_⟩
  have hl := h.1
  rcases Nat.lt_or_ge i fs.length with hlt | hge
  · rw [List.getElem?_append_left hlt] at hg
    refine (h.2 i g hg).nodes (fun j u hj e => ?_) (fun v hv => hv)
    have e' : xs[i * 6 + j]? = some u := e
    show (xs ++ _)[i * 6 + j]? = some u
    rw [List.getElem?_append_left (by omega)]
    exact e'
  · rw [List.getElem?_append_right hge] at hg
    have h0 : i - fs.length = 0 := by
      rcases Nat.eq_zero_or_pos (i - fs.length) with h0 | h0
      · exact h0
      · rw [List.getElem?_eq_none (by simp; omega)] at hg; cases hg
    rw [h0] at hg
    simp only [List.getElem?_cons_zero, Option.some.injEq] at hg
    subst hg
    have e : ∀ j, (xs ++ [Value.int .u8 kd, .int .i64 nm, .string s, .slice a n c, .int .i64 f.2.1, .bool f.2.2])[i * 6 + j]? = [Value.int .u8 kd, .int .i64 nm, .string s, .slice a n c, .int .i64 f.2.1, .bool f.2.2][j]? := fun j => by
      rw [List.getElem?_append_right (by omega), show i * 6 + j - xs.length = j by omega]
    exact ⟨kd, nm, s, a, n, c, e 0, e 1, e 2, e 3, e 4, e 5, hf, hi⟩
theorem FList.folds {P : Nat → Prop} {w : World} {base : Nat} {v : Value} {xs : List Value} {fs : List F} (h : FList P w xs fs) (hown : w.ownsRow base 63 6 v fs.length xs) : FoldsP P w v fs := by
  rcases hown.2 with ⟨rfl, h0⟩ | ⟨g, cap, cur, rfl, _, hg, hn, hm, hc, ht⟩
  · rw [List.eq_nil_of_length_eq_zero h0]
    exact ⟨none, 0, rfl, Nat.le_refl _, by unfold maxLen; omega, fun h => absurd h (by decide)⟩
  · refine ⟨_, cap, rfl, hn, hm, fun hp => ⟨g, 0, rfl, (Array.getElem?_eq_some_iff.1 hg).1, fun i f hi => ?_⟩⟩
    have hlt : i < fs.length := (List.getElem?_eq_some_iff.1 hi).1
    refine (h.2 i f hi).nodes (fun j u hj e => ?_) (fun v hv => hv)
    have e' : xs[i * 6 + j]? = some u := e
    show w.cell? ⟨g, 0 + (i * 6 + j), none⟩ = some u
    rw [Nat.zero_add, hown.cellAt _ (by omega)]
    exact e'

theorem own_row {w : World} {base : Nat} {e : TypeId} {size n : Nat} {v : Value} {xs : List Value} (h : w.ownsRow base e size v n xs) (he : e ≠ 24) : ∀ g, v.ownBlock = some g → base ≤ g ∧ ∀ cs, ¬ Blk w g 24 cs := by
  intro g hg
  refine ⟨(h.lt g hg).1, fun cs hb => ?_⟩
  exact hb.own_ne h he hg.symm
theorem news6 (w : World) (c0 c1 c2 c3 c4 c5 : Value) (t : TypeId) : ∀ j x, [c0, c1, c2, c3, c4, c5][j]? = some x → (w.alloc (.cells #[c0, c1, c2, c3, c4, c5] t)).cell? ((⟨w.heap.size, 0, none⟩ : Addr).add j) = some x := fun j x h => by
  rw [Go.WideShapes.add_plain, Nat.zero_add, World.cell?_alloc_at _ _ _ _ rfl]
  simpa using h
theorem one6 (kd nm v : Int) (s : ByteArray) (a : Option Addr) (n c : Nat) (b : Bool) : ∀ u ∈ [Value.int .u8 kd, .int .i64 nm, .string s, .slice a n c, .int .i64 v, .bool b], u.oneCell' = true := by
  intro u hu
  simp only [List.mem_cons, List.not_mem_nil, or_false] at hu
  rcases hu with rfl | rfl | rfl | rfl | rfl | rfl <;> rfl
theorem asz (w : World) (o : Obj) : (w.alloc o).heap.size = w.heap.size + 1 := by simp
theorem own_gt {w w' : World} {base : Nat} {e : TypeId} {size n : Nat} {v : Value} {xs : List Value} (h : w.ownsRow base e size v n xs) (hb : Below w.heap.size w w') : w'.ownsRow base e size v n xs := own_below h hb

theorem cf_fold (args : Array Value) (w : World) : (callFunc 38 args).run Try.prog w = .ok (.enter 38 args) w := by kernel_rfl

def FoldsR (B : Nat) (fs : List F) (w : World) (e : Ending) (w' : World) : Prop := ∃ r, e = .returned r ∧ FoldsP (PB B w.heap.size w') w' r fs ∧ Below w.heap.size w w'

set_option maxRecDepth 100000 in
set_option maxHeartbeats 4000000 in
theorem each1_any (ks : List T) (W0 w : World) (u : Value) (hk : KidsAt W0 u ks) (hb : Below W0.heap.size W0 w) (hlen : ks.length ≤ 1000)
    (ih : ∀ t ∈ ks, ∀ (v : Value) (W0 w : World), NodeAt W0 v t → Below W0.heap.size W0 w → Calls Try.prog 38 #[v] w (FoldR W0.heap.size (foldF t) w)) :
    Calls Try.prog 46 #[u, .func (.func 38) #[] #[]] w (FoldsR W0.heap.size (foldL ks) w) := by
  obtain ⟨a, c, rfl, hn, hm, hq⟩ := hk
  obtain ⟨n, hnk⟩ : ∃ n, n = ks.length := ⟨_, rfl⟩
  rw [← hnk] at hn hlen ⊢
  have hn63 : n ≤ 9223372036854775807 := by omega
  obtain ⟨j0, hj0, hy0, hy1, hy2⟩ := info_parts foldInfo
  have HQ := Lib.hid hq
  have HN := Lib.hid hnk
  have HB := Lib.hid hb
  have IH := Lib.hid ih
  have hcf := cf_fold
  clear hq hnk hb ih hn hm
  go_enter Try.func46, Try.ntmps46
  go_wp2_with fail
  go_loopg [5, 10] n (fun q v i wr => ∃ (k : Nat) (xs : List Value), k + q = n ∧ i = .int .i64 k ∧ wr.ownsRow w.heap.size 63 6 v k xs ∧ FList (PB W0.heap.size w.heap.size wr) wr xs ((foldL ks).take k) ∧ Below w.heap.size w wr)
  case atStart => exact ⟨0, [], by omega, rfl, World.ownsRow_nil _ _ _ _, FList.nil _ _, Below.refl _ _⟩
  case round =>
    obtain ⟨k, xs, hk, rfl, hown, hfl, hb⟩ := hrel
    have Hk := Lib.hid hk
    have hkn : k ≤ n := by omega
    have HOWN := Lib.hid hown
    have HFL := Lib.hid hfl
    have HX := Lib.hid hb
    have hsz := hb.size
    have hsz0 := HB.out.size
    clear hk hown hfl hb
    by_cases hlt : k < n
    · have hlt' : (k : Int) < (n : Int) := by omega
      obtain ⟨g, off, rfl, hg, hq⟩ := HQ.out (by rw [← HN.out]; omega)
      obtain ⟨t, ht, htm⟩ := kid_get (ks := ks) (k := k) (by rw [← HN.out]; omega)
      obtain ⟨kd', nm', s', a', n', c', q0, q1, q2, q3, q4⟩ := hq.getF k t ht
      have hbW : Below W0.heap.size W0 wr := HB.out.trans (HX.out.mono HB.out.size)
      have m0 := cell_below hbW hg q0
      have m1 := cell_below hbW hg q1
      have m2 := cell_below hbW hg q2
      have m3 := cell_below hbW hg q3
      have HC := Lib.hid (IH.out t htm _ W0 (wr.alloc (.cells #[.int .u8 kd', .int .i64 nm', .string s', .slice a' n' c'] 24)) q4 (hbW.alloc hbW.size _))
      have HT : Hid ((foldL ks).take (k + 1) = (foldL ks).take k ++ [foldF t]) := by
        unfold Hid
        rw [List.take_add_one, foldL_get ks k t ht]; rfl
      generalize foldF t = f at *
      obtain ⟨f1, f2, f3⟩ := f
      clear hq q0 q1 q2 q3 q4 ht htm hbW
      go_wp2_with fail
      refine HC.out.mono ?_
      rintro e w4 ⟨kd, nm, s, a4, n4, c4, rfl, hnode, hi64, hb4⟩
      have HB4 : Hid (Below wr.heap.size wr w4) := Lib.hid (below_next (below_alloc wr _) (Nat.le_refl _) hb4)
      have HND := Lib.hid hnode
      have HI64 := Lib.hid hi64
      have hsz4 : wr.heap.size ≤ w4.heap.size := HB4.out.size
      clear hnode hi64 hb4 HC
      go_wp2_with (refine wpList_append_own _ rfl (.tmp 14) (.tmp 18) 74 rfl w.heap.size 63 j0 (.agg #[.int .u8 0, .int .i64 0, .string ⟨#[]⟩, .slice none 0 0, .int .i64 0, .bool false]) 6 72 Try.underlying74 hj0 hy0 hy1 hy2 rfl (by decide) _ k xs rfl ((own_gt HOWN.out HB4.out).alloc _) ⟨w4.heap.size, 0, none⟩ 1 1 [.int .u8 kd, .int .i64 nm, .string s, .slice a4 n4 c4, .int .i64 f2, .bool f3] rfl rfl (news6 _ _ _ _ _ _ _ _) (one6 _ _ _ _ _ _ _ _) (by unfold maxLen; omega) (by omega) (by simp only [asz]; omega) ?_; intro v5 w5 hown5 hgr5 _; have HOWN5 := Lib.hid hown5; have HGR5 := Lib.hid hgr5; clear hown5 hgr5)
      have hb45 : Below w4.heap.size w4 (w4.alloc (.cells #[.int .u8 kd, .int .i64 nm, .string s, .slice a4 n4 c4, .int .i64 f2, .bool f3] 63)) := below_alloc _ _
      have ho4 : (w4.alloc (.cells #[.int .u8 kd, .int .i64 nm, .string s, .slice a4 n4 c4, .int .i64 f2, .bool f3] 63)).ownsRow w.heap.size 63 6 _ k xs := (own_gt HOWN.out HB4.out).alloc _
      have hr := own_row ho4 (by decide)
      have hrow : ∀ g, _ = some g → W0.heap.size ≤ g ∧ _ := fun g hg => ⟨Nat.le_trans hsz0 (hr g hg).1, (hr g hg).2⟩
      have hfl4 := (HFL.out.mono (fun v t h => (NodeP.next h (by omega) (Nat.le_refl _) HB4.out).next (by omega) (Nat.le_refl _) hb45))
      have hfl5 := (hfl4.snoc (f := (f1, f2, f3)) (HND.out.next (by omega) (by simp only [asz]; omega) hb45) HI64.out).mono (fun v t h => NodeP.grown h (by simp only [asz]; omega) HGR5.out hrow)
      rw [← HT.out] at hfl5
      have hx5 := (below_next (below_next HX.out (Nat.le_refl _) HB4.out) (Nat.le_refl _) hb45).grown HGR5.out (by simp only [asz]; omega) (fun j hj => (hr j hj).1)
      have HFL5 := Lib.hid hfl5
      have HX5 := Lib.hid hx5
      clear hb45 ho4 hr hrow hfl4 hfl5 hx5
      have hk := Hk.out
      go_roundg (n - (k + 1))
      case measure => omega
      case rel => exact ⟨k + 1, _, by omega, by go_num, HOWN5.out, HFL5.out, HX5.out⟩
    · have hge : ¬ (k : Int) < (n : Int) := by omega
      have hkn2 : k = n := by omega
      have hfl := HFL.out
      have hfll := foldL_len ks
      rw [List.take_of_length_le (by rw [hfll, ← HN.out]; omega)] at hfl
      have hown := HOWN.out
      rw [show k = (foldL ks).length by rw [hfll, ← HN.out]; exact hkn2] at hown
      have HF := Lib.hid (hfl.folds hown)
      clear hfl hfll hown hkn2
      go_wp2_with fail
      go_ret
      exact ⟨_, rfl, HF.out, HX.out⟩
end Go.Proofs.Ytlpmoklcdocmmaa
