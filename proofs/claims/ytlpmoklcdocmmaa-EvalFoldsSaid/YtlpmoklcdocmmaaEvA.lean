/- The walk of awake. -/
import Derived.Test.YtlpmoklcdocmmaaEvW7
import Derived.Deep.RegionHeld3
import Derived.Deep.DeepCutAuto
namespace Go.Proofs.Ytlpmoklcdocmmaa
open Go.RowKit

theorem results_node1 {fn : Func} {r : Tmp} (h : fn.results = #[.cell r 24]) (tmps : Array Value) (w : World) (g : Nat) (c0 c1 c2 c3 : Value) (hp : tmps.getD r undef = .pointer (some ⟨g, 0, none⟩)) (hb : Blk w g 24 #[c0, c1, c2, c3]) :
    (results fn tmps).run Try.prog w = .ok (.agg #[c0, c1, c2, c3]) w := by
  have b0 := hb.cell 0
  have b1 := hb.cell 1
  have b2 := hb.cell 2
  have b3 := hb.cell 3
  rw [Array.getD_eq_getD_getElem?] at hp
  simp [results, h, hp, go_sem, b0, b1, b2, b3]

theorem kids_none (w : World) : KidsAt w (.slice none 0 0) [] := ⟨none, 0, rfl, Nat.le_refl _, by unfold maxLen; omega, fun h => absurd h (by decide)⟩
theorem leaf_at (w : World) (k n : Int) (s : ByteArray) (hk : 0 ≤ k ∧ k ≤ 255) (hn : I64 n) (hs : s.size ≤ maxLen) : NodeAt w (.agg #[.int .u8 k, .int .i64 n, .string s, .slice none 0 0]) (.mk k n s []) :=
  NodeAt.mk_iff.2 ⟨_, rfl, hk, hn, hs, kids_none w⟩

theorem num_any (x : Int) (w : World) : Calls Try.prog 25 #[.int .i64 x] w fun e w' => e = .returned (.agg #[.int .u8 1, .int .i64 x, .string ⟨#[]⟩, .slice none 0 0]) ∧ Below w.heap.size w w' := by
  go_enter Try.func25, Try.ntmps25
  go_wp2_with fail
  refine bodyPost_ret (results_node1 rfl _ _ _ _ _ _ _ rfl (Blk.new _ _ _)) rfl ⟨rfl, below_alloc _ _⟩

theorem kids1_at {w : World} {g : Nat} {kd nm : Int} {s : ByteArray} {a : Option Addr} {n c : Nat} {t : T} (hb : Blk w g 24 #[.int .u8 kd, .int .i64 nm, .string s, .slice a n c]) (h : NodeAt w (.agg #[.int .u8 kd, .int .i64 nm, .string s, .slice a n c]) t) :
    KidsAt w (.slice (some ⟨g, 0, none⟩) 1 1) [t] := by
  refine ⟨_, 1, rfl, Nat.le_refl _, by unfold maxLen; omega, fun _ => ⟨g, 0, rfl, hb.lt, NodesAt.of fun i t' ht => ?_⟩⟩
  match i, ht with
  | 0, ht =>
    simp at ht; subst ht
    exact ⟨_, _, _, _, hb.cell 0, hb.cell 1, hb.cell 2, hb.cell 3, h⟩
theorem kids2_at {w : World} {g : Nat} {kd nm : Int} {s : ByteArray} {a : Option Addr} {n c : Nat} {t : T} {kd2 nm2 : Int} {s2 : ByteArray} {a2 : Option Addr} {n2 c2 : Nat} {t2 : T}
    (hb : Blk w g 24 #[.int .u8 kd, .int .i64 nm, .string s, .slice a n c, .int .u8 kd2, .int .i64 nm2, .string s2, .slice a2 n2 c2]) (h : NodeAt w (.agg #[.int .u8 kd, .int .i64 nm, .string s, .slice a n c]) t) (h2 : NodeAt w (.agg #[.int .u8 kd2, .int .i64 nm2, .string s2, .slice a2 n2 c2]) t2) :
    KidsAt w (.slice (some ⟨g, 0, none⟩) 2 2) [t, t2] := by
  refine ⟨_, 2, rfl, Nat.le_refl _, by unfold maxLen; omega, fun _ => ⟨g, 0, rfl, hb.lt, NodesAt.of fun i t' ht => ?_⟩⟩
  match i, ht with
  | 0, ht =>
    simp at ht; subst ht
    exact ⟨_, _, _, _, hb.cell 0, hb.cell 1, hb.cell 2, hb.cell 3, h⟩
  | 1, ht =>
    simp at ht; subst ht
    exact ⟨_, _, _, _, hb.cell 4, hb.cell 5, hb.cell 6, hb.cell 7, h2⟩

set_option maxRecDepth 100000 in
theorem bin_any (op : Int) (ho : 0 ≤ op ∧ op ≤ 255) (a b : Value) (ta tb : T) (w : World) (ha : NodeAt w a ta) (hb : NodeAt w b tb) : Calls Try.prog 26 #[.int .u8 op, a, b] w fun e w' => ∃ u, e = .returned (.agg #[.int .u8 op, .int .i64 0, .string ⟨#[]⟩, u]) ∧ NodeAt w' (.agg #[.int .u8 op, .int .i64 0, .string ⟨#[]⟩, u]) (.mk op 0 ⟨#[]⟩ [ta, tb]) ∧ Below w.heap.size w w' := by
  obtain ⟨kd, nm, s, a1, n, c, rfl⟩ := node_form ha
  obtain ⟨kd2, nm2, s2, a2, n2, c2, rfl⟩ := node_form hb
  have HA := Lib.hid ha
  have HB := Lib.hid hb
  have HO := Lib.hid ho
  clear ha hb ho
  go_enter Try.func26, Try.ntmps26
  go_wp2_with fail
  have hbel := ((((Below.refl w.heap.size w).alloc (Nat.le_refl _) (.cells #[.int .u8 kd, .int .i64 nm, .string s, .slice a1 n c] 24)).alloc (by simp) (.cells #[.int .u8 kd2, .int .i64 nm2, .string s2, .slice a2 n2 c2] 24)).alloc (by simp; omega)
    (.cells #[.int .u8 op, .int .i64 0, .string ⟨#[]⟩, .slice (some ⟨w.heap.size + 1 + 1 + 1, 0, none⟩) 2 2] 24)).alloc (by simp; omega) (.cells #[.int .u8 kd, .int .i64 nm, .string s, .slice a1 n c, .int .u8 kd2, .int .i64 nm2, .string s2, .slice a2 n2 c2] 24)
  refine bodyPost_ret (results_node1 rfl _ _ (w.heap.size + 1 + 1) _ _ _ _ rfl ((Blk.new' (by simp)).al _)) rfl ⟨_, rfl, ?_, hbel⟩
  refine NodeAt.mk_iff.2 ⟨_, rfl, HO.out, by simp [I64], by decide, ?_⟩
  exact kids2_at (Blk.new' (by simp)) (HA.out.below hbel (Nat.le_refl _)) (HB.out.below hbel (Nat.le_refl _))

set_option maxRecDepth 100000 in
theorem item_any (a : Value) (ta : T) (w : World) (ha : NodeAt w a ta) : Calls Try.prog 27 #[a] w fun e w' => ∃ u, e = .returned (.agg #[.int .u8 3, .int .i64 0, .string ⟨#[97]⟩, u]) ∧ NodeAt w' (.agg #[.int .u8 3, .int .i64 0, .string ⟨#[97]⟩, u]) (.mk 3 0 ⟨#[97]⟩ [ta]) ∧ Below w.heap.size w w' := by
  obtain ⟨kd, nm, s, a1, n, c, rfl⟩ := node_form ha
  have HA := Lib.hid ha
  clear ha
  go_enter Try.func27, Try.ntmps27
  go_wp2_with fail
  have hbel := (((Below.refl w.heap.size w).alloc (Nat.le_refl _) (.cells #[.int .u8 kd, .int .i64 nm, .string s, .slice a1 n c] 24)).alloc (by simp)
    (.cells #[.int .u8 3, .int .i64 0, .string ⟨#[97]⟩, .slice (some ⟨w.heap.size + 1 + 1, 0, none⟩) 1 1] 24)).alloc (by simp; omega) (.cells #[.int .u8 kd, .int .i64 nm, .string s, .slice a1 n c] 24)
  refine bodyPost_ret (results_node1 rfl _ _ (w.heap.size + 1) _ _ _ _ rfl ((Blk.new' (by simp)).al _)) rfl ⟨_, rfl, ?_, hbel⟩
  refine NodeAt.mk_iff.2 ⟨_, rfl, by decide, by simp [I64], by decide, ?_⟩
  exact kids1_at (Blk.new' (by simp)) (HA.out.below hbel (Nat.le_refl _))

theorem ints_blk {w : World} {g : Nat} {l : List Int} (hb : Blk w g 3 (l.map (Value.int .i64)).toArray) (hl : ∀ x ∈ l, I64 x) (hm : l.length ≤ 1000) : IntsAt w (.slice (some ⟨g, 0, none⟩) l.length l.length) l := by
  refine ⟨⟨_, l.length, rfl, Nat.le_refl _, by unfold maxLen; omega, fun _ => ⟨g, 0, rfl, hb.lt, fun i x hx => ?_⟩⟩, hl⟩
  rw [Nat.zero_add, hb.cell i, List.getElem?_toArray, List.getElem?_map, hx]
  rfl
theorem env2_blk {w : World} {g : Nat} {x y : ByteArray} {u v : Value} {l m : List Int} (hb : Blk w g 32 #[.string x, u, .string y, v]) (h1 : IntsAt w u l) (h2 : IntsAt w v m) (hx : x.size ≤ maxLen) (hy : y.size ≤ maxLen) :
    EnvAt w (.slice (some ⟨g, 0, none⟩) 2 2) [(x, l), (y, m)] := by
  refine ⟨⟨_, 2, rfl, Nat.le_refl _, by unfold maxLen; omega, fun _ => ⟨g, 0, rfl, hb.lt, fun i c hc => ?_⟩⟩, fun c hc => ?_⟩
  · match i, hc with
    | 0, hc => simp at hc; subst hc; exact ⟨hb.cell 0, u, hb.cell 1, h1⟩
    | 1, hc => simp at hc; subst hc; exact ⟨hb.cell 2, v, hb.cell 3, h2⟩
  · simp only [List.mem_cons, List.not_mem_nil, or_false] at hc
    rcases hc with rfl | rfl
    · exact hx
    · exact hy

theorem expr_v {env : Env} {t : T} {a b : Int} (hv : exprV env t = (a, b)) (v f : Value) (w : World) (h : NodeAt w v t) (hf : AtL w f env) :
    Calls Try.prog 15 #[v, f] w fun e w' => e = .returned (.tuple #[.int .i64 a, .int .i64 b]) ∧ Below w.heap.size w w' := by
  refine (expr_any env t v f w h hf).mono ?_
  rw [hv]
  rintro e w' ⟨rfl, h2⟩
  exact ⟨rfl, h2⟩

theorem drew_node {w : World} {v : Value} {t : T} (h : NodeAt w v t) : NodeAt w.drew v t := h.below (B := w.heap.size) (below_drew (Below.refl _ _)) (Nat.le_refl _)

def envA : Env := [(⟨#[120]⟩, [3]), (⟨#[97]⟩, [5, 7])]
def tX : T := .mk 2 0 ⟨#[120]⟩ []
def tN (n : Int) : T := .mk 1 n ⟨#[]⟩ []
def tA1 : T := .mk 9 0 ⟨#[]⟩ [tX, tN 2]
def tA2 : T := .mk 3 0 ⟨#[97]⟩ [tA1]
def tA3 : T := .mk 10 0 ⟨#[]⟩ [tA2, tN 2]
def tB : T := .mk 3 0 ⟨#[97]⟩ [tX]
def tC1 : T := .mk 9 0 ⟨#[]⟩ [tX, tN 3]
def tC2 : T := .mk 11 0 ⟨#[]⟩ [tX, tC1]
def tD1 : T := .mk 11 0 ⟨#[]⟩ [tN 1, tN 0]
def tD2 : T := .mk 22 0 ⟨#[]⟩ [tN 0, tD1]
theorem vA : exprV envA tA3 = (14, 0) := by decide +kernel
theorem vB : exprV envA tB = (0, 12) := by decide +kernel
theorem vC : exprV envA tC2 = (0, 11) := by decide +kernel
theorem vD : exprV envA tD2 = (0, 11) := by decide +kernel
theorem xat (w : World) : NodeAt w (.agg #[.int .u8 2, .int .i64 0, .string ⟨#[120]⟩, .slice none 0 0]) tX := leaf_at w 2 0 _ (by decide) (by simp [I64]) (by decide)
theorem nat (w : World) (n : Int) (h : I64 n) : NodeAt w (.agg #[.int .u8 1, .int .i64 n, .string ⟨#[]⟩, .slice none 0 0]) (tN n) := leaf_at w 1 n _ (by decide) h (by decide)

set_option maxRecDepth 100000 in
set_option maxHeartbeats 4000000 in
theorem awake_any (w : World) : Calls Try.prog 11 #[] w fun e w' => e = .returned (.bool true) ∧ Below w.heap.size w w' := by
  obtain ⟨W, hW⟩ : ∃ W, W = ((((w.alloc (.cells #[.int .u8 2, .int .i64 0, .string ⟨#[120]⟩, .slice none 0 0] 24)).alloc (.cells #[.int .i64 3] 3)).alloc (.cells #[.int .i64 5, .int .i64 7] 3)).alloc
      (.cells #[.string ⟨#[120]⟩, .slice (some ⟨w.heap.size + 1, 0, none⟩) 1 1, .string ⟨#[97]⟩, .slice (some ⟨w.heap.size + 1 + 1, 0, none⟩) 2 2] 32)) := ⟨_, rfl⟩
  have hb0 : Below w.heap.size w W := by
    rw [hW]
    exact ((((Below.refl w.heap.size w).alloc (Nat.le_refl _) _).alloc (by simp) _).alloc (by simp; omega) _).alloc (by simp; omega) _
  have hx0 : Blk W w.heap.size 24 #[.int .u8 2, .int .i64 0, .string ⟨#[120]⟩, .slice none 0 0] := by rw [hW]; exact (((Blk.new _ _ _).al _).al _).al _
  have hi1 : Blk W (w.heap.size + 1) 3 #[.int .i64 3] := by rw [hW]; exact ((Blk.new' (by simp)).al _).al _
  have hi2 : Blk W (w.heap.size + 1 + 1) 3 #[.int .i64 5, .int .i64 7] := by rw [hW]; exact (Blk.new' (by simp)).al _
  have hc0 : Blk W (w.heap.size + 1 + 1 + 1) 32 #[.string ⟨#[120]⟩, .slice (some ⟨w.heap.size + 1, 0, none⟩) 1 1, .string ⟨#[97]⟩, .slice (some ⟨w.heap.size + 1 + 1, 0, none⟩) 2 2] := by rw [hW]; exact Blk.new' (by simp)
  have HL := Lib.hid (lookup_any envA _ W (env2_blk hc0 (ints_blk (l := [3]) hi1 (by simp [I64]) (by decide)) (ints_blk (l := [5, 7]) hi2 (by simp [I64]) (by decide)) (by decide) (by decide)))
  have HB0 := Lib.hid hb0
  have HX0 := Lib.hid hx0
  have hwW : w.heap.size < W.heap.size := hx0.lt
  clear hb0 hx0 hi1 hi2 hc0
  have hcf25 : ∀ (args : Array Value) (w : World), (callFunc 25 args).run Try.prog w = .ok (.enter 25 args) w := fun _ _ => by kernel_rfl
  have hcf26 : ∀ (args : Array Value) (w : World), (callFunc 26 args).run Try.prog w = .ok (.enter 26 args) w := fun _ _ => by kernel_rfl
  have hcf27 : ∀ (args : Array Value) (w : World), (callFunc 27 args).run Try.prog w = .ok (.enter 27 args) w := fun _ _ => by kernel_rfl
  have HW := Lib.hid hW
  clear hW
  go_enter Try.func11, Try.ntmps11
  go_wp2_with fail
  rw [← HW.out]
  refine HL.out.mono ?_
  rintro e w1 ⟨f, rfl, hA, hb1⟩
  have HA := Lib.hid hA
  have HX1 := Lib.hid (HX0.out.next hb1)
  have hw1 : w.heap.size < w1.heap.size := Nat.lt_of_lt_of_le hwW hb1.size
  have HB1 := Lib.hid (below_next HB0.out (Nat.le_refl _) hb1)
  have HX : Hid (Below w1.heap.size w1 w1) := Lib.hid (Below.refl _ _)
  obtain ⟨b, ev, rfl, -, -, -⟩ := id hA
  have b0 := HX1.out.cell 0
  have b1 := HX1.out.cell 1
  have b2 := HX1.out.cell 2
  have b3 := HX1.out.cell 3
  clear hA hb1 HL HX0
  go_wp2_with fail
  go_region_held3 (fun w' => w'.cell? ⟨w.heap.size, 0, none⟩ = some (.int .u8 2) ∧ w'.cell? ⟨w.heap.size, 1, none⟩ = some (.int .i64 0) ∧ w'.cell? ⟨w.heap.size, 2, none⟩ = some (.string ⟨#[120]⟩) ∧ w'.cell? ⟨w.heap.size, 3, none⟩ = some (.slice none 0 0))
    (first | exact ⟨b0, b1, b2, b3⟩ | exact ⟨cell_below HX.out hw1 b0, cell_below HX.out hw1 b1, cell_below HX.out hw1 b2, cell_below HX.out hw1 b3⟩)
    (first
      | (go_at_call 25; refine (num_any _ _).mono ?_; rintro e wn ⟨rfl, hbn⟩; have HX := Lib.hid (by first | exact below_next HX.out (Nat.le_refl _) hbn | exact below_next' HX.out (Nat.le_refl _) hbn); (try (have HN := Lib.hid (HN.out.below hbn (Nat.le_refl _)))); clear hbn)
      | (go_at_call 26; (first | (with_reducible refine (bin_any 9 (by decide) _ _ tX (tN 2) _ (xat _) (nat _ 2 (by simp [I64]))).mono ?_) | (with_reducible refine (bin_any 10 (by decide) _ _ tA2 (tN 2) _ HN.out (nat _ 2 (by simp [I64]))).mono ?_)); rintro e wn ⟨un, rfl, hn, hbn⟩; have HX := Lib.hid (below_next HX.out (Nat.le_refl _) hbn); have HN := Lib.hid hn; clear hn hbn)
      | (go_at_call 27; (with_reducible refine (item_any _ tA1 _ HN.out).mono ?_); rintro e wn ⟨un, rfl, hn, hbn⟩; have HX := Lib.hid (below_next HX.out (Nat.le_refl _) hbn); have HN := Lib.hid hn; clear hn hbn)
      | (go_at_call 15; (with_reducible refine (expr_v vA _ _ _ HN.out (HA.out.below HX.out (Nat.le_refl _))).mono ?_); rintro e wn ⟨rfl, hbn⟩; have HX := Lib.hid (below_next HX.out (Nat.le_refl _) hbn); clear HN hbn))
  have c0 := cell_below HX.out hw1 b0
  have c1 := cell_below HX.out hw1 b1
  have c2 := cell_below HX.out hw1 b2
  have c3 := cell_below HX.out hw1 b3
  go_wp2_with fail
  refine (item_any _ tX _ (xat _)).mono ?_
  rintro e wn ⟨un, rfl, hn, hbn⟩
  have HX := Lib.hid (below_next HX.out (Nat.le_refl _) hbn)
  have HN := Lib.hid hn
  clear hn hbn c0 c1 c2 c3
  go_wp2_with fail
  refine (expr_v vB _ _ _ HN.out (HA.out.below HX.out (Nat.le_refl _))).mono ?_
  rintro e wn ⟨rfl, hbn⟩
  have HX := Lib.hid (below_next HX.out (Nat.le_refl _) hbn)
  clear hbn HN
  have c0 := cell_below HX.out hw1 b0
  have c1 := cell_below HX.out hw1 b1
  have c2 := cell_below HX.out hw1 b2
  have c3 := cell_below HX.out hw1 b3
  go_wp2_with fail
  go_region_held3 (fun w' => w'.cell? ⟨w.heap.size, 0, none⟩ = some (.int .u8 2) ∧ w'.cell? ⟨w.heap.size, 1, none⟩ = some (.int .i64 0) ∧ w'.cell? ⟨w.heap.size, 2, none⟩ = some (.string ⟨#[120]⟩) ∧ w'.cell? ⟨w.heap.size, 3, none⟩ = some (.slice none 0 0))
    (first | exact ⟨c0, c1, c2, c3⟩ | exact ⟨cell_below HX.out hw1 b0, cell_below HX.out hw1 b1, cell_below HX.out hw1 b2, cell_below HX.out hw1 b3⟩)
    (first
      | (go_at_call 25; refine (num_any _ _).mono ?_; rintro e wn ⟨rfl, hbn⟩; have HX := Lib.hid (by first | exact below_next HX.out (Nat.le_refl _) hbn | exact below_next' HX.out (Nat.le_refl _) hbn); clear hbn)
      | (go_at_call 26; (first | (with_reducible refine (bin_any 9 (by decide) _ _ tX (tN 3) _ (xat _) (nat _ 3 (by simp [I64]))).mono ?_) | (with_reducible refine (bin_any 11 (by decide) _ _ tX tC1 _ (xat _) HN.out).mono ?_)); rintro e wn ⟨un, rfl, hn, hbn⟩; have HX := Lib.hid (below_next HX.out (Nat.le_refl _) hbn); have HN := Lib.hid hn; clear hn hbn)
      | (go_at_call 15; (with_reducible refine (expr_v vC _ _ _ HN.out (HA.out.below HX.out (Nat.le_refl _))).mono ?_); rintro e wn ⟨rfl, hbn⟩; have HX := Lib.hid (below_next HX.out (Nat.le_refl _) hbn); clear HN hbn))
  clear c0 c1 c2 c3
  go_wp2_with fail
  refine (num_any 0 _).mono ?_
  rintro e wn ⟨rfl, hbn⟩
  have HX := Lib.hid (below_next HX.out (Nat.le_refl _) hbn)
  clear hbn
  go_wp2_with fail
  refine (num_any 1 _).mono ?_
  rintro e wn ⟨rfl, hbn⟩
  have HX := Lib.hid (below_next HX.out (Nat.le_refl _) hbn)
  clear hbn
  go_wp2_with fail
  refine (num_any 0 _).mono ?_
  rintro e wn ⟨rfl, hbn⟩
  have HX := Lib.hid (below_next HX.out (Nat.le_refl _) hbn)
  clear hbn
  go_wp2_with fail
  refine (bin_any 11 (by decide) _ _ (tN 1) (tN 0) _ (nat _ 1 (by simp [I64])) (nat _ 0 (by simp [I64]))).mono ?_
  rintro e wn ⟨un, rfl, hn, hbn⟩
  have HX := Lib.hid (below_next HX.out (Nat.le_refl _) hbn)
  have HN := Lib.hid hn
  clear hn hbn
  go_wp2_with fail
  refine (bin_any 22 (by decide) _ _ (tN 0) tD1 _ (nat _ 0 (by simp [I64])) HN.out).mono ?_
  rintro e wn ⟨un2, rfl, hn, hbn⟩
  have HX := Lib.hid (below_next HX.out (Nat.le_refl _) hbn)
  have HN := Lib.hid hn
  clear hn hbn
  go_wp2_with fail
  refine (expr_v vD _ _ _ HN.out (HA.out.below HX.out (Nat.le_refl _))).mono ?_
  rintro e wn ⟨rfl, hbn⟩
  have HX := Lib.hid (below_next HX.out (Nat.le_refl _) hbn)
  clear hbn HN
  go_wp2_with fail
  go_ret
  exact ⟨rfl, HB1.out.trans (HX.out.mono HB1.out.size)⟩
end Go.Proofs.Ytlpmoklcdocmmaa
