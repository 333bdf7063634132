/- The walk of awake. -/
import Derived.Test.YtpbbiidfahaamaaStD3
import Derived.Test.YtpbbiidfahaamaaStE3
import Derived.Laws.BytesArg
import Derived.Laws.IdiomStrings
namespace Go.Proofs.Ytpbbiidfahaamaa
open Go.RowKit

theorem ints_lit (w : World) (l : List Int) (b n : Nat) (hb : b = w.heap.size) (hn : n = l.length) (hl : ∀ x ∈ l, I64 x) (hm : n ≤ 1000) :
    IntsAt (w.alloc (.cells (l.map (Value.int .i64)).toArray 3)) (.slice (some ⟨b, 0, none⟩) n n) l := by
  subst hb hn
  refine IntsAt.of_own (base := 0) ?_ hl
  have := World.ownsRow_lit (base := 0) (e := 3) (size := 1) w (l.map (Value.int .i64)).toArray l.length (Nat.zero_le _) (by unfold maxLen; omega) (by simp)
  simpa [intsV] using this

theorem rows_lit (w : World) (vs : List Value) (L : List (List Int)) (b n : Nat) (hb : b = w.heap.size) (hn : n = L.length) (hm : n ≤ 1000) (hv : ∀ (i : Nat) (l : List Int), L[i]? = some l → ∃ u, vs[i]? = some u ∧ IntsAt w u l) :
    RowsAt (w.alloc (.cells vs.toArray 23)) (.slice (some ⟨b, 0, none⟩) n n) L := by
  subst hb hn
  refine ⟨_, _, rfl, Nat.le_refl _, by unfold maxLen; omega, fun _ => ⟨w.heap.size, 0, rfl, by simp, fun i l hl => ?_⟩⟩
  obtain ⟨u, h1, h2⟩ := hv i l hl
  refine ⟨u, ?_, h2.below (below_alloc _ _) (Nat.le_refl _)⟩
  rw [World.cell?_alloc_at _ _ _ _ rfl]
  simpa using h1

theorem ints_nil (w : World) : IntsAt w (.slice none 0 0) [] := ⟨⟨none, 0, rfl, Nat.le_refl _, by unfold maxLen; omega, fun h => absurd h (by decide)⟩, by simp⟩

theorem own_convert {w : World} {base : Nat} {v : Value} {l : List UInt8} (h : w.ownsRow base 5 1 v l.length (bytesV l)) :
    (convert 47 9 v).run Try.prog w = .ok (.string ⟨l.toArray⟩) w := by
  rcases h.2 with ⟨rfl, h0⟩ | ⟨g, cap, cur, rfl, _⟩
  · have : l = [] := List.eq_nil_of_length_eq_zero h0
    subst this
    exact run_convert_bytes_nil w 47 5 Try.underlying47 Try.underlying5 0 0 9 Try.underlying9
  · refine run_convert_bytes_back w 47 9 5 _ cap l Try.underlying47 Try.underlying5 Try.underlying9 fun j hj => ?_
    rw [Go.WideShapes.add_plain, Nat.zero_add, h.cellAt j (by omega)]
    simp [bytesV, hj]

def exA : St := ⟨[[1], [5, 6]], [7, 8], []⟩
def exB : St := ⟨[[1], [5]], [8], []⟩
def exC : St := ⟨[[258]], [], []⟩
def exD : List Decl := [⟨⟨#[120]⟩, 1, 0⟩]
theorem ex_diff : diffP exA exB = [⟨1, -1, 2, 1⟩, ⟨1, 1, 6, 0⟩, ⟨-1, -1, 2, 1⟩, ⟨-1, 1, 7, 0⟩] := by decide +kernel
theorem ex_fits : fitsB exD exC = true := by decide +kernel
theorem ex_enc : encB exD exC = [0, 0, 0, 0, 0, 0, 1, 2, 0, 0, 0, 0] := by decide +kernel

set_option maxRecDepth 100000 in
set_option maxHeartbeats 4000000 in
theorem awake_any (w : World) :
    Calls Try.prog 13 #[] w fun e w' => e = .returned (.bool true) ∧ Below w.heap.size w w' := by
  obtain ⟨W1, h1⟩ : ∃ W, W = w.alloc (.cells #[.int .i64 1] 3) := ⟨_, rfl⟩
  obtain ⟨W2, h2⟩ : ∃ W, W = W1.alloc (.cells #[.int .i64 5, .int .i64 6] 3) := ⟨_, rfl⟩
  obtain ⟨W3, h3⟩ : ∃ W, W = W2.alloc (.cells #[.slice (some ⟨w.heap.size, 0, none⟩) 1 1, .slice (some ⟨w.heap.size + 1, 0, none⟩) 2 2] 23) := ⟨_, rfl⟩
  obtain ⟨W4, h4⟩ : ∃ W, W = W3.alloc (.cells #[.int .i64 7, .int .i64 8] 3) := ⟨_, rfl⟩
  obtain ⟨W5, h5⟩ : ∃ W, W = W4.alloc (.cells #[.slice (some ⟨w.heap.size + 1 + 1, 0, none⟩) 2 2, .slice (some ⟨w.heap.size + 1 + 1 + 1, 0, none⟩) 2 2, .slice none 0 0] 25) := ⟨_, rfl⟩
  obtain ⟨W6, h6⟩ : ∃ W, W = W5.alloc (.cells #[.int .i64 1] 3) := ⟨_, rfl⟩
  obtain ⟨W7, h7⟩ : ∃ W, W = W6.alloc (.cells #[.int .i64 5] 3) := ⟨_, rfl⟩
  obtain ⟨W8, h8⟩ : ∃ W, W = W7.alloc (.cells #[.slice (some ⟨w.heap.size + 1 + 1 + 1 + 1 + 1, 0, none⟩) 1 1, .slice (some ⟨w.heap.size + 1 + 1 + 1 + 1 + 1 + 1, 0, none⟩) 1 1] 23) := ⟨_, rfl⟩
  obtain ⟨W9, h9⟩ : ∃ W, W = W8.alloc (.cells #[.int .i64 8] 3) := ⟨_, rfl⟩
  obtain ⟨W10, h10⟩ : ∃ W, W = W9.alloc (.cells #[.slice (some ⟨w.heap.size + 1 + 1 + 1 + 1 + 1 + 1 + 1, 0, none⟩) 2 2, .slice (some ⟨w.heap.size + 1 + 1 + 1 + 1 + 1 + 1 + 1 + 1, 0, none⟩) 1 1, .slice none 0 0] 25) := ⟨_, rfl⟩
  have s1 : W1.heap.size = w.heap.size + 1 := by rw [h1]; simp
  have s2 : W2.heap.size = w.heap.size + 1 + 1 := by rw [h2]; simp [s1]
  have s3 : W3.heap.size = w.heap.size + 1 + 1 + 1 := by rw [h3]; simp [s2]
  have s4 : W4.heap.size = w.heap.size + 1 + 1 + 1 + 1 := by rw [h4]; simp [s3]
  have s5 : W5.heap.size = w.heap.size + 1 + 1 + 1 + 1 + 1 := by rw [h5]; simp [s4]
  have s6 : W6.heap.size = w.heap.size + 1 + 1 + 1 + 1 + 1 + 1 := by rw [h6]; simp [s5]
  have s7 : W7.heap.size = w.heap.size + 1 + 1 + 1 + 1 + 1 + 1 + 1 := by rw [h7]; simp [s6]
  have s8 : W8.heap.size = w.heap.size + 1 + 1 + 1 + 1 + 1 + 1 + 1 + 1 := by rw [h8]; simp [s7]
  have b1 : Below w.heap.size w W1 := by rw [h1]; exact below_alloc _ _
  have b2 : Below W1.heap.size W1 W2 := by rw [h2]; exact below_alloc _ _
  have b3 : Below W2.heap.size W2 W3 := by rw [h3]; exact below_alloc _ _
  have b4 : Below W3.heap.size W3 W4 := by rw [h4]; exact below_alloc _ _
  have b5 : Below W4.heap.size W4 W5 := by rw [h5]; exact below_alloc _ _
  have b6 : Below W5.heap.size W5 W6 := by rw [h6]; exact below_alloc _ _
  have b7 : Below W6.heap.size W6 W7 := by rw [h7]; exact below_alloc _ _
  have b8 : Below W7.heap.size W7 W8 := by rw [h8]; exact below_alloc _ _
  have b9 : Below W8.heap.size W8 W9 := by rw [h9]; exact below_alloc _ _
  have b10 : Below W9.heap.size W9 W10 := by rw [h10]; exact below_alloc _ _
  have i1 : IntsAt W1 (.slice (some ⟨w.heap.size, 0, none⟩) 1 1) [1] := by rw [h1]; exact ints_lit w [1] _ _ rfl rfl (by simp [I64]) (by decide)
  have i2 : IntsAt W2 (.slice (some ⟨w.heap.size + 1, 0, none⟩) 2 2) [5, 6] := by rw [h2]; exact ints_lit W1 [5, 6] _ _ s1.symm rfl (by simp [I64]) (by decide)
  have i3 : RowsAt W3 (.slice (some ⟨w.heap.size + 1 + 1, 0, none⟩) 2 2) [[1], [5, 6]] := by
    rw [h3]
    refine rows_lit W2 [_, _] _ _ _ s2.symm rfl (by decide) fun i l hl => ?_
    match i, hl with
    | 0, hl => simp only [List.getElem?_cons_zero, Option.some.injEq] at hl; subst hl; exact ⟨_, rfl, i1.below b2 (Nat.le_refl _)⟩
    | 1, hl => simp only [List.getElem?_cons_succ, List.getElem?_cons_zero, Option.some.injEq] at hl; subst hl; exact ⟨_, rfl, i2⟩
    | i + 2, hl => simp at hl
  have i4 : IntsAt W4 (.slice (some ⟨w.heap.size + 1 + 1 + 1, 0, none⟩) 2 2) [7, 8] := by rw [h4]; exact ints_lit W3 [7, 8] _ _ s3.symm rfl (by simp [I64]) (by decide)
  have i6 : IntsAt W6 (.slice (some ⟨w.heap.size + 1 + 1 + 1 + 1 + 1, 0, none⟩) 1 1) [1] := by rw [h6]; exact ints_lit W5 [1] _ _ s5.symm rfl (by simp [I64]) (by decide)
  have i7 : IntsAt W7 (.slice (some ⟨w.heap.size + 1 + 1 + 1 + 1 + 1 + 1, 0, none⟩) 1 1) [5] := by rw [h7]; exact ints_lit W6 [5] _ _ s6.symm rfl (by simp [I64]) (by decide)
  have i8 : RowsAt W8 (.slice (some ⟨w.heap.size + 1 + 1 + 1 + 1 + 1 + 1 + 1, 0, none⟩) 2 2) [[1], [5]] := by
    rw [h8]
    refine rows_lit W7 [_, _] _ _ _ s7.symm rfl (by decide) fun i l hl => ?_
    match i, hl with
    | 0, hl => simp only [List.getElem?_cons_zero, Option.some.injEq] at hl; subst hl; exact ⟨_, rfl, i6.below b7 (Nat.le_refl _)⟩
    | 1, hl => simp only [List.getElem?_cons_succ, List.getElem?_cons_zero, Option.some.injEq] at hl; subst hl; exact ⟨_, rfl, i7⟩
    | i + 2, hl => simp at hl
  have i9 : IntsAt W9 (.slice (some ⟨w.heap.size + 1 + 1 + 1 + 1 + 1 + 1 + 1 + 1, 0, none⟩) 1 1) [8] := by rw [h9]; exact ints_lit W8 [8] _ _ s8.symm rfl (by simp [I64]) (by decide)
  have c34 := b4
  have c410 : Below W4.heap.size W4 W10 := b5.trans ((b6.trans ((b7.trans ((b8.trans ((b9.trans (b10.mono b9.size)).mono b8.size)).mono b7.size)).mono b6.size)).mono b5.size)
  have c310 : Below W3.heap.size W3 W10 := b4.trans (c410.mono b4.size)
  have c010 : Below w.heap.size w W10 := b1.trans ((b2.trans ((b3.trans (c310.mono b3.size)).mono b2.size)).mono b1.size)
  have c810 : Below W8.heap.size W8 W10 := b9.trans (b10.mono b9.size)
  have HA : Hid (StAt W10 (.agg #[.slice (some ⟨w.heap.size + 1 + 1, 0, none⟩) 2 2, .slice (some ⟨w.heap.size + 1 + 1 + 1, 0, none⟩) 2 2, .slice none 0 0]) exA) :=
    ⟨_, _, _, rfl, i3.below c310 (Nat.le_refl _), i4.below c410 (Nat.le_refl _), ints_nil _⟩
  have HB : Hid (StAt W10 (.agg #[.slice (some ⟨w.heap.size + 1 + 1 + 1 + 1 + 1 + 1 + 1, 0, none⟩) 2 2, .slice (some ⟨w.heap.size + 1 + 1 + 1 + 1 + 1 + 1 + 1 + 1, 0, none⟩) 1 1, .slice none 0 0]) exB) :=
    ⟨_, _, _, rfl, i8.below c810 (Nat.le_refl _), i9.below b10 (Nat.le_refl _), ints_nil _⟩
  have HBW := Lib.hid c010
  have hE1 : W10 = ((((((((((w.alloc (.cells #[.int .i64 1] 3)).alloc (.cells #[.int .i64 5, .int .i64 6] 3)).alloc (.cells #[.slice (some ⟨w.heap.size, 0, none⟩) 1 1, .slice (some ⟨w.heap.size + 1, 0, none⟩) 2 2] 23)).alloc (.cells #[.int .i64 7, .int .i64 8] 3)).alloc
     (.cells #[.slice (some ⟨w.heap.size + 1 + 1, 0, none⟩) 2 2, .slice (some ⟨w.heap.size + 1 + 1 + 1, 0, none⟩) 2 2, .slice none 0 0] 25)).alloc (.cells #[.int .i64 1] 3)).alloc (.cells #[.int .i64 5] 3)).alloc (.cells #[.slice (some ⟨w.heap.size + 1 + 1 + 1 + 1 + 1, 0, none⟩) 1 1, .slice (some ⟨w.heap.size + 1 + 1 + 1 + 1 + 1 + 1, 0, none⟩) 1 1] 23)).alloc (.cells #[.int .i64 8] 3)).alloc
     (.cells #[.slice (some ⟨w.heap.size + 1 + 1 + 1 + 1 + 1 + 1 + 1, 0, none⟩) 2 2, .slice (some ⟨w.heap.size + 1 + 1 + 1 + 1 + 1 + 1 + 1 + 1, 0, none⟩) 1 1, .slice none 0 0] 25)) := by
    rw [h10, h9, h8, h7, h6, h5, h4, h3, h2, h1]
  have HE := Lib.hid hE1
  clear i1 i2 i3 i4 i6 i7 i8 i9 c34 c410 c310 c010 c810 b1 b2 b3 b4 b5 b6 b7 b8 b9 b10 s1 s2 s3 s4 s5 s6 s7 s8 hE1 h1 h2 h3 h4 h5 h6 h7 h8 h9 h10
  go_enter Try.func13, Try.ntmps13
  go_wp2_with fail
  rw [← HE.out]
  refine (diff_any exA exB _ _ _ HA.out HB.out ((small_iff _).1 (by decide)) ((small_iff _).1 (by decide))).mono ?_
  rintro e w1 ⟨r, rfl, hown, hb1⟩
  rw [ex_diff] at hown
  have Hb1 := Lib.hid (HBW.out.trans (hb1.mono HBW.out.size))
  rcases hown.2 with ⟨-, h0⟩ | ⟨g, cap, cur, rfl, -⟩
  · cases h0
  have m0 : w1.cell? ⟨g, 4, none⟩ = some (.int .i64 1) := by rw [hown.cellAt 4 (by decide)]; rfl
  have m1 : w1.cell? ⟨g, 5, none⟩ = some (.int .i64 1) := by rw [hown.cellAt 5 (by decide)]; rfl
  have m2 : w1.cell? ⟨g, 6, none⟩ = some (.int .i64 6) := by rw [hown.cellAt 6 (by decide)]; rfl
  have m3 : w1.cell? ⟨g, 7, none⟩ = some (.int .i64 0) := by rw [hown.cellAt 7 (by decide)]; rfl
  have n0 : w1.cell? ⟨g, 12, none⟩ = some (.int .i64 (-1)) := by rw [hown.cellAt 12 (by decide)]; rfl
  have n1 : w1.cell? ⟨g, 13, none⟩ = some (.int .i64 1) := by rw [hown.cellAt 13 (by decide)]; rfl
  have n2 : w1.cell? ⟨g, 14, none⟩ = some (.int .i64 7) := by rw [hown.cellAt 14 (by decide)]; rfl
  have n3 : w1.cell? ⟨g, 15, none⟩ = some (.int .i64 0) := by rw [hown.cellAt 15 (by decide)]; rfl
  have hgl : g < w1.heap.size := World.block_lt_of_cell? w1 _ m0
  obtain ⟨V1, h1⟩ : ∃ V, V = w1.alloc (.cells #[.string ⟨#[120]⟩, .int .u8 1, .int .i64 0] 44) := ⟨_, rfl⟩
  obtain ⟨V2, h2⟩ : ∃ V, V = V1.alloc (.cells #[.int .i64 258] 3) := ⟨_, rfl⟩
  obtain ⟨V3, h3⟩ : ∃ V, V = V2.alloc (.cells #[.slice (some ⟨w1.heap.size + 1, 0, none⟩) 1 1] 23) := ⟨_, rfl⟩
  have s1 : V1.heap.size = w1.heap.size + 1 := by rw [h1]; simp
  have s2 : V2.heap.size = w1.heap.size + 1 + 1 := by rw [h2]; simp [s1]
  have b1 : Below w1.heap.size w1 V1 := by rw [h1]; exact below_alloc _ _
  have b2 : Below V1.heap.size V1 V2 := by rw [h2]; exact below_alloc _ _
  have b3 : Below V2.heap.size V2 V3 := by rw [h3]; exact below_alloc _ _
  have b13 : Below V1.heap.size V1 V3 := b2.trans (b3.mono b2.size)
  have b03 : Below w1.heap.size w1 V3 := b1.trans (b13.mono b1.size)
  have i0 : DeclsAt V1 (.slice (some ⟨w1.heap.size, 0, none⟩) 1 1) exD := by
    rw [h1]
    refine ⟨⟨_, _, rfl, Nat.le_refl _, by unfold maxLen; omega, fun _ => ⟨w1.heap.size, 0, rfl, by simp, fun i d hd => ?_⟩⟩, ?_⟩
    · match i, hd with
      | 0, hd =>
        simp only [exD, List.getElem?_cons_zero, Option.some.injEq] at hd
        subst hd
        obtain ⟨a, b, c⟩ := three_new w1 (.string ⟨#[120]⟩) (.int .u8 1) (.int .i64 0) 44
        exact ⟨a, b, c⟩
      | i + 1, hd => simp [exD] at hd
    · intro d hd
      simp only [exD, List.mem_cons, List.not_mem_nil, or_false] at hd
      subst hd
      exact ⟨by unfold maxLen; decide, by decide, by simp [I64]⟩
  have i1 : IntsAt V2 (.slice (some ⟨w1.heap.size + 1, 0, none⟩) 1 1) [258] := by rw [h2]; exact ints_lit V1 [258] _ _ s1.symm rfl (by simp [I64]) (by decide)
  have i2 : RowsAt V3 (.slice (some ⟨w1.heap.size + 1 + 1, 0, none⟩) 1 1) [[258]] := by
    rw [h3]
    refine rows_lit V2 [_] _ _ _ s2.symm rfl (by decide) fun i l hl => ?_
    match i, hl with
    | 0, hl => simp only [List.getElem?_cons_zero, Option.some.injEq] at hl; subst hl; exact ⟨_, rfl, i1⟩
    | i + 1, hl => simp at hl
  have HD := Lib.hid (i0.below b13 (Nat.le_refl _))
  have HC : Hid (StAt V3 (.agg #[.slice (some ⟨w1.heap.size + 1 + 1, 0, none⟩) 1 1, .slice none 0 0, .slice none 0 0]) exC) := ⟨_, _, _, rfl, i2, ints_nil _, ints_nil _⟩
  have hE2 : V3 = ((w1.alloc (.cells #[.string ⟨#[120]⟩, .int .u8 1, .int .i64 0] 44)).alloc (.cells #[.int .i64 258] 3)).alloc (.cells #[.slice (some ⟨w1.heap.size + 1, 0, none⟩) 1 1] 23) := by rw [h3, h2, h1]
  have HE2 := Lib.hid hE2
  have HBV := Lib.hid b03
  have HBW2 := Lib.hid (Hb1.out.trans (b03.mono Hb1.out.size))
  have N0 := Lib.hid n0
  have N1 := Lib.hid n1
  have N2 := Lib.hid n2
  have N3 := Lib.hid n3
  have M0 := Lib.hid m0
  have M1 := Lib.hid m1
  have M2 := Lib.hid m2
  have M3 := Lib.hid m3
  clear hown hb1 HA HB HE HBW W1 W2 W3 W4 W5 W6 W7 W8 W9 h1 h2 h3 s1 s2 b1 b2 b3 b13 b03 i0 i1 i2 hE2 m0 m1 m2 m3 n0 n1 n2 n3
  go_wp2_with fail
  rw [← HE2.out]
  refine (encode_any exD exC _ _ _ HD.out HC.out).mono ?_
  rintro e w2 ⟨bv, rfl, hown2, hb2⟩
  rw [ex_fits]
  rw [ex_fits, if_pos rfl, ex_enc] at hown2
  have hcv := own_convert hown2
  have hb12 : Below w1.heap.size w1 w2 := HBV.out.trans (hb2.mono HBV.out.size)
  have m0 := cell_below hb12 hgl M0.out
  have m1 := cell_below hb12 hgl M1.out
  have m2 := cell_below hb12 hgl M2.out
  have m3 := cell_below hb12 hgl M3.out
  have n0 := cell_below hb12 hgl N0.out
  have n1 := cell_below hb12 hgl N1.out
  have n2 := cell_below hb12 hgl N2.out
  have n3 := cell_below hb12 hgl N3.out
  have HF := Lib.hid (HBW2.out.trans (hb2.mono HBW2.out.size))
  clear hown2 hb2 hb12 HBW2 HBV M0 M1 M2 M3 N0 N1 N2 N3 HE2 HD HC Hb1
  go_wp2
  go_ret
  exact ⟨rfl, HF.out⟩
end Go.Proofs.Ytpbbiidfahaamaa
