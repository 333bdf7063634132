/- The reference's lists of numbers: tuples and between. -/
import Derived.Test.YtklbaocgjegdfaaEnX2
import Derived.Test.YtklbaocgjegdfaaEnQ3
import Derived.Test.YtklbaocgjegdfaaEnX7
import Derived.Test.YtklbaocgjegdfaaStN2
import Derived.Test.YtklbaocgjegdfaaEnCo
import Derived.Test.YtklbaocgjegdfaaEnK
import Derived.Test.YtklbaocgjegdfaaEnFr
import Derived.Deep.Cut
import Derived.Lib.QuietBelow
import Derived.Deep.RegionHeld3
import Derived.Test.YtklbaocgjegdfaaEnC3
import Derived.Test.YtklbaocgjegdfaaEnBx
import Derived.Test.YtklbaocgjegdfaaEnFp
namespace Go.Proofs.Ytklbaocgjegdfaa
open Go.RowKit

/-- an own row appended onto an own row -/
theorem run_append_oo {P : Program} (w : World) (base : Nat) (t ty e : TypeId) (i : TypeInfo) (z : Value) (size bytes : Nat) (ht : P.underlying t = some (.slice e)) (hi : P.info? e = some i) (hz : i.zero = some z)
    (hsize : i.size = size) (hby : i.bytes = bytes) (hzs : z.cells.size = size) (hsz : 0 < size) (v : Value) (n : Nat) (xs : List Value) (hown : w.ownsRow base e size v n xs)
    (b2 : Nat) (u : Value) (m : Nat) (us : List Value) (hu : w.ownsRow b2 e size u m us) (h1 : ∀ x ∈ us, x.oneCell' = true) (h63 : n + m ≤ maxLen) (hbytes : (n + m) * bytes ≤ 140737488355328) (hbase : base ≤ w.heap.size) :
    ∃ v' w', (Builtin.append_ #[t, t] ty #[v, u]).run P w = .ok v' w' ∧ w'.ownsRow base e size v' (n + m) (xs ++ us) ∧ w.grownBy w' v.ownBlock := by
  rcases id hu.2 with ⟨rfl, rfl⟩ | ⟨g, cap, cur, rfl, -⟩
  · have hl : us = [] := List.eq_nil_of_length_eq_zero (by have := hu.1; omega)
    subst hl
    exact ⟨v, w, run_append_of_none w base t ty e i size ht hi v n xs hown 0, by simpa using hown, World.grownBy.refl _ _⟩
  · obtain ⟨v', w', e1, e2, e3, _⟩ := run_append_own (P := P) w base t ty e i z size bytes ht hi hz hsize hby hzs hsz v n xs hown ⟨g, 0, none⟩ m cap us hu.1 (fun j x hx => World.ownsRow.cells hu (g := g) rfl j x hx) h1 h63 hbytes hbase
    exact ⟨v', w', e1, e2, e3⟩
theorem wpList_append_oo {P : Program} {w : World} {ops : Array Oper} {rest : List Oper} {o : Oper} {a : Act} {Q : Exit → Act → World → Prop} (hgd : o.guard = none) (s x : Operand) (t : TypeId)
    (ho : o.op = .call { callee := .builtin .append, args := #[s, x], argTypes := #[t, t] })
    (base : Nat) (e : TypeId) (i : TypeInfo) (z : Value) (size bytes : Nat) (ht : P.underlying t = some (.slice e)) (hi : P.info? e = some i) (hz : i.zero = some z)
    (hsize : i.size = size) (hby : i.bytes = bytes) (hzs : z.cells.size = size) (hsz : 0 < size)
    (v : Value) (n : Nat) (xs : List Value) (hs : a.eval s = v) (hown : w.ownsRow base e size v n xs) (b2 : Nat) (u : Value) (m : Nat) (us : List Value) (hx : a.eval x = u) (hu : w.ownsRow b2 e size u m us) (h1 : ∀ x ∈ us, x.oneCell' = true)
    (h63 : n + m ≤ maxLen) (hbytes : (n + m) * bytes ≤ 140737488355328) (hbase : base ≤ w.heap.size)
    (h : ∀ v' w', w'.ownsRow base e size v' (n + m) (xs ++ us) → w.grownBy w' v.ownBlock → wpList P ops Q rest (a.put o.dst v') w') : wpList P ops Q (o :: rest) a w :=
  wpList_plain hgd fun K hK => by
    obtain ⟨v', w', hrun, h2, h3⟩ := run_append_oo (P := P) w base t o.type e i z size bytes ht hi hz hsize hby hzs hsz v n xs hown b2 u m us hu h1 h63 hbytes hbase
    unfold Oper.wp execOp
    simp only [ho, resolve, invoke, builtin, Sem.run_bind, Sem.run_pure, Result.andThen_ok, List.map_toArray, List.map_cons, List.map_nil, hs, hx, hrun]
    exact hK _ _ (h v' w' h2 h3)

theorem RowsNew.get {B : Nat} {w : World} {c : Value} {vs : List Value} {L : List (List Int)} (h : RowsNew B w c vs L) {k : Nat} {l : List Int} (hk : L[k]? = some l) :
    ∃ g c' u, c = .slice (some ⟨g, 0, none⟩) L.length c' ∧ w.cell? ⟨g, k, none⟩ = some u ∧ IntsNew B w u l ∧ g < w.heap.size := by
  obtain ⟨u, h1, h2⟩ := h.2 k l hk
  obtain ⟨a, c', rfl⟩ := own_form h.1
  obtain ⟨g, rfl, _, hg, hc⟩ := own_get h.1 (by have := (List.getElem?_eq_some_iff.1 hk).1; omega)
  exact ⟨g, c', u, rfl, hc k u h1, h2, hg⟩
theorem RowsNew.ones {B : Nat} {w : World} {c : Value} {vs : List Value} {L : List (List Int)} (h : RowsNew B w c vs L) : ∀ x ∈ vs, x.oneCell' = true := by
  intro x hx
  obtain ⟨j, hj⟩ := List.getElem?_of_mem hx
  have hlt := (List.getElem?_eq_some_iff.1 hj).1
  rw [h.len] at hlt
  obtain ⟨u, h1, h2⟩ := h.2 j _ (List.getElem?_eq_getElem hlt)
  rw [hj] at h1
  injection h1 with h1
  subst h1
  obtain ⟨a, c, rfl⟩ := own_form h2
  rfl
theorem RowsNew.app {B : Nat} {w w' : World} {c c' u : Value} {vs us : List Value} {L M : List (List Int)} (h : RowsNew B w c vs L) (hu : RowsNew B w u us M)
    (hown : w'.ownsRow B 33 1 c' (L.length + M.length) (vs ++ us)) (hg : w.grownBy w' c.ownBlock) : RowsNew B w' c' (vs ++ us) (L ++ M) := by
  refine ⟨by rw [List.length_append]; exact hown, fun i l hl => ?_⟩
  have hlen := h.len
  rcases Nat.lt_or_ge i L.length with hi | hi
  · rw [List.getElem?_append_left hi] at hl
    obtain ⟨u', h1, h2⟩ := h.2 i l hl
    exact ⟨u', by rw [List.getElem?_append_left (by omega)]; exact h1, h2.kept hg (own_own_ne h2 h.1 (by decide))⟩
  · rw [List.getElem?_append_right hi] at hl
    obtain ⟨u', h1, h2⟩ := hu.2 _ l hl
    exact ⟨u', by rw [List.getElem?_append_right (by omega), hlen]; exact h1, h2.kept hg (own_own_ne h2 h.1 (by decide))⟩
theorem RowsNew.mono {B B' : Nat} {w : World} {c : Value} {vs : List Value} {L : List (List Int)} (h : RowsNew B w c vs L) (hb : B' ≤ B) : RowsNew B' w c vs L :=
  ⟨own_mono h.1 hb, fun i l hl => by obtain ⟨u, a, b⟩ := h.2 i l hl; exact ⟨u, a, own_mono b hb⟩⟩

def tupF (v : Nat) (l : List Int) : List (List Int) := (List.range (2 * v + 1)).map fun (x : Nat) => l ++ [(x : Int) - v]
theorem tupsP_succ (v n : Nat) : tupsP v (n + 1) = (tupsP v n).flatMap (tupF v) := rfl
def tupN (v : Nat) (L : List (List Int)) (j y : Nat) (l : List Int) : List (List Int) := (L.take j).flatMap (tupF v) ++ (List.range y).map fun (x : Nat) => l ++ [(x : Int) - v]
theorem tupN_len (v : Nat) (L : List (List Int)) (j y : Nat) (l : List Int) : (tupN v L j y l).length = (L.take j).length * (2 * v + 1) + y := by
  unfold tupN
  rw [List.length_append, length_flatMap_const _ _ (2 * v + 1) (fun a => by simp [tupF])]
  simp
theorem tupN_snoc (v : Nat) (L : List (List Int)) (j y : Nat) (l : List Int) : tupN v L j (y + 1) l = tupN v L j y l ++ [l ++ [(y : Int) - v]] := by
  unfold tupN
  rw [List.range_succ, List.map_append, List.append_assoc]
  rfl
theorem tupN_next {v : Nat} {L : List (List Int)} {j : Nat} {l : List Int} (l' : List Int) (h : L[j]? = some l) : tupN v L j (2 * v + 1) l = tupN v L (j + 1) 0 l' := by
  unfold tupN
  rw [List.take_add_one, h]
  simp [tupF]
theorem tupN_zero (v : Nat) (L : List (List Int)) (j : Nat) (l l' : List Int) : tupN v L j 0 l = tupN v L j 0 l' := by simp [tupN]

set_option maxRecDepth 100000 in
set_option maxHeartbeats 8000000 in
theorem tuples_any (v n : Nat) (w : World) (hv : v ≤ 1000) (hn : n ≤ 1000) (hb : (2 * v + 1) ^ n ≤ 500) :
    Calls Try.prog 50 #[.int .i64 v, .int .i64 n] w fun e w' => ∃ c vs, e = .returned c ∧ RowsNew w.heap.size w' c vs (tupsP v n) ∧ Below w.heap.size w w' := by
  have hlen : ∀ k, k ≤ n → (tupsP v k).length ≤ 500 := fun k hk => by
    rw [tupsP_length]
    exact Nat.le_trans (Nat.pow_le_pow_right (by omega) hk) hb
  have hmem : ∀ k, ∀ l ∈ tupsP v k, l.length = k := fun k l hl => (mem_tupsP.1 hl).1
  obtain ⟨i0, hi, hz0, hz1, hz2⟩ := info_parts intInfo
  obtain ⟨j0, hj, hy0, hy1, hy2⟩ := info_parts rowInfo
  have u3 : IntKind.i64.wrap (-(v : Int)) = -(v : Int) := IntWalk.i64_in _ (by omega)
  have HLEN := Lib.hid hlen
  have HMEM := Lib.hid hmem
  clear hlen hmem hb
  go_enter Try.func50, Try.ntmps50
  go_wp2
  go_loopg [5, 6] n (fun q o i wr => ∃ (k : Nat) (vs : List Value), k + q = n ∧ i = .int .i64 (k : Int) ∧ RowsNew w.heap.size wr o vs (tupsP v k) ∧ Below w.heap.size w wr)
  case atStart =>
    refine ⟨0, [.slice none 0 0], by omega, rfl, ⟨World.ownsRow_lit w #[.slice none 0 0] 1 (Nat.le_refl _) (by decide) rfl, fun i l hl => ?_⟩, below_alloc _ _⟩
    cases i with
    | zero =>
      simp only [tupsP, List.getElem?_cons_zero, Option.some.injEq] at hl
      subst hl
      exact ⟨_, rfl, World.ownsRow_nil _ _ _ _⟩
    | succ i => simp [tupsP] at hl
  case round =>
    obtain ⟨k, vs, hk, rfl, hrows, hbw⟩ := hrel
    obtain ⟨W2, hW2⟩ : ∃ w' : World, w' = wr := ⟨_, rfl⟩
    subst hW2
    have Hk := Lib.hid hk
    have HROWS := Lib.hid hrows
    have HBW := Lib.hid hbw
    obtain ⟨ao, co, rfl⟩ := own_form hrows.1
    have hkn : k ≤ n := by omega
    have hL5 := HLEN.out k hkn
    obtain ⟨L, hL⟩ : ∃ L, tupsP v k = L := ⟨_, rfl⟩
    rw [hL] at hL5
    have HL := Lib.hid hL
    obtain ⟨nl, hnl⟩ : ∃ n, L.length = n := ⟨_, rfl⟩
    rw [hL, hnl]
    rw [hnl] at hL5
    have HNL := Lib.hid hnl
    have u1 : IntKind.i64.wrap ((k : Int) + 1) = (k : Int) + 1 := IntWalk.i64_in _ (by omega)
    clear hk hrows hbw hL hnl
    by_cases hlt : k < n
    · have hlt' : (k : Int) < (n : Int) := by omega
      go_wp2
      go_loopg [7, 8] nl (fun q nx i wr => ∃ (j : Nat) (us : List Value), j + q = nl ∧ i = .int .i64 (j : Int) ∧ RowsNew W2.heap.size wr nx us (tupN v L j 0 []) ∧ Below W2.heap.size W2 wr)
      case atStart => exact ⟨0, [], by omega, rfl, by simp only [tupN, List.take_zero, List.flatMap_nil, List.range_zero, List.map_nil, List.append_nil]; exact RowsNew.nil _ _, Below.refl _ _⟩
      case round =>
        obtain ⟨j, us, hj', rfl, hnext, hb2⟩ := hrel
        have Hj := Lib.hid hj'
        have HNEXT := Lib.hid hnext
        have HB2 := Lib.hid hb2
        have hjn : j ≤ nl := by omega
        have u2 : IntKind.i64.wrap ((j : Int) + 1) = (j : Int) + 1 := IntWalk.i64_in _ (by omega)
        obtain ⟨an, cn, rfl⟩ := own_form hnext.1
        clear hj' hnext hb2
        by_cases hjl : j < nl
        · have hjl' : (j : Int) < (nl : Int) := by omega
          obtain ⟨l, hl⟩ : ∃ l, L[j]? = some l := ⟨_, List.getElem?_eq_getElem (by rw [HNL.out]; exact hjl)⟩
          have HLJ := Lib.hid hl
          have hll : l.length = k := HMEM.out k l (by rw [HL.out]; exact List.mem_of_getElem? hl)
          have HLL := Lib.hid hll
          have hrows := HROWS.out
          rw [HL.out] at hrows
          obtain ⟨g, c', u, e1, hcell, hints, hg⟩ := hrows.get hl
          injection e1 with e1 e2 e3
          subst e1 e3
          have HCELL := Lib.hid hcell
          have HINTS := Lib.hid hints
          have HG := Lib.hid hg
          obtain ⟨au, cu, rfl⟩ := own_form hints
          clear hl hll hrows e2 hcell hints hg
          go_wp2
          go_loopg [7, 9] (2 * v + 1) (fun q nx i wr => ∃ (y : Nat) (us : List Value), y + q = 2 * v + 1 ∧ i = .int .i64 ((y : Int) - (v : Int)) ∧ RowsNew W2.heap.size wr nx us (tupN v L j y l) ∧ Below W2.heap.size W2 wr)
          case atStart => exact ⟨0, us, by omega, by go_num, by rw [tupN_zero v L j l []]; exact HNEXT.out, HB2.out⟩
          case round =>
            obtain ⟨y, us2, hy', rfl, hnx, hb3⟩ := hrel
            have Hy := Lib.hid hy'
            have HNX := Lib.hid hnx
            have HB3 := Lib.hid hb3
            have hyn : y ≤ 2 * v + 1 := by omega
            obtain ⟨an2, cn2, rfl⟩ := own_form hnx.1
            have u4 : IntKind.i64.wrap ((y : Int) - (v : Int) + 1) = (y : Int) - (v : Int) + 1 := IntWalk.i64_in _ (by omega)
            clear hy' hnx hb3
            by_cases hyl : y < 2 * v + 1
            · have hyl' : (y : Int) - (v : Int) ≤ (v : Int) := by omega
              have hcell := cell_below HB3.out HG.out HCELL.out
              have hjl2 := hjl'
              have hown1 : Hid ((wr.alloc (.cells #[] 3)).ownsRow wr.heap.size 3 1 (.slice (some ⟨wr.heap.size, 0, none⟩) 0 0) 0 []) := World.ownsRow_made wr #[] 0 (Nat.le_refl _) (by decide) rfl
              have hints : Hid ((wr.alloc (.cells #[] 3)).ownsRow w.heap.size 3 1 (.slice au l.length cu) l.length (intsV l)) := own_below HINTS.out (below_next HB3.out (Nat.le_refl _) (below_alloc _ _))
              have hcell2 := alloc_cell hcell (.cells #[] 3)
              have hnlen : Hid ((tupN v L j y l).length ≤ 1003001) := by
                unfold Hid
                rw [tupN_len, List.length_take]
                have h1 : min j L.length * (2 * v + 1) ≤ 500 * 2001 := Nat.mul_le_mul (by rw [HNL.out]; omega) (by omega)
                omega
              have HWR : Hid (W2.heap.size ≤ wr.heap.size) := HB3.out.size
              clear hyl
              go_wp2_with (first
                | (at_builtin; refine wpList_append_oo rfl (.tmp 30) (.tmp 34) 33 rfl wr.heap.size 3 i0 (.int .i64 0) 1 8 Try.underlying33 hi hz0 hz1 hz2 rfl (by decide) (.slice (some ⟨wr.heap.size, 0, none⟩) 0 0) 0 [] rfl hown1.out w.heap.size (.slice au l.length cu) l.length (intsV l) rfl hints.out (fun x hx => by simp only [intsV, List.mem_map] at hx; obtain ⟨y, _, rfl⟩ := hx; rfl) (by have := HLL.out; unfold maxLen; omega) (by have := HLL.out; omega) (by simp) ?_; intro v4 w4 hown4 hgr4;
                    rw [Nat.zero_add, List.nil_append] at hown4; have hbe4 : Below wr.heap.size wr w4 := (below_alloc wr _).grown hgr4 (by simp) (fun j e => (hown1.out.lt j e).1); have HB4 := Lib.hid hbe4; have HOWN4 := Lib.hid hown4; have HS4 := Lib.hid hbe4.size; obtain ⟨a4, k4, rfl⟩ := own_form hown4; clear hown4 hgr4 hbe4 hown1 hints)
                | (at_builtin; refine wpList_append_own2 rfl (.tmp 35) (.tmp 37) 33 rfl wr.heap.size 3 i0 (.int .i64 0) 1 8 Try.underlying33 hi hz0 hz1 hz2 rfl (by decide) (.slice a4 l.length k4) l.length _ rfl (HOWN4.out.alloc _) ⟨w4.heap.size, 0, none⟩ 1 1 [.int .i64 ((y : Int) - (v : Int))] rfl rfl (cell_one_new _ _ _) (by intro u hu; simp only [List.mem_cons, List.not_mem_nil, or_false] at hu; rcases hu with rfl; rfl) (by decide) (by have := HLL.out; unfold maxLen; omega) (by have := HLL.out; omega) (by have := HS4.out; simp; omega) ?_; intro v5 w5 hown5 hgr5 hpos5;
                    have hbe5 : Below wr.heap.size wr w5 := (below_next HB4.out (Nat.le_refl _) (below_alloc _ _)).grown hgr5 (by have := HS4.out; simp; omega) (fun j e => (HOWN4.out.lt j e).1); have HB5 := Lib.hid hbe5; have HOWN5 := Lib.hid hown5; have HNX5 := Lib.hid (HNX.out.next hbe5); have HS5 := Lib.hid hbe5.size; obtain ⟨a5, k5, rfl⟩ := own_form hown5; clear hown5 hgr5 hbe5 hpos5)
                | (at_builtin; refine wpList_append_own2 rfl (.tmp 29) (.tmp 39) 32 rfl W2.heap.size 33 j0 (.slice none 0 0) 1 24 Try.underlying32 hj hy0 hy1 hy2 rfl (by decide) (.slice an2 (tupN v L j y l).length cn2) (tupN v L j y l).length us2 rfl (HNX5.out.1.alloc _) ⟨w5.heap.size, 0, none⟩ 1 1 [.slice a5 (l.length + 1) k5] rfl rfl (cell_one_new _ _ _) (by intro u hu; simp only [List.mem_cons, List.not_mem_nil, or_false] at hu; rcases hu with rfl; rfl) (by decide) (by have := hnlen.out; unfold maxLen; omega) (by have := hnlen.out; omega) (by have := HS5.out; have := HWR.out; simp; omega) ?_; intro v6 w6 hown6 hgr6 hpos6;
                    have HINL : Hid (IntsNew W2.heap.size (w5.alloc (.cells #[.slice a5 (l.length + 1) k5] 33)) (.slice a5 (l.length + 1) k5) (l ++ [(y : Int) - (v : Int)])) := (by have h9 := own_mono HOWN5.out HWR.out; rw [← intsV_snoc] at h9; unfold Hid IntsNew; rw [List.length_append]; exact h9.alloc _);
                    have hr6 : RowsNew W2.heap.size w6 v6 _ (tupN v L j (y + 1) l) := (by rw [tupN_snoc]; exact (HNX5.out.next (below_alloc _ _)).snoc (HINL.out) hown6 hgr6);
                    have hbe6 : Below W2.heap.size W2 w6 := (below_next (below_next HB3.out (Nat.le_refl _) HB5.out) (Nat.le_refl _) (below_alloc _ _)).grown hgr6 (by have := HS5.out; have := HWR.out; simp; omega) (fun j e => (HNX5.out.1.lt j e).1);
                    have HR6 := Lib.hid hr6; have HB6 := Lib.hid hbe6; obtain ⟨a6, k6, rfl⟩ := own_form hown6; clear hown6 hgr6 hbe6 hpos6 hr6))
              go_wp2
              have hy := Hy.out
              go_roundg (2 * v + 1 - (y + 1))
              case measure => omega
              case rel => exact ⟨y + 1, _, by omega, by go_num, HR6.out, HB6.out⟩
            · have hyl' : ¬ (y : Int) - (v : Int) ≤ (v : Int) := by omega
              have hye : y = 2 * v + 1 := by omega
              have HNX2 : Hid (RowsNew W2.heap.size wr (.slice an2 (tupN v L j y l).length cn2) us2 (tupN v L (j + 1) 0 [])) := by
                have h := HNX.out
                have e : tupN v L j y l = tupN v L (j + 1) 0 [] := by rw [hye]; exact tupN_next [] HLJ.out
                rw [e] at h ⊢
                exact h
              clear hye hyl
              go_wp2
              have hj' := Hj.out
              go_roundg (nl - (j + 1))
              case measure => omega
              case rel => exact ⟨j + 1, _, by omega, by go_num, HNX2.out, HB3.out⟩
        · have hjl' : ¬ (j : Int) < (nl : Int) := by omega
          have HNX2 : Hid (RowsNew w.heap.size wr (.slice an (tupN v L j 0 []).length cn) us (tupsP v (k + 1))) := by
            have h := HNEXT.out
            have e : tupN v L j 0 [] = tupsP v (k + 1) := by
              rw [tupsP_succ, HL.out]
              unfold tupN
              rw [List.take_of_length_le (by rw [HNL.out]; omega)]
              simp
            rw [e] at h ⊢
            exact h.mono HBW.out.size
          have HBF : Hid (Below w.heap.size w wr) := below_next HBW.out (Nat.le_refl _) HB2.out
          clear hjl
          go_wp2
          have hk := Hk.out
          go_roundg (n - (k + 1))
          case measure => omega
          case rel => exact ⟨k + 1, _, by omega, by go_num, HNX2.out, HBF.out⟩
    · have hlt' : ¬ (k : Int) < (n : Int) := by omega
      have hke : k = n := by omega
      have HR : Hid (RowsNew w.heap.size W2 (.slice ao nl co) vs (tupsP v n)) := by
        have h := HROWS.out
        rw [← hke]
        rw [HL.out, HNL.out] at h
        rw [HL.out]
        exact h
      clear hke hlt
      go_wp2
      go_ret
      exact ⟨_, rfl, ⟨_, HR.out⟩, HBW.out⟩

theorem le_sum_mem {l : List Nat} {x : Nat} (h : x ∈ l) : x ≤ l.sum := by
  induction l with
  | nil => cases h
  | cons a l ih =>
    rw [List.sum_cons]
    rcases List.mem_cons.1 h with rfl | h
    · omega
    · have := ih h; omega
theorem betP_succ (v lo n : Nat) : betP v lo (n + 1) = betP v lo n ++ tupsP v (lo + n) := by
  unfold betP
  rw [List.range_succ, List.flatMap_append]
  simp

set_option maxRecDepth 100000 in
set_option maxHeartbeats 8000000 in
/-- lists of lo .. hi numbers -/
theorem between_any (v lo n : Nat) (w : World) (hv : v ≤ 1000) (hn : lo + n ≤ 1001) (hb : (betP v lo n).length ≤ 500) :
    Calls Try.prog 29 #[.int .i64 v, .int .i64 lo, .int .i64 ((lo : Int) + n - 1)] w fun e w' => ∃ c vs, e = .returned c ∧ RowsNew w.heap.size w' c vs (betP v lo n) ∧ Below w.heap.size w w' := by
  have hpow : ∀ k, k < n → (2 * v + 1) ^ (lo + k) ≤ 500 := fun k hk => by
    refine Nat.le_trans ?_ hb
    rw [betP_length]
    exact le_sum_mem (List.mem_map.2 ⟨k, List.mem_range.2 hk, rfl⟩)
  have HT : Hid (∀ k, k < n → ∀ w, Calls Try.prog 50 #[.int .i64 v, .int .i64 ((lo : Int) + k)] w fun e w' => ∃ c vs, e = .returned c ∧ RowsNew w.heap.size w' c vs (tupsP v (lo + k)) ∧ Below w.heap.size w w') := fun k hk w => by
    have h := tuples_any v (lo + k) w hv (by omega) (hpow k hk)
    rwa [Int.natCast_add] at h
  have HLB : Hid (∀ k, k ≤ n → (betP v lo k).length ≤ 500) := fun k hk => by
    refine Nat.le_trans ?_ hb
    obtain ⟨d, rfl⟩ : ∃ d, n = k + d := ⟨n - k, by omega⟩
    clear hpow HT hb hn hk
    induction d with
    | zero => exact Nat.le_refl _
    | succ d ih => rw [← Nat.add_assoc, betP_succ, List.length_append]; omega
  have HLT : Hid (∀ k, k < n → (tupsP v (lo + k)).length ≤ 500) := fun k hk => by rw [tupsP_length]; exact hpow k hk
  obtain ⟨j0, hj, hy0, hy1, hy2⟩ := info_parts rowInfo
  clear hpow hb
  go_enter Try.func29, Try.ntmps29
  go_wp2
  go_loopg [7, 8] n (fun q o i wr => ∃ (k : Nat) (vs : List Value), k + q = n ∧ i = .int .i64 ((lo : Int) + (k : Int)) ∧ RowsNew w.heap.size wr o vs (betP v lo k) ∧ Below w.heap.size w wr)
  case atStart => exact ⟨0, [], by omega, by go_num, RowsNew.nil _ _, Below.refl _ _⟩
  case round =>
    obtain ⟨k, vs, hk, rfl, hrows, hbw⟩ := hrel
    have Hk := Lib.hid hk
    have HROWS := Lib.hid hrows
    have HBW := Lib.hid hbw
    obtain ⟨ao, co, rfl⟩ := own_form hrows.1
    have hkn : k ≤ n := by omega
    have u1 : IntKind.i64.wrap ((lo : Int) + (k : Int) + 1) = (lo : Int) + (k : Int) + 1 := IntWalk.i64_in _ (by omega)
    obtain ⟨nl, hnl⟩ : ∃ m, (betP v lo k).length = m := ⟨_, rfl⟩
    rw [hnl]
    have HNL := Lib.hid hnl
    have hl5 := HLB.out k hkn
    rw [hnl] at hl5
    clear hk hrows hbw hnl
    by_cases hlt : k < n
    · have hlt' : (lo : Int) + (k : Int) ≤ (lo : Int) + (n : Int) - 1 := by omega
      have HTK := Lib.hid (HT.out k hlt wr)
      have hlk := HLT.out k hlt
      clear hlt
      go_wp2_with fail
      refine HTK.out.mono ?_
      rintro e w2 ⟨c2, us, rfl, hr2, hb2⟩
      have HR2 := Lib.hid (hr2.mono HBW.out.size)
      have HB2 := Lib.hid (below_next HBW.out (Nat.le_refl _) hb2)
      have HRO := Lib.hid (HROWS.out.next hb2)
      obtain ⟨a2, k2, rfl⟩ := own_form hr2.1
      obtain ⟨ml, hml⟩ : ∃ m, (tupsP v (lo + k)).length = m := ⟨_, rfl⟩
      rw [hml] at hlk ⊢
      have HML := Lib.hid hml
      have hs2 := HB2.out.size
      have HO1 : Hid (w2.ownsRow w.heap.size 33 1 (.slice ao nl co) nl vs) := (by have h := HRO.out.1; rw [HNL.out] at h; exact h)
      have HO2 : Hid (w2.ownsRow w.heap.size 33 1 (.slice a2 ml k2) ml us) := (by have h := HR2.out.1; rw [HML.out] at h; exact h)
      have HAP : Hid (∀ v5 w5, w5.ownsRow w.heap.size 33 1 v5 (nl + ml) (vs ++ us) → w2.grownBy w5 (Value.slice ao nl co).ownBlock → RowsNew w.heap.size w5 v5 (vs ++ us) (betP v lo (k + 1)) ∧ Below w.heap.size w w5) := fun v5 w5 h5 g5 => by
        have h := HRO.out
        have h' := HR2.out
        rw [HNL.out] at h
        rw [HML.out] at h'
        refine ⟨?_, HB2.out.grown g5 hs2 (fun j e => (HO1.out.lt j e).1)⟩
        rw [betP_succ]
        exact h.app h' (by rw [HNL.out, HML.out]; exact h5) g5
      clear hr2 hb2 hml
      go_wp2_with (at_builtin; refine wpList_append_oo rfl (.tmp 15) (.tmp 18) 32 rfl w.heap.size 33 j0 (.slice none 0 0) 1 24 Try.underlying32 hj hy0 hy1 hy2 rfl (by decide) (.slice ao nl co) nl vs rfl HO1.out w.heap.size (.slice a2 ml k2) ml us rfl HO2.out HR2.out.ones (by unfold maxLen; omega) (by omega) hs2 ?_; intro v5 w5 hown5 hgr5; have H5 := Lib.hid (HAP.out v5 w5 hown5 hgr5); obtain ⟨a5, k5, rfl⟩ := own_form hown5; clear hown5 hgr5)
      go_wp2
      have hk := Hk.out
      go_roundg (n - (k + 1))
      case measure => omega
      case rel => exact ⟨k + 1, _, by omega, by go_num, H5.out.1, H5.out.2⟩
    · have hlt' : ¬ (lo : Int) + (k : Int) ≤ (lo : Int) + (n : Int) - 1 := by omega
      have hke : k = n := by omega
      have HR : Hid (RowsNew w.heap.size wr (.slice ao nl co) vs (betP v lo n)) := by
        have h := HROWS.out
        rw [HNL.out, hke] at h
        exact h
      clear hke hlt
      go_wp2
      go_ret
      exact ⟨_, rfl, ⟨_, HR.out⟩, HBW.out⟩
end Go.Proofs.Ytklbaocgjegdfaa

/- Rows of states; the reference's sorted. -/
namespace Go.Proofs.Ytklbaocgjegdfaa
open Go.RowKit Go.Shelf

/-- a row of the call's own, of states that lie from B on -/
def StRow (base B : Nat) (w : World) (v : Value) (L : List St) : Prop :=
  ∃ ts, ts.length = L.length ∧ w.ownsRow base 35 3 v L.length (flatS ts) ∧ ∀ (k : Nat) (x : St), L[k]? = some x → ∃ t : Value × Value × Value, ts[k]? = some t ∧ StNew B w (.agg #[t.1, t.2.1, t.2.2]) x
/-- a slice of such states, wherever it begins -/
def StSeq (B : Nat) (w : World) (v : Value) (L : List St) : Prop :=
  ∃ (a : Option Addr) (c : Nat), v = .slice a L.length c ∧ L.length ≤ c ∧ c ≤ maxLen ∧ (0 < L.length → ∃ g o, a = some ⟨g, o, none⟩ ∧ g < w.heap.size ∧
    ∀ (k : Nat) (x : St), L[k]? = some x → ∃ c1 c2 c3, w.cell? ⟨g, o + k * 3, none⟩ = some c1 ∧ w.cell? ⟨g, o + k * 3 + 1, none⟩ = some c2 ∧ w.cell? ⟨g, o + k * 3 + 2, none⟩ = some c3 ∧ StNew B w (.agg #[c1, c2, c3]) x)

theorem StNew.gr {B base : Nat} {w w' : World} {v va : Value} {x : St} {size n : Nat} {xs : List Value} (h : StNew B w v x) (hv : w.ownsRow base 35 size va n xs) (hg : w.grownBy w' va.ownBlock) : StNew B w' v x := by
  obtain ⟨c, i, o, vs, rfl, h1, h2, h3⟩ := h
  refine ⟨c, i, o, vs, rfl, ⟨h1.1.kept hg (own_own_ne h1.1 hv (by decide)), fun k l hl => ?_⟩, h2.kept hg (own_own_ne h2 hv (by decide)), h3.kept hg (own_own_ne h3 hv (by decide))⟩
  obtain ⟨u, a, b⟩ := h1.2 k l hl
  exact ⟨u, a, b.kept hg (own_own_ne b hv (by decide))⟩
theorem StRow.nil (base B : Nat) (w : World) : StRow base B w (.slice none 0 0) [] := ⟨[], rfl, World.ownsRow_nil _ _ _ _, by simp⟩
theorem StRow.next {base B : Nat} {w w' : World} {v : Value} {L : List St} (h : StRow base B w v L) (hb : Below w.heap.size w w') : StRow base B w' v L := by
  obtain ⟨ts, h0, h1, h2⟩ := h
  exact ⟨ts, h0, own_below h1 hb, fun k x hk => by obtain ⟨t, a, b⟩ := h2 k x hk; exact ⟨t, a, b.next hb⟩⟩
theorem StRow.mono {base base' B : Nat} {w : World} {v : Value} {L : List St} (h : StRow base B w v L) (hb : base' ≤ base) : StRow base' B w v L := by
  obtain ⟨ts, h0, h1, h2⟩ := h
  exact ⟨ts, h0, own_mono h1 hb, h2⟩
/-- more states, appended -/
theorem StRow.app {base B : Nat} {w w' : World} {v v' : Value} {L M : List St} {ts us : List (Value × Value × Value)} (h0 : ts.length = L.length) (h1 : w.ownsRow base 35 3 v L.length (flatS ts)) (h2 : ∀ (k : Nat) (x : St), L[k]? = some x → ∃ t : Value × Value × Value, ts[k]? = some t ∧ StNew B w (.agg #[t.1, t.2.1, t.2.2]) x)
    (k0 : us.length = M.length) (k2 : ∀ (k : Nat) (x : St), M[k]? = some x → ∃ t : Value × Value × Value, us[k]? = some t ∧ StNew B w (.agg #[t.1, t.2.1, t.2.2]) x)
    (hown : w'.ownsRow base 35 3 v' (L.length + M.length) (flatS ts ++ flatS us)) (hg : w.grownBy w' v.ownBlock) : StRow base B w' v' (L ++ M) := by
  refine ⟨ts ++ us, by simp [h0, k0], ?_, fun k x hk => ?_⟩
  · rw [List.length_append]
    have e : flatS (ts ++ us) = flatS ts ++ flatS us := by simp [flatS]
    rw [e]
    exact hown
  · rcases Nat.lt_or_ge k L.length with hlt | hge
    · rw [List.getElem?_append_left hlt] at hk
      obtain ⟨t, a, b⟩ := h2 k x hk
      exact ⟨t, by rw [List.getElem?_append_left (by omega)]; exact a, b.gr h1 hg⟩
    · rw [List.getElem?_append_right hge] at hk
      obtain ⟨t, a, b⟩ := k2 _ x hk
      exact ⟨t, by rw [List.getElem?_append_right (by omega), h0]; exact a, b.gr h1 hg⟩
theorem flatS_one (x0 x1 x2 : Value) : flatS [(x0, x1, x2)] = [x0, x1, x2] := rfl
theorem StRow.snoc {base B : Nat} {w w' : World} {v v' x0 x1 x2 : Value} {L : List St} {x : St} {ts : List (Value × Value × Value)} (h0 : ts.length = L.length) (h1 : w.ownsRow base 35 3 v L.length (flatS ts)) (h2 : ∀ (k : Nat) (x : St), L[k]? = some x → ∃ t : Value × Value × Value, ts[k]? = some t ∧ StNew B w (.agg #[t.1, t.2.1, t.2.2]) x)
    (hs : StNew B w (.agg #[x0, x1, x2]) x) (hown : w'.ownsRow base 35 3 v' (L.length + 1) (flatS ts ++ [x0, x1, x2])) (hg : w.grownBy w' v.ownBlock) : StRow base B w' v' (L ++ [x]) := by
  refine StRow.app (M := [x]) (us := [(x0, x1, x2)]) h0 h1 h2 rfl (fun k y hk => ?_) hown hg
  cases k with
  | zero =>
    simp only [List.getElem?_cons_zero, Option.some.injEq] at hk
    subst hk
    exact ⟨_, rfl, hs⟩
  | succ k => simp at hk
theorem StRow.seq {base B : Nat} {w : World} {v : Value} {L : List St} (h : StRow base B w v L) : StSeq B w v L := by
  obtain ⟨ts, h0, h1, h2⟩ := h
  rcases id h1.2 with ⟨rfl, hn⟩ | ⟨g, cap, cur, rfl, hb, hg, hnc, hcm, -⟩
  · rw [List.eq_nil_of_length_eq_zero hn]
    exact ⟨none, 0, rfl, Nat.le_refl _, Nat.zero_le _, fun h => absurd h (by decide)⟩
  · refine ⟨_, cap, rfl, hnc, hcm, fun _ => ⟨g, 0, rfl, (Array.getElem?_eq_some_iff.1 hg).1, fun k x hk => ?_⟩⟩
    obtain ⟨t, a, b⟩ := h2 k x hk
    obtain ⟨f0, f1, f2⟩ := flatS_get a
    have c0 := World.ownsRow.cells h1 (g := g) rfl _ _ f0
    have c1 := World.ownsRow.cells h1 (g := g) rfl _ _ f1
    have c2 := World.ownsRow.cells h1 (g := g) rfl _ _ f2
    rw [Go.WideShapes.add_plain, Nat.mul_comm] at c0 c1 c2
    exact ⟨_, _, _, c0, c1, c2, b⟩
theorem StSeq.next {B : Nat} {w w' : World} {v : Value} {L : List St} (h : StSeq B w v L) (hb : Below w.heap.size w w') : StSeq B w' v L := by
  obtain ⟨a, c, rfl, h1, h2, h3⟩ := h
  refine ⟨a, c, rfl, h1, h2, fun hp => ?_⟩
  obtain ⟨g, o, rfl, hg, hk⟩ := h3 hp
  refine ⟨g, o, rfl, Nat.lt_of_lt_of_le hg hb.size, fun k x hx => ?_⟩
  obtain ⟨c1, c2, c3, e1, e2, e3, e4⟩ := hk k x hx
  exact ⟨c1, c2, c3, cell_below hb hg e1, cell_below hb hg e2, cell_below hb hg e3, e4.next hb⟩
theorem StSeq.take {B : Nat} {w : World} {a : Option Addr} {n c : Nat} {L : List St} (h : StSeq B w (.slice a n c) L) (m : Nat) (hm : m ≤ L.length) : StSeq B w (.slice a m c) (L.take m) := by
  obtain ⟨a', c', e, h1, h2, h3⟩ := h
  injection e with e1 e2 e3
  subst e1 e3
  have hl : (L.take m).length = m := by rw [List.length_take]; omega
  refine ⟨a, c, by rw [hl], by omega, h2, fun hp => ?_⟩
  obtain ⟨g, o, e, hg, hk⟩ := h3 (by omega)
  exact ⟨g, o, e, hg, fun k x hx => hk k x (by
    have := (List.getElem?_eq_some_iff.1 hx).1
    rw [List.getElem?_take, if_pos (by omega)] at hx
    exact hx)⟩
theorem StSeq.drop {B : Nat} {w : World} {g o n c : Nat} {L : List St} (h : StSeq B w (.slice (some ⟨g, o, none⟩) n c) L) (m : Nat) (hm : m ≤ L.length) : StSeq B w (.slice (some ⟨g, o + m * 3, none⟩) (n - m) (c - m)) (L.drop m) := by
  obtain ⟨a', c', e, h1, h2, h3⟩ := h
  injection e with e1 e2 e3
  subst e1 e3
  have hl : (L.drop m).length = L.length - m := by rw [List.length_drop]
  refine ⟨_, c - m, by rw [hl, e2], by omega, by omega, fun hp => ?_⟩
  obtain ⟨g', o', e, hg, hk⟩ := h3 (by omega)
  injection e with e
  injection e with e1 e4
  subst e1 e4
  refine ⟨g, o + m * 3, rfl, hg, fun k x hx => ?_⟩
  rw [List.getElem?_drop] at hx
  obtain ⟨c1, c2, c3, f1, f2, f3, f4⟩ := hk _ x hx
  have e5 : o + (m + k) * 3 = o + m * 3 + k * 3 := by omega
  rw [e5] at f1 f2 f3
  exact ⟨c1, c2, c3, f1, f2, f3, f4⟩

theorem flatS_at : ∀ {ts : List (Value × Value × Value)} {j : Nat} {u : Value}, (flatS ts)[j]? = some u → ∃ k t, ts[k]? = some t ∧ (j = k * 3 ∧ u = t.1 ∨ j = k * 3 + 1 ∧ u = t.2.1 ∨ j = k * 3 + 2 ∧ u = t.2.2) := by
  intro ts
  induction ts with
  | nil => intro j u h; simp [flatS] at h
  | cons t l ih =>
    intro j u h
    rcases j with _ | _ | _ | j
    · have h' : some t.1 = some u := h
      injection h' with h'
      exact ⟨0, t, rfl, .inl ⟨rfl, h'.symm⟩⟩
    · have h' : some t.2.1 = some u := h
      injection h' with h'
      exact ⟨0, t, rfl, .inr (.inl ⟨rfl, h'.symm⟩)⟩
    · have h' : some t.2.2 = some u := h
      injection h' with h'
      exact ⟨0, t, rfl, .inr (.inr ⟨rfl, h'.symm⟩)⟩
    · obtain ⟨k, t', e, hc⟩ := ih (j := j) (u := u) h
      exact ⟨k + 1, t', e, by rcases hc with ⟨a, b⟩ | ⟨a, b⟩ | ⟨a, b⟩
                              · exact .inl ⟨by omega, b⟩
                              · exact .inr (.inl ⟨by omega, b⟩)
                              · exact .inr (.inr ⟨by omega, b⟩)⟩
theorem StSeq.tail {B : Nat} {w : World} {g o n c : Nat} {x : St} {L : List St} (h : StSeq B w (.slice (some ⟨g, o, none⟩) n c) (x :: L)) (o' : Nat) (ho : c = 1 ∨ o' = o + 3) : StSeq B w (.slice (some ⟨g, o', none⟩) (n - 1) (c - 1)) L := by
  obtain ⟨a', c', e, h1, h2, h3⟩ := id h
  injection e with e1 e2 e3
  subst e3
  have hn : n = L.length + 1 := by simpa using e2
  subst hn
  by_cases hc : c = 1
  · have hl : L = [] := List.eq_nil_of_length_eq_zero (by simp at h1; omega)
    subst hl
    exact ⟨_, c - 1, rfl, Nat.zero_le _, by omega, fun hp => absurd hp (by decide)⟩
  · have ho' : o' = o + 3 := ho.resolve_left hc
    subst ho'
    have := h.drop 1 (by simp)
    simpa using this
/-- a slice of states appended onto an own row -/
theorem run_append_sts (w : World) (ty : TypeId) (base : Nat) (v : Value) (n : Nat) (xs : List Value) (hown : w.ownsRow base 35 3 v n xs) {B : Nat} {u : Value} {L : List St} (hu : StSeq B w u L) (hn : (n + L.length) * 72 ≤ 140737488355328) (hbase : base ≤ w.heap.size) :
    ∃ ts v' w', (Builtin.append_ #[27, 27] ty #[v, u]).run Try.prog w = .ok v' w' ∧ ts.length = L.length ∧ (∀ (k : Nat) (x : St), L[k]? = some x → ∃ t : Value × Value × Value, ts[k]? = some t ∧ StNew B w (.agg #[t.1, t.2.1, t.2.2]) x) ∧ w'.ownsRow base 35 3 v' (n + L.length) (xs ++ flatS ts) ∧ w.grownBy w' v.ownBlock := by
  obtain ⟨i0, hi, hz0, hz1, hz2⟩ := info_parts stateInfo
  obtain ⟨a, c, rfl, _, _, hq⟩ := hu
  have hts : ∃ ts : List (Value × Value × Value), ts.length = L.length ∧ ∀ (k : Nat) (x : St), L[k]? = some x → ∃ t : Value × Value × Value, ts[k]? = some t ∧ StNew B w (.agg #[t.1, t.2.1, t.2.2]) x ∧ ∀ g o, a = some ⟨g, o, none⟩ → w.cell? ⟨g, o + k * 3, none⟩ = some t.1 ∧ w.cell? ⟨g, o + k * 3 + 1, none⟩ = some t.2.1 ∧ w.cell? ⟨g, o + k * 3 + 2, none⟩ = some t.2.2 := by
    rcases Nat.eq_zero_or_pos L.length with h0 | hp
    · exact ⟨[], by simp [h0], fun k x hk => by rw [List.eq_nil_of_length_eq_zero h0] at hk; cases hk⟩
    · obtain ⟨g, o, rfl, -, hk⟩ := hq hp
      refine ⟨(List.range L.length).map fun k => ((w.cell? ⟨g, o + k * 3, none⟩).getD undef, (w.cell? ⟨g, o + k * 3 + 1, none⟩).getD undef, (w.cell? ⟨g, o + k * 3 + 2, none⟩).getD undef), by simp, fun k x hx => ?_⟩
      obtain ⟨c1, c2, c3, e1, e2, e3, e4⟩ := hk k x hx
      refine ⟨(c1, c2, c3), ?_, e4, fun g' o' e => ?_⟩
      · rw [List.getElem?_map, List.getElem?_range (List.getElem?_eq_some_iff.1 hx).1, Option.map_some, e1, e2, e3]
        rfl
      · injection e with e
        injection e with e5 e6
        subst e5 e6
        exact ⟨e1, e2, e3⟩
  obtain ⟨ts, ht0, ht1⟩ := hts
  have hone : ∀ x ∈ flatS ts, x.oneCell' = true := fun x hx => by
    obtain ⟨j, hj⟩ := List.getElem?_of_mem hx
    obtain ⟨k, t, e, hc⟩ := flatS_at hj
    have hk := (List.getElem?_eq_some_iff.1 e).1
    obtain ⟨t', e', hs, -⟩ := ht1 k _ (List.getElem?_eq_getElem (by omega))
    rw [e] at e'
    injection e' with e'
    subst e'
    obtain ⟨ac, cc, ai, ci, ao, co, hf⟩ := StNew.form hs
    injection hf with hf
    simp only [Array.mk.injEq, List.cons.injEq, and_true] at hf
    obtain ⟨f1, f2, f3⟩ := hf
    rcases hc with ⟨-, rfl⟩ | ⟨-, rfl⟩ | ⟨-, rfl⟩
    · rw [f1]; rfl
    · rw [f2]; rfl
    · rw [f3]; rfl
  cases a with
  | none =>
    have h0 : L.length = 0 := by
      rcases Nat.eq_zero_or_pos L.length with h | h
      · exact h
      · obtain ⟨g, o, e, _⟩ := hq h
        cases e
    have hl : L = [] := List.eq_nil_of_length_eq_zero h0
    subst hl
    have htn : ts = [] := List.eq_nil_of_length_eq_zero ht0
    subst htn
    exact ⟨[], v, w, run_append_of_none w base _ ty _ i0 3 Try.underlying27 hi v n xs hown c, rfl, (fun k x hk => by cases hk), by simpa [flatS] using hown, World.grownBy.refl _ _⟩
  | some ad =>
    obtain ⟨v', w', h1, h2, h3, _⟩ := run_append_own (P := Try.prog) w base 27 ty 35 i0 (.agg #[.slice none 0 0, .slice none 0 0, .slice none 0 0]) 3 72 Try.underlying27 hi hz0 hz1 hz2 rfl (by decide) v n xs hown ad L.length c (flatS ts) (by rw [flatS_length, ht0, Nat.mul_comm]) (fun j x hx => by
      obtain ⟨k, t, e, hc⟩ := flatS_at hx
      have hk := (List.getElem?_eq_some_iff.1 e).1
      obtain ⟨g, o, e2, -⟩ := hq (by omega)
      injection e2 with e2
      subst e2
      obtain ⟨t', e', -, hs⟩ := ht1 k _ (List.getElem?_eq_getElem (by omega))
      rw [e] at e'
      injection e' with e'
      subst e'
      obtain ⟨f1, f2, f3⟩ := hs g o rfl
      rw [Go.WideShapes.add_plain]
      rcases hc with ⟨rfl, rfl⟩ | ⟨rfl, rfl⟩ | ⟨rfl, rfl⟩
      · exact f1
      · exact f2
      · exact f3) hone (by unfold maxLen; omega) hn hbase
    exact ⟨ts, v', w', h1, ht0, fun k x hk => by obtain ⟨t, e, hs, -⟩ := ht1 k x hk; exact ⟨t, e, hs⟩, h2, h3⟩
theorem wpList_append_sts {w : World} {ops : Array Oper} {rest : List Oper} {o : Oper} {a : Act} {Q : Exit → Act → World → Prop} (hgd : o.guard = none) (s x : Operand)
    (ho : o.op = .call { callee := .builtin .append, args := #[s, x], argTypes := #[27, 27] })
    {base B : Nat} {v u : Value} {O L : List St} (hs : a.eval s = v) (hown : StRow base B w v O) (hx : a.eval x = u) (hu : StSeq B w u L) (hn : (O.length + L.length) * 72 ≤ 140737488355328) (hbase : base ≤ w.heap.size)
    (h : ∀ v' w', StRow base B w' v' (O ++ L) → Below base w w' → wpList Try.prog ops Q rest (a.put o.dst v') w') : wpList Try.prog ops Q (o :: rest) a w :=
  wpList_plain hgd fun K hK => by
    obtain ⟨ts, h0, h1, h2⟩ := hown
    obtain ⟨us, v', w', hrun, k0, k2, k3, k4⟩ := run_append_sts w o.type base v O.length _ h1 hu hn hbase
    unfold Oper.wp execOp
    simp only [ho, resolve, invoke, builtin, Sem.run_bind, Sem.run_pure, Result.andThen_ok, List.map_toArray, List.map_cons, List.map_nil, hs, hx, hrun]
    exact hK _ _ (h v' w' (StRow.app h0 h1 h2 k0 k2 k3 k4) ((Below.refl base w).grown k4 hbase (fun j e => (h1.lt j e).1)))

/-- what the reference's Compare asks of a state -/
def Good (x : St) : Prop := InSt x ∧ MidS x ∧ x.cells.length ≤ 6 ∧ sumN (listsS x) ≤ 1099511627776
theorem mergeP_nil_left (n : Nat) (b : List St) : mergeP n [] b = b := by cases n <;> rfl
theorem mergeP_nil_right (n : Nat) (a : List St) : mergeP n a [] = a := by
  cases n with
  | zero => simp [mergeP]
  | succ n => cases a <;> rfl
theorem mergeP_lt {n : Nat} {x y : St} {a b : List St} (h : cmpP y x < 0) : mergeP (n + 1) (x :: a) (y :: b) = y :: mergeP n (x :: a) b := by
  show (if cmpP y x < 0 then _ else _) = _
  rw [if_pos h]
theorem mergeP_ge {n : Nat} {x y : St} {a b : List St} (h : ¬ cmpP y x < 0) : mergeP (n + 1) (x :: a) (y :: b) = x :: mergeP n a (y :: b) := by
  show (if cmpP y x < 0 then _ else _) = _
  rw [if_neg h]
theorem StSeq.head {B : Nat} {w : World} {v : Value} {x : St} {L : List St} (h : StSeq B w v (x :: L)) : ∃ g o c c1 c2 c3, v = .slice (some ⟨g, o, none⟩) (L.length + 1) c ∧ g < w.heap.size ∧ w.cell? ⟨g, o, none⟩ = some c1 ∧ w.cell? ⟨g, o + 1, none⟩ = some c2 ∧ w.cell? ⟨g, o + 2, none⟩ = some c3 ∧ StNew B w (.agg #[c1, c2, c3]) x ∧ L.length + 1 ≤ c ∧ c ≤ maxLen := by
  obtain ⟨a, c, rfl, h1, h2, h3⟩ := h
  obtain ⟨g, o, rfl, hg, hk⟩ := h3 (by simp)
  obtain ⟨c1, c2, c3, e1, e2, e3, e4⟩ := hk 0 x rfl
  rw [Nat.zero_mul, Nat.add_zero] at e1 e2 e3
  exact ⟨g, o, c, c1, c2, c3, rfl, hg, e1, e2, e3, e4, h1, h2⟩

set_option maxRecDepth 100000 in
set_option maxHeartbeats 8000000 in
theorem sorted_any (n : Nat) : ∀ (B : Nat) (L : List St) (v : Value) (w : World), L.length ≤ n → L.length ≤ 500 → StSeq B w v L → (∀ x ∈ L, Good x) → 
    Calls Try.prog 30 #[v] w fun e w' => ∃ r, e = .returned r ∧ StSeq B w' r (sortP n L) ∧ Below w.heap.size w w' := by
  induction n with
  | zero =>
    intro B L v w hl _ hs _
    have hl0 : L = [] := List.eq_nil_of_length_eq_zero (by omega)
    subst hl0
    obtain ⟨a, c, rfl, -, -, -⟩ := id hs
    have HS := Lib.hid hs
    go_enter Try.func30, Try.ntmps30
    go_wp2
    go_ret
    exact ⟨_, rfl, HS.out, Below.refl _ _⟩
  | succ n ih =>
    intro B L v w hl h5 hs hgood
    obtain ⟨a, c, rfl, hc1, hc2, hq⟩ := id hs
    obtain ⟨m, hm⟩ : ∃ m, L.length = m := ⟨_, rfl⟩
    have HM := Lib.hid hm
    have HS := Lib.hid hs
    have HGOOD := Lib.hid hgood
    rw [hm] at hl h5 hc1 ⊢
    by_cases h2 : m < 2
    · have h2' : (m : Int) < 2 := by omega
      have HE : Hid (sortP (n + 1) L = L) := by
        unfold Hid
        show (if L.length < 2 then L else _) = _
        rw [if_pos (by rw [hm]; exact h2)]
      have HS2 : Hid (StSeq B w (.slice a m c) L) := by rw [hm] at hs; exact hs
      clear hq hs hgood hm hc1 hc2 hl ih HS HGOOD HM
      go_enter Try.func30, Try.ntmps30
      go_wp2
      go_ret
      exact ⟨_, rfl, by rw [HE.out]; exact HS2.out, Below.refl _ _⟩
    · have h2' : ¬ (m : Int) < 2 := by omega
      obtain ⟨g, o, rfl, hg, hk⟩ := hq (by omega)
      clear hk hq hs
      go_enter Try.func30, Try.ntmps30
      go_upto_region 3 with (fail)
      obtain ⟨h, hh⟩ : ∃ h, m / 2 = h := ⟨_, rfl⟩
      have hhm : h ≤ m := by omega
      have hla : (L.take h).length ≤ n ∧ (L.take h).length ≤ 500 := by rw [List.length_take, HM.out]; clear hc2; omega
      have hlb : (L.drop h).length ≤ n ∧ (L.drop h).length ≤ 500 := by rw [List.length_drop, HM.out]; clear hc2; omega
      have i1 : (0 : Int) ≤ (h : Int) := Int.natCast_nonneg _
      have i2 : (h : Int) ≤ (m : Int) := by omega
      have i3 : (h : Int) ≤ (c : Int) := by omega
      have i4 : (m : Int) ≤ (c : Int) := by omega
      have i5 : ¬ c = h := by omega
      have e1 : Int.tdiv (m : Int) 2 = (h : Int) := by rw [← hh, Int.tdiv_eq_ediv_of_nonneg (by omega)]; rfl
      have e2 : IntKind.i64.wrap (h : Int) = (h : Int) := IntWalk.i64_in _ (by omega)
      have e3 : wrap64 (h : Int) = (h : Int) := by unfold wrap64; omega
      have hs1 : StSeq B w (.slice (some ⟨g, o, none⟩) h c) (L.take h) := by have := HS.out; rw [HM.out] at this; exact this.take h (by rw [HM.out]; exact hhm)
      have hs2 : StSeq B w (.slice (some ⟨g, o + h * 3, none⟩) (m - h) (c - h)) (L.drop h) := by have := HS.out; rw [HM.out] at this; exact this.drop h (by rw [HM.out]; exact hhm)
      have HC1 : Hid (∀ w', Below w.heap.size w w' → Calls Try.prog 30 #[.slice (some ⟨g, o, none⟩) h c] w' fun e w'' => ∃ r, e = .returned r ∧ StSeq B w'' r (sortP n (L.take h)) ∧ Below w'.heap.size w' w'') := fun w' hb =>
        ih B _ _ w' hla.1 hla.2 (hs1.next hb) (fun x hx => HGOOD.out x (List.mem_of_mem_take hx))
      have HC2 : Hid (∀ w', Below w.heap.size w w' → Calls Try.prog 30 #[.slice (some ⟨g, o + h * 3, none⟩) (m - h) (c - h)] w' fun e w'' => ∃ r, e = .returned r ∧ StSeq B w'' r (sortP n (L.drop h)) ∧ Below w'.heap.size w' w'') := fun w' hb =>
        ih B _ _ w' hlb.1 hlb.2 (hs2.next hb) (fun x hx => HGOOD.out x (List.mem_of_mem_drop hx))
      have HH := Lib.hid hh
      clear hs1 hs2 hh hgood hm hla hlb
      go_cut [3, 4] from 10 to 21 (fun a b wx => StSeq B wx a (sortP n (L.take h)) ∧ StSeq B wx b (sortP n (L.drop h)) ∧ Below w.heap.size w wx)
      case first =>
        have HX := Lib.hid (Below.refl w.heap.size w)
        go_region_held3 (fun _ => True) (trivial)
          (first
            | (go_at_call 30; (with_reducible refine (HC1.out _ ?_).mono ?_); (first | exact HX.out | exact below_drew HX.out); rintro e wz ⟨r1, rfl, hr1, hba⟩; obtain ⟨ar1, cr1, rfl, -⟩ := id hr1; have HR1 := Lib.hid hr1; have HX := Lib.hid (by first | exact below_next HX.out (Nat.le_refl _) hba | exact below_next' HX.out (Nat.le_refl _) hba : Below w.heap.size w wz); clear hba hr1)
            | (go_at_call 30; (with_reducible refine (HC2.out _ ?_).mono ?_); (first | exact HX.out | exact below_drew HX.out); rintro e wz2 ⟨r2, rfl, hr2, hba⟩; obtain ⟨ar2, cr2, rfl, -⟩ := id hr2; have HR2 := Lib.hid hr2; have HBB := Lib.hid hba; have HX := Lib.hid (by first | exact below_next HX.out (Nat.le_refl _) hba | exact below_next' HX.out (Nat.le_refl _) hba : Below w.heap.size w wz2); clear hba hr2))
        go_wp2_with fail
        go_meet
        exact ⟨HR1.out.next HBB.out, HR2.out, HX.out⟩
      case rest =>
      obtain ⟨hA, hB, hbw⟩ := hcut
      obtain ⟨Q1, hQ1⟩ : ∃ Q, sortP n (L.take h) = Q := ⟨_, rfl⟩
      obtain ⟨Q2, hQ2⟩ : ∃ Q, sortP n (L.drop h) = Q := ⟨_, rfl⟩
      rw [hQ1] at hA
      rw [hQ2] at hB
      have HGA : Hid (∀ x ∈ Q1, Good x) := fun x hx => HGOOD.out x (List.mem_of_mem_take ((sortP_perm n _).mem_iff.1 (by rw [hQ1]; exact hx)))
      have HGB : Hid (∀ x ∈ Q2, Good x) := fun x hx => HGOOD.out x (List.mem_of_mem_drop ((sortP_perm n _).mem_iff.1 (by rw [hQ2]; exact hx)))
      have HQL : Hid (Q1.length + Q2.length = m) := by
        have h1 := (sortP_perm n (L.take h)).length_eq
        have h2 := (sortP_perm n (L.drop h)).length_eq
        rw [hQ1, List.length_take, HM.out] at h1
        rw [hQ2, List.length_drop, HM.out] at h2
        unfold Hid
        omega
      have HRES : Hid (sortP (n + 1) L = mergeP (Q1.length + Q2.length) Q1 Q2) := by
        unfold Hid
        show (if L.length < 2 then L else _) = _
        rw [if_neg (by rw [HM.out]; exact h2), HM.out, HH.out, hQ1, hQ2]
      have HA := Lib.hid hA
      have HB := Lib.hid hB
      have HBW := Lib.hid hbw
      clear HC1 HC2 HS HGOOD HH HM ih hA hB hbw hQ1 hQ2 i1 i2 i3 i4 i5 e1 e2 e3 h2 h2' hl hc1 hc2 hg hhm
      go_wp2_with fail
      go_loopg [3, 4, 5] (Q1.length + Q2.length) (fun q a b out wr => ∃ A' B' O : List St, A'.length + B'.length = q ∧ StSeq B wc a A' ∧ StSeq B wc b B' ∧ StRow wc.heap.size B wr out O ∧ O ++ mergeP q A' B' = mergeP (Q1.length + Q2.length) Q1 Q2 ∧ (∀ x ∈ A', Good x) ∧ (∀ x ∈ B', Good x) ∧ O.length + q = m ∧ Below wc.heap.size wc wr)
      case atStart => exact ⟨Q1, Q2, [], rfl, HA.out, HB.out, StRow.nil _ _ _, rfl, HGA.out, HGB.out, by have := HQL.out; simpa using this, Below.refl _ _⟩
      case round =>
        obtain ⟨A', B', O, hq, hsa, hsb, hro, hmg, hga, hgb, hol, hbr⟩ := hrel
        cases A' with
        | nil =>
          obtain ⟨aa, ca, rfl, -, -, -⟩ := id hsa
          obtain ⟨ab, cb, rfl, -, -, -⟩ := id hsb
          rw [mergeP_nil_left] at hmg
          have HFIN : Hid ((O ++ []) ++ B' = sortP (n + 1) L) := by unfold Hid; rw [HRES.out, ← hmg]; simp
          have HSA := Lib.hid (hsa.next hbr)
          have HSB := Lib.hid hsb
          have HRO := Lib.hid hro
          have HBR := Lib.hid hbr
          have HLN : Hid (O.length + ([] : List St).length + B'.length ≤ 500) := by have h1 := hol; have h2 := hq; simp only [List.length_nil] at h2 ⊢; unfold Hid; omega
          obtain ⟨ts, -, hown, -⟩ := id hro
          obtain ⟨ro, co, rfl⟩ := own_form hown
          clear hq hsa hsb hro hmg hga hgb hol hbr hown
          go_wp2_with (first | (at_builtin; refine wpList_append_sts (O := O) (L := ([] : List St)) rfl (.tmp 54) (.tmp 55) rfl rfl HRO.out rfl HSA.out (by have := HLN.out; omega) HBR.out.size ?_; intro v5 w5 hr5 hb5; obtain ⟨O5, hO5⟩ : ∃ L, O ++ ([] : List St) = L := ⟨_, rfl⟩; rw [hO5] at hr5; have HO5 := Lib.hid hO5; have HR5 := Lib.hid hr5; have HB5 := Lib.hid (HBR.out.trans hb5); have HSB5 := Lib.hid (HSB.out.next (HBR.out.trans hb5)); obtain ⟨ts5, -, hown5, -⟩ := id hr5; obtain ⟨r5, k5, rfl⟩ := own_form hown5; clear hr5 hb5 hown5 hO5) | (at_builtin; refine wpList_append_sts (O := O5) (L := B') rfl (.tmp 56) (.tmp 57) rfl rfl HR5.out rfl HSB5.out (by have := HLN.out; rw [← HO5.out, List.length_append]; omega) HB5.out.size ?_; intro v6 w6 hr6 hb6; obtain ⟨O6, hO6⟩ : ∃ L, O5 ++ B' = L := ⟨_, rfl⟩; rw [hO6] at hr6; have HO6 := Lib.hid hO6; have HR6 := Lib.hid hr6; have HB6 := Lib.hid (HB5.out.trans hb6); obtain ⟨ts6, -, hown6, -⟩ := id hr6; obtain ⟨r6, k6, rfl⟩ := own_form hown6; clear hr6 hb6 hown6 hO6))
          go_ret
          exact ⟨_, rfl, by have h := HR6.out.seq; rw [← HFIN.out, HO5.out, HO6.out]; exact h, below_next HBW.out (Nat.le_refl _) HB6.out⟩
        | cons x A' =>
        cases B' with
        | nil =>
          obtain ⟨aa, ca, rfl, -, -, -⟩ := id hsa
          obtain ⟨ab, cb, rfl, -, -, -⟩ := id hsb
          rw [mergeP_nil_right] at hmg
          have HFIN : Hid ((O ++ (x :: A')) ++ ([] : List St) = sortP (n + 1) L) := by unfold Hid; rw [HRES.out, ← hmg]; simp
          have HSA := Lib.hid (hsa.next hbr)
          have HSB := Lib.hid hsb
          have HRO := Lib.hid hro
          have HBR := Lib.hid hbr
          have HLN : Hid (O.length + (x :: A').length + ([] : List St).length ≤ 500) := by have h1 := hol; have h2 := hq; simp only [List.length_cons, List.length_nil] at h2 ⊢; unfold Hid; omega
          obtain ⟨ts, -, hown, -⟩ := id hro
          obtain ⟨ro, co, rfl⟩ := own_form hown
          have p1 : (((x :: A').length : Nat) : Int) > 0 := by simp only [List.length_cons]; omega
          generalize hgx : (x :: A') = X at *
          clear hq hsa hsb hro hmg hga hgb hol hbr hown
          go_wp2_with (first | (at_builtin; refine wpList_append_sts (O := O) (L := X) rfl (.tmp 54) (.tmp 55) rfl rfl HRO.out rfl HSA.out (by have := HLN.out; omega) HBR.out.size ?_; intro v5 w5 hr5 hb5; obtain ⟨O5, hO5⟩ : ∃ L, O ++ X = L := ⟨_, rfl⟩; rw [hO5] at hr5; have HO5 := Lib.hid hO5; have HR5 := Lib.hid hr5; have HB5 := Lib.hid (HBR.out.trans hb5); have HSB5 := Lib.hid (HSB.out.next (HBR.out.trans hb5)); obtain ⟨ts5, -, hown5, -⟩ := id hr5; obtain ⟨r5, k5, rfl⟩ := own_form hown5; clear hr5 hb5 hown5 hO5) | (at_builtin; refine wpList_append_sts (O := O5) (L := ([] : List St)) rfl (.tmp 56) (.tmp 57) rfl rfl HR5.out rfl HSB5.out (by have := HLN.out; rw [← HO5.out, List.length_append]; omega) HB5.out.size ?_; intro v6 w6 hr6 hb6; obtain ⟨O6, hO6⟩ : ∃ L, O5 ++ ([] : List St) = L := ⟨_, rfl⟩; rw [hO6] at hr6; have HO6 := Lib.hid hO6; have HR6 := Lib.hid hr6; have HB6 := Lib.hid (HB5.out.trans hb6); obtain ⟨ts6, -, hown6, -⟩ := id hr6; obtain ⟨r6, k6, rfl⟩ := own_form hown6; clear hr6 hb6 hown6 hO6))
          go_ret
          exact ⟨_, rfl, by have h := HR6.out.seq; rw [← HFIN.out, HO5.out, HO6.out]; exact h, below_next HBW.out (Nat.le_refl _) HB6.out⟩
        | cons y B' =>
        obtain ⟨ga, oa, ca, a1, a2, a3, rfl, hga1, xa1, xa2, xa3, sta, hca1, hca2⟩ := hsa.head
        obtain ⟨gb, ob, cb, b1, b2, b3, rfl, hgb1, xb1, xb2, xb3, stb, hcb1, hcb2⟩ := hsb.head
        obtain ⟨ts, ht0, ht1, ht2⟩ := hro
        obtain ⟨ro, co, rfl⟩ := own_form ht1
        obtain ⟨na, hna⟩ : ∃ k, A'.length = k := ⟨_, rfl⟩
        obtain ⟨nb, hnb⟩ : ∃ k, B'.length = k := ⟨_, rfl⟩
        obtain ⟨no, hno⟩ : ∃ k, O.length = k := ⟨_, rfl⟩
        rw [hna] at hsa hca1 ⊢
        rw [hnb] at hsb hcb1 ⊢
        rw [hno] at ht1 hol ⊢
        simp only [List.length_cons, hna, hnb] at hq
        obtain ⟨na1, hna1⟩ : ∃ k, na + 1 = k := ⟨_, rfl⟩
        obtain ⟨nb1, hnb1⟩ : ∃ k, nb + 1 = k := ⟨_, rfl⟩
        rw [hna1] at hsa hca1 ⊢
        rw [hnb1] at hsb hcb1 ⊢
        have p1 : (na1 : Int) > 0 := by omega
        have p2 : (nb1 : Int) > 0 := by omega
        have p3 : (0 : Int) < (na1 : Int) := by omega
        have p4 : (0 : Int) < (nb1 : Int) := by omega
        have p5 : (1 : Int) ≤ (na1 : Int) := by omega
        have p6 : (1 : Int) ≤ (nb1 : Int) := by omega
        have p7 : (na1 : Int) ≤ (ca : Int) := by omega
        have p8 : (nb1 : Int) ≤ (cb : Int) := by omega
        have hgx := hga x (List.mem_cons_self ..)
        have hgy := hgb y (List.mem_cons_self ..)
        obtain ⟨cv, hcv⟩ : ∃ cv, cmpP y x = cv := ⟨_, rfl⟩
        have CE : Hid (∀ d os, Calls Try.prog 15 #[.agg #[b1, b2, b3], .agg #[a1, a2, a3]] (Go.Sort.grow (redrawn wr d) os) fun e w'' => e = .returned (.int .i64 cv) ∧ Below (Go.Sort.grow (redrawn wr d) os).heap.size (Go.Sort.grow (redrawn wr d) os) w'') := fun d os => by
          rw [← hcv]
          exact rcompare_any y x _ _ _ (((stb.next hbr).at_ hgy.1).below (below_regrown wr d os) (Nat.le_refl _)) (((sta.next hbr).at_ hgx.1).below (below_regrown wr d os) (Nat.le_refl _)) (by have := hgy.2.2.1; omega) (by have := hgx.2.2.1; omega) hgy.2.1 hgx.2.1 hgy.2.2.2
        have z1 : ∀ d os, (Go.Sort.grow (redrawn wr d) os).cell? ⟨ga, oa, none⟩ = some a1 := cell_regrown (cell_below hbr hga1 xa1)
        have z2 : ∀ d os, (Go.Sort.grow (redrawn wr d) os).cell? ⟨ga, oa + 1, none⟩ = some a2 := cell_regrown (cell_below hbr hga1 xa2)
        have z3 : ∀ d os, (Go.Sort.grow (redrawn wr d) os).cell? ⟨ga, oa + 2, none⟩ = some a3 := cell_regrown (cell_below hbr hga1 xa3)
        have z4 : ∀ d os, (Go.Sort.grow (redrawn wr d) os).cell? ⟨gb, ob, none⟩ = some b1 := cell_regrown (cell_below hbr hgb1 xb1)
        have z5 : ∀ d os, (Go.Sort.grow (redrawn wr d) os).cell? ⟨gb, ob + 1, none⟩ = some b2 := cell_regrown (cell_below hbr hgb1 xb2)
        have z6 : ∀ d os, (Go.Sort.grow (redrawn wr d) os).cell? ⟨gb, ob + 2, none⟩ = some b3 := cell_regrown (cell_below hbr hgb1 xb3)
        obtain ⟨sa1, ka1, sa2, ka2, sa3, ka3, ea⟩ := StNew.form sta
        obtain ⟨sb1, kb1, sb2, kb2, sb3, kb3, eb⟩ := StNew.form stb
        injection ea with ea
        injection eb with eb
        simp only [Array.mk.injEq, List.cons.injEq, and_true] at ea eb
        obtain ⟨rfl, rfl, rfl⟩ := ea
        obtain ⟨rfl, rfl, rfl⟩ := eb
        have HQ := Lib.hid hq
        have HSA := Lib.hid hsa
        have HSB := Lib.hid hsb
        have HT0 := Lib.hid ht0
        have HT1 := Lib.hid ht1
        have HT2 := Lib.hid ht2
        have HMG := Lib.hid hmg
        have HGA' := Lib.hid hga
        have HGB' := Lib.hid hgb
        have HOL := Lib.hid hol
        have HBR := Lib.hid hbr
        have HNA := Lib.hid hna
        have HNB := Lib.hid hnb
        have HNA1 := Lib.hid hna1
        have HNB1 := Lib.hid hnb1
        have HNO := Lib.hid hno
        have HCV := Lib.hid hcv
        have HSTA := Lib.hid sta
        have HSTB := Lib.hid stb
        have HGAL := Lib.hid hga1
        have HGBL := Lib.hid hgb1
        clear hq hsa hsb ht0 ht1 ht2 hmg hga hgb hol hbr hna hnb hna1 hnb1 hno hcv sta stb hgx hgy xa1 xa2 xa3 xb1 xb2 xb3 hga1 hgb1 hca1 hca2 hcb1 hcb2
        go_upto_region 6 with (fail)
        refine wp_region_quiet_below (by kernel_rfl) (by kernel_rfl) ?_
        repeat (quiet_step ((go_at_call 15; with_reducible exact Calls.regrown_of (CE.out _ _))))
        refine wpQuiet_nil ?_
        intro _ hw'
        obtain ⟨⟨dq, osq⟩, hw''⟩ := hw'
        subst hw''
        have HGG : Hid (Below wr.heap.size wr (Go.Sort.grow (redrawn wr dq) osq)) := below_regrown wr dq osq
        have y1 := z1 dq osq
        have y2 := z2 dq osq
        have y3 := z3 dq osq
        have y4 := z4 dq osq
        have y5 := z5 dq osq
        have y6 := z6 dq osq
        generalize Go.Sort.grow (redrawn wr dq) osq = G at *
        clear CE z1 z2 z3 z4 z5 z6
        have HTG : Hid (G.ownsRow wc.heap.size 35 3 (.slice ro no co) no (flatS ts)) := own_below HT1.out HGG.out
        have HSZ : Hid (wc.heap.size ≤ G.heap.size) := Nat.le_trans HBR.out.size HGG.out.size
        have HNO5 : Hid (no ≤ 500) := by have := HOL.out; show no ≤ 500; omega
        obtain ⟨i0, hi, hz0, hz1, hz2⟩ := info_parts stateInfo
        have HAY : Hid (∀ v5 w5, w5.ownsRow wc.heap.size 35 3 v5 (no + 1) (flatS ts ++ [.slice sb1 y.cells.length kb1, .slice sb2 y.inp.length kb2, .slice sb3 y.out.length kb3]) → (G.alloc (.cells #[.slice sb1 y.cells.length kb1, .slice sb2 y.inp.length kb2, .slice sb3 y.out.length kb3] 35)).grownBy w5 (Value.slice ro no co).ownBlock → StRow wc.heap.size B w5 v5 (O ++ [y]) ∧ Below wc.heap.size wc w5) := fun v5 w5 h5 g5 => by
          have hb : Below wr.heap.size wr (G.alloc (.cells #[.slice sb1 y.cells.length kb1, .slice sb2 y.inp.length kb2, .slice sb3 y.out.length kb3] 35)) := below_next HGG.out (Nat.le_refl _) (below_alloc _ _)
          have hw : Below wc.heap.size wc (G.alloc (.cells #[.slice sb1 y.cells.length kb1, .slice sb2 y.inp.length kb2, .slice sb3 y.out.length kb3] 35)) := below_next HBR.out (Nat.le_refl _) hb
          refine ⟨StRow.snoc HT0.out (by rw [HNO.out]; exact HTG.out.alloc _) (fun k z hk => by obtain ⟨t, e, f⟩ := HT2.out k z hk; exact ⟨t, e, f.next hb⟩) (StNew.next HSTB.out hw) (by rw [HNO.out]; exact h5) g5, hw.grown g5 (by have := HSZ.out; simp; omega) (fun j e => (HTG.out.lt j e).1)⟩
        have HAX : Hid (∀ v5 w5, w5.ownsRow wc.heap.size 35 3 v5 (no + 1) (flatS ts ++ [.slice sa1 x.cells.length ka1, .slice sa2 x.inp.length ka2, .slice sa3 x.out.length ka3]) → (G.alloc (.cells #[.slice sa1 x.cells.length ka1, .slice sa2 x.inp.length ka2, .slice sa3 x.out.length ka3] 35)).grownBy w5 (Value.slice ro no co).ownBlock → StRow wc.heap.size B w5 v5 (O ++ [x]) ∧ Below wc.heap.size wc w5) := fun v5 w5 h5 g5 => by
          have hb : Below wr.heap.size wr (G.alloc (.cells #[.slice sa1 x.cells.length ka1, .slice sa2 x.inp.length ka2, .slice sa3 x.out.length ka3] 35)) := below_next HGG.out (Nat.le_refl _) (below_alloc _ _)
          have hw : Below wc.heap.size wc (G.alloc (.cells #[.slice sa1 x.cells.length ka1, .slice sa2 x.inp.length ka2, .slice sa3 x.out.length ka3] 35)) := below_next HBR.out (Nat.le_refl _) hb
          refine ⟨StRow.snoc HT0.out (by rw [HNO.out]; exact HTG.out.alloc _) (fun k z hk => by obtain ⟨t, e, f⟩ := HT2.out k z hk; exact ⟨t, e, f.next hb⟩) (StNew.next HSTA.out hw) (by rw [HNO.out]; exact h5) g5, hw.grown g5 (by have := HSZ.out; simp; omega) (fun j e => (HTG.out.lt j e).1)⟩
        by_cases hlt : cv < 0
        · have HMG2 : Hid (∀ q, q = A'.length + 1 + B'.length → (O ++ [y]) ++ mergeP q (x :: A') B' = mergeP (Q1.length + Q2.length) Q1 Q2) := fun q hq => by
            rw [← HMG.out, ← HQ.out, hq, HNA.out, HNB.out, show na + 1 + (nb + 1) = (na + 1 + nb) + 1 by omega, mergeP_lt (by rw [HCV.out]; exact hlt)]
            simp
          by_cases hcb : cb = 1
          · have HTL := Lib.hid (StSeq.tail HSB.out ob (.inl hcb))
            have HCB := Lib.hid hcb
            subst hcb
            go_wp2_with (at_builtin; refine wpList_append_own2 rfl (.tmp 38) (.tmp 42) 27 rfl wc.heap.size 35 i0 (.agg #[.slice none 0 0, .slice none 0 0, .slice none 0 0]) 3 72 Try.underlying27 hi hz0 hz1 hz2 rfl (by decide) (.slice ro no co) no _ rfl (HTG.out.alloc _) ⟨G.heap.size, 0, none⟩ 1 1 [.slice sb1 y.cells.length kb1, .slice sb2 y.inp.length kb2, .slice sb3 y.out.length kb3] rfl rfl (cell_three_new G _ _ _ _) (by intro u hu; simp only [List.mem_cons, List.not_mem_nil, or_false] at hu; rcases hu with rfl | rfl | rfl <;> rfl) (by decide) (by have := HNO5.out; unfold maxLen; omega) (by have := HNO5.out; omega) (by have := HSZ.out; simp; omega) ?_; intro v5 w5 hown5 hgr5 hpos5; have H5 := Lib.hid (HAY.out v5 w5 hown5 hgr5); obtain ⟨a5, k5, rfl⟩ := own_form hown5; clear hown5 hgr5 hpos5)
            go_roundg (na + 1 + nb)
            case measure => have := HQ.out; omega
            case rel => exact ⟨x :: A', B', O ++ [y], by simp only [List.length_cons, HNA.out, HNB.out], HSA.out, HTL.out, H5.out.1, HMG2.out _ (by have h1 := HNA.out; have h2 := HNB.out; omega), HGA'.out, fun z hz => HGB'.out z (List.mem_cons_of_mem _ hz), by have := HQ.out; have := HOL.out; have := HNO.out; simp only [List.length_append, List.length_cons, List.length_nil]; omega, H5.out.2⟩
          · have HTL := Lib.hid (StSeq.tail HSB.out (ob + 3) (.inr rfl))
            have HCB := Lib.hid hcb
            go_wp2_with (at_builtin; refine wpList_append_own2 rfl (.tmp 38) (.tmp 42) 27 rfl wc.heap.size 35 i0 (.agg #[.slice none 0 0, .slice none 0 0, .slice none 0 0]) 3 72 Try.underlying27 hi hz0 hz1 hz2 rfl (by decide) (.slice ro no co) no _ rfl (HTG.out.alloc _) ⟨G.heap.size, 0, none⟩ 1 1 [.slice sb1 y.cells.length kb1, .slice sb2 y.inp.length kb2, .slice sb3 y.out.length kb3] rfl rfl (cell_three_new G _ _ _ _) (by intro u hu; simp only [List.mem_cons, List.not_mem_nil, or_false] at hu; rcases hu with rfl | rfl | rfl <;> rfl) (by decide) (by have := HNO5.out; unfold maxLen; omega) (by have := HNO5.out; omega) (by have := HSZ.out; simp; omega) ?_; intro v5 w5 hown5 hgr5 hpos5; have H5 := Lib.hid (HAY.out v5 w5 hown5 hgr5); obtain ⟨a5, k5, rfl⟩ := own_form hown5; clear hown5 hgr5 hpos5)
            go_roundg (na + 1 + nb)
            case measure => have := HQ.out; omega
            case rel => exact ⟨x :: A', B', O ++ [y], by simp only [List.length_cons, HNA.out, HNB.out], HSA.out, HTL.out, H5.out.1, HMG2.out _ (by have h1 := HNA.out; have h2 := HNB.out; omega), HGA'.out, fun z hz => HGB'.out z (List.mem_cons_of_mem _ hz), by have := HQ.out; have := HOL.out; have := HNO.out; simp only [List.length_append, List.length_cons, List.length_nil]; omega, H5.out.2⟩
        · have HMG2 : Hid (∀ q, q = A'.length + (B'.length + 1) → (O ++ [x]) ++ mergeP q A' (y :: B') = mergeP (Q1.length + Q2.length) Q1 Q2) := fun q hq => by
            rw [← HMG.out, ← HQ.out, hq, HNA.out, HNB.out, show na + 1 + (nb + 1) = (na + (nb + 1)) + 1 by omega, mergeP_ge (by rw [HCV.out]; exact hlt)]
            simp
          by_cases hcb : ca = 1
          · have HTL := Lib.hid (StSeq.tail HSA.out oa (.inl hcb))
            have HCB := Lib.hid hcb
            subst hcb
            go_wp2_with (at_builtin; refine wpList_append_own2 rfl (.tmp 46) (.tmp 50) 27 rfl wc.heap.size 35 i0 (.agg #[.slice none 0 0, .slice none 0 0, .slice none 0 0]) 3 72 Try.underlying27 hi hz0 hz1 hz2 rfl (by decide) (.slice ro no co) no _ rfl (HTG.out.alloc _) ⟨G.heap.size, 0, none⟩ 1 1 [.slice sa1 x.cells.length ka1, .slice sa2 x.inp.length ka2, .slice sa3 x.out.length ka3] rfl rfl (cell_three_new G _ _ _ _) (by intro u hu; simp only [List.mem_cons, List.not_mem_nil, or_false] at hu; rcases hu with rfl | rfl | rfl <;> rfl) (by decide) (by have := HNO5.out; unfold maxLen; omega) (by have := HNO5.out; omega) (by have := HSZ.out; simp; omega) ?_; intro v5 w5 hown5 hgr5 hpos5; have H5 := Lib.hid (HAX.out v5 w5 hown5 hgr5); obtain ⟨a5, k5, rfl⟩ := own_form hown5; clear hown5 hgr5 hpos5)
            go_roundg (na + (nb + 1))
            case measure => have := HQ.out; omega
            case rel => exact ⟨A', y :: B', O ++ [x], by simp only [List.length_cons, HNA.out, HNB.out], HTL.out, HSB.out, H5.out.1, HMG2.out _ (by have h1 := HNA.out; have h2 := HNB.out; omega), fun z hz => HGA'.out z (List.mem_cons_of_mem _ hz), HGB'.out, by have := HQ.out; have := HOL.out; have := HNO.out; simp only [List.length_append, List.length_cons, List.length_nil]; omega, H5.out.2⟩
          · have HTL := Lib.hid (StSeq.tail HSA.out (oa + 3) (.inr rfl))
            have HCB := Lib.hid hcb
            go_wp2_with (at_builtin; refine wpList_append_own2 rfl (.tmp 46) (.tmp 50) 27 rfl wc.heap.size 35 i0 (.agg #[.slice none 0 0, .slice none 0 0, .slice none 0 0]) 3 72 Try.underlying27 hi hz0 hz1 hz2 rfl (by decide) (.slice ro no co) no _ rfl (HTG.out.alloc _) ⟨G.heap.size, 0, none⟩ 1 1 [.slice sa1 x.cells.length ka1, .slice sa2 x.inp.length ka2, .slice sa3 x.out.length ka3] rfl rfl (cell_three_new G _ _ _ _) (by intro u hu; simp only [List.mem_cons, List.not_mem_nil, or_false] at hu; rcases hu with rfl | rfl | rfl <;> rfl) (by decide) (by have := HNO5.out; unfold maxLen; omega) (by have := HNO5.out; omega) (by have := HSZ.out; simp; omega) ?_; intro v5 w5 hown5 hgr5 hpos5; have H5 := Lib.hid (HAX.out v5 w5 hown5 hgr5); obtain ⟨a5, k5, rfl⟩ := own_form hown5; clear hown5 hgr5 hpos5)
            go_roundg (na + (nb + 1))
            case measure => have := HQ.out; omega
            case rel => exact ⟨A', y :: B', O ++ [x], by simp only [List.length_cons, HNA.out, HNB.out], HTL.out, HSB.out, H5.out.1, HMG2.out _ (by have h1 := HNA.out; have h2 := HNB.out; omega), fun z hz => HGA'.out z (List.mem_cons_of_mem _ hz), HGB'.out, by have := HQ.out; have := HOL.out; have := HNO.out; simp only [List.length_append, List.length_cons, List.length_nil]; omega, H5.out.2⟩
end Go.Proofs.Ytklbaocgjegdfaa

/- The reference's All. -/
namespace Go.Proofs.Ytklbaocgjegdfaa
open Go.RowKit Go.Shelf

theorem StRow.get {base B : Nat} {w : World} {v : Value} {L : List St} (h : StRow base B w v L) {k : Nat} {x : St} (hk : L[k]? = some x) :
    ∃ g c c1 c2 c3, v = .slice (some ⟨g, 0, none⟩) L.length c ∧ g < w.heap.size ∧ w.cell? ⟨g, k * 3, none⟩ = some c1 ∧ w.cell? ⟨g, k * 3 + 1, none⟩ = some c2 ∧ w.cell? ⟨g, k * 3 + 2, none⟩ = some c3 ∧ StNew B w (.agg #[c1, c2, c3]) x := by
  obtain ⟨ts, h0, h1, h2⟩ := h
  obtain ⟨t, a, b⟩ := h2 k x hk
  have hlt := (List.getElem?_eq_some_iff.1 hk).1
  rcases id h1.2 with ⟨_, h0⟩ | ⟨g, cap, cur, rfl, hb, hg, _⟩
  · omega
  obtain ⟨f0, f1, f2⟩ := flatS_get a
  have c0 := World.ownsRow.cells h1 (g := g) rfl _ _ f0
  have c1 := World.ownsRow.cells h1 (g := g) rfl _ _ f1
  have c2 := World.ownsRow.cells h1 (g := g) rfl _ _ f2
  rw [Go.WideShapes.add_plain, Nat.zero_add, Nat.mul_comm] at c0 c1 c2
  exact ⟨g, _, t.1, t.2.1, t.2.2, rfl, (Array.getElem?_eq_some_iff.1 hg).1, c0, c1, c2, b⟩

/-- the states behind the first k variables -/
def stgP (v nd : Nat) (Bs : List Bd) (k : Nat) : List St := (boxesP v (Bs.take k)).map fun X => if k = nd + 1 then mkSt X else ⟨X, [], []⟩
/-- one list more -/
def stepS (nd k : Nat) (X : List (List Int)) (l : List Int) : St := if k = nd then ⟨X, l, []⟩ else ⟨X ++ [l], [], []⟩
def nxtP (S : List (List (List Int))) (M : List (List Int)) (F : List (List Int) → List Int → St) (j i : Nat) (X : List (List Int)) : List St := (S.take j).flatMap (fun X => M.map (F X)) ++ (M.take i).map (F X)
theorem nxtP_zero (S : List (List (List Int))) (M : List (List Int)) (F : List (List Int) → List Int → St) (j : Nat) (X Y : List (List Int)) : nxtP S M F j 0 X = nxtP S M F j 0 Y := by simp [nxtP]
theorem nxtP_snoc {S : List (List (List Int))} {M : List (List Int)} {F : List (List Int) → List Int → St} {j i : Nat} {X : List (List Int)} {l : List Int} (h : M[i]? = some l) : nxtP S M F j (i + 1) X = nxtP S M F j i X ++ [F X l] := by
  unfold nxtP
  rw [List.take_add_one, h, List.map_append, List.append_assoc]
  rfl
theorem nxtP_next {S : List (List (List Int))} {M : List (List Int)} {F : List (List Int) → List Int → St} {j i : Nat} {X Y : List (List Int)} (h : S[j]? = some X) (hi : M.length ≤ i) : nxtP S M F j i X = nxtP S M F (j + 1) 0 Y := by
  unfold nxtP
  rw [List.take_add_one, h, List.take_of_length_le hi]
  simp
theorem nxtP_len (S : List (List (List Int))) (M : List (List Int)) (F : List (List Int) → List Int → St) (j i : Nat) (X : List (List Int)) : (nxtP S M F j i X).length ≤ S.length * M.length + M.length := by
  unfold nxtP
  rw [List.length_append, length_flatMap_const _ _ M.length (fun a => by simp), List.length_map, List.length_take, List.length_take]
  have := Nat.mul_le_mul (Nat.min_le_right j S.length) (Nat.le_refl M.length)
  omega
theorem mkSt_snoc (X : List (List Int)) (l : List Int) : mkSt (X ++ [l]) = ⟨X, l, []⟩ := by
  unfold mkSt
  rw [List.dropLast_concat]
  simp
theorem nxtP_all {v nd k : Nat} {Bs : List Bd} {b : Bd} (hb : Bs[k]? = some b) (X : List (List Int)) : nxtP (boxesP v (Bs.take k)) (betP v b.lo.toNat (nOf b)) (stepS nd k) (boxesP v (Bs.take k)).length 0 X = stgP v nd Bs (k + 1) := by
  unfold nxtP stgP
  rw [List.take_length, List.take_add_one, hb, show (some b).toList = [b] from rfl, boxesP_snoc]
  unfold addP
  rw [List.take_zero, List.map_nil, List.append_nil, List.map_flatMap]
  congr 1
  funext X
  rw [List.map_map]
  apply List.map_congr_left
  intro l _
  unfold stepS
  simp only [Function.comp]
  by_cases hkn : k = nd
  · rw [if_pos hkn, if_pos (by omega), mkSt_snoc]
  · rw [if_neg hkn, if_neg (by omega)]

theorem cntP_pos {v : Nat} {B : List Bd} (h : ∀ b ∈ B, 1 ≤ cntB v b) : 1 ≤ cntP v B := by
  induction B using snoc_ind with
  | h0 => exact Nat.le_refl _
  | h1 B b ih =>
    rw [cntP_snoc]
    exact Nat.mul_pos (ih fun b hb => h b (by simp [hb])) (h b (by simp))
theorem cntP_take_le {v : Nat} {B : List Bd} (h : ∀ b ∈ B, 1 ≤ cntB v b) (k : Nat) : cntP v (B.take k) ≤ cntP v B := by
  induction B using snoc_ind with
  | h0 => simp
  | h1 B b ih =>
    have h1 := ih fun b hb => h b (by simp [hb])
    have h2 := h b (by simp)
    rw [cntP_snoc]
    have h3 : cntP v B ≤ cntP v B * cntB v b := Nat.le_mul_of_pos_right _ h2
    by_cases hk : k ≤ B.length
    · rw [List.take_append_of_le_length hk]
      omega
    · rw [List.take_of_length_le (by simp; omega), cntP_snoc]
      exact Nat.le_refl _
theorem cntB_le {v : Nat} {B : List Bd} (h : ∀ b ∈ B, 1 ≤ cntB v b) : ∀ b ∈ B, cntB v b ≤ cntP v B := by
  induction B using snoc_ind with
  | h0 => intro b hb; cases hb
  | h1 B c ih =>
    intro b hb
    rw [cntP_snoc]
    have h1 := cntP_pos (fun b hb => h b (by simp [hb]) : ∀ b ∈ B, 1 ≤ cntB v b)
    have h2 := h c (by simp)
    rcases List.mem_append.1 hb with hb | hb
    · have := ih (fun b hb => h b (by simp [hb])) b hb
      exact Nat.le_trans this (Nat.le_mul_of_pos_right _ h2)
    · simp only [List.mem_cons, List.not_mem_nil, or_false] at hb
      subst hb
      exact Nat.le_mul_of_pos_left _ h1
theorem cntB_pos {v : Nat} {b : Bd} (h : b.lo ≤ b.hi) : 1 ≤ cntB v b := by
  unfold cntB
  obtain ⟨n, hn⟩ : ∃ n, nOf b = n + 1 := ⟨nOf b - 1, by unfold nOf; omega⟩
  rw [hn, List.range_succ_eq_map, List.map_cons, List.sum_cons]
  have := Nat.pow_pos (n := b.lo.toNat + 0) (show 0 < 2 * v + 1 by omega)
  omega

theorem nx_fin {base B : Nat} {w2 wr wZ w6 : World} {v v6 c0 c1 c2 : Value} {L : List St} {x : St} {ts : List (Value × Value × Value)} (h0 : ts.length = L.length) (h1 : wr.ownsRow base 35 3 v L.length (flatS ts)) (h2 : ∀ (k : Nat) (x : St), L[k]? = some x → ∃ t : Value × Value × Value, ts[k]? = some t ∧ StNew B wr (.agg #[t.1, t.2.1, t.2.2]) x)
    (hz : Below wr.heap.size wr wZ) (hs : StNew B wZ (.agg #[c0, c1, c2]) x) (hb : Below base w2 wr) (hbase : base ≤ wr.heap.size) (hown : w6.ownsRow base 35 3 v6 (L.length + 1) (flatS ts ++ [c0, c1, c2])) (hg : (wZ.alloc (.cells #[c0, c1, c2] 35)).grownBy w6 v.ownBlock) :
    StRow base B w6 v6 (L ++ [x]) ∧ Below base w2 w6 := by
  have hA : Below wr.heap.size wr (wZ.alloc (.cells #[c0, c1, c2] 35)) := below_next hz (Nat.le_refl _) (below_alloc _ _)
  have ho := own_below h1 hA
  refine ⟨StRow.snoc h0 ho (fun k z hk => by obtain ⟨t, e, f⟩ := h2 k z hk; exact ⟨t, e, f.next hA⟩) (hs.next (below_alloc _ _)) hown hg, (hb.trans (hA.mono hbase)).grown hg (Nat.le_trans hbase hA.size) (fun j e => (ho.lt j e).1)⟩
/-- the last list: the input -/
theorem nx_inp {B : Nat} {w2 wr w4 : World} {X : List (List Int)} {l : List Int} {c ul rx : Value} {vx : List Value} (hB : B ≤ wr.heap.size) (h24 : Below w2.heap.size w2 w4) (hr4 : Below wr.heap.size wr w4) (hrx : RowsNew B w2 rx vx X) (hil : IntsNew B w2 ul l) (ho : w4.ownsRow wr.heap.size 33 1 c X.length vx) :
    Below wr.heap.size wr (w4.alloc (.cells #[c, ul, .slice none 0 0] 35)) ∧ StNew B (w4.alloc (.cells #[c, ul, .slice none 0 0] 35)) (.agg #[c, ul, .slice none 0 0]) ⟨X, l, []⟩ := by
  have h4 : Below w4.heap.size w4 (w4.alloc (.cells #[c, ul, .slice none 0 0] 35)) := below_alloc _ _
  have h2 := below_next h24 (Nat.le_refl _) h4
  refine ⟨below_next hr4 (Nat.le_refl _) h4, c, ul, .slice none 0 0, vx, rfl, ⟨own_mono (own_below ho h4) hB, fun i z hz => ?_⟩, hil.next h2, World.ownsRow_nil _ _ _ _⟩
  obtain ⟨u, a, b⟩ := hrx.2 i z hz
  exact ⟨u, a, b.next h2⟩
/-- one more cell list -/
theorem nx_cell {B : Nat} {w2 wr w4 w5 : World} {X : List (List Int)} {l : List Int} {c c5 ul rx : Value} {vx : List Value} (hB : B ≤ wr.heap.size) (h24 : Below w2.heap.size w2 w4) (hr4 : Below wr.heap.size wr w4) (hrx : RowsNew B w2 rx vx X) (hil : IntsNew B w2 ul l) (ho : w4.ownsRow wr.heap.size 33 1 c X.length vx)
    (hg : ((w4.alloc (.cells #[c, .slice none 0 0, .slice none 0 0] 35)).alloc (.cells #[ul] 33)).drew.grownBy w5 c.ownBlock) (h5 : w5.ownsRow wr.heap.size 33 1 c5 (X.length + 1) (vx ++ [ul])) :
    Blk w5 w4.heap.size 35 #[c, .slice none 0 0, .slice none 0 0] ∧ Below wr.heap.size wr (w5.setCell ⟨w4.heap.size, 0, none⟩ c5) ∧ StNew B (w5.setCell ⟨w4.heap.size, 0, none⟩ c5) (.agg #[c5, .slice none 0 0, .slice none 0 0]) ⟨X ++ [l], [], []⟩ := by
  have hA : Below w4.heap.size w4 ((w4.alloc (.cells #[c, .slice none 0 0, .slice none 0 0] 35)).alloc (.cells #[ul] 33)).drew := below_drew (below_next (below_alloc _ _) (Nat.le_refl _) (below_alloc _ _))
  have hoA := own_below ho hA
  have hk : Blk ((w4.alloc (.cells #[c, .slice none 0 0, .slice none 0 0] 35)).alloc (.cells #[ul] 33)).drew w4.heap.size 35 #[c, .slice none 0 0, .slice none 0 0] := blk_nx (Blk.new _ _ _) _
  have hk5 := hk.grown hg (hk.own_ne hoA (by decide))
  have h2A := below_next h24 (Nat.le_refl _) hA
  have hrA : Below wr.heap.size wr _ := below_next hr4 (Nat.le_refl _) hA
  have h25 : Below wr.heap.size wr w5 := hrA.grown hg (Nat.le_trans hr4.size hA.size) (fun j e => (hoA.lt j e).1)
  have hk0 : ∀ {z : Value} {y : List Int}, IntsNew B w2 z y → IntsNew B (w5.setCell ⟨w4.heap.size, 0, none⟩ c5) z y := fun {z y} h => by
    have e1 : IntsNew B ((w4.alloc (.cells #[c, .slice none 0 0, .slice none 0 0] 35)).alloc (.cells #[ul] 33)).drew z y := h.next h2A
    have e2 : IntsNew B w5 z y := e1.kept hg (own_own_ne e1 hoA (by decide))
    exact own_same e2 (Nat.le_refl _) (fun j cs _ _ hj => Below.heap_setCell w5 ⟨w4.heap.size, 0, none⟩ c5 j (fun e => by
      have e' : j = w4.heap.size := e
      rw [e'] at hj
      unfold Blk at hk5
      rw [hk5] at hj
      injection hj with hj
      injection hj with _ hj
      exact absurd hj (by decide)))
  refine ⟨hk5, h25.setCell (p := ⟨w4.heap.size, 0, none⟩) hr4.size _, c5, .slice none 0 0, .slice none 0 0, vx ++ [ul], rfl, ⟨?_, fun i z hz => ?_⟩, World.ownsRow_nil _ _ _ _, World.ownsRow_nil _ _ _ _⟩
  · have e : (X ++ [l]).length = X.length + 1 := by simp
    show World.ownsRow _ _ _ _ _ (X ++ [l]).length _
    rw [e]
    exact own_same h5 hB (fun j cs _ _ hj => Below.heap_setCell w5 ⟨w4.heap.size, 0, none⟩ c5 j (fun e => by
      have e' : j = w4.heap.size := e
      rw [e'] at hj
      unfold Blk at hk5
      rw [hk5] at hj
      injection hj with hj
      injection hj with _ hj
      exact absurd hj (by decide)))
  · have hlen := hrx.len
    rcases Nat.lt_or_ge i X.length with hi | hi
    · rw [List.getElem?_append_left hi] at hz
      obtain ⟨u, a, b⟩ := hrx.2 i z hz
      exact ⟨u, by rw [List.getElem?_append_left (by omega)]; exact a, hk0 b⟩
    · rw [List.getElem?_append_right hi] at hz
      have e : i - X.length = 0 := by
        rcases Nat.eq_zero_or_pos (i - X.length) with h | h
        · exact h
        · rw [List.getElem?_eq_none (by simp; omega)] at hz; cases hz
      rw [e, List.getElem?_cons_zero] at hz
      injection hz with hz
      subst hz
      exact ⟨ul, by rw [List.getElem?_append_right (by omega), show i - vx.length = 0 by omega]; rfl, hk0 hil⟩

set_option maxRecDepth 100000 in
set_option maxHeartbeats 16000000 in
theorem rall_any (D : List Decl) (u : Value) (v le inp : Nat) (w : World) (h1 : DeclsAt w u D) (hs : SmallP D v le inp) (hgood : ∀ x ∈ stsP D v le inp, Good x) :
    Calls Try.prog 13 #[u, .int .i64 v, .int .i64 le, .int .i64 inp] w fun e w' => ∃ r, e = .returned r ∧ StSeq w.heap.size w' r (stsP D v le inp) ∧ Below w.heap.size w w' := by
  obtain ⟨⟨ad, cd, rfl, -, -, -⟩, -⟩ := id h1
  obtain ⟨Bs, hBs⟩ : ∃ B, lensP D le inp = B := ⟨_, rfl⟩
  have hpos : ∀ b ∈ Bs, 1 ≤ cntB v b := fun b hb => cntB_pos (by
    rw [← hBs] at hb
    unfold lensP at hb
    rcases List.mem_append.1 hb with hb | hb
    · obtain ⟨d, _, rfl⟩ := List.mem_map.1 hb
      unfold lenD
      split
      · show (0 : Int) ≤ (le : Int); omega
      · exact Int.le_refl _
    · simp only [List.mem_cons, List.not_mem_nil, or_false] at hb
      subst hb
      show (0 : Int) ≤ (inp : Int); omega)
  have hfew : cntP v Bs ≤ 500 := by rw [← hBs]; exact hs.few
  have HSL : Hid (∀ k, (boxesP v (Bs.take k)).length ≤ 500) := fun k => by
    rw [boxesP_length]
    exact Nat.le_trans (cntP_take_le hpos k) hfew
  have hml : ∀ b ∈ Bs, (betP v b.lo.toNat (nOf b)).length ≤ 500 := fun b hb => by
    rw [betP_length]
    exact Nat.le_trans (cntB_le hpos b hb) hfew
  have hvd : D.length ≤ 6 ∧ ∀ d ∈ D, validD d = true := by
    have := hs.val
    unfold validB at this
    rw [Bool.and_eq_true, decide_eq_true_eq, List.all_eq_true] at this
    exact ⟨hs.six, this.2⟩
  obtain ⟨hn6, hvd⟩ := hvd
  obtain ⟨n, hn⟩ : ∃ n, D.length = n := ⟨_, rfl⟩
  have hbl : Bs.length = n + 1 := by rw [← hBs, lensP_len, hn]
  have hbD : ∀ k d, D[k]? = some d → Bs[k]? = some (lenD le d) := fun k d hd => by
    rw [← hBs]
    unfold lensP
    rw [List.getElem?_append_left (by rw [List.length_map]; exact (List.getElem?_eq_some_iff.1 hd).1), List.getElem?_map, hd]
    rfl
  have hbn : Bs[n]? = some ⟨0, inp⟩ := by
    rw [← hBs]
    unfold lensP
    rw [List.getElem?_append_right (by rw [List.length_map, hn]; exact Nat.le_refl _), List.length_map, hn, Nat.sub_self]
    rfl
  have hle := hs.le1000
  have hinp := hs.inp1000
  have hv := hs.v1000
  have e0 : betP v (Bd.mk 0 (inp : Int)).lo.toNat (nOf ⟨0, inp⟩) = betP v 0 (inp + 1) := by unfold nOf; congr 1 <;> (simp only; omega)
  have HIN : Hid (∀ w', Calls Try.prog 29 #[.int .i64 v, .int .i64 0, .int .i64 inp] w' fun e w'' => ∃ c vs, e = .returned c ∧ RowsNew w'.heap.size w'' c vs (betP v (Bd.mk 0 (inp : Int)).lo.toNat (nOf ⟨0, inp⟩)) ∧ Below w'.heap.size w' w'') := fun w' => by
    have hm := hml _ (List.mem_of_getElem? hbn)
    rw [e0] at hm ⊢
    have h := between_any v 0 (inp + 1) w' hv (by omega) hm
    have e : ((0 : Nat) : Int) + ((inp + 1 : Nat) : Int) - 1 = (inp : Int) := by omega
    rwa [e] at h
  have HD1 : Hid (∀ k d, D[k]? = some d → d.kind = 1 → ∀ w', Calls Try.prog 29 #[.int .i64 v, .int .i64 1, .int .i64 1] w' fun e w'' => ∃ c vs, e = .returned c ∧ RowsNew w'.heap.size w'' c vs (betP v (lenD le d).lo.toNat (nOf (lenD le d))) ∧ Below w'.heap.size w' w'') := fun k d hd hk w' => by
    have hm := hml _ (List.mem_of_getElem? (hbD k d hd))
    have e : lenD le d = ⟨1, 1⟩ := by unfold lenD fixedZ; rw [if_neg (by omega), if_pos hk]
    rw [e] at hm ⊢
    exact between_any v 1 1 w' hv (by omega) hm
  have HD2 : Hid (∀ k d, D[k]? = some d → d.kind = 2 → ∀ m : Nat, d.len = (m : Int) → m ≤ 16 → ∀ w', Calls Try.prog 29 #[.int .i64 v, .int .i64 m, .int .i64 m] w' fun e w'' => ∃ c vs, e = .returned c ∧ RowsNew w'.heap.size w'' c vs (betP v (lenD le d).lo.toNat (nOf (lenD le d))) ∧ Below w'.heap.size w' w'') := fun k d hd hk m hdm h16 w' => by
    have hm := hml _ (List.mem_of_getElem? (hbD k d hd))
    have e : lenD le d = ⟨m, m⟩ := by unfold lenD fixedZ; rw [if_neg (by omega), if_neg (by omega), hdm]
    have e2 : betP v (Bd.mk (m : Int) (m : Int)).lo.toNat (nOf ⟨m, m⟩) = betP v m 1 := by unfold nOf; congr 1 <;> (simp only; omega)
    rw [e, e2] at hm
    rw [e, e2]
    have h := between_any v m 1 w' hv (by omega) hm
    have e3 : (m : Int) + ((1 : Nat) : Int) - 1 = (m : Int) := by omega
    rwa [e3] at h
  have HD3 : Hid (∀ k d, D[k]? = some d → d.kind = 3 → ∀ w', Calls Try.prog 29 #[.int .i64 v, .int .i64 0, .int .i64 le] w' fun e w'' => ∃ c vs, e = .returned c ∧ RowsNew w'.heap.size w'' c vs (betP v (lenD le d).lo.toNat (nOf (lenD le d))) ∧ Below w'.heap.size w' w'') := fun k d hd hk w' => by
    have hm := hml _ (List.mem_of_getElem? (hbD k d hd))
    have e : lenD le d = ⟨0, le⟩ := if_pos hk
    have e2 : betP v (Bd.mk 0 (le : Int)).lo.toNat (nOf ⟨0, le⟩) = betP v 0 (le + 1) := by unfold nOf; congr 1 <;> (simp only; omega)
    rw [e, e2] at hm
    rw [e, e2]
    have h := between_any v 0 (le + 1) w' hv (by omega) hm
    have e3 : ((0 : Nat) : Int) + ((le + 1 : Nat) : Int) - 1 = (le : Int) := by omega
    rwa [e3] at h
  have HML : Hid (∀ k b, Bs[k]? = some b → (betP v b.lo.toNat (nOf b)).length ≤ 500) := fun k b hb => hml b (List.mem_of_getElem? hb)
  have HXLEN : Hid (∀ k X, X ∈ boxesP v (Bs.take k) → X.length ≤ 7) := fun k X hX => by
    have hlo : ∀ b ∈ Bs.take k, 0 ≤ b.lo := fun b hb => hs.cond.lo b (by rw [hBs]; exact List.mem_of_mem_take hb)
    have h := (inBox_all ((mem_boxesP hlo X).1 hX)).1
    rw [h, List.length_take]
    omega
  have HST0 : Hid (stgP v n Bs 0 = [⟨[], [], []⟩]) := by unfold Hid stgP; simp [boxesP]
  have HSTN : Hid (sortP 500 (stgP v n Bs (n + 1)) = stsP D v le inp ∧ (stgP v n Bs (n + 1)).length ≤ 500 ∧ ∀ x ∈ stgP v n Bs (n + 1), Good x) := by
    have e : stgP v n Bs (n + 1) = (boxesP v Bs).map mkSt := by
      unfold stgP
      rw [List.take_of_length_le (by omega)]
      apply List.map_congr_left
      intro X _
      rw [if_pos rfl]
    have hp : (stsP D v le inp).Perm (stgP v n Bs (n + 1)) := by
      rw [e]
      unfold stsP
      rw [← hBs]
      exact (all_perm hs.cond.lo).map mkSt
    have hl : (stgP v n Bs (n + 1)).length ≤ 500 := by rw [← hp.length_eq]; exact hs.count500
    refine ⟨sortP_eq hl ?_ hp, hl, fun x hx => hgood x (hp.mem_iff.2 hx)⟩
    exact hs.sorted.imp_of_mem fun {a b} ha hb hab => hs.cmp ha hb hab
  have HBD := Lib.hid hbD
  have HBN := Lib.hid hbn
  have HVD := Lib.hid hvd
  have HN := Lib.hid hn
  have HDD := Lib.hid h1
  rw [hn] at hn6 ⊢
  have hv63 : (v : Int) ≤ 1000 := by omega
  clear hpos hfew hml hbD hbn hvd hBs e0 hn h1 hs hgood hle hinp hv
  obtain ⟨j0, hj, hy0, hy1, hy2⟩ := info_parts rowInfo
  obtain ⟨i0, hi, hz0, hz1, hz2⟩ := info_parts stateInfo
  go_enter Try.func13, Try.ntmps13
  go_wp2_with fail
  go_loopg [9, 10] (n + 1) (fun q st i wr => ∃ k : Nat, k + q = n + 1 ∧ i = .int .i64 (k : Int) ∧ StRow w.heap.size w.heap.size wr st (stgP v n Bs k) ∧ Below w.heap.size w wr)
  case atStart =>
    refine ⟨0, by omega, rfl, ?_, below_alloc _ _⟩
    rw [HST0.out]
    refine ⟨[(.slice none 0 0, .slice none 0 0, .slice none 0 0)], rfl, World.ownsRow_lit w #[.slice none 0 0, .slice none 0 0, .slice none 0 0] 1 (Nat.le_refl _) (by decide) rfl, fun k x hk => ?_⟩
    cases k with
    | zero =>
      simp only [List.getElem?_cons_zero, Option.some.injEq] at hk
      subst hk
      exact ⟨_, rfl, _, _, _, [], rfl, RowsNew.nil _ _, World.ownsRow_nil _ _ _ _, World.ownsRow_nil _ _ _ _⟩
    | succ k => simp at hk
  case round =>
    obtain ⟨k, hk, rfl, hst, hbw⟩ := hrel
    obtain ⟨w1, hw1⟩ : ∃ w' : World, w' = wr := ⟨_, rfl⟩
    subst hw1
    have Hk := Lib.hid hk
    have HST := Lib.hid hst
    have HBW := Lib.hid hbw
    obtain ⟨ts0, -, hown0, -⟩ := id hst
    obtain ⟨sa, sc, rfl⟩ := own_form hown0
    have u1 : IntKind.i64.wrap ((k : Int) + 1) = (k : Int) + 1 := IntWalk.i64_in _ (by omega)
    clear hk hst hbw hown0
    by_cases hlt : k ≤ n
    · have hlt' : (k : Int) ≤ (n : Int) := by omega
      obtain ⟨b, hb⟩ : ∃ b, Bs[k]? = some b := ⟨_, List.getElem?_eq_getElem (by omega)⟩
      have HB := Lib.hid hb
      clear hb
      go_upto_if 27 with (fail)
      go_cut [11] from 27 to 59 (fun l wx => ∃ vs, RowsNew w.heap.size wx l vs (betP v b.lo.toNat (nOf b)) ∧ Below w1.heap.size w1 wx)
      case first =>
        by_cases hkn : k = n
        · have e1 : ((k : Int) == (n : Int)) = true := by simp; omega
          have hbe : b = ⟨0, inp⟩ := by
            have h := HB.out
            rw [hkn, HBN.out] at h
            injection h with h
            exact h.symm
          subst hbe
          clear hkn
          go_wp2_with fail
          refine (HIN.out _).mono ?_
          rintro e w2 ⟨c, vs, rfl, hr, hb2⟩
          have HR := Lib.hid (hr.mono HBW.out.size)
          have HB2 := Lib.hid hb2
          clear hr hb2
          go_wp2_with fail
          go_meet
          exact ⟨vs, HR.out, HB2.out⟩
        · have e1 : ((k : Int) == (n : Int)) = false := by simp; omega
          have hkl : k < n := by omega
          have hkl' : (k : Int) < (n : Int) := by omega
          obtain ⟨g, off, rfl, hg, hq⟩ := HDD.out.1.get (by have := HN.out; omega)
          obtain ⟨d, hd⟩ := get_lt HN.out.symm hkl
          obtain ⟨-, q1, q2⟩ := hq k d hd
          have q1' := cell_below HBW.out hg q1
          have q2' := cell_below HBW.out hg q2
          have hvd := validD_cases (HVD.out d (List.mem_of_getElem? hd))
          have HKD := Lib.hid hd
          have hbe : lenD le d = b := by
            have h := HB.out
            rw [HBD.out k d hd] at h
            injection h
          have H1 := Lib.hid (HD1.out k d hd)
          have H2 := Lib.hid (HD2.out k d hd)
          have H3 := Lib.hid (HD3.out k d hd)
          rw [hbe] at H1 H2 H3
          clear hq hd hbe q1 q2 hkn hkl
          obtain ⟨nm, kd, ln⟩ := d
          simp only at q1' q2' hvd
          rcases hvd with ⟨hk1, hl0⟩ | ⟨hk2, hl1, hl2⟩ | ⟨hk3, hl0⟩
          · subst hk1
            have HC := Lib.hid (H1.out rfl)
            clear H1 H2 H3
            go_wp2_with fail
            refine (HC.out _).mono ?_
            rintro e w2 ⟨c, vs, rfl, hr, hb2⟩
            have HR := Lib.hid (hr.mono HBW.out.size)
            have HB2 := Lib.hid hb2
            clear hr hb2
            go_wp2_with fail
            go_meet
            exact ⟨vs, HR.out, HB2.out⟩
          · subst hk2
            obtain ⟨m, rfl⟩ := Int.eq_ofNat_of_zero_le (show 0 ≤ ln by omega)
            have HC := Lib.hid (H2.out rfl m rfl (by omega))
            clear H1 H2 H3
            have HG1 : Hid (g < w1.heap.size) := Nat.lt_of_lt_of_le hg HBW.out.size
            go_upto_region 11 with (fail)
            go_region_held3 (fun w' => w'.cell? ⟨g, off + k * 3 + 2, none⟩ = some (.int .i64 (m : Int))) (first | exact q2' | exact q2w)
              (first | (go_at_call 29; (with_reducible refine (HC.out _).mono ?_); rintro e w2 ⟨c, vs, rfl, hr, hb2⟩; obtain ⟨ac, cc, rfl⟩ := own_form hr.1; have HR := Lib.hid (hr.mono HBW.out.size); have HB2 : Hid (Below w1.heap.size w1 w2) := below_undrew hb2; have q2w := cell_below HB2.out HG1.out q2'; clear hr hb2))
            go_wp2_with fail
            go_meet
            exact ⟨vs, HR.out, HB2.out⟩
          · subst hk3
            have HC := Lib.hid (H3.out rfl)
            clear H1 H2 H3
            go_wp2_with fail
            refine (HC.out _).mono ?_
            rintro e w2 ⟨c, vs, rfl, hr, hb2⟩
            have HR := Lib.hid (hr.mono HBW.out.size)
            have HB2 := Lib.hid hb2
            clear hr hb2
            go_wp2_with fail
            go_meet
            exact ⟨vs, HR.out, HB2.out⟩
      case rest =>
      obtain ⟨vs, hrow, hb2⟩ := hcut
      obtain ⟨w2, hw2⟩ : ∃ w' : World, w' = wc := ⟨_, rfl⟩
      subst hw2
      have HST2 := Lib.hid (HST.out.next hb2)
      have HB2 := Lib.hid (below_next HBW.out (Nat.le_refl _) hb2)
      have hml := HML.out k b HB.out
      have hsl := HSL.out k
      obtain ⟨M, hM⟩ : ∃ M, betP v b.lo.toNat (nOf b) = M := ⟨_, rfl⟩
      obtain ⟨S, hS⟩ : ∃ S, boxesP v (Bs.take k) = S := ⟨_, rfl⟩
      have HSX : Hid (∀ X ∈ S, X.length ≤ 7) := fun X hX => HXLEN.out k X (by rw [hS]; exact hX)
      have hstg : stgP v n Bs k = S.map fun X => ⟨X, [], []⟩ := by
        unfold stgP
        rw [hS]
        apply List.map_congr_left
        intro X _
        rw [if_neg (by omega)]
      have HNXA : Hid (∀ X, nxtP S M (stepS n k) S.length 0 X = stgP v n Bs (k + 1)) := fun X => by
        rw [← hS, ← hM]
        exact nxtP_all HB.out X
      rw [hM] at hml hrow
      rw [hS] at hsl
      have HROW := Lib.hid hrow
      obtain ⟨la, lc, rfl⟩ := own_form hrow.1
      obtain ⟨nm, hnm⟩ : ∃ x, M.length = x := ⟨_, rfl⟩
      obtain ⟨ns, hns⟩ : ∃ x, S.length = x := ⟨_, rfl⟩
      have hns2 : (stgP v n Bs k).length = ns := by rw [hstg, List.length_map, hns]
      rw [hnm, hns2]
      rw [hnm] at hml
      rw [hns] at hsl
      have HNM := Lib.hid hnm
      have HNS := Lib.hid hns
      have HNS2 := Lib.hid hns2
      have HSTG := Lib.hid hstg
      clear hb2 hM hS hstg hrow hnm hns hns2
      go_wp2_with fail
      go_loopg [12, 13] ns (fun q nx i wr => ∃ j : Nat, j + q = ns ∧ i = .int .i64 (j : Int) ∧ StRow w2.heap.size w.heap.size wr nx (nxtP S M (stepS n k) j 0 []) ∧ Below w2.heap.size w2 wr)
      case atStart => exact ⟨0, by omega, rfl, by simp only [nxtP, List.take_zero, List.flatMap_nil, List.map_nil, List.append_nil]; exact StRow.nil _ _ _, Below.refl _ _⟩
      case round =>
        obtain ⟨j, hjq, rfl, hnx, hb3⟩ := hrel
        have Hj := Lib.hid hjq
        have HNX := Lib.hid hnx
        have HB3 := Lib.hid hb3
        have hjn : j ≤ ns := by omega
        obtain ⟨tsx, -, hownx, -⟩ := id hnx
        obtain ⟨xa, xc, rfl⟩ := own_form hownx
        have u2 : IntKind.i64.wrap ((j : Int) + 1) = (j : Int) + 1 := IntWalk.i64_in _ (by omega)
        clear hjq hnx hb3 hownx
        by_cases hjl : j < ns
        · have hjl' : (j : Int) < (ns : Int) := by omega
          obtain ⟨X, hX⟩ : ∃ X, S[j]? = some X := ⟨_, List.getElem?_eq_getElem (by rw [HNS.out]; exact hjl)⟩
          have hsj : (stgP v n Bs k)[j]? = some ⟨X, [], []⟩ := by rw [HSTG.out, List.getElem?_map, hX]; rfl
          obtain ⟨gs, cs, c1, c2, c3, e1, hgs, m1, m2, m3, hsn⟩ := HST2.out.get hsj
          rw [HNS2.out] at e1
          injection e1 with e1 e2 e3
          subst e1 e3
          obtain ⟨c1', i1, o1, vx, ee, hrx, -, -⟩ := hsn
          injection ee with ee
          simp only [Array.mk.injEq, List.cons.injEq, and_true] at ee
          obtain ⟨rfl, -, -⟩ := ee
          obtain ⟨ax, cx, rfl⟩ := own_form hrx.1
          have HX := Lib.hid hX
          have HRX := Lib.hid hrx
          have HGS := Lib.hid hgs
          have HM1 := Lib.hid m1
          clear hX hsj e2 hgs m1 m2 m3 hrx
          go_wp2_with fail
          go_loopg [12, 14] nm (fun q nx i wr => ∃ t : Nat, t + q = nm ∧ i = .int .i64 (t : Int) ∧ StRow w2.heap.size w.heap.size wr nx (nxtP S M (stepS n k) j t X) ∧ Below w2.heap.size w2 wr)
          case atStart => exact ⟨0, by omega, rfl, by rw [nxtP_zero S M _ j X []]; exact HNX.out, HB3.out⟩
          case round =>
            obtain ⟨t, htq, rfl, hny, hb4⟩ := hrel
            have Ht := Lib.hid htq
            have HNY := Lib.hid hny
            have HB4 := Lib.hid hb4
            have htn : t ≤ nm := by omega
            obtain ⟨tsy, hy0', howny, hy2'⟩ := id hny
            obtain ⟨ya, yc, rfl⟩ := own_form howny
            have HY0 := Lib.hid hy0'
            have HY1 := Lib.hid howny
            have HY2 := Lib.hid hy2'
            have u3 : IntKind.i64.wrap ((t : Int) + 1) = (t : Int) + 1 := IntWalk.i64_in _ (by omega)
            obtain ⟨NL, hNL⟩ : ∃ x, nxtP S M (stepS n k) j t X = x := ⟨_, rfl⟩
            have hnl := nxtP_len S M (stepS n k) j t X
            rw [HNS.out, HNM.out] at hnl
            have hnl2 : ns * nm + nm ≤ 250500 := by have := Nat.mul_le_mul hsl hml; omega
            rw [hNL] at HY0 HY1 HY2 hnl ⊢
            have HNL := Lib.hid hNL
            obtain ⟨ny, hny'⟩ : ∃ x, NL.length = x := ⟨_, rfl⟩
            rw [hny'] at HY1 hnl ⊢
            have HNLL := Lib.hid hny'
            have HNL5 : Hid (ny ≤ 250500) := by show ny ≤ 250500; omega
            clear htq hny hb4 howny hy0' hy2' hNL hny' hnl hnl2
            by_cases htl : t < nm
            · have htl' : (t : Int) < (nm : Int) := by omega
              obtain ⟨l, hl⟩ : ∃ l, M[t]? = some l := ⟨_, List.getElem?_eq_getElem (by rw [HNM.out]; exact htl)⟩
              obtain ⟨gl, cl, ul, e1, hcl, hil, hgl⟩ := HROW.out.get hl
              rw [HNM.out] at e1
              injection e1 with e1 e2 e3
              subst e1 e3
              obtain ⟨al, kl, rfl⟩ := own_form hil
              have HL := Lib.hid hl
              have HIL := Lib.hid hil
              have HGL := Lib.hid hgl
              have HCL := Lib.hid hcl
              clear hl e2 hcl hil hgl
              have x1 := cell_below HB4.out HGS.out HM1.out
              have x2 := alloc_cell x1 (.cells #[] 33)
              have hown1 : Hid ((wr.alloc (.cells #[] 33)).ownsRow wr.heap.size 33 1 (.slice (some ⟨wr.heap.size, 0, none⟩) 0 0) 0 []) := World.ownsRow_made wr #[] 0 (Nat.le_refl _) (by decide) rfl
              have hrx1 : Hid ((wr.alloc (.cells #[] 33)).ownsRow w.heap.size 33 1 (.slice ax X.length cx) X.length vx) := own_below HRX.out.1 (below_next HB4.out (Nat.le_refl _) (below_alloc _ _))
              have HXL : Hid (X.length ≤ 7) := HSX.out X (List.mem_of_getElem? HX.out)
              go_upto_region 20 with (fail)
              go_upto_region 21 with (at_builtin; refine wpList_append_oo rfl (.tmp 72) (.tmp 77) 32 rfl wr.heap.size 33 j0 (.slice none 0 0) 1 24 Try.underlying32 hj hy0 hy1 hy2 rfl (by decide) (.slice (some ⟨wr.heap.size, 0, none⟩) 0 0) 0 [] rfl hown1.out w.heap.size (.slice ax X.length cx) X.length vx rfl hrx1.out HRX.out.ones (by have := HXL.out; unfold maxLen; omega) (by have := HXL.out; omega) (by simp) ?_; intro v4 w4 hown4 hgr4; rw [Nat.zero_add, List.nil_append] at hown4; have hbe4 : Below wr.heap.size wr w4 := (below_alloc wr _).grown hgr4 (by simp) (fun j e => (hown1.out.lt j e).1); have HBE4 := Lib.hid hbe4; have HOWN4 := Lib.hid hown4; obtain ⟨a4, k4, rfl⟩ := own_form hown4; clear hown4 hgr4 hbe4 hown1 hrx1 x1 x2)
              have HWR : Hid (w2.heap.size ≤ wr.heap.size ∧ w.heap.size ≤ wr.heap.size) := ⟨HB4.out.size, Nat.le_trans HB2.out.size HB4.out.size⟩
              have hxl := HXL.out
              have hny5 := HNL5.out
              have hkx : Blk (w4.alloc (.cells #[.slice a4 X.length k4, .slice none 0 0, .slice none 0 0] 35)) w4.heap.size 35 #[.slice a4 X.length k4, .slice none 0 0, .slice none 0 0] := Blk.new _ _ _
              have HKX := Lib.hid hkx
              have h24 : Below w2.heap.size w2 w4 := below_next HB4.out (Nat.le_refl _) HBE4.out
              have H24 := Lib.hid h24
              have hcl := cell_below h24 HGL.out HCL.out
              have HCL4 := Lib.hid hcl
              have hclx := alloc_cell hcl (.cells #[.slice a4 X.length k4, .slice none 0 0, .slice none 0 0] 35)
              have HCLX := Lib.hid hclx
              clear h24 hcl hclx hkx
              by_cases hkn : k = n
              · have e1 : ((k : Int) == (n : Int)) = true := by simp; omega
                have HSTEP : Hid (stepS n k X l = ⟨X, l, []⟩) := if_pos hkn
                clear hkn
                obtain ⟨hz1', hz2'⟩ := nx_inp HWR.out.2 H24.out HBE4.out HRX.out HIL.out HOWN4.out
                have HZ1 := Lib.hid hz1'
                have HZ2 := Lib.hid hz2'
                have hq1 := HKX.out.cell 1
                have hq2 := HKX.out.free 1
                have hq3 := HCLX.out
                simp only [List.getElem?_toArray, List.getElem?_cons_zero, List.getElem?_cons_succ] at hq1
                clear hz1' hz2'
                go_upto_region 24 with (fail)
                clear hq1 hq2 hq3
                go_wp2_with ((at_builtin; refine wpList_append_own2 rfl (.tmp 98) (.tmp 100) 27 rfl w2.heap.size 35 i0 (.agg #[.slice none 0 0, .slice none 0 0, .slice none 0 0]) 3 72 Try.underlying27 hi hz0 hz1 hz2 rfl (by decide) (.slice ya ny yc) ny _ rfl ((own_below HY1.out HZ1.out).alloc _) ⟨w4.heap.size + 1, 0, none⟩ 1 1 [.slice a4 X.length k4, .slice al l.length kl, .slice none 0 0] rfl (by rfl) (by have g1 := cell_three_new (w4.alloc (.cells #[.slice a4 X.length k4, .slice al l.length kl, .slice none 0 0] 35)) (.slice a4 X.length k4) (.slice al l.length kl) (.slice none 0 0) 35; simp only [World.size_alloc] at g1; exact g1) (by intro u hu; simp only [List.mem_cons, List.not_mem_nil, or_false] at hu; rcases hu with rfl | rfl | rfl <;> rfl) (by decide) (by unfold maxLen; omega) (by omega) (by have g1 := HZ1.out.size; have g2 := HWR.out.1; simp only [World.size_alloc] at g1 ⊢; omega) ?_; intro v6 w6 hown6 hgr6 hpos6; have H6 := Lib.hid (nx_fin (x := stepS n k X l) HY0.out (by rw [HNLL.out]; exact HY1.out) HY2.out HZ1.out (by rw [HSTEP.out]; exact HZ2.out) HB4.out HWR.out.1 (by rw [HNLL.out]; exact hown6) hgr6); obtain ⟨a6, k6, rfl⟩ := own_form hown6; clear hown6 hgr6 hpos6))
                have HTN : Hid (nxtP S M (stepS n k) j (t + 1) X = NL ++ [stepS n k X l]) := by rw [← HNL.out]; exact nxtP_snoc HL.out
                have ht := Ht.out
                go_roundg (nm - (t + 1))
                case measure => omega
                case rel => exact ⟨t + 1, by omega, by go_num, by rw [HTN.out]; exact H6.out.1, H6.out.2⟩
              · have e1 : ((k : Int) == (n : Int)) = false := by simp; omega
                have HSTEP : Hid (stepS n k X l = ⟨X ++ [l], [], []⟩) := if_neg hkn
                have e2 : ¬ (k : Int) = (n : Int) := by omega
                clear hkn
                obtain ⟨wx, hwx⟩ : ∃ w', w' = w4.alloc (.cells #[.slice a4 X.length k4, .slice none 0 0, .slice none 0 0] 35) := ⟨_, rfl⟩
                rw [← hwx]
                have HWX := Lib.hid hwx
                have HSX4 : Hid (w4.heap.size + 1 = wx.heap.size ∧ wr.heap.size ≤ w4.heap.size) := ⟨by rw [hwx]; simp, HBE4.out.size⟩
                have hkx : Blk wx w4.heap.size 35 #[.slice a4 X.length k4, .slice none 0 0, .slice none 0 0] := by rw [hwx]; exact HKX.out
                have hq3 : wx.cell? ⟨gl, t, none⟩ = some (.slice al l.length kl) := by rw [hwx]; exact HCLX.out
                have HOWX : Hid (wx.ownsRow wr.heap.size 33 1 (.slice a4 X.length k4) X.length vx) := by rw [hwx]; exact HOWN4.out.alloc _
                have c0 := hkx.cell 0
                have z0 := hkx.free 0
                have y2 := alloc_cell c0 (.cells #[.slice al l.length kl] 33)
                have HKX2 := Lib.hid hkx
                simp only [List.getElem?_toArray, List.getElem?_cons_zero] at c0 y2
                clear hwx hkx
                go_upto_region 23 with (fail)
                go_region_law (first
                  | (refine step_append_own (wx.alloc (.cells #[.slice al l.length kl] 33)).drew rfl (.tmp 90) (.tmp 95) 32 rfl wr.heap.size 33 j0 (.slice none 0 0) 1 24 Try.underlying32 hj hy0 hy1 hy2 rfl (by decide) (.slice a4 X.length k4) X.length vx ?hs ?hown ⟨wx.heap.size, 0, none⟩ 1 1 [.slice al l.length kl] ?hx rfl ?hn ?c2 ?c3 ?c4 ?c5 ?_
                     case hs => simp [Act.eval]
                     case hx => simp [Act.eval]
                     case hown => exact HOWX.out.alloc _
                     case hn => exact cell_one_new wx _ _
                     case c2 => intro u hu; simp only [List.mem_cons, List.not_mem_nil, or_false] at hu; rcases hu with rfl; rfl
                     case c3 => unfold maxLen; omega
                     case c4 => omega
                     case c5 => have := HSX4.out; simp; omega
                     intro v5 w5 hown5 hgrow5
                     obtain ⟨a5, cc5, rfl⟩ := own_form hown5
                     obtain ⟨hk5, hz1', hz2'⟩ := nx_cell HWR.out.2 H24.out HBE4.out HRX.out HIL.out HOWN4.out (by rw [← HWX.out]; exact hgrow5) hown5
                     have HZ1 := Lib.hid hz1'
                     have HZ2 := Lib.hid hz2'
                     have HK5 := Lib.hid hk5
                     have x0 := hk5.cell 0
                     have x0z := hk5.free 0
                     simp only [List.getElem?_toArray, List.getElem?_cons_zero] at x0
                     clear hown5 hgrow5 hk5 hz1' hz2'))
                all_goals
                  have hkz := HK5.out.set 0 (.slice a5 (X.length + 1) cc5)
                  obtain ⟨wZ, hwZ⟩ : ∃ w', w' = w5.setCell ⟨w4.heap.size, 0, none⟩ (.slice a5 (X.length + 1) cc5) := ⟨_, rfl⟩
                  rw [← hwZ] at HZ1 HZ2 hkz ⊢
                  have y0' := hkz.cell 0
                  have y1' := hkz.cell 1
                  have y2' := hkz.cell 2
                  simp only [List.setIfInBounds_toArray, List.set_cons_zero, List.getElem?_toArray, List.getElem?_cons_zero, List.getElem?_cons_succ] at y0' y1' y2'
                  clear hwZ hkz x0 x0z c0 z0 y2 hq3
                  go_wp2_with (at_builtin; refine wpList_append_own2 rfl (.tmp 98) (.tmp 100) 27 rfl w2.heap.size 35 i0 (.agg #[.slice none 0 0, .slice none 0 0, .slice none 0 0]) 3 72 Try.underlying27 hi hz0 hz1 hz2 rfl (by decide) (.slice ya ny yc) ny _ rfl ((own_below HY1.out HZ1.out).alloc _) ⟨wZ.heap.size, 0, none⟩ 1 1 [.slice a5 (X.length + 1) cc5, .slice none 0 0, .slice none 0 0] rfl (by rfl) (cell_three_new wZ _ _ _ _) (by intro u hu; simp only [List.mem_cons, List.not_mem_nil, or_false] at hu; rcases hu with rfl | rfl | rfl <;> rfl) (by decide) (by unfold maxLen; omega) (by omega) (by have g1 := HZ1.out.size; have g2 := HWR.out.1; simp; omega) ?_; intro v6 w6 hown6 hgr6 hpos6; have H6 := Lib.hid (nx_fin (x := stepS n k X l) HY0.out (by rw [HNLL.out]; exact HY1.out) HY2.out HZ1.out (by rw [HSTEP.out]; exact HZ2.out) HB4.out HWR.out.1 (by rw [HNLL.out]; exact hown6) hgr6); obtain ⟨a6, k6, rfl⟩ := own_form hown6; clear hown6 hgr6 hpos6)
                  have HTN : Hid (nxtP S M (stepS n k) j (t + 1) X = NL ++ [stepS n k X l]) := by rw [← HNL.out]; exact nxtP_snoc HL.out
                  have ht := Ht.out
                  go_roundg (nm - (t + 1))
                  case measure => omega
                  case rel => exact ⟨t + 1, by omega, by go_num, by rw [HTN.out]; exact H6.out.1, H6.out.2⟩
            · have htl' : ¬ (t : Int) < (nm : Int) := by omega
              have HEND : Hid (StRow w2.heap.size w.heap.size wr (.slice ya ny yc) (nxtP S M (stepS n k) (j + 1) 0 [])) := by
                unfold Hid
                rw [← nxtP_next HX.out (show M.length ≤ t by rw [HNM.out]; omega), HNL.out]
                have h := HNY.out
                rw [HNL.out] at h
                exact ⟨tsy, HY0.out, by rw [HNLL.out]; exact HY1.out, HY2.out⟩
              clear htl
              go_wp2
              have hj' := Hj.out
              go_roundg (ns - (j + 1))
              case measure => omega
              case rel => exact ⟨j + 1, by omega, by go_num, HEND.out, HB4.out⟩
        · have hjl' : ¬ (j : Int) < (ns : Int) := by omega
          have HEND : Hid (nxtP S M (stepS n k) j 0 [] = stgP v n Bs (k + 1)) := by
            have e : j = S.length := by rw [HNS.out]; omega
            unfold Hid
            rw [e]
            exact HNXA.out []
          have HNX2 : Hid (StRow w.heap.size w.heap.size wr (.slice xa (nxtP S M (stepS n k) j 0 []).length xc) (stgP v n Bs (k + 1))) := by
            have h := HNX.out
            rw [HEND.out] at h ⊢
            exact h.mono HB2.out.size
          have HBF : Hid (Below w.heap.size w wr) := HB2.out.trans (HB3.out.mono HB2.out.size)
          clear hjl
          go_wp2
          have hk := Hk.out
          go_roundg (n + 1 - (k + 1))
          case measure => omega
          case rel => exact ⟨k + 1, by omega, by go_num, HNX2.out, HBF.out⟩
    · have hlt' : ¬ (k : Int) ≤ (n : Int) := by omega
      have hke : k = n + 1 := by have := Hk.out; omega
      have HSO : Hid (Calls Try.prog 30 #[.slice sa (stgP v n Bs k).length sc] w1 fun e w' => ∃ r, e = .returned r ∧ StSeq w.heap.size w' r (stsP D v le inp) ∧ Below w1.heap.size w1 w') := by
        have h := HST.out.seq
        rw [hke] at h ⊢
        have h2 := sorted_any 500 w.heap.size _ _ w1 HSTN.out.2.1 HSTN.out.2.1 h HSTN.out.2.2
        rw [HSTN.out.1] at h2
        exact h2
      clear hke hlt
      go_wp2_with fail
      refine HSO.out.mono ?_
      rintro e w3 ⟨r, rfl, hr, hb3⟩
      obtain ⟨ar, cr, rfl, -, -, -⟩ := id hr
      have HR := Lib.hid hr
      have HB3 := Lib.hid (below_next HBW.out (Nat.le_refl _) hb3)
      clear hr hb3
      go_wp2
      go_ret
      exact ⟨_, rfl, HR.out, HB3.out⟩
end Go.Proofs.Ytklbaocgjegdfaa
