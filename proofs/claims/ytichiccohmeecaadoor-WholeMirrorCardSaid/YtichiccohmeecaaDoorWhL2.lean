/- The walk of cpu.Clone. -/
import Derived.Test.YtichiccohmeecaaDoorWhL1
import Derived.Test.YtichiccohmeecaaDoorWhLa
namespace Go.Proofs.YtichiccohmeecaaDoor
open Go.RowKit

theorem mcs_mem (m : Mach) (V : MV) (u : Value) : (mcs m V).setIfInBounds 18 u = mcs m { V with vM := u } :=
  mcs_at _ _ _ _ _ _ (by omega) rfl (cell9 rfl rfl rfl rfl rfl rfl rfl rfl rfl)
theorem mcs_stk (m : Mach) (V : MV) (u : Value) : (mcs m V).setIfInBounds 19 u = mcs m { V with vS := u } :=
  mcs_at _ _ _ _ _ _ (by omega) rfl (cell9 rfl rfl rfl rfl rfl rfl rfl rfl rfl)

/-- what Clone hands back: a machine of its own, in blocks of its own -/
def CloM (m : Mach) (w : World) (e : Ending) (w' : World) : Prop := ∃ V' G, e = .returned (.pointer (some ⟨G, 0, none⟩)) ∧ Below w.heap.size w w' ∧ MachW (fun j => w.heap.size ≤ j ∧ j < w'.heap.size) w' G m V'

/-- the clone on the way: its first k rows of numbers are there -/
structure ClS (w wr : World) (G gS : Nat) (m : Mach) (V : MV) (vM : Value) (k : Nat) (us : List Value) : Prop where
  below : Below w.heap.size w wr
  hw : w.heap.size = G
  lt : G < gS
  blk : Blk wr G 30 (mcs m { V with vM := vM, vS := .slice (some ⟨gS, 0, none⟩) m.S.length m.S.length })
  mem : wr.ownsRow (G + 1) 3 1 vM m.M.length (intsV m.M)
  memB : ∀ j, vM.ownBlock = some j → j < gS
  stk : wr.ownsRow gS 26 1 (.slice (some ⟨gS, 0, none⟩) m.S.length m.S.length) m.S.length us
  rows : ∀ (j : Nat) (l : List Int), j < k → m.S[j]? = some l → ∃ u, us[j]? = some u ∧ wr.ownsRow (gS + 1) 3 1 u l.length (intsV l)
theorem arr_list (n : Nat) (v : Value) : (arr n (fun _ => v)).toList = List.replicate n v := by
  rw [← arr_rep, Array.toList_replicate]
theorem clone_start {w w2 : World} {G nS : Nat} {m : Mach} {V : MV} {vM : Value} (hw : w.heap.size = G) (hb : Below w.heap.size w w2) (hk : Blk w2 G 30 (mcs m V)) (hown : w2.ownsRow (G + 1) 3 1 vM m.M.length (intsV m.M)) (hS : m.S.length = nS) (hm : nS ≤ 1000000) :
    ClS w (((w2.setCell ⟨G, 18, none⟩ vM).setCell ⟨G, 19, none⟩ (.slice (some ⟨w2.heap.size, 0, none⟩) nS nS)).alloc (.cells (arr nS (fun _ => Value.slice none 0 0)) 26)) G w2.heap.size m V vM 0 (List.replicate nS (.slice none 0 0)) := by
  subst hS
  have hG := hk.lt
  have e1 : ((w2.setCell ⟨G, 18, none⟩ vM).setCell ⟨G, 19, none⟩ (.slice (some ⟨w2.heap.size, 0, none⟩) m.S.length m.S.length)).heap.size = w2.heap.size := by simp [World.setCell]
  have hk1 := hk.set 18 vM
  rw [mcs_mem] at hk1
  have hk2 := hk1.set 19 (.slice (some ⟨w2.heap.size, 0, none⟩) m.S.length m.S.length)
  rw [mcs_stk] at hk2
  have hk3 := hk2.al (.cells (arr m.S.length (fun _ => Value.slice none 0 0)) 26)
  have ho1 := own_far (own_far hown (show G < G + 1 by omega) 18 vM) (show G < G + 1 by omega) 19 (.slice (some ⟨w2.heap.size, 0, none⟩) m.S.length m.S.length)
  have ho2 := own_below ho1 (below_alloc _ (.cells (arr m.S.length (fun _ => Value.slice none 0 0)) 26))
  have hb1 : Below w.heap.size w (w2.setCell ⟨G, 18, none⟩ vM) := hb.setCell (p := ⟨G, 18, none⟩) (by show w.heap.size ≤ G; omega) vM
  have hb2 := hb1.setCell (p := ⟨G, 19, none⟩) (by show w.heap.size ≤ G; omega) (.slice (some ⟨w2.heap.size, 0, none⟩) m.S.length m.S.length)
  have hs := hb.size
  refine ⟨hb2.alloc (by omega) _, hw, hG, hk3, ho2, fun j hj => (hown.lt j hj).2, ?_, fun j l hj => absurd hj (by omega)⟩
  refine ⟨by simp, .inr ⟨w2.heap.size, m.S.length, arr m.S.length (fun _ => Value.slice none 0 0), rfl, Nat.le_refl _, ?_, Nat.le_refl _, by unfold maxLen; omega, by simp [arr], ?_⟩⟩
  · have := heap_alloc_new ((w2.setCell ⟨G, 18, none⟩ vM).setCell ⟨G, 19, none⟩ (.slice (some ⟨w2.heap.size, 0, none⟩) m.S.length m.S.length)) (.cells (arr m.S.length (fun _ => Value.slice none 0 0)) 26)
    rw [e1] at this
    exact this
  · rw [arr_list, Nat.mul_one, List.take_of_length_le (by simp)]
theorem ClS.step {w wr w4 : World} {G gS k : Nat} {m : Mach} {V : MV} {vM u : Value} {us : List Value} {l : List Int} (h : ClS w wr G gS m V vM k us) (hl : m.S[k]? = some l) (hb : Below wr.heap.size wr w4) (ho : w4.ownsRow wr.heap.size 3 1 u l.length (intsV l)) :
    ClS w (w4.setCell ⟨gS, k, none⟩ u) G gS m V vM (k + 1) (us.set k u) := by
  have hkl : k < m.S.length := (List.getElem?_eq_some_iff.1 hl).1
  have hgS : gS < wr.heap.size := (h.stk.lt gS rfl).2
  have hus : us.length = m.S.length := by have := h.stk.1; omega
  have hlt := h.lt
  refine ⟨(below_next h.below (Nat.le_refl _) hb).setCell (p := ⟨gS, k, none⟩) (by have := h.hw; show w.heap.size ≤ gS; omega) u, h.hw, h.lt, (h.blk.next hb).far (p := ⟨gS, k, none⟩) (by show G ≠ gS; omega) u, ?_, h.memB, ((own_below h.stk hb).stored k u).1, fun j l' hj hl' => ?_⟩
  · refine ownsRow_setCell_other (own_below h.mem hb) (a := ⟨gS, k, none⟩) ?_ u
    intro he
    exact absurd (h.memB gS he) (by omega)
  · have hog : ∀ {v : Value} {n : Nat} {xs : List Value}, w4.ownsRow (gS + 1) 3 1 v n xs → (w4.setCell ⟨gS, k, none⟩ u).ownsRow (gS + 1) 3 1 v n xs := fun h => own_far h (by omega) k u
    by_cases e : j = k
    · subst e
      obtain rfl := Option.some.inj (hl.symm.trans hl')
      exact ⟨u, by rw [List.getElem?_set_self (by omega)], hog (own_mono ho (by omega))⟩
    · obtain ⟨u', h1, h2⟩ := h.rows j l' (by omega) hl'
      exact ⟨u', by rw [List.getElem?_set_ne (Ne.symm e)]; exact h1, hog (own_below h2 hb)⟩
/-- a row that is neither of the machine's rows of cells nor its row of calls -/
def RX (F : Nat → Prop) (G : Nat) (V : MV) (j : Nat) : Prop := RO F G V j ∧ some j ≠ V.vC.ownBlock
/-- a machine of its own whose row of calls is its own and apart from its rows of numbers -/
structure MachX (F : Nat → Prop) (w : World) (G : Nat) (m : Mach) (V : MV) : Prop where
  mach : MachW F w G m V
  own : w.ownsRow 0 53 2 V.vC m.calls.length (actsV m.calls)
  vCF : ∀ j, V.vC.ownBlock = some j → RO F G V j
  rows : ∀ (k : Nat) (l : List Int), m.S[k]? = some l → ∃ u, V.us[k]? = some u ∧ IntsIn (RX F G V) w u l
  inp : IntsIn (RX F G V) w V.vI m.inp
  out : IntsIn (RX F G V) w V.vO m.out
def CloO (m : Mach) (w : World) (e : Ending) (w' : World) : Prop := ∃ V' G, e = .returned (.pointer (some ⟨G, 0, none⟩)) ∧ Below w.heap.size w w' ∧ MachX (fun j => w.heap.size ≤ j ∧ j < w'.heap.size) w' G m V'
theorem clone_end {w wr w5 w6 w7 : World} {G gS : Nat} {m : Mach} {V : MV} {vM vA vI vO : Value} {us : List Value} (h : ClS w wr G gS m V vM m.S.length us)
    (b5 : Below wr.heap.size wr w5) (o5 : w5.ownsRow wr.heap.size 53 2 vA m.calls.length (actsV m.calls))
    (b6 : Below (w5.setCell ⟨G, 20, none⟩ vA).heap.size (w5.setCell ⟨G, 20, none⟩ vA) w6) (o6 : w6.ownsRow (w5.setCell ⟨G, 20, none⟩ vA).heap.size 3 1 vI m.inp.length (intsV m.inp))
    (b7 : Below (w6.setCell ⟨G, 23, none⟩ vI).heap.size (w6.setCell ⟨G, 23, none⟩ vI) w7) (o7 : w7.ownsRow (w6.setCell ⟨G, 23, none⟩ vI).heap.size 3 1 vO m.out.length (intsV m.out)) :
    CloO m w (.returned (.pointer (some ⟨G, 0, none⟩))) (w7.setCell ⟨G, 24, none⟩ vO) := by
  have hgS : gS < wr.heap.size := (h.stk.lt gS rfl).2
  have hlt := h.lt
  have hw := h.hw
  have s5 : (w5.setCell ⟨G, 20, none⟩ vA).heap.size = w5.heap.size := by simp [World.setCell]
  have s6 : (w6.setCell ⟨G, 23, none⟩ vI).heap.size = w6.heap.size := by simp [World.setCell]
  have s7 : (w7.setCell ⟨G, 24, none⟩ vO).heap.size = w7.heap.size := by simp [World.setCell]
  rw [s5] at o6
  rw [s6] at o7
  have z5 := b5.size
  have z6 := b6.size
  have z7 := b7.size
  rw [s5] at z6
  rw [s6] at z7
  have tr : ∀ {base : Nat} {e : TypeId} {s : Nat} {v : Value} {n : Nat} {xs : List Value}, G < base → wr.ownsRow base e s v n xs → (w7.setCell ⟨G, 24, none⟩ vO).ownsRow base e s v n xs := fun hB ho =>
    own_far (own_below (own_far (own_below (own_far (own_below ho b5) hB _ _) b6) hB _ _) b7) hB _ _
  have o5' : (w7.setCell ⟨G, 24, none⟩ vO).ownsRow wr.heap.size 53 2 vA m.calls.length (actsV m.calls) := own_far (own_below (own_far (own_below (own_far o5 (by omega) _ _) b6) (by omega) _ _) b7) (by omega) _ _
  have o6' : (w7.setCell ⟨G, 24, none⟩ vO).ownsRow w5.heap.size 3 1 vI m.inp.length (intsV m.inp) := own_far (own_below (own_far o6 (by omega) _ _) b7) (by omega) _ _
  have o7' : (w7.setCell ⟨G, 24, none⟩ vO).ownsRow w6.heap.size 3 1 vO m.out.length (intsV m.out) := own_far o7 (by omega) _ _
  have hk := ((((((h.blk.next b5).set 20 vA).next b6).set 23 vI).next b7).set 24 vO)
  rw [mcs_calls (l := m.calls), mcs_inp (l := m.inp), mcs_out (l := m.out)] at hk
  have hbw : Below w.heap.size w (w7.setCell ⟨G, 24, none⟩ vO) := by
    have a1 := (below_next h.below (Nat.le_refl _) b5).setCell (p := ⟨G, 20, none⟩) (by show w.heap.size ≤ G; omega) vA
    have a2 := (below_next a1 (Nat.le_refl _) b6).setCell (p := ⟨G, 23, none⟩) (by show w.heap.size ≤ G; omega) vI
    exact (below_next a2 (Nat.le_refl _) b7).setCell (p := ⟨G, 24, none⟩) (by show w.heap.size ≤ G; omega) vO
  have hin : ∀ {base : Nat} {e : TypeId} {s : Nat} {v : Value} {n : Nat} {xs : List Value}, G ≤ base → (w7.setCell ⟨G, 24, none⟩ vO).ownsRow base e s v n xs → ∀ j, v.ownBlock = some j → w.heap.size ≤ j ∧ j < (w7.setCell ⟨G, 24, none⟩ vO).heap.size := fun hB ho j hj => by
    have := ho.lt j hj
    exact ⟨by omega, this.2⟩
  have hro : ∀ {base : Nat} {e : TypeId} {s : Nat} {v : Value} {n : Nat} {xs : List Value}, gS < base → (w7.setCell ⟨G, 24, none⟩ vO).ownsRow base e s v n xs → ∀ j, v.ownBlock = some j →
      RO (fun j => w.heap.size ≤ j ∧ j < (w7.setCell ⟨G, 24, none⟩ vO).heap.size) G { V with vM := vM, vS := .slice (some ⟨gS, 0, none⟩) m.S.length m.S.length, vC := vA, vI := vI, vO := vO, us := us } j := fun hB ho j hj => by
    have h1 := ho.lt j hj
    refine ⟨⟨by omega, h1.2⟩, by omega, fun e => ?_, fun e => ?_⟩
    · have := h.memB j e.symm; omega
    · have e : some j = some gS := e
      injection e with e
      omega
  have hA5 : ∀ j, vA.ownBlock = some j → wr.heap.size ≤ j ∧ j < w5.heap.size := fun j hj => o5.lt j hj
  have hrx : ∀ {base : Nat} {e : TypeId} {s : Nat} {v : Value} {n : Nat} {xs : List Value}, gS < base → (w7.setCell ⟨G, 24, none⟩ vO).ownsRow base e s v n xs → (∀ j, v.ownBlock = some j → j < wr.heap.size ∨ w5.heap.size ≤ j) → ∀ j, v.ownBlock = some j →
      RX (fun j => w.heap.size ≤ j ∧ j < (w7.setCell ⟨G, 24, none⟩ vO).heap.size) G { V with vM := vM, vS := .slice (some ⟨gS, 0, none⟩) m.S.length m.S.length, vC := vA, vI := vI, vO := vO, us := us } j := fun hB ho hd j hj =>
    ⟨hro hB ho j hj, fun e => by
      have h1 := hA5 j e.symm
      have h2 := hd j hj
      omega⟩
  have hrow : ∀ (k : Nat) (l : List Int), m.S[k]? = some l → ∃ u, us[k]? = some u ∧ (w7.setCell ⟨G, 24, none⟩ vO).ownsRow (gS + 1) 3 1 u l.length (intsV l) ∧ ∀ j, u.ownBlock = some j → j < wr.heap.size := fun k l hl => by
    obtain ⟨u, h1, h2⟩ := h.rows k l (List.getElem?_eq_some_iff.1 hl).1 hl
    exact ⟨u, h1, tr (by omega) h2, fun j hj => (h2.lt j hj).2⟩
  refine ⟨{ V with vM := vM, vS := .slice (some ⟨gS, 0, none⟩) m.S.length m.S.length, vC := vA, vI := vI, vO := vO, us := us }, G, rfl, hbw, ⟨⟨⟨by omega, hk.lt⟩, hk, own_mono (tr (by omega) h.mem) (Nat.zero_le _), hin (by omega) (tr (by omega) h.mem), own_mono (tr (by omega) h.stk) (Nat.zero_le _), hin (by omega) (tr (by omega) h.stk), fun k l hl => ?_, own_acts o5' (hro (by omega) o5'), own_ints o6' (hro (by omega) o6'), own_ints o7' (hro (by omega) o7')⟩,
    own_mono o5' (Nat.zero_le _), hro (by omega) o5', fun k l hl => ?_, own_ints o6' (hrx (by omega) o6' (fun j hj => .inr (o6'.lt j hj).1)), own_ints o7' (hrx (by omega) o7' (fun j hj => .inr (by have := (o7'.lt j hj).1; omega)))⟩⟩
  · obtain ⟨u, h1, h2, _⟩ := hrow k l hl
    exact ⟨u, h1, own_ints (own_mono h2 (Nat.zero_le _)) (hro (Nat.lt_succ_self gS) h2)⟩
  · obtain ⟨u, h1, h2, h3⟩ := hrow k l hl
    exact ⟨u, h1, own_ints (own_mono h2 (Nat.zero_le _)) (hrx (Nat.lt_succ_self gS) h2 (fun j hj => .inl (h3 j hj)))⟩

set_option maxRecDepth 100000 in
set_option maxHeartbeats 16000000 in
theorem Clone_own {P : Nat → Prop} (g : Nat) (m : Mach) (V : MV) (w : World) (h : MachR P w g m V) (hM : m.M.length ≤ 1000000) (hS : m.S.length ≤ 1000000) (hA : m.calls.length ≤ 1000000) (hI : m.inp.length ≤ 1000000) (hO : m.out.length ≤ 1000000) (hL : ∀ s ∈ m.S, s.length ≤ 1000000) :
    Calls Tryd.prog 9 #[.pointer (some ⟨g, 0, none⟩)] w (CloO m w) := by
  have HR := Lib.hid h
  have hgl := h.blk.lt
  have hz := fun j (hj : j < 25) => h.cell hj
  obtain ⟨⟨aM, cM, hvM, -, -, -⟩, -⟩ := id h.rows.mem
  obtain ⟨aS, cS, hvS, hS1, hS2, hS3⟩ := id h.rows.stk
  obtain ⟨⟨aA, cA, hvA, -, -, -⟩, -⟩ := id h.rows.acts
  obtain ⟨⟨aI, cI, hvI, -, -, -⟩, -⟩ := id h.rows.inp
  obtain ⟨⟨aO, cO, hvO, -, -, -⟩, -⟩ := id h.rows.out
  obtain ⟨nM, hnM⟩ : ∃ nM, m.M.length = nM := ⟨_, rfl⟩
  obtain ⟨nS, hnS⟩ : ∃ nS, m.S.length = nS := ⟨_, rfl⟩
  obtain ⟨nA, hnA⟩ : ∃ nA, m.calls.length = nA := ⟨_, rfl⟩
  obtain ⟨nI, hnI⟩ : ∃ nI, m.inp.length = nI := ⟨_, rfl⟩
  obtain ⟨nO, hnO⟩ : ∃ nO, m.out.length = nO := ⟨_, rfl⟩
  rw [hnM] at hvM
  rw [hnS] at hS1 hS3 hvS
  rw [hnA] at hvA
  rw [hnI] at hvI
  rw [hnO] at hvO
  obtain ⟨W1, hW1⟩ : ∃ W1, W1 = w.alloc (.cells (mcs m V) 30) := ⟨_, rfl⟩
  obtain ⟨G, hG⟩ : ∃ G, w.heap.size = G := ⟨_, rfl⟩
  have hB1 : Below w.heap.size w W1 := by rw [hW1]; exact below_alloc _ _
  have hK1 : Blk W1 G 30 (mcs m V) := by rw [hW1, ← hG]; exact Blk.new _ _ _
  have HW1 := Lib.hid hW1
  have HB1 := Lib.hid hB1
  have HK1 := Lib.hid hK1
  have HVS := Lib.hid hvS
  have HVM := Lib.hid hvM
  have HVA := Lib.hid hvA
  have HVI := Lib.hid hvI
  have HVO := Lib.hid hvO
  have HNM := Lib.hid hnM
  have HNS := Lib.hid hnS
  have HNA := Lib.hid hnA
  have HNI := Lib.hid hnI
  have HNO := Lib.hid hnO
  have HGG := Lib.hid hG
  have HGN := Lib.hid (show g ≠ G by omega)
  have HLL := Lib.hid hL
  have HS3 := Lib.hid hS3
  have HBK : Hid (w.heap[g]? = some (.cells (mcs m V) 30 (0, 0))) := Lib.hid h.blk
  have HONE : Hid ((mcs m V).all (·.oneCell') = true) := Lib.hid (mcs_one h.rows.one)
  have HSZ : Hid ((mcs m V).size = 25) := Lib.hid (mcs_size m V)
  have HC1 : Hid (Calls Tryd.prog 19 #[.slice aM nM cM] W1 (CloR m.M W1)) := Lib.hid (by rw [← hvM]; exact clone_ints (h.rows.mem.keep (Keep.of_below hB1) (fun _ h => h)) (by omega))
  have y18 : W1.cell? ⟨g, 18, none⟩ = some (.slice aM nM cM) := by rw [← hvM]; exact cell_lo hB1 hgl (hz 18 (by decide))
  have y19 : W1.cell? ⟨g, 19, none⟩ = some (.slice aS nS cS) := by rw [← hvS]; exact cell_lo hB1 hgl (hz 19 (by decide))
  clear hG h hz hvM hvS hvA hvI hvO hnM hnS hnA hnI hnO hW1 hB1 hK1 hL hS3
  go_enter Tryd.func9, Tryd.ntmps9
  go_wp2_with (first
    | (refine wpList_load_row rfl 30 _ rfl g rfl 30 (mcs m V) (0, 0) _ HBK.out Tryd.underlying30 rfl (by rw [HSZ.out]; exact machSize) ?_)
    | (refine wpList_alloc_store rfl rfl 30 _ _ rfl rfl _ 25 machZero rfl (mcs m V) HSZ.out HONE.out rfl rfl ?_; rw [← HW1.out, HGG.out])
    | fail)
  have hgG := HGN.out
  have hGg := Ne.symm hgG
  have hgl1 : g < W1.heap.size := Nat.lt_of_lt_of_le hgl HB1.out.size
  have hs1 : W1.heap.size = G + 1 := by rw [HW1.out, ← HGG.out]; simp
  refine HC1.out.mono ?_
  rintro e w2 ⟨v', rfl, hown, hb⟩
  obtain ⟨aM', cM', rfl⟩ := own_form hown
  have HOM : Hid (w2.ownsRow (G + 1) 3 1 (.slice aM' m.M.length cM') m.M.length (intsV m.M)) := Lib.hid (own_mono hown (by omega))
  have HB2 := Lib.hid (below_next HB1.out (Nat.le_refl _) hb)
  have HK2 := Lib.hid (HK1.out.next hb)
  have y19b : w2.cell? ⟨g, 19, none⟩ = some (.slice aS nS cS) := cell_lo hb hgl1 y19
  have z18 : w2.cell? ⟨G, 18, none⟩ = some V.vM := (HK2.out.cell 18).trans (mcs_get m V (by decide))
  have z19 : w2.cell? ⟨G, 19, none⟩ = some V.vS := (HK2.out.cell 19).trans (mcs_get m V (by decide))
  have zf18 := HK2.out.free 18
  have zf19 := HK2.out.free 19
  rw [HVM.out] at z18
  rw [HVS.out] at z19
  have hmk := fun W => make_rows nS (by have := HNS.out; omega) W
  have hGs2 : G < w2.heap.size := HK2.out.lt
  have hgl2 := Nat.lt_of_lt_of_le hgl HB2.out.size
  have hS0 : (0 : Int) ≤ (nS : Int) := Int.natCast_nonneg _
  have hn63 : nS ≤ 9223372036854775807 := by have := HNS.out; omega
  rw [HNM.out] at HOM
  clear hb hown y18 y19 hs1 hgl1
  rw [HNM.out]
  go_wp2
  have hst := clone_start HGG.out HB2.out HK2.out (by rw [HNM.out]; exact HOM.out) HNS.out (by have := HNS.out; omega)
  obtain ⟨W3, hW3⟩ : ∃ W3, W3 = ((w2.setCell ⟨G, 18, none⟩ (.slice aM' nM cM')).setCell ⟨G, 19, none⟩ (.slice (some ⟨w2.heap.size, 0, none⟩) nS nS)).alloc (.cells (arr nS (fun _ => Value.slice none 0 0)) 26) := ⟨_, rfl⟩
  rw [← hW3] at hst ⊢
  obtain ⟨gS, hgS⟩ : ∃ gS, w2.heap.size = gS := ⟨_, rfl⟩
  rw [hgS] at hst ⊢
  have HST := Lib.hid hst
  clear hst hW3 hgS y19b z18 z19 zf18 zf19 HOM HB2 HK2 hGs2 hgl2 hmk
  go_loopg [29] nS (fun q i wr => ∃ k : Nat, k + q = nS ∧ i = .int .i64 k ∧ Hid (∃ us, ClS w wr G gS m V (.slice aM' nM cM') k us))
  case atStart => exact ⟨0, by omega, rfl, Lib.hid ⟨_, HST.out⟩⟩
  case round =>
    obtain ⟨k, hk, rfl, hcl⟩ := hrel
    obtain ⟨us, hcl⟩ := hcl.out
    have Hk := Lib.hid hk
    have HC := Lib.hid hcl
    have hkn : k ≤ nS := by omega
    have hgw : g < wr.heap.size := Nat.lt_of_lt_of_le hgl hcl.below.size
    clear hk hcl
    by_cases hlt : k < nS
    · have hlt' : (k : Int) < (nS : Int) := by omega
      have hk0 : (0 : Int) ≤ (k : Int) := Int.natCast_nonneg _
      obtain ⟨g1, o1, rfl, hg1, -, hq⟩ := HS3.out (by omega)
      obtain ⟨l, hl⟩ := get_lt HNS.out.symm hlt
      obtain ⟨u, hu, hi⟩ := hq k l hl
      have m0 : wr.cell? ⟨g1, o1 + k, none⟩ = some u := cell_lo HC.out.below hg1 hu
      have hll := HLL.out l (List.mem_of_getElem? hl)
      have HCK : Hid (∀ w', Below wr.heap.size wr w' → Calls Tryd.prog 19 #[u] w' (CloR l w')) := Lib.hid (fun w' hb => clone_ints (hi.keep (Keep.of_below (below_next HC.out.below (Nat.le_refl _) hb)) (fun _ h => h)) (by omega))
      have y0 : wr.cell? ⟨G, 19, none⟩ = some (.slice (some ⟨gS, 0, none⟩) nS nS) := by
        have := (HC.out.blk.cell 19).trans (mcs_get m _ (by decide))
        rw [HNS.out] at this
        exact this
      have hst := HC.out.stk
      have hus : us.length = nS := by have := hst.1; rw [HNS.out] at this; omega
      have y1 : wr.cell? ⟨gS, k, none⟩ = us[k]? := hst.cellAt k (by rw [HNS.out]; omega)
      obtain ⟨u0, hu0⟩ := get_lt hus.symm hlt
      rw [hu0] at y1
      have y2 : wr.frozen? ⟨gS, k, none⟩ = false := hst.frozenAt k
      have hGw : G < wr.heap.size := HC.out.blk.lt
      have hSw : gS < wr.heap.size := (hst.lt gS rfl).2
      have HL := Lib.hid hl
      clear hq hl hu hi hst hus hu0 hll
      go_wp2
      go_region_held3 (fun w' => w'.cell? ⟨G, 19, none⟩ = some (.slice (some ⟨gS, 0, none⟩) nS nS) ∧ w'.frozen? ⟨gS, k, none⟩ = false) (first | exact ⟨y0, y2⟩ | exact ⟨v0, v2⟩ | exact ⟨r0, r2⟩)
        ((go_at_call 19; (with_reducible refine (HCK.out _ ?_).mono ?_); (first | exact Below.refl _ _ | exact below_drew (Below.refl _ _)); rintro e w5 ⟨u5, rfl, hown5, hb5⟩; obtain ⟨a5, c5, rfl⟩ := own_form hown5; have HB5 : Hid (Below wr.heap.size wr w5) := ⟨hb5.os, hb5.tape, hb5.output, hb5.size, hb5.block⟩; have HO5 : Hid (w5.ownsRow wr.heap.size 3 1 (.slice a5 l.length c5) l.length (intsV l)) := Lib.hid hown5; have v0 := cell_lo HB5.out hGw y0; have v1 := cell_lo HB5.out hSw y1; have v2 : w5.frozen? ⟨gS, k, none⟩ = false := (HB5.out.frozen (p := ⟨gS, k, none⟩) hSw).trans y2; have hn5 := HC.out.step HL.out HB5.out HO5.out; have r0 : (w5.setCell ⟨gS, k, none⟩ (.slice a5 l.length c5)).cell? ⟨G, 19, none⟩ = some (.slice (some ⟨gS, 0, none⟩) nS nS) := (by have := (hn5.blk.cell 19).trans (mcs_get m _ (by decide)); rw [HNS.out] at this; exact this); have r2 : (w5.setCell ⟨gS, k, none⟩ (.slice a5 l.length c5)).frozen? ⟨gS, k, none⟩ = false := hn5.stk.frozenAt k; have HN5 := Lib.hid hn5; clear hown5 hb5 hn5))
      all_goals go_wp2
      have hk := Hk.out
      go_roundg (nS - (k + 1))
      case measure => omega
      case rel => exact ⟨k + 1, by omega, by go_num, Lib.hid ⟨_, HN5.out⟩⟩
    · have hge : ¬ (k : Int) < (nS : Int) := by omega
      obtain rfl : k = nS := by omega
      have z20 : wr.cell? ⟨g, 20, none⟩ = some V.vC := cell_lo HC.out.below hgl (HR.out.cell (by decide))
      rw [HVA.out] at z20
      have HCA : Hid (Calls Tryd.prog 20 #[.slice aA nA cA] wr (CloA m.calls wr)) := Lib.hid (by rw [← HVA.out]; exact clone_acts (HR.out.rows.acts.keep (Keep.of_below HC.out.below) (fun _ h => h)) (by omega))
      go_wp2_with fail
      refine HCA.out.mono ?_
      rintro e w5 ⟨vA, rfl, o5, b5⟩
      obtain ⟨aA', cA', rfl⟩ := own_form o5
      have hgw5 : g < w5.heap.size := Nat.lt_of_lt_of_le hgw b5.size
      have k5 := HC.out.blk.next b5
      have x20 : w5.cell? ⟨G, 20, none⟩ = some V.vC := (k5.cell 20).trans (mcs_get m _ (by decide))
      rw [HVA.out] at x20
      have f20 := k5.free 20
      have hb5 : Below w.heap.size w (w5.setCell ⟨G, 20, none⟩ (.slice aA' m.calls.length cA')) := (below_next HC.out.below (Nat.le_refl _) b5).setCell (p := ⟨G, 20, none⟩) (by show w.heap.size ≤ G; have := HGG.out; omega) _
      have z23 : (w5.setCell ⟨G, 20, none⟩ (.slice aA' m.calls.length cA')).cell? ⟨g, 23, none⟩ = some V.vI := cell_lo hb5 hgl (HR.out.cell (by decide))
      rw [HVI.out] at z23
      have k6 := k5.set 20 (.slice aA' m.calls.length cA')
      have HCI : Hid (Calls Tryd.prog 19 #[.slice aI nI cI] (w5.setCell ⟨G, 20, none⟩ (.slice aA' m.calls.length cA')) (CloR m.inp (w5.setCell ⟨G, 20, none⟩ (.slice aA' m.calls.length cA')))) := Lib.hid (by rw [← HVI.out]; exact clone_ints (HR.out.rows.inp.keep (Keep.of_below hb5) (fun _ h => h)) (by omega))
      have HO5 := Lib.hid o5
      have HB5 := Lib.hid b5
      have HK6 := Lib.hid k6
      have HBB5 := Lib.hid hb5
      clear o5 b5 k5 k6 hb5 z20
      go_wp2_with fail
      refine HCI.out.mono ?_
      rintro e w6 ⟨vI, rfl, o6, b6⟩
      obtain ⟨aI', cI', rfl⟩ := own_form o6
      have k7 := HK6.out.next b6
      have x23 : w6.cell? ⟨G, 23, none⟩ = some V.vI := (k7.cell 23).trans (by rw [Array.getElem?_setIfInBounds_ne (by decide)]; exact mcs_get m _ (by decide))
      rw [HVI.out] at x23
      have f23 := k7.free 23
      have hb6 : Below w.heap.size w (w6.setCell ⟨G, 23, none⟩ (.slice aI' m.inp.length cI')) := (below_next HBB5.out (Nat.le_refl _) b6).setCell (p := ⟨G, 23, none⟩) (by show w.heap.size ≤ G; have := HGG.out; omega) _
      have z24 : (w6.setCell ⟨G, 23, none⟩ (.slice aI' m.inp.length cI')).cell? ⟨g, 24, none⟩ = some V.vO := cell_lo hb6 hgl (HR.out.cell (by decide))
      rw [HVO.out] at z24
      have k8 := k7.set 23 (.slice aI' m.inp.length cI')
      have HCO : Hid (Calls Tryd.prog 19 #[.slice aO nO cO] (w6.setCell ⟨G, 23, none⟩ (.slice aI' m.inp.length cI')) (CloR m.out (w6.setCell ⟨G, 23, none⟩ (.slice aI' m.inp.length cI')))) := Lib.hid (by rw [← HVO.out]; exact clone_ints (HR.out.rows.out.keep (Keep.of_below hb6) (fun _ h => h)) (by omega))
      have HO6 := Lib.hid o6
      have HB6 := Lib.hid b6
      have HK8 := Lib.hid k8
      clear o6 b6 k7 k8 hb6 z23 x20 f20
      go_wp2_with fail
      refine HCO.out.mono ?_
      rintro e w7 ⟨vO, rfl, o7, b7⟩
      obtain ⟨aO', cO', rfl⟩ := own_form o7
      have k9 := HK8.out.next b7
      have x24 : w7.cell? ⟨G, 24, none⟩ = some V.vO := (k9.cell 24).trans (by rw [Array.getElem?_setIfInBounds_ne (by decide), Array.getElem?_setIfInBounds_ne (by decide)]; exact mcs_get m _ (by decide))
      rw [HVO.out] at x24
      have f24 := k9.free 24
      have HO7 := Lib.hid o7
      have HB7 := Lib.hid b7
      clear o7 b7 k9 z24 x23 f23
      go_wp2
      go_ret
      exact clone_end (by rw [HNS.out]; exact HC.out) HB5.out HO5.out HB6.out HO6.out HB7.out HO7.out

theorem Clone_any {P : Nat → Prop} (g : Nat) (m : Mach) (V : MV) (w : World) (h : MachR P w g m V) (hM : m.M.length ≤ 1000000) (hS : m.S.length ≤ 1000000) (hA : m.calls.length ≤ 1000000) (hI : m.inp.length ≤ 1000000) (hO : m.out.length ≤ 1000000) (hL : ∀ s ∈ m.S, s.length ≤ 1000000) :
    Calls Tryd.prog 9 #[.pointer (some ⟨g, 0, none⟩)] w (CloM m w) :=
  (Clone_own g m V w h hM hS hA hI hO hL).mono (fun _ _ ⟨V', G, he, hb, hm⟩ => ⟨V', G, he, hb, hm.mach⟩)

end Go.Proofs.YtichiccohmeecaaDoor