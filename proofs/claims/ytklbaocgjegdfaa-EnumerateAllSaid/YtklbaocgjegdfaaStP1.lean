/- Plain: what Encode writes, read back. -/
import Derived.Test.YtklbaocgjegdfaaStE2
namespace Go.Proofs.Ytklbaocgjegdfaa
open Go.RowKit

def valOf (l : List UInt8) : Nat := l.foldl (fun a b => a * 256 + b.toNat) 0

theorem valOf_snoc (l : List UInt8) (b : UInt8) : valOf (l ++ [b]) = valOf l * 256 + b.toNat := by
  unfold valOf; rw [List.foldl_append]; rfl

theorem byteAt_succ (n : Int) (size i : Nat) (h : i < size) : byteAt n (size + 1) i = byteAt (n / 256) size i := by
  unfold byteAt
  have e : 8 * (size + 1 - 1 - i) = 8 + 8 * (size - 1 - i) := by omega
  rw [e, Int.pow_add]
  have e2 : (2 : Int) ^ 8 = 256 := by decide
  rw [e2, Int.ediv_ediv_of_nonneg (by decide)]

theorem byteAt_last (n : Int) (size : Nat) : byteAt n (size + 1) size = UInt8.ofNat (n % 256).toNat := by
  unfold byteAt
  have e : 8 * (size + 1 - 1 - size) = 0 := by omega
  rw [e, Int.pow_zero, Int.ediv_one]

theorem bytesOf_succ (n : Int) (size : Nat) : bytesOf n (size + 1) = bytesOf (n / 256) size ++ [UInt8.ofNat (n % 256).toNat] := by
  unfold bytesOf
  rw [List.range_succ, List.map_append]
  congr 1
  · exact List.map_congr_left fun i hi => byteAt_succ n size i (List.mem_range.1 hi)
  · rw [List.map_singleton, byteAt_last]

theorem emod_split (n M : Int) (hM : 0 < M) : n % (256 * M) = n / 256 % M * 256 + n % 256 := by
  have h1 : n = 256 * (n / 256) + n % 256 := (Int.mul_ediv_add_emod n 256).symm
  have h2 : n / 256 = M * (n / 256 / M) + n / 256 % M := (Int.mul_ediv_add_emod (n / 256) M).symm
  have h3 : 0 ≤ n / 256 % M := Int.emod_nonneg _ (by omega)
  have h4 : n / 256 % M < M := Int.emod_lt_of_pos _ hM
  have h5 : n = (n / 256 % M * 256 + n % 256) + 256 * M * (n / 256 / M) := by
    have e : 256 * M * (n / 256 / M) = 256 * (M * (n / 256 / M)) := Int.mul_assoc _ _ _
    rw [e]
    omega
  generalize n / 256 % M = a at *
  have hc : n % (256 * M) = (a * 256 + n % 256) % (256 * M) := by
    conv => lhs; rw [h5]
    rw [Int.add_mul_emod_self_left]
  rw [hc]
  exact Int.emod_eq_of_lt (by omega) (by omega)

theorem u8_ofNat (x : Nat) (h : x < 256) : (UInt8.ofNat x).toNat = x := by
  rw [UInt8.toNat_ofNat']; omega

theorem pow_succ8 (size : Nat) : (2 : Int) ^ (8 * (size + 1)) = 256 * 2 ^ (8 * size) := by
  have e : 8 * (size + 1) = 8 + 8 * size := by omega
  rw [e, Int.pow_add]
  rfl

theorem valOf_bytes (size : Nat) : ∀ n : Int, (valOf (bytesOf n size) : Int) = n % 2 ^ (8 * size) := by
  induction size with
  | zero => intro n; simp [bytesOf, valOf, Int.emod_one]
  | succ size ih =>
    intro n
    have h1 : 0 ≤ n % 256 := Int.emod_nonneg _ (by decide)
    have h2 : n % 256 < 256 := Int.emod_lt_of_pos _ (by decide)
    rw [bytesOf_succ, valOf_snoc, u8_ofNat _ (by omega), pow_succ8, emod_split n _ (Int.pow_pos (by decide))]
    have := ih (n / 256)
    rw [← this]
    omega

theorem bytesOf_val (size : Nat) : ∀ (n : Int) (t : List UInt8), t.length = size → n % 2 ^ (8 * size) = (valOf t : Int) → bytesOf n size = t := by
  induction size with
  | zero => intro n t ht _; rw [List.eq_nil_of_length_eq_zero ht]; rfl
  | succ size ih =>
    intro n t ht hv
    have hne : t ≠ [] := by intro h; rw [h] at ht; cases ht
    obtain ⟨s, c, rfl⟩ : ∃ s c, t = s ++ [c] := ⟨t.dropLast, t.getLast hne, (List.dropLast_concat_getLast hne).symm⟩
    have hs : s.length = size := by simp at ht; exact ht
    rw [valOf_snoc, pow_succ8, emod_split n _ (Int.pow_pos (by decide))] at hv
    have h1 : 0 ≤ n % 256 := Int.emod_nonneg _ (by decide)
    have h2 : n % 256 < 256 := Int.emod_lt_of_pos _ (by decide)
    have hc : c.toNat < 256 := c.toNat_lt
    have e1 : n / 256 % 2 ^ (8 * size) = (valOf s : Int) := by omega
    have e2 : n % 256 = (c.toNat : Int) := by omega
    rw [bytesOf_succ, ih _ s hs e1, e2, Int.toNat_natCast, UInt8.ofNat_toNat]

def toI (v : Nat) : Int := if v < 9223372036854775808 then v else v - 18446744073709551616

theorem valOf_lt (t : List UInt8) : valOf t < 256 ^ t.length := by
  suffices h : ∀ (l : List UInt8), valOf l.reverse < 256 ^ l.length by
    have := h t.reverse
    rwa [List.reverse_reverse, List.length_reverse] at this
  intro l
  induction l with
  | nil => simp [valOf]
  | cons c r ih =>
    rw [List.reverse_cons, valOf_snoc, List.length_cons, Nat.pow_succ]
    have := c.toNat_lt
    omega

theorem toI_bytes {n : Int} (h : I64 n) : toI (valOf (bytesOf n 8)) = n := by
  have hv := valOf_bytes 8 n
  have e : (2 : Int) ^ (8 * 8) = 18446744073709551616 := by decide
  rw [e] at hv
  unfold I64 at h
  unfold toI
  generalize valOf (bytesOf n 8) = v at *
  split <;> omega

theorem bytes_toI {t : List UInt8} (h : t.length = 8) : bytesOf (toI (valOf t)) 8 = t ∧ I64 (toI (valOf t)) := by
  have hl := valOf_lt t
  rw [h] at hl
  have e : (2 : Int) ^ (8 * 8) = 18446744073709551616 := by decide
  have e2 : 256 ^ 8 = 18446744073709551616 := by decide
  rw [e2] at hl
  refine ⟨bytesOf_val 8 _ t h ?_, ?_⟩
  · rw [e]
    unfold toI
    generalize valOf t = v at *
    split <;> omega
  · unfold I64 toI
    generalize valOf t = v at *
    split <;> omega

theorem val_len2 {n : Nat} (h : n < 65536) : valOf (bytesOf n 2) = n := by
  have hv := valOf_bytes 2 n
  have e : (2 : Int) ^ (8 * 2) = 65536 := by decide
  rw [e] at hv
  omega

theorem len2_val {t : List UInt8} (h : t.length = 2) : bytesOf (valOf t : Nat) 2 = t := by
  have hl := valOf_lt t
  rw [h] at hl
  have e2 : 256 ^ 2 = 65536 := by decide
  rw [e2] at hl
  refine bytesOf_val 2 _ t h ?_
  have e : (2 : Int) ^ (8 * 2) = 65536 := by decide
  rw [e]
  omega

theorem bytesOf_len' (n : Int) (size : Nat) : (bytesOf n size).length = size := by simp [bytesOf]

/-! the reader -/
def takeN : Nat → List UInt8 → Option (List Int × List UInt8)
  | 0, l => some ([], l)
  | n + 1, l => if l.length < 8 then none else
    match takeN n (l.drop 8) with
    | none => none
    | some (xs, r) => some (toI (valOf (l.take 8)) :: xs, r)

theorem takeN_some (n : Nat) : ∀ (l : List UInt8) (xs : List Int) (r : List UInt8), takeN n l = some (xs, r) → xs.length = n ∧ l = bytesL xs ++ r ∧ ∀ x ∈ xs, I64 x := by
  induction n with
  | zero =>
    intro l xs r h
    simp only [takeN, Option.some.injEq, Prod.mk.injEq] at h
    obtain ⟨rfl, rfl⟩ := h
    exact ⟨rfl, rfl, by simp⟩
  | succ n ih =>
    intro l xs r h
    unfold takeN at h
    by_cases hl : l.length < 8
    · rw [if_pos hl] at h; cases h
    · rw [if_neg hl] at h
      cases ht : takeN n (l.drop 8) with
      | none => rw [ht] at h; cases h
      | some p =>
        obtain ⟨ys, q⟩ := p
        rw [ht] at h
        simp only [Option.some.injEq, Prod.mk.injEq] at h
        obtain ⟨rfl, rfl⟩ := h
        obtain ⟨h1, h2, h3⟩ := ih _ _ _ ht
        have hb := bytes_toI (t := l.take 8) (by rw [List.length_take]; omega)
        refine ⟨by simp [h1], ?_, ?_⟩
        · have : bytesL (toI (valOf (l.take 8)) :: ys) = bytesOf (toI (valOf (l.take 8))) 8 ++ bytesL ys := rfl
          rw [this, hb.1, List.append_assoc, ← h2, List.take_append_drop]
        · intro x hx
          rcases List.mem_cons.1 hx with rfl | hx
          · exact hb.2
          · exact h3 x hx

theorem takeN_bytes (xs : List Int) (r : List UInt8) (h : ∀ x ∈ xs, I64 x) : takeN xs.length (bytesL xs ++ r) = some (xs, r) := by
  induction xs with
  | nil => rfl
  | cons x xs ih =>
    have e : bytesL (x :: xs) ++ r = bytesOf x 8 ++ (bytesL xs ++ r) := by
      have : bytesL (x :: xs) = bytesOf x 8 ++ bytesL xs := rfl
      rw [this, List.append_assoc]
    have hb := bytesOf_len' x 8
    rw [e, List.length_cons]
    unfold takeN
    rw [if_neg (by rw [List.length_append]; omega), List.drop_left' hb, List.take_left' hb, ih (fun y hy => h y (List.mem_cons_of_mem _ hy)), toI_bytes (h x List.mem_cons_self)]

def countedP (most : Nat) (l : List UInt8) : Except Nat (List Int × List UInt8) :=
  if l.length < 2 then .error 4 else if most < valOf (l.take 2) then .error 5 else
    match takeN (valOf (l.take 2)) (l.drop 2) with
    | none => .error 4
    | some x => .ok x

theorem counted_bytes (most : Nat) (hm : most < 65536) (xs : List Int) (r : List UInt8) (hl : xs.length ≤ most) (h : ∀ x ∈ xs, I64 x) :
    countedP most (bytesOf xs.length 2 ++ (bytesL xs ++ r)) = .ok (xs, r) := by
  have hb := bytesOf_len' xs.length 2
  unfold countedP
  rw [if_neg (by rw [List.length_append]; omega), List.take_left' hb, List.drop_left' hb, val_len2 (by omega), if_neg (by omega), takeN_bytes xs r h]

theorem counted_ok {most : Nat} {l : List UInt8} {xs : List Int} {r : List UInt8} (h : countedP most l = .ok (xs, r)) :
    xs.length ≤ most ∧ l = bytesOf xs.length 2 ++ (bytesL xs ++ r) ∧ ∀ x ∈ xs, I64 x := by
  unfold countedP at h
  by_cases h1 : l.length < 2
  · rw [if_pos h1] at h; cases h
  rw [if_neg h1] at h
  by_cases h2 : most < valOf (l.take 2)
  · rw [if_pos h2] at h; cases h
  rw [if_neg h2] at h
  cases ht : takeN (valOf (l.take 2)) (l.drop 2) with
  | none => rw [ht] at h; cases h
  | some p =>
    rw [ht] at h
    obtain rfl := Except.ok.inj h
    obtain ⟨h3, h4, h5⟩ := takeN_some _ _ _ _ ht
    refine ⟨by omega, ?_, h5⟩
    rw [h3, len2_val (by rw [List.length_take]; omega), ← h4, List.take_append_drop]

def cellP (d : Decl) (l : List UInt8) : Except Nat (List Int × List UInt8) :=
  if d.kind = 3 then countedP 1000 l else
    match takeN (fixedZ d).toNat l with
    | none => .error 4
    | some x => .ok x

def cellsP : List Decl → List UInt8 → Except Nat (List (List Int) × List UInt8)
  | [], l => .ok ([], l)
  | d :: D, l =>
    match cellP d l with
    | .error e => .error e
    | .ok (x, r) =>
      match cellsP D r with
      | .error e => .error e
      | .ok (L, q) => .ok (x :: L, q)

def tailP (L : List (List Int)) (l : List UInt8) : Except Nat St :=
  match countedP 4096 l with
  | .error e => .error e
  | .ok (i, r) =>
    match countedP 4096 r with
    | .error e => .error e
    | .ok (o, q) => if 0 < q.length then .error 3 else .ok ⟨L, i, o⟩

def decP (D : List Decl) (l : List UInt8) : Except Nat St :=
  if validB D then
    match cellsP D l with
    | .error e => .error e
    | .ok (L, r) => tailP L r
  else .error 3

theorem cell_bytes (d : Decl) (x : List Int) (r : List UInt8) (hf : fitD d x.length = true) (h : ∀ y ∈ x, I64 y) :
    cellP d (encOne (d, x) ++ r) = .ok (x, r) := by
  unfold cellP encOne
  unfold fitD at hf
  by_cases h3 : d.kind = 3
  · rw [if_pos h3] at hf
    rw [if_pos h3, if_pos h3, List.append_assoc]
    exact counted_bytes 1000 (by decide) x r (by simpa using hf) h
  · rw [if_neg h3] at hf
    have hl : (fixedZ d).toNat = x.length := by
      have := of_decide_eq_true hf
      omega
    rw [if_neg h3, if_neg h3, List.nil_append, hl, takeN_bytes x r h]

theorem cell_ok {d : Decl} {l : List UInt8} {x : List Int} {r : List UInt8} (h : cellP d l = .ok (x, r)) (hv : validD d = true) :
    fitD d x.length = true ∧ l = encOne (d, x) ++ r ∧ ∀ y ∈ x, I64 y := by
  unfold cellP at h
  unfold encOne fitD
  by_cases h3 : d.kind = 3
  · rw [if_pos h3] at h
    obtain ⟨a, b, c⟩ := counted_ok h
    rw [if_pos h3, if_pos h3, List.append_assoc]
    exact ⟨decide_eq_true a, b, c⟩
  · rw [if_neg h3] at h
    rw [if_neg h3, if_neg h3]
    cases ht : takeN (fixedZ d).toNat l with
    | none => rw [ht] at h; cases h
    | some p =>
      rw [ht] at h
      obtain rfl := Except.ok.inj h
      obtain ⟨a, b, c⟩ := takeN_some _ _ _ _ ht
      have hz : 0 ≤ fixedZ d := by
        unfold fixedZ
        split
        · decide
        · unfold validD at hv
          simp at hv
          omega
      exact ⟨decide_eq_true (by omega), b, c⟩

theorem cells_bytes (D : List Decl) : ∀ (L : List (List Int)) (r : List UInt8), L.length = D.length → fitAll D L = true → (∀ l ∈ L, ∀ y ∈ l, I64 y) → cellsP D (encRows D L ++ r) = .ok (L, r) := by
  induction D with
  | nil =>
    intro L r hl _ _
    have : L = [] := List.eq_nil_of_length_eq_zero hl
    subst this
    rfl
  | cons d D ih =>
    intro L r hl hf h
    match L, hl with
    | x :: L, hl =>
      have e : encRows (d :: D) (x :: L) ++ r = encOne (d, x) ++ (encRows D L ++ r) := by
        have : encRows (d :: D) (x :: L) = encOne (d, x) ++ encRows D L := rfl
        rw [this, List.append_assoc]
      have hf1 : fitD d x.length = true ∧ fitAll D L = true := by
        have : fitAll (d :: D) (x :: L) = (fitD d x.length && fitAll D L) := rfl
        rw [this, Bool.and_eq_true] at hf
        exact hf
      rw [e]
      unfold cellsP
      rw [cell_bytes d x _ hf1.1 (h x List.mem_cons_self)]
      simp only
      rw [ih L r (by simpa using hl) hf1.2 (fun l hl => h l (List.mem_cons_of_mem _ hl))]

theorem cells_ok (D : List Decl) : ∀ {l : List UInt8} {L : List (List Int)} {r : List UInt8}, cellsP D l = .ok (L, r) → D.all validD = true →
    L.length = D.length ∧ fitAll D L = true ∧ l = encRows D L ++ r ∧ ∀ x ∈ L, ∀ y ∈ x, I64 y := by
  induction D with
  | nil =>
    intro l L r h _
    unfold cellsP at h
    have := Except.ok.inj h
    simp only [Prod.mk.injEq] at this
    obtain ⟨rfl, rfl⟩ := this
    exact ⟨rfl, rfl, rfl, by simp⟩
  | cons d D ih =>
    intro l L r h hv
    unfold cellsP at h
    cases h1 : cellP d l with
    | error e => rw [h1] at h; cases h
    | ok p =>
      obtain ⟨x, q⟩ := p
      rw [h1] at h
      simp only at h
      cases h2 : cellsP D q with
      | error e => rw [h2] at h; cases h
      | ok p2 =>
        obtain ⟨L2, q2⟩ := p2
        rw [h2] at h
        have := Except.ok.inj h
        simp only [Prod.mk.injEq] at this
        obtain ⟨rfl, rfl⟩ := this
        rw [List.all_cons, Bool.and_eq_true] at hv
        obtain ⟨a1, a2, a3⟩ := cell_ok h1 hv.1
        obtain ⟨b1, b2, b3, b4⟩ := ih h2 hv.2
        refine ⟨by simp [b1], ?_, ?_, ?_⟩
        · have : fitAll (d :: D) (x :: L2) = (fitD d x.length && fitAll D L2) := rfl
          rw [this, a1, b2]; rfl
        · have : encRows (d :: D) (x :: L2) = encOne (d, x) ++ encRows D L2 := rfl
          rw [this, List.append_assoc, ← b3, a2]
        · intro y hy
          rcases List.mem_cons.1 hy with rfl | hy
          · exact a3
          · exact b4 y hy

def InSt (s : St) : Prop := (∀ l ∈ s.cells, ∀ y ∈ l, I64 y) ∧ (∀ y ∈ s.inp, I64 y) ∧ ∀ y ∈ s.out, I64 y

theorem dec_enc {D : List Decl} {s : St} (h : fitsB D s = true) (hi : InSt s) : decP D (encB D s) = .ok s := by
  obtain ⟨L, i, o⟩ := s
  obtain ⟨h1, h2, h3, h4, h5, h6⟩ := fits_parts h
  have hv : validB D = true := by
    unfold fitsB at h
    simp only [Bool.and_eq_true] at h
    exact h.1.1.1.1
  have hf : fitAll D L = true := by
    unfold fitsB at h
    simp only [Bool.and_eq_true] at h
    exact h.2
  obtain ⟨i1, i2, i3⟩ := hi
  simp only at h2 h3 h4 i1 i2 i3
  unfold decP encB
  simp only
  rw [if_pos hv, cells_bytes D L _ h2 hf i1]
  simp only
  unfold tailP
  rw [counted_bytes 4096 (by decide) i _ h3 i2]
  simp only
  have := counted_bytes 4096 (by decide) o [] h4 i3
  rw [List.append_nil] at this
  rw [this]
  rfl

theorem enc_dec {D : List Decl} {l : List UInt8} {s : St} (h : decP D l = .ok s) : fitsB D s = true ∧ encB D s = l ∧ InSt s := by
  unfold decP at h
  cases hv : validB D with
  | false => rw [hv] at h; cases h
  | true =>
    rw [hv, if_pos rfl] at h
    cases h1 : cellsP D l with
    | error e => rw [h1] at h; cases h
    | ok p =>
      obtain ⟨L, r⟩ := p
      rw [h1] at h
      simp only at h
      unfold tailP at h
      cases h2 : countedP 4096 r with
      | error e => rw [h2] at h; cases h
      | ok p2 =>
        obtain ⟨i, r2⟩ := p2
        rw [h2] at h
        simp only at h
        cases h3 : countedP 4096 r2 with
        | error e => rw [h3] at h; cases h
        | ok p3 =>
          obtain ⟨o, r3⟩ := p3
          rw [h3] at h
          simp only at h
          by_cases hz : 0 < r3.length
          · rw [if_pos hz] at h; cases h
          · rw [if_neg hz] at h
            obtain rfl := Except.ok.inj h
            have h0 : r3 = [] := List.eq_nil_of_length_eq_zero (by omega)
            subst h0
            have hD : D.all validD = true := by
              unfold validB at hv
              rw [Bool.and_eq_true] at hv
              exact hv.2
            obtain ⟨a1, a2, a3, a4⟩ := cells_ok D h1 hD
            obtain ⟨b1, b2, b3⟩ := counted_ok h2
            obtain ⟨c1, c2, c3⟩ := counted_ok h3
            refine ⟨?_, ?_, a4, b3, c3⟩
            · unfold fitsB
              simp only
              rw [hv, a2, decide_eq_true a1, decide_eq_true b1, decide_eq_true c1]
              rfl
            · unfold encB
              simp only
              rw [a3, b2, c2, List.append_nil]

end Go.Proofs.Ytklbaocgjegdfaa
