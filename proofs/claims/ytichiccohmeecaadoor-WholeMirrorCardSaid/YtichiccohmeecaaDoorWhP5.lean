/- Steps there and home. -/
import Derived.Test.YtichiccohmeecaaDoorWhP4
namespace Go.Proofs.YtichiccohmeecaaDoor
open Go.RowKit

def goP (b : Bool) (im : Im) (m : Mach) : Int × Mach := if b then backP im m else stepP im m

theorem go_back {b : Bool} {im : Im} {m m' : Mach} (hg : Good im.code) (hf : Fit im m) (hb : m.Big) (h : goP b im m = (0, m')) : Fit im m' ∧ m'.Big ∧ goP (!b) im m' = (0, m) := by
  cases b with
  | false =>
    obtain ⟨h1, h2, h3⟩ := step_back hg hf hb (show stepP im m = (0, m') from h)
    refine ⟨h1, h2, ?_⟩
    show ((stepP im (turn m')).1, turn (stepP im (turn m')).2) = _
    rw [h3, turn_turn]
  | true =>
    have h : ((stepP im (turn m)).1, turn (stepP im (turn m)).2) = (0, m') := h
    obtain ⟨e1, e2⟩ := Prod.mk.inj h
    obtain ⟨h1, h2, h3⟩ := step_back hg (turn_fit hf) (turn_big hb) (show stepP im (turn m) = (0, (stepP im (turn m)).2) by rw [← e1])
    rw [← e2]
    refine ⟨turn_fit h1, turn_big h2, ?_⟩
    show stepP im _ = _
    rw [h3, turn_turn]
theorem go_fail {b : Bool} {im : Im} {m m' : Mach} {e : Int} (h : goP b im m = (e, m')) (he : e ≠ 0) : m' = m := by
  cases b with
  | false => exact step_fail h he
  | true =>
    have h : ((stepP im (turn m)).1, turn (stepP im (turn m)).2) = (e, m') := h
    obtain ⟨e1, e2⟩ := Prod.mk.inj h
    have := step_fail (show stepP im (turn m) = (e, (stepP im (turn m)).2) by rw [← e1]) he
    rw [← e2, this, turn_turn]

/-- k steps led from m to m' -/
def Trail (b : Bool) (im : Im) (m : Mach) : Nat → Mach → Prop
  | 0, m' => m' = m
  | k + 1, m' => ∃ n, Trail b im m k n ∧ goP b im n = (0, m')
theorem trail_fit {b : Bool} {im : Im} {m : Mach} (hg : Good im.code) (hf : Fit im m) (hb : m.Big) : ∀ (k : Nat) (m' : Mach), Trail b im m k m' → Fit im m' ∧ m'.Big
  | 0, m', h => by obtain rfl : m' = m := h; exact ⟨hf, hb⟩
  | k + 1, m', h => by
    obtain ⟨n, h1, h2⟩ := h
    obtain ⟨a, b⟩ := trail_fit hg hf hb k n h1
    obtain ⟨c, d, _⟩ := go_back hg a b h2
    exact ⟨c, d⟩
theorem trail_home {b : Bool} {im : Im} {m : Mach} (hg : Good im.code) (hf : Fit im m) (hb : m.Big) {k : Nat} {m' : Mach} (h : Trail b im m (k + 1) m') : ∃ n, Trail b im m k n ∧ goP (!b) im m' = (0, n) := by
  obtain ⟨n, h1, h2⟩ := h
  obtain ⟨a, b⟩ := trail_fit hg hf hb k n h1
  exact ⟨n, h1, (go_back hg a b h2).2.2⟩

end Go.Proofs.YtichiccohmeecaaDoor
