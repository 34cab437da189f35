/- Unit capacities: the routes of a certified flow share no arc. -/
import Derived.Test.YthdeldaeghhfgaaRouteMem
namespace Go.Proofs.Ythdeldaeghhfgaa

/-- The network whose first k capacities are 1. -/
def Net.ones (N : Net) (k : Nat) : Net := { N with cp := fun i => if i < k then 1 else N.cp i }
theorem Net.ones_zero (N : Net) : N.ones 0 = N := by
  unfold Net.ones
  congr 1
theorem gAt_le {N : Net} {s t : Int} {f : Nat → Int} {RA : Nat → Nat → Nat} {RL : Nat → Nat} {AM : Nat → Int} {PT : Nat → Bool} {K : Nat} (hR : RoutesTo N s t f RA RL AM PT K) : ∀ q, q ≤ K → ∀ i, gAt f RA RL AM q i ≤ f i := by
  intro q
  induction q with
  | zero => exact fun _ i => Int.le_refl _
  | succ q ih =>
    intro hq i
    obtain ⟨o1, o2, _⟩ := hR q (by omega)
    exact Int.le_trans (subR_le o1.apart (by omega) i) (ih (by omega) i)
section
variable {N : Net} {s t : Int} {f : Nat → Int} {RA : Nat → Nat → Nat} {RL : Nat → Nat} {AM : Nat → Int} {PT : Nat → Bool} {K : Nat}
/-- Each route carries 1, over arcs that carry 1 and that no route ahead of it has. -/
theorem unit_route (hR : RoutesTo N s t f RA RL AM PT K) (hf : ∀ i, i < N.n → f i ≤ 1) {k : Nat} (hk : k < K) : AM k = 1 ∧ ∀ j, j < RL k → gAt f RA RL AM k (RA k j) = 1 ∧ f (RA k j) = 1 := by
  obtain ⟨o1, o2, o3⟩ := hR k hk
  have h : ∀ j, j < RL k → AM k = 1 ∧ gAt f RA RL AM k (RA k j) = 1 ∧ f (RA k j) = 1 := fun j hj => by
    have h1 := o3 j hj
    have h2 := gAt_le hR k (by omega) (RA k j)
    have h3 := hf _ (o1.2.1 j hj)
    omega
  exact ⟨(h 0 (by have := o1.1; omega)).1, fun j hj => (h j hj).2⟩
/-- The arcs that have been met when j arcs of route k are behind. -/
def usedB (f : Nat → Int) (RA : Nat → Nat → Nat) (RL : Nat → Nat) (AM : Nat → Int) (k j i : Nat) : Bool := decide (subR (gAt f RA RL AM k) 1 (RA k) j i ≠ f i)
theorem usedB_start (i : Nat) : usedB f RA RL AM 0 0 i = false := by
  unfold usedB
  exact decide_eq_false (fun h => h rfl)
theorem usedB_next (hR : RoutesTo N s t f RA RL AM PT K) (hf : ∀ i, i < N.n → f i ≤ 1) {k : Nat} (hk : k < K) (i : Nat) : usedB f RA RL AM k (RL k) i = usedB f RA RL AM (k + 1) 0 i := by
  have h1 := (unit_route hR hf hk).1
  unfold usedB
  show decide (subR (gAt f RA RL AM k) 1 (RA k) (RL k) i ≠ f i) = decide (subR (gAt f RA RL AM k) (AM k) (RA k) (RL k) i ≠ f i)
  rw [h1]
theorem usedB_new (hR : RoutesTo N s t f RA RL AM PT K) (hf : ∀ i, i < N.n → f i ≤ 1) {k j : Nat} (hk : k < K) (hj : j < RL k) : usedB f RA RL AM k j (RA k j) = false := by
  obtain ⟨h1, h2⟩ := (unit_route hR hf hk).2 j hj
  unfold usedB
  rw [subR_off j fun i hi e => by have := (hR k hk).1.apart i j (by omega) hj e; omega, h1, h2]
  simp
theorem usedB_put (hR : RoutesTo N s t f RA RL AM PT K) (hf : ∀ i, i < N.n → f i ≤ 1) {k j : Nat} (hk : k < K) (hj : j < RL k) (i : Nat) : usedB f RA RL AM k (j + 1) i = if i = RA k j then true else usedB f RA RL AM k j i := by
  obtain ⟨h1, h2⟩ := (unit_route hR hf hk).2 j hj
  have hoff : subR (gAt f RA RL AM k) 1 (RA k) j (RA k j) = gAt f RA RL AM k (RA k j) := subR_off j fun i hi e => by have := (hR k hk).1.apart i j (by omega) hj e; omega
  unfold usedB
  show decide ((if i = RA k j then subR (gAt f RA RL AM k) 1 (RA k) j (RA k j) - 1 else subR (gAt f RA RL AM k) 1 (RA k) j i) ≠ f i) = _
  by_cases e : i = RA k j
  · rw [if_pos e, if_pos e, hoff, h1, e, h2]
    decide
  · rw [if_neg e, if_neg e]
end
end Go.Proofs.Ythdeldaeghhfgaa
