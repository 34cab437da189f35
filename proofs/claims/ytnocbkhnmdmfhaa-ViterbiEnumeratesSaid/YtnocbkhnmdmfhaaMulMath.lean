/- Products of polynomials, as the loops add them up. -/
import Derived.Test.YtnocbkhnmdmfhaaPolN
namespace Go.Proofs.Ytnocbkhnmdmfhaa
open Go.RowKit

/-- What coefficient i of p and the first b of q give to coefficient k. -/
def mulRow (p q : Nat → Nat) (b i k : Nat) : Nat := if i ≤ k ∧ k - i < b then p i * q (k - i) else 0
/-- What the first a coefficients of p give. -/
def mulS (p q : Nat → Nat) (b : Nat) : Nat → Nat → Nat
  | 0, _ => 0
  | i + 1, k => mulS p q b i k + mulRow p q b i k
/-- .. and coefficient i with the first j of q. -/
def mulT (p q : Nat → Nat) (b i j k : Nat) : Nat := mulS p q b i k + mulRow p q j i k
section
variable {p q : Nat → Nat} {b : Nat}
theorem mulT_zero (i k : Nat) : mulT p q b i 0 k = mulS p q b i k := by
  unfold mulT mulRow
  rw [if_neg (by omega), Nat.add_zero]
theorem mulT_all (i k : Nat) : mulT p q b i b k = mulS p q b (i + 1) k := rfl
theorem mulT_put (i j k : Nat) : updN (mulT p q b i j) (i + j) (mulT p q b i j (i + j) + p i * q j) k = mulT p q b i (j + 1) k := by
  unfold updN mulT mulRow
  by_cases e : k = i + j
  · subst e
    rw [if_pos rfl, if_neg (by omega), if_pos (by omega), Nat.add_sub_cancel_left, Nat.add_zero]
  · rw [if_neg e]
    by_cases h : i ≤ k ∧ k - i < j
    · rw [if_pos h, if_pos (by omega)]
    · rw [if_neg h, if_neg (by omega)]
theorem mulRow_mono {j j' : Nat} (h : j ≤ j') (i k : Nat) : mulRow p q j i k ≤ mulRow p q j' i k := by
  unfold mulRow
  by_cases h1 : i ≤ k ∧ k - i < j
  · rw [if_pos h1, if_pos (by omega)]
    exact Nat.le_refl _
  · rw [if_neg h1]
    exact Nat.zero_le _
theorem mulS_mono {i a : Nat} (h : i ≤ a) (k : Nat) : mulS p q b i k ≤ mulS p q b a k := by
  induction a with
  | zero => obtain rfl : i = 0 := by omega
            exact Nat.le_refl _
  | succ a ih =>
    by_cases e : i = a + 1
    · subst e; exact Nat.le_refl _
    · have := ih (by omega)
      show _ ≤ mulS p q b a k + mulRow p q b a k
      omega
theorem mulT_le {i j a : Nat} (hi : i < a) (hj : j ≤ b) (k : Nat) : mulT p q b i j k ≤ mulS p q b a k := by
  have h1 := mulRow_mono (p := p) (q := q) hj i k
  have h2 := mulS_mono (p := p) (q := q) (b := b) (i := i + 1) (a := a) (by omega) k
  have h3 : mulS p q b (i + 1) k = mulS p q b i k + mulRow p q b i k := rfl
  unfold mulT
  omega
theorem mul_term_le {i j a : Nat} (hi : i < a) (hj : j < b) : p i * q j ≤ mulS p q b a (i + j) := by
  have h1 := mulT_le (p := p) (q := q) (b := b) (i := i) (j := j + 1) (a := a) hi hj (i + j)
  have h2 : mulRow p q (j + 1) i (i + j) = p i * q j := by
    unfold mulRow
    rw [if_pos (by omega), Nat.add_sub_cancel_left]
  unfold mulT at h1
  omega
theorem mulS_out {a k : Nat} (h : a + b ≤ k + 1) : mulS p q b a k = 0 := by
  have key : ∀ i, i ≤ a → mulS p q b i k = 0 := by
    intro i
    induction i with
    | zero => intro _; rfl
    | succ i ih =>
      intro hi
      show mulS p q b i k + mulRow p q b i k = 0
      rw [ih (by omega)]
      unfold mulRow
      rw [if_neg (by omega)]
  exact key a (Nat.le_refl _)
theorem mulS_skip {i : Nat} (h : p i = 0) (k : Nat) : mulS p q b (i + 1) k = mulS p q b i k := by
  show mulS p q b i k + mulRow p q b i k = _
  unfold mulRow
  rw [h]
  split <;> simp
theorem mulS_none {a : Nat} (h : a = 0 ∨ b = 0) (k : Nat) : mulS p q b a k = 0 := by
  rcases h with rfl | rfl
  · rfl
  · induction a with
    | zero => rfl
    | succ a ih =>
      show mulS p q 0 a k + mulRow p q 0 a k = 0
      rw [ih]
      unfold mulRow
      rw [if_neg (by omega)]
theorem plen_zero {x : Nat → Nat} (n : Nat) (h : ∀ k, x k = 0) : plen x n = 0 := by
  induction n with
  | zero => rfl
  | succ n ih =>
    show (if x n ≠ 0 then n + 1 else plen x n) = 0
    rw [if_neg (by simpa using h n)]
    exact ih
end
end Go.Proofs.Ytnocbkhnmdmfhaa
