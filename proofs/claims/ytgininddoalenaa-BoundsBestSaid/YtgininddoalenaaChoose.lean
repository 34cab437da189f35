/- Binomial coefficients: plain laws. -/
import Derived.Test.YtgininddoalenaaNatMath
namespace Go.Proofs.Ytgininddoalenaa

/-- The number of subsets with k elements of a set with n elements. -/
def chs : Nat → Nat → Nat
  | _, 0 => 1
  | 0, _ + 1 => 0
  | n + 1, k + 1 => chs n k + chs n (k + 1)

theorem chs_zero (n : Nat) : chs n 0 = 1 := by cases n <;> rfl
theorem chs_gt {n k : Nat} (h : n < k) : chs n k = 0 := by
  induction n generalizing k with
  | zero => cases k with
    | zero => omega
    | succ k => rfl
  | succ n ih => cases k with
    | zero => omega
    | succ k => simp only [chs]; rw [ih (by omega), ih (by omega)]
theorem chs_self (n : Nat) : chs n n = 1 := by
  induction n with
  | zero => rfl
  | succ n ih => simp only [chs]; rw [ih, chs_gt (by omega)]
theorem chs_pos {n k : Nat} (h : k ≤ n) : 0 < chs n k := by
  induction n generalizing k with
  | zero => have : k = 0 := by omega
            subst this; simp [chs]
  | succ n ih => cases k with
    | zero => simp [chs]
    | succ k => simp only [chs]; have := ih (k := k) (by omega); omega
/-- The step of the product formula. -/
theorem chs_step (n k : Nat) : (k + 1) * chs n (k + 1) = (n - k) * chs n k := by
  induction n generalizing k with
  | zero => cases k <;> simp [chs]
  | succ n ih =>
    cases k with
    | zero =>
      have h1 := ih 0
      simp only [chs_zero] at h1
      simp only [chs, chs_zero]
      omega
    | succ k =>
      have h1 := ih k
      have h2 := ih (k + 1)
      simp only [chs]
      by_cases h : k ≤ n
      · by_cases h' : k + 1 ≤ n
        · obtain ⟨d, hd⟩ : ∃ d, n = k + 1 + d := ⟨n - (k + 1), by omega⟩
          subst hd
          rw [show k + 1 + d - k = d + 1 by omega] at h1
          rw [show k + 1 + d - (k + 1) = d by omega] at h2
          rw [show k + 1 + d + 1 - (k + 1) = d + 1 by omega]
          grind
        · have : k = n := by omega
          subst this
          rw [chs_gt (show k < k + 1 by omega), chs_gt (show k < k + 1 + 1 by omega)]
          simp
      · rw [chs_gt (show n < k by omega), chs_gt (show n < k + 1 by omega), chs_gt (show n < k + 1 + 1 by omega)]
        simp
theorem chs_symm {n k : Nat} (h : k ≤ n) : chs n k = chs n (n - k) := by
  induction n generalizing k with
  | zero => have : k = 0 := by omega
            subst this; rfl
  | succ n ih =>
    cases k with
    | zero => rw [chs_zero, Nat.sub_zero, chs_self]
    | succ k =>
      by_cases e : k = n
      · subst e; rw [chs_self, Nat.sub_self, chs_zero]
      · rw [show n + 1 - (k + 1) = (n - (k + 1)) + 1 by omega]
        simp only [chs]
        rw [ih (k := k) (by omega), ih (k := k + 1) (by omega), show n - k = n - (k + 1) + 1 by omega]
        omega
theorem chs_le_pow (n k : Nat) : chs n k ≤ 2 ^ n := by
  induction n generalizing k with
  | zero => cases k <;> simp [chs]
  | succ n ih =>
    cases k with
    | zero => simp only [chs]; exact Nat.pow_pos (by omega)
    | succ k =>
      simp only [chs, Nat.pow_succ]
      have := ih k
      have := ih (k + 1)
      omega
end Go.Proofs.Ytgininddoalenaa
