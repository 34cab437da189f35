/- Differences, limb by limb: plain laws. -/
import Derived.Test.YtgininddoalenaaPlus
namespace Go.Proofs.Ytgininddoalenaa

/-- One limb of a difference: s = f k + 2^32 - g k - bo. -/
theorem sub_step {f g o : Nat → Nat} {k bo s : Nat} (hv : nv o k + nv g k = nv f k + bo * 4294967296 ^ k) (hf : f k < 4294967296) (hg : g k < 4294967296) (hb : bo ≤ 1) (hs : s = f k + 4294967296 - g k - bo) :
    nv (upd o k (s % 4294967296)) (k + 1) + nv g (k + 1) = nv f (k + 1) + (1 - s / 4294967296) * 4294967296 ^ (k + 1) ∧ 1 - s / 4294967296 ≤ 1 ∧ s / 4294967296 ≤ 1 := by
  have e : s % 4294967296 + g k + bo = f k + (1 - s / 4294967296) * 4294967296 := by omega
  have h1 : s / 4294967296 ≤ 1 := by omega
  refine ⟨?_, by omega, h1⟩
  simp only [nv]
  rw [nv_upd_ge (Nat.le_refl _), upd_same, Nat.pow_succ]
  generalize s % 4294967296 = r at *
  generalize 1 - s / 4294967296 = c at *
  grind
/-- The end: nothing is borrowed where the second number is not greater. -/
theorem sub_end {f g o : Nat → Nat} {n bo : Nat} (hv : nv o n + nv g n = nv f n + bo * 4294967296 ^ n) (ho : ∀ i, i < n → o i < 4294967296) (hle : nv g n ≤ nv f n) (_hb : bo ≤ 1) : nv o n = nv f n - nv g n := by
  have h := nv_lt ho
  have h0 : bo = 0 := by
    rcases Nat.eq_zero_or_pos bo with e | e
    · exact e
    · have : 1 * 4294967296 ^ n ≤ bo * 4294967296 ^ n := Nat.mul_le_mul_right _ e
      omega
  subst h0
  omega
end Go.Proofs.Ytgininddoalenaa
