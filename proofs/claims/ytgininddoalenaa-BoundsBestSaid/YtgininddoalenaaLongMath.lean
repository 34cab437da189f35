/- The loop of the long division: plain laws. -/
import Derived.Test.YtgininddoalenaaDivMath
import Derived.Test.YtgininddoalenaaBits
namespace Go.Proofs.Ytgininddoalenaa

theorem dg_above {x i : Nat} (h : dl x ≤ i) : dg x i = 0 := by
  unfold dg
  rw [Nat.div_eq_of_lt (Nat.lt_of_lt_of_le (lt_pow_dl x) (Nat.pow_le_pow_right (by omega) h)), Nat.zero_mod]
theorem nv_dg_ge {x n : Nat} (h : dl x ≤ n) : nv (dg x) n = x := by
  rw [nv_zeros h fun i hi _ => dg_above hi, nv_dg]
theorem or_limbs2 {r x : Nat} (hr : r < 4294967296) (hx : x < 4294967296) : bits .or .u64 (x : Int) ((r : Int) * 4294967296) = ((x + 4294967296 * r : Nat) : Int) := by
  have h := bits_or_u64_nat x (r * 4294967296) (by omega) (by omega)
  rw [Int.natCast_mul] at h
  rw [show ((4294967296 : Nat) : Int) = 4294967296 from rfl] at h
  rw [h]
  have e := Nat.two_pow_add_eq_or_of_lt (i := 32) (b := x) hx r
  rw [show (2 : Nat) ^ 32 = 4294967296 from rfl, Nat.mul_comm] at e
  rw [Nat.or_comm, Nat.mul_comm] at e
  rw [Nat.mul_comm r]
  congr 1
  omega
/-- The divisor, shifted, has no limb more. -/
theorem shl_lt {y s : Nat} (h0 : y ≠ 0) (hs : s + nlen (dg y (dl y - 1)) = 32) : y * 2 ^ s < 4294967296 ^ dl y := by
  obtain ⟨k, hk⟩ : ∃ k, dl y = k + 1 := ⟨dl y - 1, by have := dl_pos h0; omega⟩
  have h1 : y < (dg y k + 1) * 4294967296 ^ k := by
    have h2 := nv_dg y
    rw [hk] at h2
    have h3 := nv_lt (f := dg y) (n := k) fun i _ => dg_lt y i
    simp only [nv] at h2
    rw [Nat.add_mul]
    omega
  have h4 : dg y k + 1 ≤ 2 ^ nlen (dg y k) := lt_pow_nlen _
  rw [hk, Nat.add_sub_cancel] at hs
  have h5 : (dg y k + 1) * 4294967296 ^ k * 2 ^ s ≤ 2 ^ nlen (dg y k) * 4294967296 ^ k * 2 ^ s := Nat.mul_le_mul_right _ (Nat.mul_le_mul_right _ h4)
  have h6 : 2 ^ nlen (dg y k) * 4294967296 ^ k * 2 ^ s = 4294967296 ^ (k + 1) := by
    have : (2 : Nat) ^ (s + nlen (dg y k)) = 4294967296 := by rw [hs]
    rw [Nat.pow_succ, ← this, Nat.pow_add]
    generalize (2 : Nat) ^ s = a
    generalize (2 : Nat) ^ nlen (dg y k) = b
    grind
  have h7 : y * 2 ^ s < (dg y k + 1) * 4294967296 ^ k * 2 ^ s := Nat.mul_lt_mul_of_pos_right h1 (Nat.pow_pos (by omega))
  rw [hk]
  omega
theorem dl_shl {y s : Nat} (h0 : y ≠ 0) (hs : s + nlen (dg y (dl y - 1)) = 32) : dl (y * 2 ^ s) = dl y := by
  have h1 := dl_le (shl_lt h0 hs)
  have h2 := dl_mono (Nat.le_mul_of_pos_right y (Nat.pow_pos (n := s) (show 0 < 2 by omega)))
  omega
/-- The head of the loop. -/
theorem long_start {u : Nat → Nat} {x y s n k : Nat} (h0 : y ≠ 0) (hk : dl y = k) (hn : dl x = n) (hkn : k ≤ n) (hu : nv u (n + 1) = x * 2 ^ s) : nv (seg u (n + 1 - k)) k < y * 2 ^ s := by
  have e : n + 1 = n + 1 - k + k := by omega
  rw [e, nv_seg] at hu
  have h1 : x * 2 ^ s < 4294967296 ^ n * 2 ^ s := Nat.mul_lt_mul_of_pos_right (by rw [← hn]; exact lt_pow_dl x) (Nat.pow_pos (by omega))
  have h2 : 4294967296 ^ (k - 1) ≤ y := by rw [← hk]; exact pow_dl_le h0
  have h3 : 4294967296 ^ (k - 1) * 2 ^ s ≤ y * 2 ^ s := Nat.mul_le_mul_right _ h2
  have hk1 : 1 ≤ k := by rw [← hk]; have := dl_pos h0; omega
  have h4 : (4294967296 : Nat) ^ n = 4294967296 ^ (n + 1 - k) * 4294967296 ^ (k - 1) := by rw [← Nat.pow_add]; congr 1; omega
  rw [h4] at h1
  have h5 : nv (seg u (n + 1 - k)) k * 4294967296 ^ (n + 1 - k) < 4294967296 ^ (n + 1 - k) * (4294967296 ^ (k - 1) * 2 ^ s) := by
    rw [← Nat.mul_assoc]; omega
  rw [Nat.mul_comm] at h5
  have := Nat.lt_of_mul_lt_mul_left h5
  omega
/-- A round. -/
theorem long_step {u u' qo : Nat → Nat} {j k L nq V X : Nat} (hjL : j + k + 1 ≤ L) (hz : ∀ i, j + 1 + k ≤ i → i < L → u i = 0) (hX : X = V * (hv qo (j + 1) nq * 4294967296 ^ (j + 1)) + nv u L) (hjn : j < nq)
    (he : ∀ i, i < j ∨ j + k < i → u' i = u i) (hm : nv (seg u' j) (k + 1) = nv (seg u j) (k + 1) % V) (hVk : V < 4294967296 ^ k) (hV : 0 < V) :
    (∀ i, j + k ≤ i → i < L → u' i = 0) ∧ nv (seg u' j) k < V ∧ X = V * (hv (upd qo j (nv (seg u j) (k + 1) / V)) j nq * 4294967296 ^ j) + nv u' L := by
  have hU : nv (seg u' j) (k + 1) < V := by rw [hm]; exact Nat.mod_lt _ hV
  have hU2 : nv (seg u' j) (k + 1) = nv (seg u' j) k + seg u' j k * 4294967296 ^ k := rfl
  have h0 : seg u' j k = 0 := by
    rcases Nat.eq_zero_or_pos (seg u' j k) with h | h
    · exact h
    · have : 1 * 4294967296 ^ k ≤ seg u' j k * 4294967296 ^ k := Nat.mul_le_mul_right _ h
      omega
  have e1 : nv u L = nv u j + nv (seg u j) (k + 1) * 4294967296 ^ j := by
    rw [← nv_seg]
    exact nv_zeros (by omega) fun i h1 h2 => hz i (by omega) h2
  have e2 : nv u' L = nv u j + nv (seg u' j) (k + 1) * 4294967296 ^ j := by
    rw [← nv_congr (f := u') (g := u) (n := j) fun i hi => he i (.inl hi), ← nv_seg]
    exact nv_zeros (by omega) fun i h1 h2 => by rw [he i (.inr (by omega))]; exact hz i (by omega) h2
  refine ⟨fun i h1 h2 => ?_, by rw [hU2, h0] at hU; omega, ?_⟩
  · by_cases e : i = j + k
    · rw [e]; exact h0
    · rw [he i (.inr (by omega))]; exact hz i (by omega) h2
  · rw [hv_step hjn, upd_same, hv_congr (g := qo) fun i h1 _ => upd_other (by omega), e2, hX, e1, hm, Nat.pow_succ]
    have := Nat.div_add_mod (nv (seg u j) (k + 1)) V
    generalize nv (seg u j) (k + 1) / V = d at *
    generalize nv (seg u j) (k + 1) % V = r at *
    generalize nv (seg u j) (k + 1) = U at *
    generalize hv qo (j + 1) nq = H at *
    generalize (4294967296 : Nat) ^ j = P at *
    subst this
    grind
/-- The end. -/
theorem long_end {u qo : Nat → Nat} {x y s k L nq : Nat} (hk : k ≤ L) (hz : ∀ i, k ≤ i → i < L → u i = 0) (hX : x * 2 ^ s = y * 2 ^ s * (hv qo 0 nq * 4294967296 ^ 0) + nv u L) (hr : nv (seg u 0) k < y * 2 ^ s) :
    nv qo nq = x / y ∧ nv u L / 2 ^ s = x % y ∧ nv u L < y * 2 ^ s := by
  have h1 : nv u L = nv (seg u 0) k := by
    rw [nv_zeros hk fun i h1 h2 => hz i h1 h2]
    exact nv_congr fun i _ => by unfold seg; rw [Nat.zero_add]
  rw [← h1] at hr
  rw [hv_all, Nat.pow_zero, Nat.mul_one] at hX
  have hp : 0 < 2 ^ s := Nat.pow_pos (by omega)
  generalize 2 ^ s = P at *
  generalize nv u L = r at *
  generalize nv qo nq = q at *
  have hy : 0 < y := by
    rcases Nat.eq_zero_or_pos y with h | h
    · rw [h] at hr; omega
    · exact h
  -- P divides r
  obtain ⟨t, ht⟩ : ∃ t, r = P * t := by
    have hd : P ∣ r := by
      have h2 : P ∣ y * P * q + r := ⟨x, by rw [← hX, Nat.mul_comm]⟩
      exact (Nat.dvd_add_right ⟨y * q, by rw [Nat.mul_comm y P, Nat.mul_assoc]⟩).1 h2
    exact hd
  subst ht
  have h3 : t < y := by
    rw [Nat.mul_comm y P] at hr
    exact Nat.lt_of_mul_lt_mul_left hr
  have h4 : x = y * q + t := by
    have : P * x = P * (y * q + t) := by
      rw [Nat.mul_comm P x, hX]
      grind
    exact Nat.eq_of_mul_eq_mul_left hp this
  subst h4
  exact ⟨by rw [Nat.mul_add_div hy, Nat.div_eq_of_lt h3, Nat.add_zero], by rw [Nat.mul_div_cancel_left _ hp, Nat.mul_add_mod, Nat.mod_eq_of_lt h3], hr⟩
end Go.Proofs.Ytgininddoalenaa
