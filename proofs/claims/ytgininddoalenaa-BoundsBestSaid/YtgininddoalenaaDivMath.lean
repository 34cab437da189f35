/- Division limb by limb (Knuth's algorithm D): plain laws. -/
import Derived.Test.YtgininddoalenaaSubMath
namespace Go.Proofs.Ytgininddoalenaa

/-- One limb of q times g taken away: p = q * g k + ca, s = f k + 2^32 - p % 2^32 - bo. -/
theorem msub_step {f g o : Nat → Nat} {k q ca bo p s : Nat} (hv : nv o k + q * nv g k = nv f k + (ca + bo) * 4294967296 ^ k) (hf : f k < 4294967296) (hb : bo ≤ 1) (hp : p = q * g k + ca) (hs : s = f k + 4294967296 - p % 4294967296 - bo) :
    nv (upd o k (s % 4294967296)) (k + 1) + q * nv g (k + 1) = nv f (k + 1) + (p / 4294967296 + (1 - s / 4294967296)) * 4294967296 ^ (k + 1) ∧ 1 - s / 4294967296 ≤ 1 ∧ s / 4294967296 ≤ 1 := by
  have e : s % 4294967296 + p % 4294967296 + bo = f k + (1 - s / 4294967296) * 4294967296 := by omega
  have e2 : p % 4294967296 + 4294967296 * (p / 4294967296) = p := Nat.mod_add_div _ _
  have h1 : s / 4294967296 ≤ 1 := by omega
  refine ⟨?_, by omega, h1⟩
  simp only [nv]
  rw [nv_upd_ge (Nat.le_refl _), upd_same, Nat.pow_succ]
  generalize s % 4294967296 = r at *
  generalize 1 - s / 4294967296 = c at *
  generalize p % 4294967296 = pl at *
  generalize p / 4294967296 = ph at *
  grind
theorem mul_limb_le {q x ca : Nat} (hq : q < 4294967296) (hx : x < 4294967296) (hc : ca < 4294967296) : q * x + ca < 18446744073709551616 ∧ (q * x + ca) / 4294967296 < 4294967296 := by
  have := limb_mul_le hq hx
  omega
where limb_mul_le {q x : Nat} (hq : q < 4294967296) (hx : x < 4294967296) : q * x ≤ 18446744065119617025 := by
        have : q * x ≤ 4294967295 * 4294967295 := Nat.mul_le_mul (by omega) (by omega)
        omega

/-- The three limbs at the top of u, the two at the top of v, apart. -/
theorem nv_top3 (u : Nat → Nat) (m : Nat) : nv u (m + 3) = nv u m + u m * 4294967296 ^ m + (u (m + 2) * 4294967296 + u (m + 1)) * (4294967296 * 4294967296 ^ m) := by
  simp only [nv, Nat.pow_succ]
  grind
theorem nv_top2 (v : Nat → Nat) (m : Nat) : nv v (m + 2) = nv v m + v m * 4294967296 ^ m + v (m + 1) * (4294967296 * 4294967296 ^ m) := by
  simp only [nv, Nat.pow_succ]
  grind
section
variable {x0 u0 u1 u2 y0 v0 v1 P q r : Nat}
/-- u2 is not above v1. -/
theorem top_le (hy : y0 < P) (hv0 : v0 < 4294967296) (h : x0 + u0 * P + (u2 * 4294967296 + u1) * (4294967296 * P) < (y0 + v0 * P + v1 * (4294967296 * P)) * 4294967296) : u2 ≤ v1 := by
  rcases Nat.lt_or_ge v1 u2 with hlt | hge
  · exfalso
    have h1 : (v1 + 1) * (4294967296 * (4294967296 * P)) ≤ u2 * (4294967296 * (4294967296 * P)) := Nat.mul_le_mul_right _ hlt
    have h2 : (v0 + 1) * P ≤ 4294967296 * P := Nat.mul_le_mul_right _ hv0
    grind
  · exact hge
/-- The first guess is not too small. -/
theorem guess_start (hx : x0 < P) (hu0 : u0 < 4294967296) (hv1 : 0 < v1) (hq : q = (u2 * 4294967296 + u1) / v1) :
    x0 + u0 * P + (u2 * 4294967296 + u1) * (4294967296 * P) < (q + 1) * (y0 + v0 * P + v1 * (4294967296 * P)) := by
  have h1 : u2 * 4294967296 + u1 < (q + 1) * v1 := by
    rw [hq]
    have := Nat.lt_div_mul_add hv1 (a := u2 * 4294967296 + u1)
    rw [Nat.add_mul, Nat.one_mul]
    exact this
  have h2 : (u2 * 4294967296 + u1 + 1) * (4294967296 * P) ≤ (q + 1) * v1 * (4294967296 * P) := Nat.mul_le_mul_right _ h1
  have h3 : (u0 + 1) * P ≤ 4294967296 * P := Nat.mul_le_mul_right _ hu0
  have h4 : (q + 1) * v1 * (4294967296 * P) ≤ (q + 1) * (y0 + v0 * P + v1 * (4294967296 * P)) := by
    rw [Nat.mul_assoc]
    exact Nat.mul_le_mul_left _ (by omega)
  rw [Nat.add_mul _ 1, Nat.one_mul] at h2
  rw [Nat.add_mul, Nat.one_mul] at h3
  omega
/-- A guess that the second limb shows too great. -/
theorem guess_less (hx : x0 < P) (ht : q * v1 + r = u2 * 4294967296 + u1) (h : r * 4294967296 + u0 < q * v0) :
    x0 + u0 * P + (u2 * 4294967296 + u1) * (4294967296 * P) < q * (y0 + v0 * P + v1 * (4294967296 * P)) := by
  have h1 : (r * 4294967296 + u0 + 1) * P ≤ q * v0 * P := Nat.mul_le_mul_right _ h
  rw [← ht]
  have h2 : q * (y0 + v0 * P + v1 * (4294967296 * P)) = q * y0 + q * v0 * P + q * v1 * (4294967296 * P) := by grind
  rw [h2]
  have h3 : (q * v1 + r) * (4294967296 * P) = q * v1 * (4294967296 * P) + r * 4294967296 * P := by grind
  rw [h3]
  have h4 : (r * 4294967296 + u0 + 1) * P = r * 4294967296 * P + u0 * P + P := by grind
  rw [h4] at h1
  omega
/-- Where the guessing ends, q is less than 2^32 .. -/
theorem guess_lt (ht : q * v1 + r = u2 * 4294967296 + u1) (hu : u2 ≤ v1) (hu1 : u1 < 4294967296) (hr : 4294967296 ≤ r) : q < 4294967296 := by
  rcases Nat.lt_or_ge q 4294967296 with h | h
  · exact h
  · have h1 : 4294967296 * v1 ≤ q * v1 := Nat.mul_le_mul_right _ h
    omega
/-- .. and at most one too great. -/
theorem guess_end (hy : y0 < P) (hv0 : v0 < 4294967296) (hv1 : 0 < v1) (hq : q < 4294967296) (ht : q * v1 + r = u2 * 4294967296 + u1) (h : 4294967296 ≤ r ∨ q * v0 ≤ r * 4294967296 + u0) :
    q * (y0 + v0 * P + v1 * (4294967296 * P)) ≤ x0 + u0 * P + (u2 * 4294967296 + u1) * (4294967296 * P) + (y0 + v0 * P + v1 * (4294967296 * P)) := by
  rw [← ht]
  have h2 : q * (y0 + v0 * P + v1 * (4294967296 * P)) = q * y0 + q * v0 * P + q * v1 * (4294967296 * P) := by grind
  rw [h2]
  have h3 : (q * v1 + r) * (4294967296 * P) = q * v1 * (4294967296 * P) + r * 4294967296 * P := by grind
  rw [h3]
  have h5 : q * y0 ≤ 4294967296 * P := Nat.mul_le_mul (by omega) (by omega)
  rcases h with h | h
  · have h4 : q * v0 * P ≤ 4294967295 * 4294967296 * P := Nat.mul_le_mul_right _ (Nat.mul_le_mul (by omega) (by omega))
    have h6 : 4294967296 * 4294967296 * P ≤ r * 4294967296 * P := Nat.mul_le_mul_right _ (Nat.mul_le_mul_right _ h)
    omega
  · have h4 : q * v0 * P ≤ (r * 4294967296 + u0) * P := Nat.mul_le_mul_right _ h
    rw [Nat.add_mul] at h4
    have h6 : 1 * (4294967296 * P) ≤ v1 * (4294967296 * P) := Nat.mul_le_mul_right _ hv1
    omega
end

/-- A number with a segment of limbs apart. -/
def seg (u : Nat → Nat) (j : Nat) : Nat → Nat := fun i => u (j + i)
theorem nv_seg (u : Nat → Nat) (j k : Nat) : nv u (j + k) = nv u j + nv (seg u j) k * 4294967296 ^ j := by
  induction k with
  | zero => simp [nv]
  | succ k ih =>
    show nv u (j + k + 1) = _
    simp only [nv]
    rw [ih, Nat.pow_add]
    unfold seg
    grind
theorem seg_low (u : Nat → Nat) (j k : Nat) : nv (seg u j) (k + 1) = u j + 4294967296 * nv (seg u (j + 1)) k := by
  rw [nv_low]
  unfold seg
  simp only [Nat.add_zero]
  rw [show (fun i => u (j + (i + 1))) = fun i => u (j + 1 + i) from funext fun i => by rw [show j + (i + 1) = j + 1 + i by omega]]

/-- The limbs shifted right by n. -/
theorem shr_limb (x n i : Nat) (hn : n ≤ 32) : dg (x / 2 ^ n) i = (dg x i + 4294967296 * dg x (i + 1)) / 2 ^ n % 4294967296 := by
  unfold dg
  rw [Nat.div_div_eq_div_mul, Nat.mul_comm, ← Nat.div_div_eq_div_mul, Nat.pow_succ, ← Nat.div_div_eq_div_mul]
  generalize x / 4294967296 ^ i = y
  obtain ⟨d, hd⟩ : ∃ d, (4294967296 : Nat) = 2 ^ n * d := ⟨2 ^ (32 - n), by rw [← Nat.pow_add, show n + (32 - n) = 32 by omega]⟩
  have h1 := Nat.mod_add_div y 4294967296
  have h2 := Nat.mod_add_div (y / 4294967296) 4294967296
  have h3 : y = y % 4294967296 + 4294967296 * (y / 4294967296 % 4294967296) + 2 ^ n * (d * 4294967296 * (y / 4294967296 / 4294967296)) := by
    have : 2 ^ n * (d * 4294967296 * (y / 4294967296 / 4294967296)) = (2 ^ n * d) * 4294967296 * (y / 4294967296 / 4294967296) := by grind
    rw [this, ← hd]
    omega
  conv => lhs; rw [h3]
  rw [Nat.add_mul_div_left _ _ (Nat.pow_pos (by omega)), show d * 4294967296 * (y / 4294967296 / 4294967296) = 4294967296 * (d * (y / 4294967296 / 4294967296)) by grind, Nat.add_mul_mod_self_left]

theorem nv_upd_top (f : Nat → Nat) (k s : Nat) : nv (upd f k s) (k + 1) = nv f k + s * 4294967296 ^ k := by
  show nv (upd f k s) k + upd f k s k * _ = _
  rw [nv_upd_ge (Nat.le_refl _), upd_same]
theorem seg_upd (o : Nat → Nat) (off k x : Nat) : seg (upd o (off + k) x) off = upd (seg o off) k x := by
  funext i
  unfold seg upd
  by_cases e : i = k
  · rw [if_pos (by omega), if_pos e]
  · rw [if_neg (by omega), if_neg e]
/-- What is left is not negative: q was right. -/
theorem step_ge {X Y V q P u2 cb : Nat} (h : X + q * V = Y + cb * P) (hge : cb ≤ u2) (hl : Y + u2 * P < (q + 1) * V) : (Y + u2 * P) / V = q ∧ (Y + u2 * P) % V = X + (u2 - cb) * P := by
  obtain ⟨d, rfl⟩ : ∃ d, u2 = cb + d := ⟨u2 - cb, by omega⟩
  rw [Nat.add_sub_cancel_left]
  have e : Y + (cb + d) * P = V * q + (X + d * P) := by
    rw [Nat.add_mul]
    have := Nat.mul_comm q V
    omega
  rw [Nat.add_mul q 1, Nat.one_mul, Nat.mul_comm q V] at hl
  have hr : X + d * P < V := by omega
  rw [e]
  exact ⟨by rw [Nat.mul_add_div (by omega), Nat.div_eq_of_lt hr, Nat.add_zero], by rw [Nat.mul_add_mod, Nat.mod_eq_of_lt hr]⟩
/-- What is left is negative: q was one too great, and adding v gives the remainder. -/
theorem step_less {X Y V q P u2 cb X' cc : Nat} (h : X + q * V = Y + cb * P) (hlt : u2 < cb) (hX : X < P) (hle : q * V ≤ Y + u2 * P + V) (hadd : X' + cc * P = X + V) (hX' : X' < P) (hV : V < P) :
    cb = u2 + 1 ∧ cc = 1 ∧ 1 ≤ q ∧ (Y + u2 * P) / V = q - 1 ∧ (Y + u2 * P) % V = X' := by
  obtain ⟨t, rfl⟩ : ∃ t, cb = u2 + 1 + t := ⟨cb - u2 - 1, by omega⟩
  have e1 : (u2 + 1 + t) * P = u2 * P + P + t * P := by rw [Nat.add_mul, Nat.add_mul, Nat.one_mul]
  rw [e1] at h
  have hc1 : cc < 2 := by
    rcases Nat.lt_or_ge cc 2 with h1 | h1
    · exact h1
    · have : 2 * P ≤ cc * P := Nat.mul_le_mul_right _ h1
      omega
  have hc0 : cc ≠ 0 := fun e => by
    subst e
    rw [Nat.zero_mul] at hadd
    omega
  obtain rfl : cc = 1 := by omega
  rw [Nat.one_mul] at hadd
  have ht : t = 0 := by
    rcases Nat.eq_zero_or_pos t with h1 | h1
    · exact h1
    · have : 1 * P ≤ t * P := Nat.mul_le_mul_right _ h1
      omega
  subst ht
  rw [Nat.zero_mul] at h
  have hq : 1 ≤ q := by
    rcases Nat.eq_zero_or_pos q with h1 | h1
    · subst h1; rw [Nat.zero_mul] at h; omega
    · exact h1
  obtain ⟨p, rfl⟩ : ∃ p, q = p + 1 := ⟨q - 1, by omega⟩
  rw [Nat.add_mul, Nat.one_mul] at h hle
  rw [Nat.add_sub_cancel]
  have e : Y + u2 * P = V * p + X' := by
    have := Nat.mul_comm p V
    omega
  have hr : X' < V := by omega
  rw [e]
  exact ⟨by omega, rfl, hq, by rw [Nat.mul_add_div (by omega), Nat.div_eq_of_lt hr, Nat.add_zero], by rw [Nat.mul_add_mod, Nat.mod_eq_of_lt hr]⟩
/-- One limb of a sum. -/
theorem add_step {f g o : Nat → Nat} {k c s : Nat} (hv : nv o k + c * 4294967296 ^ k = nv f k + nv g k) (hs : s = f k + g k + c) :
    nv (upd o k (s % 4294967296)) (k + 1) + s / 4294967296 * 4294967296 ^ (k + 1) = nv f (k + 1) + nv g (k + 1) := by
  simp only [nv]
  rw [nv_upd_ge (Nat.le_refl _), upd_same]
  have hc := carry_step1 s k
  subst hs
  grind

/-- A difference in 64 bits. -/
theorem wrap_diff (x : Int) (h : -9223372036854775808 ≤ x) (h1 : x < 9223372036854775808) : ∃ D : Nat, IntKind.u64.wrap x = (D : Int) ∧ D < 18446744073709551616 ∧ (D : Int) % 4294967296 = x % 4294967296 ∧ D / 9223372036854775808 = (if x < 0 then 1 else 0) ∧ ∀ y : Int, IntKind.u64.wrap ((D : Int) - y) = IntKind.u64.wrap (x - y) := by
  simp only [IntKind.wrap, IntKind.bits, IntKind.signed]
  simp
  refine ⟨(x % 18446744073709551616).toNat, by omega, by omega, by omega, by split <;> omega, fun y => by omega⟩
end Go.Proofs.Ytgininddoalenaa
