/- Numbers in limbs of 32 bits: plain laws. -/
import Derived.Test.YtgininddoalenaaBase
namespace Go.Proofs.Ytgininddoalenaa

/-- The number with the limbs f 0 .. f (n-1). -/
def nv (f : Nat → Nat) : Nat → Nat
  | 0 => 0
  | k + 1 => nv f k + f k * 4294967296 ^ k
/-- The limbs of x, and how many there are. -/
def dg (x i : Nat) : Nat := x / 4294967296 ^ i % 4294967296
def dl (x : Nat) : Nat := if h : x = 0 then 0 else dl (x / 4294967296) + 1
termination_by x
decreasing_by exact Nat.div_lt_self (by omega) (by omega)

theorem Bpow_pos (n : Nat) : 0 < 4294967296 ^ n := Nat.pow_pos (by omega)
theorem nv_congr {f g : Nat → Nat} {n : Nat} (h : ∀ i, i < n → f i = g i) : nv f n = nv g n := by
  induction n with
  | zero => rfl
  | succ n ih => simp only [nv]; rw [ih fun i hi => h i (by omega), h n (by omega)]
theorem nv_lt {f : Nat → Nat} {n : Nat} (h : ∀ i, i < n → f i < 4294967296) : nv f n < 4294967296 ^ n := by
  induction n with
  | zero => simp [nv]
  | succ n ih =>
    have h1 := ih fun i hi => h i (by omega)
    have h2 := h n (by omega)
    have h3 : (f n + 1) * 4294967296 ^ n ≤ 4294967296 * 4294967296 ^ n := Nat.mul_le_mul_right _ h2
    simp only [nv, Nat.pow_succ]
    grind
theorem nv_zeros {f : Nat → Nat} {n m : Nat} (hnm : n ≤ m) (h : ∀ i, n ≤ i → i < m → f i = 0) : nv f m = nv f n := by
  induction m with
  | zero => have : n = 0 := by omega
            rw [this]
  | succ m ih =>
    by_cases e : n = m + 1
    · rw [e]
    · simp only [nv]
      rw [ih (by omega) fun i h1 h2 => h i h1 (by omega), h m (by omega) (by omega)]
      omega
theorem nv_zero {f : Nat → Nat} {n : Nat} (h : ∀ i, i < n → f i = 0) : nv f n = 0 := nv_zeros (Nat.zero_le n) fun i _ hi => h i hi
/-- The lowest limb apart. -/
theorem nv_low (f : Nat → Nat) (n : Nat) : nv f (n + 1) = f 0 + 4294967296 * nv (fun i => f (i + 1)) n := by
  induction n with
  | zero => simp [nv]
  | succ n ih =>
    have h1 : nv f (n + 1 + 1) = nv f (n + 1) + f (n + 1) * 4294967296 ^ (n + 1) := rfl
    have h2 : nv (fun i => f (i + 1)) (n + 1) = nv (fun i => f (i + 1)) n + f (n + 1) * 4294967296 ^ n := rfl
    rw [h1, h2, ih, Nat.pow_succ]
    grind
theorem nv_ge {f : Nat → Nat} {n k : Nat} (hk : k < n) (h : f k ≠ 0) : 4294967296 ^ k ≤ nv f n := by
  induction n with
  | zero => omega
  | succ n ih =>
    simp only [nv]
    by_cases e : k = n
    · subst e
      have : 1 * 4294967296 ^ k ≤ f k * 4294967296 ^ k := Nat.mul_le_mul_right _ (by omega)
      omega
    · have := ih (by omega)
      omega

theorem dg_lt (x i : Nat) : dg x i < 4294967296 := Nat.mod_lt _ (by omega)
theorem dg_zero (i : Nat) : dg 0 i = 0 := by simp [dg]
theorem dg_succ (x i : Nat) : dg x (i + 1) = dg (x / 4294967296) i := by
  unfold dg
  rw [Nat.pow_succ, Nat.mul_comm, Nat.div_div_eq_div_mul]
theorem dg_first (x : Nat) : dg x 0 = x % 4294967296 := by simp [dg]
theorem dl_zero : dl 0 = 0 := by unfold dl; simp
theorem dl_pos {x : Nat} (h : x ≠ 0) : dl x = dl (x / 4294967296) + 1 := by rw [dl]; simp [h]
theorem nv_dg (x : Nat) : nv (dg x) (dl x) = x := by
  induction x using Nat.strongRecOn with
  | _ x ih =>
    by_cases h : x = 0
    · subst h; rw [dl_zero]; rfl
    · rw [dl_pos h, nv_low, dg_first]
      have := ih (x / 4294967296) (Nat.div_lt_self (by omega) (by omega))
      rw [show (fun i => dg x (i + 1)) = dg (x / 4294967296) from funext fun i => dg_succ x i, this]
      exact Nat.mod_add_div x 4294967296
theorem dg_last {x : Nat} (h : x ≠ 0) : dg x (dl x - 1) ≠ 0 := by
  induction x using Nat.strongRecOn with
  | _ x ih =>
    rw [dl_pos h, Nat.add_sub_cancel]
    by_cases h1 : x / 4294967296 = 0
    · rw [h1, dl_zero, dg_first]
      have := Nat.mod_add_div x 4294967296
      rw [h1] at this
      omega
    · have h2 := ih (x / 4294967296) (Nat.div_lt_self (by omega) (by omega)) h1
      have h3 := dl_pos h1
      rw [h3, Nat.add_sub_cancel] at h2
      rw [h3, dg_succ]
      exact h2
theorem dl_eq_zero {x : Nat} : dl x = 0 ↔ x = 0 := by
  constructor
  · intro h
    rcases Nat.eq_zero_or_pos x with h0 | h0
    · exact h0
    · rw [dl_pos (by omega)] at h; omega
  · intro h; rw [h]; exact dl_zero
theorem lt_pow_dl (x : Nat) : x < 4294967296 ^ dl x := by
  have := nv_lt (f := dg x) (n := dl x) fun i _ => dg_lt x i
  rwa [nv_dg] at this
theorem pow_dl_le {x : Nat} (h : x ≠ 0) : 4294967296 ^ (dl x - 1) ≤ x := by
  have h1 : dl x ≠ 0 := fun e => h (dl_eq_zero.1 e)
  have := nv_ge (f := dg x) (n := dl x) (k := dl x - 1) (by omega) (dg_last h)
  rwa [nv_dg] at this
theorem dl_le {x n : Nat} (h : x < 4294967296 ^ n) : dl x ≤ n := by
  by_cases h0 : x = 0
  · rw [h0, dl_zero]; omega
  · have h1 := pow_dl_le h0
    have h2 : 4294967296 ^ (dl x - 1) < 4294967296 ^ n := by omega
    have := (Nat.pow_lt_pow_iff_right (a := 4294967296) (by omega)).1 h2
    omega
theorem dg_of {f : Nat → Nat} {n : Nat} (h : ∀ i, i < n → f i < 4294967296) : ∀ i, i < n → dg (nv f n) i = f i := by
  induction n generalizing f with
  | zero => intro i hi; omega
  | succ n ih =>
    intro i hi
    rw [nv_low]
    have h0 := h 0 (by omega)
    cases i with
    | zero =>
      rw [dg_first, Nat.add_mul_mod_self_left, Nat.mod_eq_of_lt h0]
    | succ i =>
      rw [dg_succ, Nat.add_mul_div_left _ _ (by omega), Nat.div_eq_of_lt h0, Nat.zero_add]
      exact ih (f := fun i => f (i + 1)) (fun i hi => h (i + 1) (by omega)) i (by omega)
/-- The limbs up to the highest one that is not 0 are the canonical ones. -/
theorem dl_of {f : Nat → Nat} {n m : Nat} (hnm : n ≤ m) (h : ∀ i, i < m → f i < 4294967296) (hz : ∀ i, n ≤ i → i < m → f i = 0) (hl : n = 0 ∨ f (n - 1) ≠ 0) : dl (nv f m) = n ∧ ∀ i, i < n → dg (nv f m) i = f i := by
  have hv := nv_zeros hnm hz
  rw [hv]
  refine ⟨?_, dg_of fun i hi => h i (by omega)⟩
  have h1 := dl_le (nv_lt (f := f) (n := n) fun i hi => h i (by omega))
  rcases hl with h0 | h0
  · omega
  · rcases Nat.eq_zero_or_pos n with e | e
    · omega
    · have h2 := nv_ge (f := f) (n := n) (k := n - 1) (by omega) h0
      have h3 := lt_pow_dl (nv f n)
      have h4 : 4294967296 ^ (n - 1) < 4294967296 ^ dl (nv f n) := by omega
      have := (Nat.pow_lt_pow_iff_right (a := 4294967296) (by omega)).1 h4
      omega
theorem dl_mono {x y : Nat} (h : x ≤ y) : dl x ≤ dl y := dl_le (Nat.lt_of_le_of_lt h (lt_pow_dl y))

/-- One limb turned. -/
def upd (f : Nat → Nat) (k v : Nat) : Nat → Nat := fun i => if i = k then v else f i
theorem upd_same (f : Nat → Nat) (k v : Nat) : upd f k v k = v := by simp [upd]
theorem upd_other {f : Nat → Nat} {k v i : Nat} (h : i ≠ k) : upd f k v i = f i := by simp [upd, h]
theorem nv_upd_ge {f : Nat → Nat} {k v n : Nat} (h : n ≤ k) : nv (upd f k v) n = nv f n := nv_congr fun i hi => upd_other (by omega)
theorem nv_upd {f : Nat → Nat} {k v n : Nat} (h : k < n) : nv (upd f k v) n + f k * 4294967296 ^ k = nv f n + v * 4294967296 ^ k := by
  induction n with
  | zero => omega
  | succ n ih =>
    simp only [nv]
    by_cases e : k = n
    · subst e
      rw [nv_upd_ge (Nat.le_refl _), upd_same]
      omega
    · rw [upd_other (by omega)]
      have := ih (by omega)
      omega
theorem carry_step (s P : Nat) (n : Nat) : (s % 4294967296) * 4294967296 ^ n * P + (s / 4294967296) * 4294967296 ^ (n + 1) * P = s * 4294967296 ^ n * P := by
  have h := Nat.mod_add_div s 4294967296
  have h2 : s * 4294967296 ^ n * P = (s % 4294967296 + 4294967296 * (s / 4294967296)) * 4294967296 ^ n * P := by rw [h]
  rw [h2, Nat.pow_succ]
  grind
theorem carry_step1 (s : Nat) (n : Nat) : (s % 4294967296) * 4294967296 ^ n + (s / 4294967296) * 4294967296 ^ (n + 1) = s * 4294967296 ^ n := by
  have := carry_step s 1 n
  simpa using this

/-- The limbs from i on. -/
def hv (f : Nat → Nat) (i n : Nat) : Nat := nv (fun j => f (i + j)) (n - i)
theorem hv_end (f : Nat → Nat) (n : Nat) : hv f n n = 0 := by simp [hv, nv]
theorem hv_all (f : Nat → Nat) (n : Nat) : hv f 0 n = nv f n := by unfold hv; simp
theorem hv_step {f : Nat → Nat} {i n : Nat} (h : i < n) : hv f i n = f i + 4294967296 * hv f (i + 1) n := by
  unfold hv
  rw [show n - i = (n - (i + 1)) + 1 by omega, nv_low]
  simp only [Nat.add_zero]
  rw [show (fun j => f (i + (j + 1))) = fun j => f (i + 1 + j) from funext fun j => by rw [show i + (j + 1) = i + 1 + j by omega]]
theorem hv_congr {f g : Nat → Nat} {i n : Nat} (h : ∀ j, i ≤ j → j < n → f j = g j) : hv f i n = hv g i n := nv_congr fun j hj => h _ (by omega) (by omega)
end Go.Proofs.Ytgininddoalenaa
