/- The sum of the probabilities of all error words: plain laws. -/
import Derived.Test.YtlfmnaepcndhiaaRefPat
namespace Go.Proofs.Ytlfmnaepcndhiaa

def fac : Nat → Nat
  | 0 => 1
  | n + 1 => (n + 1) * fac n
theorem fac_pos (n : Nat) : 0 < fac n := by
  induction n with
  | zero => decide
  | succ n ih => exact Nat.mul_pos (by omega) ih
theorem chs_fac : ∀ n k, k ≤ n → chs n k * (fac k * fac (n - k)) = fac n := by
  intro n
  induction n with
  | zero => intro k hk; obtain rfl : k = 0 := by omega
            rfl
  | succ n ih =>
    intro k hk
    cases k with
    | zero => rw [chs_zero]; simp [fac]
    | succ k =>
      by_cases e : k = n
      · subst e; rw [chs_self, Nat.sub_self]; simp [fac]
      · have h1 := ih k (by omega)
        have h2 := ih (k + 1) (by omega)
        obtain ⟨d, hd⟩ : ∃ d, n = k + 1 + d := ⟨n - (k + 1), by omega⟩
        subst hd
        rw [show k + 1 + d - k = d + 1 by omega] at h1
        rw [show k + 1 + d - (k + 1) = d by omega] at h2
        rw [show k + 1 + d + 1 - (k + 1) = d + 1 by omega]
        show (chs (k + 1 + d) k + chs (k + 1 + d) (k + 1)) * _ = (k + 1 + d + 1) * fac (k + 1 + d)
        simp only [fac] at h1 h2 ⊢
        generalize fac (k + 1 + d) = F at *
        generalize fac k = a at *
        generalize fac d = b at *
        generalize chs (k + 1 + d) k = x at *
        generalize chs (k + 1 + d) (k + 1) = y at *
        have e1 : (x + y) * ((k + 1) * a * ((d + 1) * b)) = (k + 1) * (x * (a * ((d + 1) * b))) + (d + 1) * (y * ((k + 1) * a * b)) := by grind
        rw [e1, h1, h2]; grind
theorem chs_tri {n i v : Nat} (hi : i ≤ n) (hv : v ≤ i) : chs n v * chs (n - v) (i - v) = chs n i * chs i v := by
  have a := chs_fac n v (by omega)
  have b := chs_fac (n - v) (i - v) (by omega)
  have c := chs_fac n i hi
  have d := chs_fac i v hv
  rw [show n - v - (i - v) = n - i by omega] at b
  have p1 := fac_pos v
  have p2 := fac_pos (i - v)
  have p3 := fac_pos (n - i)
  rw [← b] at a
  rw [← d] at c
  generalize fac v = x at *
  generalize fac (i - v) = y at *
  generalize fac (n - i) = z at *
  have e : (chs n v * chs (n - v) (i - v)) * (x * y * z) = (chs n i * chs i v) * (x * y * z) := by
    have e1 : (chs n v * chs (n - v) (i - v)) * (x * y * z) = chs n v * (x * (chs (n - v) (i - v) * (y * z))) := by grind
    have e2 : (chs n i * chs i v) * (x * y * z) = chs n i * (chs i v * (x * y) * z) := by grind
    rw [e1, e2, a, c]
  exact Nat.eq_of_mul_eq_mul_right (Nat.mul_pos (Nat.mul_pos p1 p2) p3) e
def sI (j : Nat) : Int := if j % 2 = 1 then -1 else 1
theorem sI_succ (j : Nat) : sI (j + 1) = -sI j := by
  unfold sI
  by_cases h : j % 2 = 1
  · rw [if_pos h, if_neg (by omega)]; rfl
  · rw [if_neg h, if_pos (by omega)]
/-- The partial sums at one coefficient. -/
def tI (n i : Nat) : Nat → Int
  | 0 => 0
  | k + 1 => tI n i k + (if k ≤ i then sI (i - k) * ((chs n k * chs (n - k) (i - k) : Nat) : Int) else 0)
theorem tI_top {n i : Nat} (h0 : 0 < i) (hi : i ≤ n) : ∀ k, 0 < k → k ≤ i + 1 → tI n i k = (chs n i : Int) * (sI (i - (k - 1)) * (chs (i - 1) (k - 1) : Int)) := by
  intro k
  induction k with
  | zero => omega
  | succ k ih =>
    intro _ hk
    show tI n i k + _ = _
    rw [if_pos (show k ≤ i by omega), chs_tri hi (by omega), Nat.add_sub_cancel]
    cases k with
    | zero => show 0 + _ = _; rw [chs_zero, chs_zero]; simp; grind
    | succ k =>
      rw [ih (by omega) (by omega), Nat.add_sub_cancel]
      obtain ⟨d, hd⟩ : ∃ d, i = k + 1 + d := ⟨i - (k + 1), by omega⟩
      subst hd
      rw [show k + 1 + d - k = d + 1 by omega, show k + 1 + d - (k + 1) = d by omega, show k + 1 + d - 1 = k + d by omega, sI_succ]
      have e : chs (k + 1 + d) (k + 1) = chs (k + d) k + chs (k + d) (k + 1) := by rw [show k + 1 + d = (k + d) + 1 by omega]; rfl
      rw [e]
      generalize chs (k + 1 + d) = f
      push_cast
      grind
theorem tI_stay {n i : Nat} : ∀ k, tI n i (i + 1 + k) = tI n i (i + 1) := by
  intro k
  induction k with
  | zero => rfl
  | succ k ih =>
    show tI n i (i + 1 + k) + (if i + 1 + k ≤ i then _ else 0) = _
    rw [if_neg (by omega), ih]; simp
theorem tI_all {n i : Nat} (hi : i ≤ n) : tI n i (n + 1) = if i = 0 then 1 else 0 := by
  rw [show n + 1 = i + 1 + (n - i) by omega, tI_stay]
  by_cases h : i = 0
  · subst h
    rw [if_pos rfl]
    show 0 + (if 0 ≤ 0 then sI (0 - 0) * ((chs n 0 * chs (n - 0) (0 - 0) : Nat) : Int) else 0) = _
    rw [if_pos (Nat.le_refl 0), chs_zero]
    simp [chs_zero, sI]
  · rw [if_neg h, tI_top (by omega) hi (i + 1) (by omega) (Nat.le_refl _), Nat.add_sub_cancel, chs_gt (show i - 1 < i by omega)]
    simp
theorem tI_le (n i : Nat) (hn : n ≤ 16) (k : Nat) : (tI n i k).natAbs ≤ k * 4294967296 := by
  induction k with
  | zero => show (0 : Int).natAbs ≤ 0 * _; omega
  | succ k ih =>
    show (tI n i k + _).natAbs ≤ _
    have h1 := chs_le_pow n k
    have h2 := chs_le_pow (n - k) (i - k)
    have h3 : (2 : Nat) ^ n ≤ 2 ^ 16 := Nat.pow_le_pow_right (by omega) hn
    have h4 : (2 : Nat) ^ (n - k) ≤ 2 ^ 16 := Nat.pow_le_pow_right (by omega) (by omega)
    have h5 : chs n k * chs (n - k) (i - k) ≤ 2 ^ 16 * 2 ^ 16 := Nat.mul_le_mul (by omega) (by omega)
    split
    · unfold sI
      split <;> omega
    · omega
theorem cutR_clen (rs : Nat → Rat) (m i : Nat) : cutR rs (clen rs m) i = cutR rs m i := by
  have := clen_le rs m
  unfold cutR
  by_cases h : i < clen rs m
  · rw [if_pos h, if_pos (by omega)]
  · rw [if_neg h]
    by_cases h2 : i < m
    · rw [if_pos h2, clen_zero (rs := rs) (m := m) (i := i) (by omega) h2]
    · rw [if_neg h2]
theorem cutR_sumP (a b : Nat → Rat) (m m' i : Nat) : cutR (sumP a m b m') (max m m') i = cutR a m i + cutR b m' i := by
  unfold cutR
  by_cases h : i < max m m'
  · rw [if_pos h]; rfl
  · rw [if_neg h, if_neg (by omega), if_neg (by omega), Rat.add_zero]
theorem mulP_one (c : Rat) (b : Nat → Rat) (mB p : Nat) : mulP (fun _ => c) 1 b mB p = if p < mB then c * b p else 0 := by
  have := mulP_mono (A := fun _ => c) (B := b) (v := 0) (mB := mB) (U := c) (fun i hi => by rw [if_pos (by omega)]) p
  rw [show (0 : Nat) + 1 = 1 from rfl] at this
  rw [this]
  simp
/-- The sums as they are computed. -/
def totP (q n : Nat) : Nat → Nat × (Nat → Rat)
  | 0 => (0, fun _ => 0)
  | k + 1 => (clen (sumP (totP q n k).2 (totP q n k).1 (mulP (fun _ => (((q - 1) ^ k * chs n k : Nat) : Rat)) 1 (patR q n k) (n + 1)) (clen (mulP (fun _ => (((q - 1) ^ k * chs n k : Nat) : Rat)) 1 (patR q n k) (n + 1)) (1 + (n + 1)))) (max (totP q n k).1 (clen (mulP (fun _ => (((q - 1) ^ k * chs n k : Nat) : Rat)) 1 (patR q n k) (n + 1)) (1 + (n + 1)))),
      sumP (totP q n k).2 (totP q n k).1 (mulP (fun _ => (((q - 1) ^ k * chs n k : Nat) : Rat)) 1 (patR q n k) (n + 1)) (clen (mulP (fun _ => (((q - 1) ^ k * chs n k : Nat) : Rat)) 1 (patR q n k) (n + 1)) (1 + (n + 1))))
theorem pat_int {q n k i : Nat} (hq : 2 ≤ q) (hi : k ≤ i) : (((q - 1) ^ k * chs n k : Nat) : Rat) * patR q n k i = ((sI (i - k) * ((chs n k * chs (n - k) (i - k) : Nat) : Int) : Int) : Rat) := by
  unfold patR
  rw [if_neg (by omega)]
  unfold rv sI
  have hd : (q - 1) ^ k ≠ 0 := by have := Nat.pow_pos (n := k) (show 0 < q - 1 by omega); omega
  generalize (q - 1) ^ k = d at *
  generalize chs (n - k) (i - k) = y
  generalize chs n k = x
  have e : (((d * x : Nat)) : Rat) = mkRat ((d * x : Nat) : Int) 1 := by rw [Rat.mkRat_one]; rfl
  rw [e, Rat.mkRat_mul_mkRat, ← Rat.mkRat_one, Nat.one_mul]
  have e2 : ∀ z : Int, mkRat (((d * x : Nat) : Int) * z) d = mkRat ((x : Int) * z) 1 := fun z => by
    have := Rat.mkRat_mul_right (n := (x : Int) * z) (d := 1) hd
    rw [Nat.one_mul] at this
    rw [← this]; congr 1; push_cast; grind
  rw [e2]
  congr 1
  by_cases h : (i - k) % 2 = 1
  · simp [h, Int.mul_neg]
  · simp [h]
theorem totP_cut {q n : Nat} (hq : 2 ≤ q) : ∀ k i, cutR (totP q n k).2 (totP q n k).1 i = if i ≤ n then ((tI n i k : Int) : Rat) else 0 := by
  intro k
  induction k with
  | zero =>
    intro i
    show cutR _ 0 i = _
    unfold cutR
    rw [if_neg (by omega)]
    split <;> rfl
  | succ k ih =>
    intro i
    show cutR (sumP _ _ _ _) (clen (sumP _ _ _ _) _) i = _
    rw [cutR_clen, cutR_sumP, ih, cutR_clen]
    have e : cutR (mulP (fun _ => (((q - 1) ^ k * chs n k : Nat) : Rat)) 1 (patR q n k) (n + 1)) (1 + (n + 1)) i = if i ≤ n then (((if k ≤ i then sI (i - k) * ((chs n k * chs (n - k) (i - k) : Nat) : Int) else 0 : Int)) : Rat) else 0 := by
      unfold cutR
      rw [mulP_one]
      by_cases h : i ≤ n
      · rw [if_pos (by omega), if_pos (by omega), if_pos h]
        by_cases h2 : k ≤ i
        · rw [if_pos h2, pat_int hq h2]
        · rw [if_neg h2]; unfold patR; rw [if_pos (by omega), Rat.mul_zero]; rfl
      · rw [if_neg h]
        split
        · rw [if_neg (by omega)]
        · rfl
    rw [e]
    by_cases h : i ≤ n
    · rw [if_pos h, if_pos h, if_pos h, ← Rat.intCast_add]; rfl
    · rw [if_neg h, if_neg h, if_neg h, Rat.add_zero]
theorem clen_one {rs : Nat → Rat} {m : Nat} (h0 : rs 0 ≠ 0) (hm : 0 < m) (h : ∀ i, 0 < i → i < m → rs i = 0) : clen rs m = 1 := by
  induction m with
  | zero => omega
  | succ m ih =>
    by_cases e : m = 0
    · subst e; simp [clen, h0]
    · rw [clen_skip (h m (by omega) (by omega))]
      exact ih (by omega) fun i h1 h2 => h i h1 (by omega)
theorem totP_len (q n k : Nat) : (totP q n k).1 ≤ n + 2 := by
  induction k with
  | zero => exact Nat.zero_le _
  | succ k ih =>
    show clen _ (max _ _) ≤ _
    have h1 := clen_le (mulP (fun _ => (((q - 1) ^ k * chs n k : Nat) : Rat)) 1 (patR q n k) (n + 1)) (1 + (n + 1))
    refine Nat.le_trans (clen_le _ _) ?_
    omega
theorem totP_end {q n : Nat} (hq : 2 ≤ q) : (totP q n (n + 1)).1 = 1 ∧ (totP q n (n + 1)).2 0 = 1 := by
  have h := totP_cut (n := n) hq (n + 1)
  have h0 := h 0
  rw [if_pos (by omega), tI_all (by omega), if_pos rfl] at h0
  have hpos : 0 < (totP q n (n + 1)).1 := by
    apply Nat.pos_of_ne_zero
    intro e
    rw [e] at h0
    unfold cutR at h0
    rw [if_neg (by omega)] at h0
    exact absurd h0 (by decide)
  have hval : (totP q n (n + 1)).2 0 = 1 := by
    unfold cutR at h0
    rw [if_pos hpos] at h0
    exact h0
  refine ⟨?_, hval⟩
  have hcl : (totP q n (n + 1)).1 = clen (totP q n (n + 1)).2 (totP q n (n + 1)).1 := by
    have e : ∀ (rs : Nat → Rat) m, clen rs (clen rs m) = clen rs m := fun rs m => by
      induction m with
      | zero => rfl
      | succ m ih =>
        by_cases e : rs m = 0
        · rw [clen_skip e, ih]
        · rw [clen_top e, clen_top e]
    exact (e _ _).symm
  rw [hcl]
  refine clen_one (by rw [hval]; decide) hpos fun i h1 h2 => ?_
  have := h i
  unfold cutR at this
  rw [if_pos h2] at this
  rw [this]
  split
  · rw [tI_all (by omega), if_neg (by omega)]; rfl
  · rfl
theorem rsz_int {z : Int} (h : z.natAbs < 18446744073709551616) : rsz (z : Rat) 2 := by
  refine ⟨?_, ?_⟩
  · show dl z.natAbs ≤ 2
    exact dl_le (by omega)
  · show dl 1 ≤ 2
    rw [dl_one]; omega
theorem rsz_tot {q n : Nat} (hq : 2 ≤ q) (hn : n ≤ 16) (k : Nat) (hk : k ≤ n + 1) : ∀ i, i < (totP q n k).1 → rsz ((totP q n k).2 i) 2 := by
  intro i hi
  have := totP_cut (n := n) hq k i
  unfold cutR at this
  rw [if_pos hi] at this
  rw [this]
  split
  · have h1 := tI_le n i hn k
    exact rsz_int (by omega)
  · exact rsz_zero.mono (by omega)
end Go.Proofs.Ytlfmnaepcndhiaa
