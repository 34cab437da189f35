/- The polynomials of error words: plain laws. -/
import Derived.Test.YtlfmnaepcndhiaaPattern
namespace Go.Proofs.Ytlfmnaepcndhiaa

theorem clen_top {rs : Nat → Rat} {m : Nat} (h : rs m ≠ 0) : clen rs (m + 1) = m + 1 := by simp [clen, h]
theorem clen_skip {rs : Nat → Rat} {m : Nat} (h : rs m = 0) : clen rs (m + 1) = clen rs m := by simp [clen, h]
theorem outP_pair (R : Nat → Rat) (c0 c1 : Rat) : ∀ i p, outP R (pairR c0 c1) 2 i p = (if p < i then R p * c0 else 0) + (if p ≠ 0 ∧ p - 1 < i then R (p - 1) * c1 else 0) := by
  intro i
  induction i with
  | zero => intro p; show (0 : Rat) = _; simp [Rat.zero_add]
  | succ i ih =>
    intro p
    show updR (updR (outP R (pairR c0 c1) 2 i) (i + 0) (outP R (pairR c0 c1) 2 i (i + 0) + R i * c0)) (i + 1) (updR (outP R (pairR c0 c1) 2 i) (i + 0) (outP R (pairR c0 c1) 2 i (i + 0) + R i * c0) (i + 1) + R i * c1) p = _
    by_cases h1 : p = i + 1
    · subst h1
      simp only [updR, if_pos, Nat.add_zero]
      rw [if_neg (show ¬ i + 1 = i by omega), ih, if_neg (show ¬ i + 1 < i by omega), if_neg (show ¬ (i + 1 ≠ 0 ∧ i + 1 - 1 < i) by omega), if_neg (show ¬ i + 1 < i + 1 by omega), if_pos (show i + 1 ≠ 0 ∧ i + 1 - 1 < i + 1 by omega), show i + 1 - 1 = i by omega]
      clear ih; grind
    · simp only [updR, if_neg h1, Nat.add_zero]
      by_cases h2 : p = i
      · subst h2
        rw [if_pos rfl, ih, if_neg (show ¬ p < p by omega), if_pos (show p < p + 1 by omega)]
        clear ih
        by_cases h3 : p = 0
        · rw [if_neg (show ¬ (p ≠ 0 ∧ p - 1 < p) by omega), if_neg (show ¬ (p ≠ 0 ∧ p - 1 < p + 1) by omega)]; generalize R p = x; grind
        · rw [if_pos (show p ≠ 0 ∧ p - 1 < p by omega), if_pos (show p ≠ 0 ∧ p - 1 < p + 1 by omega)]; generalize R p = x; generalize R (p - 1) = y; grind
      · rw [if_neg h2, ih]
        clear ih
        by_cases h4 : p < i
        · rw [if_pos h4, if_pos (show p < i + 1 by omega)]
          by_cases h3 : p = 0
          · rw [if_neg (show ¬ (p ≠ 0 ∧ p - 1 < i) by omega), if_neg (show ¬ (p ≠ 0 ∧ p - 1 < i + 1) by omega)]
          · rw [if_pos (show p ≠ 0 ∧ p - 1 < i by omega), if_pos (show p ≠ 0 ∧ p - 1 < i + 1 by omega)]
        · rw [if_neg h4, if_neg (show ¬ p < i + 1 by omega), if_neg (show ¬ (p ≠ 0 ∧ p - 1 < i) by omega), if_neg (show ¬ (p ≠ 0 ∧ p - 1 < i + 1) by omega)]
/-- The powers as they are computed. -/
def pwP (a : Nat → Rat) (m : Nat) : Nat → Nat × (Nat → Rat)
  | 0 => (1, fun i => if i = 0 then ((1 : Int) : Rat) else 0)
  | k + 1 => (clen (mulP (pwP a m k).2 (pwP a m k).1 a m) ((pwP a m k).1 + m), mulP (pwP a m k).2 (pwP a m k).1 a m)
theorem pwP_mono (u : Rat) (hu : u ≠ 0) : ∀ k, (pwP (pairR 0 u) 2 k).1 = k + 1 ∧ ∀ i, i < k + 1 → (pwP (pairR 0 u) 2 k).2 i = if i = k then powR u k else 0 := by
  have hp : ∀ k, powR u k ≠ 0 := fun k => by
    induction k with
    | zero => show (1 : Rat) ≠ 0; decide
    | succ k ih => intro h; rcases Rat.mul_eq_zero.1 (show powR u k * u = 0 from h) with h | h; exact ih h; exact hu h
  intro k
  induction k with
  | zero => exact ⟨rfl, fun i hi => by obtain rfl : i = 0 := by omega
                                       rfl⟩
  | succ k ih =>
    obtain ⟨ih1, ih2⟩ := ih
    have val : ∀ p, p < k + 1 + 2 → (pwP (pairR 0 u) 2 (k + 1)).2 p = if p = k + 1 then powR u (k + 1) else 0 := by
      intro p hp
      show outP _ (pairR 0 u) 2 (pwP (pairR 0 u) 2 k).1 p = _
      rw [outP_pair, ih1]
      by_cases h1 : p = k + 1
      · subst h1
        rw [if_neg (by omega), if_pos ⟨by omega, by omega⟩, if_pos rfl, ih2 _ (by omega), if_pos (by omega)]
        show 0 + powR u k * u = powR u k * u
        grind
      · rw [if_neg h1]
        have e1 : (if p < k + 1 then (pwP (pairR 0 u) 2 k).2 p * 0 else 0) = (0 : Rat) := by split <;> grind
        rw [e1]
        by_cases h3 : p ≠ 0 ∧ p - 1 < k + 1
        · rw [if_pos h3, ih2 _ (by omega), if_neg (by omega)]; grind
        · rw [if_neg h3]; grind
    refine ⟨?_, fun i hi => val i (by omega)⟩
    show clen (pwP (pairR 0 u) 2 (k + 1)).2 ((pwP (pairR 0 u) 2 k).1 + 2) = _
    rw [ih1]
    rw [clen_skip (by rw [val _ (by omega), if_neg (by omega)]), clen_top (by rw [val _ (by omega), if_pos rfl]; exact hp _)]
/-- A number with the sign of an index. -/
def sg (i c : Nat) : Rat := (((if i % 2 = 1 then -(c : Int) else (c : Int)) : Int) : Rat)
theorem sg_succ (i c : Nat) : sg (i + 1) c = -sg i c := by
  unfold sg
  by_cases h : i % 2 = 1
  · rw [if_neg (by omega), if_pos h, Rat.intCast_neg]; grind
  · rw [if_pos (by omega), if_neg h, Rat.intCast_neg]
theorem sg_add (i c d : Nat) : sg i (c + d) = sg i c + sg i d := by
  unfold sg
  by_cases h : i % 2 = 1
  · rw [if_pos h, if_pos h, if_pos h, ← Rat.intCast_add]; congr 1; omega
  · rw [if_neg h, if_neg h, if_neg h, ← Rat.intCast_add]; congr 1
theorem sg_ne {i c : Nat} (h : c ≠ 0) : sg i c ≠ 0 := by
  unfold sg
  intro e
  have : (if i % 2 = 1 then -(c : Int) else (c : Int)) = 0 := by exact_mod_cast e
  split at this <;> omega
theorem pwP_altc {c0 c1 : Rat} (f0 : c0 = 1) (f1 : c1 = -1) : ∀ k, (pwP (pairR c0 c1) 2 k).1 = k + 1 ∧ ∀ i, i < k + 1 → (pwP (pairR c0 c1) 2 k).2 i = sg i (chs k i) := by
  intro k
  induction k with
  | zero => exact ⟨rfl, fun i hi => by obtain rfl : i = 0 := by omega
                                       rfl⟩
  | succ k ih =>
    obtain ⟨ih1, ih2⟩ := ih
    have val : ∀ p, p < k + 1 + 2 → (pwP (pairR c0 c1) 2 (k + 1)).2 p = sg p (chs (k + 1) p) := by
      intro p hp
      show outP _ _ 2 (pwP (pairR c0 c1) 2 k).1 p = _
      rw [outP_pair, ih1]
      cases p with
      | zero =>
        rw [if_pos (by omega), if_neg (by omega), ih2 0 (by omega), chs_zero, chs_zero, f0]
        grind
      | succ p =>
        have e1 : (if p + 1 < k + 1 then (pwP (pairR c0 c1) 2 k).2 (p + 1) * c0 else 0) = sg (p + 1) (chs k (p + 1)) := by
          split
          · rw [ih2 _ (by omega), f0]; generalize sg _ _ = z; grind
          · rw [chs_gt (by omega)]; unfold sg; simp
        have e2 : (if p + 1 ≠ 0 ∧ p + 1 - 1 < k + 1 then (pwP (pairR c0 c1) 2 k).2 (p + 1 - 1) * c1 else 0) = sg (p + 1) (chs k p) := by
          rw [Nat.add_sub_cancel]
          split
          · rw [ih2 _ (by omega), sg_succ, f1]; generalize sg _ _ = z; grind
          · rw [chs_gt (by omega)]; unfold sg; simp
        rw [e1, e2]
        show _ = sg (p + 1) (chs k p + chs k (p + 1))
        rw [sg_add]; grind
    refine ⟨?_, fun i hi => val i (by omega)⟩
    show clen (pwP (pairR c0 c1) 2 (k + 1)).2 ((pwP (pairR c0 c1) 2 k).1 + 2) = _
    rw [ih1]
    rw [clen_skip (by rw [val _ (by omega), chs_gt (by omega)]; unfold sg; simp), clen_top (by rw [val _ (by omega), chs_self]; exact sg_ne (by omega))]
theorem pwP_alt (k : Nat) : (pwP (pairR ((1 : Int) : Rat) (((-1 : Int)) : Rat)) 2 k).1 = k + 1 ∧ ∀ i, i < k + 1 → (pwP (pairR ((1 : Int) : Rat) (((-1 : Int)) : Rat)) 2 k).2 i = sg i (chs k i) := pwP_altc rfl rfl k
/-- A product with one entry at v. -/
theorem mulP_mono {A B : Nat → Rat} {v mB : Nat} {U : Rat} (hA : ∀ i, i < v + 1 → A i = if i = v then U else 0) (p : Nat) : mulP A (v + 1) B mB p = if v ≤ p ∧ p < v + mB then U * B (p - v) else 0 := by
  have z : ∀ i, i ≤ v → ∀ p, outP A B mB i p = 0 := by
    intro i
    induction i with
    | zero => intro _ p; rfl
    | succ i ih =>
      intro hi
      have : ∀ j p, inP A B i (outP A B mB i) j p = 0 := by
        intro j
        induction j with
        | zero => intro p; exact ih (by omega) p
        | succ j ihj =>
          intro p
          show updR _ _ _ p = 0
          unfold updR
          split
          · rw [ihj, hA i (by omega), if_neg (by omega)]; grind
          · exact ihj p
      exact this mB
  have key : ∀ j p, inP A B v (outP A B mB v) j p = if v ≤ p ∧ p < v + j then U * B (p - v) else 0 := by
    intro j
    induction j with
    | zero => intro p; rw [if_neg (by omega)]; exact z v (Nat.le_refl _) p
    | succ j ih =>
      intro p
      show updR _ _ _ p = _
      unfold updR
      by_cases e : p = v + j
      · subst e
        rw [if_pos rfl, if_pos ⟨by omega, by omega⟩, ih, if_neg (by omega), hA v (by omega), if_pos rfl, show v + j - v = j by omega]; grind
      · rw [if_neg e, ih]
        by_cases h : v ≤ p ∧ p < v + j
        · rw [if_pos h, if_pos ⟨h.1, by omega⟩]
        · rw [if_neg h, if_neg (by omega)]
  exact key mB p
theorem powR_inv (d : Nat) (v : Nat) : powR (mkRat 1 d) v = mkRat 1 (d ^ v) := by
  induction v with
  | zero => show (1 : Rat) = mkRat 1 (d ^ 0); rw [Nat.pow_zero]; decide +kernel
  | succ v ih => show powR _ v * _ = _; rw [ih, Rat.mkRat_mul_mkRat, Nat.pow_succ]; simp
theorem mkRat_ne {d : Nat} (h : d ≠ 0) : mkRat 1 d ≠ 0 := by
  intro e
  have := (Rat.mkRat_eq_zero h).1 e
  omega
theorem sg_rv (U : Nat) (j c : Nat) : mkRat 1 U * sg j c = rv (decide (j % 2 = 1)) c U := by
  unfold sg rv
  rw [← Rat.mkRat_one, Rat.mkRat_mul_mkRat]
  simp
/-- Pattern as the reference computes it. -/
theorem pat_eq {q n v : Nat} (hq : 2 ≤ q) (hv : v ≤ n) :
    clen (mulP (pwP (pairR 0 (mkRat 1 (q - 1))) 2 v).2 (pwP (pairR 0 (mkRat 1 (q - 1))) 2 v).1 (pwP (pairR ((1 : Int) : Rat) (((-1 : Int)) : Rat)) 2 (n - v)).2 (pwP (pairR ((1 : Int) : Rat) (((-1 : Int)) : Rat)) 2 (n - v)).1)
      ((pwP (pairR 0 (mkRat 1 (q - 1))) 2 v).1 + (pwP (pairR ((1 : Int) : Rat) (((-1 : Int)) : Rat)) 2 (n - v)).1) = n + 1 ∧
    ∀ i, i < n + 1 → mulP (pwP (pairR 0 (mkRat 1 (q - 1))) 2 v).2 (pwP (pairR 0 (mkRat 1 (q - 1))) 2 v).1 (pwP (pairR ((1 : Int) : Rat) (((-1 : Int)) : Rat)) 2 (n - v)).2 (pwP (pairR ((1 : Int) : Rat) (((-1 : Int)) : Rat)) 2 (n - v)).1 i = patR q n v i := by
  have hu : mkRat 1 (q - 1) ≠ 0 := mkRat_ne (by omega)
  obtain ⟨a1, a2⟩ := pwP_mono (mkRat 1 (q - 1)) hu v
  obtain ⟨b1, b2⟩ := pwP_alt (n - v)
  rw [a1, b1]
  have hU : powR (mkRat 1 (q - 1)) v = mkRat 1 ((q - 1) ^ v) := powR_inv _ _
  have hne : mkRat 1 ((q - 1) ^ v) ≠ 0 := mkRat_ne (by have := Nat.pow_pos (n := v) (show 0 < q - 1 by omega); omega)
  have val : ∀ i, mulP (pwP (pairR 0 (mkRat 1 (q - 1))) 2 v).2 (v + 1) (pwP (pairR ((1 : Int) : Rat) (((-1 : Int)) : Rat)) 2 (n - v)).2 (n - v + 1) i = if v ≤ i ∧ i < n + 1 then mkRat 1 ((q - 1) ^ v) * sg (i - v) (chs (n - v) (i - v)) else 0 := by
    intro i
    rw [mulP_mono a2, hU]
    by_cases h : v ≤ i ∧ i < n + 1
    · rw [if_pos h, if_pos ⟨h.1, by omega⟩, b2 _ (by omega)]
    · rw [if_neg h, if_neg (by omega)]
  refine ⟨?_, fun i hi => ?_⟩
  · rw [show v + 1 + (n - v + 1) = n + 1 + 1 by omega, clen_skip (by rw [val, if_neg (by omega)]), clen_top]
    rw [val, if_pos ⟨by omega, by omega⟩, chs_self]
    intro e
    rcases Rat.mul_eq_zero.1 e with e | e
    · exact hne e
    · exact sg_ne (by omega) e
  · rw [val]
    unfold patR
    by_cases h : v ≤ i
    · rw [if_pos ⟨h, hi⟩, if_neg (by omega), sg_rv]
    · rw [if_neg (by omega), if_pos (by omega)]
end Go.Proofs.Ytlfmnaepcndhiaa
