/- The theorem of Griesmer for a set of words that is closed under sums with multiples: plain laws. -/
import Derived.Test.YtgininddoalenaaWordMath
import Derived.Test.YtgininddoalenaaGriesmer
namespace Go.Proofs.Ytgininddoalenaa

/-- The laws of a field. -/
structure Fie (K : Type) [Add K] [Mul K] [Neg K] [Zero K] [One K] : Prop where
  addA : ∀ x y z : K, x + y + z = x + (y + z)
  addC : ∀ x y : K, x + y = y + x
  zeroA : ∀ x : K, 0 + x = x
  negA : ∀ x : K, -x + x = 0
  mulA : ∀ x y z : K, x * y * z = x * (y * z)
  mulC : ∀ x y : K, x * y = y * x
  oneM : ∀ x : K, 1 * x = x
  dist : ∀ x y z : K, x * (y + z) = x * y + x * z
  inv : ∀ x : K, x ≠ 0 → ∃ y, x * y = 1
  ne : (1 : K) ≠ 0
namespace Fie
variable {K : Type} [Add K] [Mul K] [Neg K] [Zero K] [One K] (F : Fie K)
include F
theorem addZ (x : K) : x + 0 = x := by rw [F.addC, F.zeroA]
theorem addN (x : K) : x + -x = 0 := by rw [F.addC, F.negA]
theorem cancel {x y z : K} (h : x + y = x + z) : y = z := by
  have : -x + (x + y) = -x + (x + z) := by rw [h]
  rwa [← F.addA, ← F.addA, F.negA, F.zeroA, F.zeroA] at this
theorem cancelR {x y z : K} (h : y + x = z + x) : y = z := F.cancel (x := x) (by rw [F.addC, h, F.addC])
theorem mulZ (x : K) : x * 0 = 0 := F.cancel (x := x * 0) (by rw [← F.dist, F.zeroA, F.addZ])
theorem zMul (x : K) : 0 * x = 0 := by rw [F.mulC, F.mulZ]
theorem distR (x y z : K) : (x + y) * z = x * z + y * z := by rw [F.mulC, F.dist, F.mulC z, F.mulC z]
theorem mulOne (x : K) : x * 1 = x := by rw [F.mulC, F.oneM]
theorem negOf {x y : K} (h : x + y = 0) : y = -x := F.cancel (x := x) (by rw [h, F.addN])
theorem mulNeg (x y : K) : x * -y = -(x * y) := F.negOf (by rw [← F.dist, F.addN, F.mulZ])
theorem negMul (x y : K) : -x * y = -(x * y) := by rw [F.mulC, F.mulNeg, F.mulC]
theorem negNeg (x : K) : - -x = x := (F.negOf (F.negA x)).symm
theorem subEq {x y : K} (h : x + -y = 0) : x = y := by
  have := F.negOf h
  rw [← F.negNeg y, this, F.negNeg]
theorem negOne (x : K) : -1 * x = -x := by rw [F.negMul, F.oneM]
theorem addL (x y z : K) : x + (y + z) = y + (x + z) := by rw [← F.addA, F.addC x, F.addA]
theorem mulL (x y z : K) : x * (y * z) = y * (x * z) := by rw [← F.mulA, F.mulC x, F.mulA]
theorem zeroOr {x y : K} (h : x * y = 0) (hx : x ≠ 0) : y = 0 := by
  obtain ⟨z, hz⟩ := F.inv x hx
  have : z * (x * y) = y := by rw [← F.mulA, F.mulC z, hz, F.oneM]
  rw [← this, h, F.mulZ]
end Fie

theorem grD_head (q d : Int) : ∀ k, grD q d (k + 1) = grD q ((d + q - 1) / q) k := by
  intro k
  induction k with
  | zero => rfl
  | succ k ih => show (grD q d (k + 1) + q - 1) / q = (grD q ((d + q - 1) / q) k + q - 1) / q; rw [ih]
theorem grN_head (q d : Int) : ∀ k, grN q d (k + 1) = d + grN q ((d + q - 1) / q) k := by
  intro k
  induction k with
  | zero => show (0 : Int) + d = d + 0; omega
  | succ k ih =>
    show grN q d (k + 1) + grD q d (k + 1) = d + (grN q ((d + q - 1) / q) k + grD q ((d + q - 1) / q) k)
    rw [ih, grD_head]; omega
theorem grD_mono {q d d' : Int} (hq : 2 ≤ q) (h : d ≤ d') : ∀ k, grD q d k ≤ grD q d' k := by
  intro k
  induction k with
  | zero => exact h
  | succ k ih => exact Int.ediv_le_ediv (by omega) (by omega)
theorem grN_mono {q d d' : Int} (hq : 2 ≤ q) (h : d ≤ d') : ∀ k, grN q d k ≤ grN q d' k := by
  intro k
  induction k with
  | zero => exact Int.le_refl _
  | succ k ih =>
    have := grD_mono hq h k
    show grN q d k + grD q d k ≤ grN q d' k + grD q d' k
    omega
/-- A least one. -/
theorem least_of {α : Type} (f : α → Nat) (p : α → Prop) (h : ∃ x, p x) : ∃ c, p c ∧ ∀ x, p x → f c ≤ f x := by
  have : ∀ n, (∃ x, p x ∧ f x ≤ n) → ∃ c, p c ∧ ∀ x, p x → f c ≤ f x := by
    intro n
    induction n with
    | zero => rintro ⟨x, hx, h0⟩; exact ⟨x, hx, fun y _ => by omega⟩
    | succ n ih =>
      rintro ⟨x, hx, h0⟩
      by_cases e : ∃ y, p y ∧ f y ≤ n
      · exact ih e
      · exact ⟨x, hx, fun y hy => by
          have : ¬ f y ≤ n := fun h => e ⟨y, hy, h⟩
          omega⟩
  obtain ⟨x, hx⟩ := h
  exact this (f x) ⟨x, hx, Nat.le_refl _⟩
theorem ind_t {p : Prop} [Decidable p] (h : p) : ind p = 1 := by unfold ind; rw [if_pos h]
theorem ind_f {p : Prop} [Decidable p] (h : ¬ p) : ind p = 0 := by unfold ind; rw [if_neg h]
/-- At most q of them, if each has its own number below q. -/
theorem sig_few {n q : Nat} {p : Nat → Prop} [∀ i, Decidable (p i)] (f : Nat → Nat) (hf : ∀ i, i < n → p i → f i < q) (hi : ∀ i k, i < n → k < n → p i → p k → f i = f k → i = k) : sig n (fun i => ind (p i)) ≤ q := by
  have h1 : sig q (fun v => sig n (fun i => ind (p i ∧ f i = v))) ≤ sig q (fun _ => 1) := sig_le fun v _ => sig_most fun i k h1 h2 e1 e2 => hi i k h1 h2 e1.1 e2.1 (e1.2.trans e2.2.symm)
  rw [sig_const] at h1
  have h2 : sig n (fun i => ind (p i)) ≤ sig n (fun i => sig q (fun v => ind (p i ∧ f i = v))) := sig_le fun i hn => by
    by_cases e : p i
    · rw [ind_t e]
      have := sig_pos (n := q) (f := fun v => ind (p i ∧ f i = v)) (fun v _ => ind_nonneg _) (hf i hn e)
      rwa [ind_t ⟨e, rfl⟩] at this
    · rw [ind_f e]; exact sig_nonneg fun v _ => ind_nonneg _
  rw [sig_swap] at h2
  omega
/-- Somewhere at least the mean. -/
theorem sig_mean {q : Nat} {w : Int} {A : Nat → Int} (hq : 0 < q) (h : w ≤ sig q A) : ∃ b, b < q ∧ w ≤ q * A b := by
  by_cases e : ∃ b, b < q ∧ w ≤ q * A b
  · exact e
  · exfalso
    have h1 : sig q (fun b => (q : Int) * A b) ≤ sig q (fun _ => w - 1) := sig_le fun b hb => by
      have : ¬ w ≤ q * A b := fun h => e ⟨b, hb, h⟩
      omega
    rw [sig_mul, sig_const] at h1
    have h2 : (q : Int) * w ≤ q * sig q A := Int.mul_le_mul_of_nonneg_left h (by omega)
    rw [Int.mul_sub] at h1
    omega

section
variable {K : Type} [Zero K] [DecidableEq K]
/-- The weight on a set of places. -/
def wtS (n : Nat) (S : Nat → Bool) (x : Nat → K) : Int := sig n fun t => ind (S t = true ∧ x t ≠ 0)
theorem wtS_nonneg (n : Nat) (S : Nat → Bool) (x : Nat → K) : 0 ≤ wtS n S x := sig_nonneg fun _ _ => ind_nonneg _
theorem wtS_zero {n : Nat} {S : Nat → Bool} {x : Nat → K} (h : wtS n S x ≤ 0) : ∀ t, t < n → S t = true → x t = 0 := fun t ht hS => by
  by_cases e : x t = 0
  · exact e
  · exfalso
    have := sig_pos (n := n) (f := fun t => ind (S t = true ∧ x t ≠ 0)) (fun _ _ => ind_nonneg _) ht
    rw [ind_t ⟨hS, e⟩] at this
    unfold wtS at h
    omega
end
section
variable {K : Type} [DecidableEq K]
/-- No earlier word is the same on the set. -/
abbrev repS (W : Nat → Nat → K) (n : Nat) (S : Nat → Bool) (i : Nat) : Prop := ∀ j, j < i → ¬ ∀ t, t < n → S t = true → W j t = W i t
theorem repS_ex (W : Nat → Nat → K) (n : Nat) (S : Nat → Bool) : ∀ i, ∃ r, r ≤ i ∧ repS W n S r ∧ ∀ t, t < n → S t = true → W r t = W i t := by
  intro i
  induction i using Nat.strongRecOn with
  | ind i ih =>
    by_cases e : repS W n S i
    · exact ⟨i, Nat.le_refl _, e, fun _ _ _ => rfl⟩
    · have : ∃ j, j < i ∧ ∀ t, t < n → S t = true → W j t = W i t := by
        by_cases e2 : ∃ j, j < i ∧ ∀ t, t < n → S t = true → W j t = W i t
        · exact e2
        · exact absurd (fun j hj h => e2 ⟨j, hj, h⟩) e
      obtain ⟨j, hj, hs⟩ := this
      obtain ⟨r, hr, h1, h2⟩ := ih j hj
      exact ⟨r, by omega, h1, fun t ht hS => (h2 t ht hS).trans (hs t ht hS)⟩
theorem griesmer_k [Add K] [Mul K] [Neg K] [Zero K] [One K] (F : Fie K) {q n N : Nat} (hq : 2 ≤ q) (e : Nat → K) (he : ∀ x, ∃ a, a < q ∧ e a = x) (W : Nat → Nat → K) (C : (Nat → K) → Prop) (hW : ∀ i, i < N → C (W i))
    (hlin : ∀ x y a, C x → C y → C (fun t => x t + a * y t)) : ∀ (k : Nat) (S : Nat → Bool) (d : Int), 1 ≤ d → (∀ x, C x → (∃ t, t < n ∧ S t = true ∧ x t ≠ 0) → d ≤ wtS n S x) →
      (q : Int) ^ k ≤ sig N (fun i => ind (repS W n S i)) → grN q d k ≤ sig n (fun t => ind (S t = true)) := by
  intro k
  induction k with
  | zero => intro S d _ _ _; exact sig_nonneg fun _ _ => ind_nonneg _
  | succ k ih =>
    intro S d hd hmin hrep
    have hpow : (1 : Int) ≤ (q : Int) ^ k := by
      have := Nat.pow_pos (n := k) (show 0 < q by omega)
      have h2 : ((q ^ k : Nat) : Int) = (q : Int) ^ k := by simp
      omega
    have hp2 : (2 : Int) ≤ (q : Int) ^ (k + 1) := by
      rw [Int.pow_succ]
      have : (1 : Int) * 2 ≤ (q : Int) ^ k * q := Int.mul_le_mul hpow (by omega) (by omega) (by omega)
      omega
    -- a word that is not 0 on S
    have hex : ∃ x, C x ∧ ∃ t, t < n ∧ S t = true ∧ x t ≠ 0 := by
      by_cases h : ∃ i j, i < N ∧ j < i ∧ repS W n S i
      · obtain ⟨i, j, hi, hj, hr⟩ := h
        have hne : ∃ t, t < n ∧ S t = true ∧ W j t ≠ W i t := by
          by_cases h2 : ∃ t, t < n ∧ S t = true ∧ W j t ≠ W i t
          · exact h2
          · exact absurd (fun t ht hS => by
              by_cases e3 : W j t = W i t
              · exact e3
              · exact absurd ⟨t, ht, hS, e3⟩ h2) (hr j hj)
        obtain ⟨t, ht, hS, hne⟩ := hne
        refine ⟨fun t => W j t + -1 * W i t, hlin _ _ _ (hW j (by omega)) (hW i hi), t, ht, hS, fun h0 => hne ?_⟩
        replace h0 : W j t + -1 * W i t = 0 := h0
        rw [F.negOne] at h0
        exact F.subEq h0
      · exfalso
        have h1 : sig N (fun i => ind (repS W n S i)) ≤ 1 := sig_most fun i j hi hj h1 h2 => by
          rcases Nat.lt_trichotomy i j with e | e | e
          · exact absurd ⟨j, i, hj, e, h2⟩ h
          · exact e
          · exact absurd ⟨i, j, hi, e, h1⟩ h
        omega
    obtain ⟨c, ⟨hc, hcn⟩, hcm⟩ := least_of (fun x => (wtS n S x).toNat) (fun x => C x ∧ ∃ t, t < n ∧ S t = true ∧ x t ≠ 0) hex
    have hcm' : ∀ x, C x → (∃ t, t < n ∧ S t = true ∧ x t ≠ 0) → wtS n S c ≤ wtS n S x := fun x h1 h2 => by
      have := hcm x ⟨h1, h2⟩
      have := wtS_nonneg n S c
      have := wtS_nonneg n S x
      omega
    obtain ⟨w, hw⟩ : ∃ w, w = wtS n S c := ⟨_, rfl⟩
    have hdw : d ≤ w := by rw [hw]; exact hmin c hc hcn
    obtain ⟨S', hS'⟩ : ∃ S' : Nat → Bool, S' = fun t => S t && decide (c t = 0) := ⟨_, rfl⟩
    have hS1 : ∀ t, S' t = true ↔ (S t = true ∧ c t = 0) := fun t => by rw [hS']; simp
    -- many agreements with a multiple
    have hagree : ∀ x, C x → ∃ b, C (fun t => x t + b * c t) ∧ w ≤ q * sig n (fun t => ind (S t = true ∧ c t ≠ 0 ∧ x t + b * c t = 0)) ∧ ∃ v, v < q ∧ e v = b := fun x hx => by
      have h1 : w ≤ sig q (fun v => sig n (fun t => ind (S t = true ∧ c t ≠ 0 ∧ x t + e v * c t = 0))) := by
        rw [sig_swap, hw]
        unfold wtS
        refine sig_le fun t _ => ?_
        by_cases e1 : S t = true ∧ c t ≠ 0
        · rw [ind_t e1]
          obtain ⟨y, hy⟩ := F.inv _ e1.2
          obtain ⟨v, hv, hev⟩ := he (-(x t) * y)
          have := sig_pos (n := q) (f := fun v => ind (S t = true ∧ c t ≠ 0 ∧ x t + e v * c t = 0)) (fun _ _ => ind_nonneg _) hv
          rwa [ind_t ⟨e1.1, e1.2, by rw [hev, F.mulA, F.mulC y, hy, F.mulOne, F.addN]⟩] at this
        · rw [ind_f e1]; exact sig_nonneg fun _ _ => ind_nonneg _
      obtain ⟨v, hv, hb⟩ := sig_mean (by omega) h1
      exact ⟨e v, hlin _ _ _ hx hc, hb, v, hv, rfl⟩
    have hsplit : ∀ (x : Nat → K) (b : K), wtS n S (fun t => x t + b * c t) + sig n (fun t => ind (S t = true ∧ c t ≠ 0 ∧ x t + b * c t = 0)) = wtS n S' x + w := fun x b => by
      rw [hw]
      unfold wtS
      rw [← sig_add, ← sig_add]
      refine sig_congr fun t _ => ?_
      show ind (S t = true ∧ x t + b * c t ≠ 0) + ind (S t = true ∧ c t ≠ 0 ∧ x t + b * c t = 0) = ind (S' t = true ∧ x t ≠ 0) + ind (S t = true ∧ c t ≠ 0)
      by_cases e1 : S t = true
      · by_cases e2 : c t = 0
        · have e3 : x t + b * c t = x t := by rw [e2, F.mulZ, F.addZ]
          rw [e3, ind_f (p := S t = true ∧ c t ≠ 0 ∧ x t = 0) (fun h => h.2.1 e2), ind_f (p := S t = true ∧ c t ≠ 0) (fun h => h.2 e2)]
          by_cases e4 : x t = 0
          · rw [ind_f (fun h => h.2 e4), ind_f (fun h => h.2 e4)]
          · rw [ind_t ⟨e1, e4⟩, ind_t ⟨(hS1 t).2 ⟨e1, e2⟩, e4⟩]
        · rw [ind_t (p := S t = true ∧ c t ≠ 0) ⟨e1, e2⟩, ind_f (p := S' t = true ∧ x t ≠ 0) (fun h => e2 ((hS1 t).1 h.1).2)]
          by_cases e4 : x t + b * c t = 0
          · rw [ind_f (fun h => h.2 e4), ind_t ⟨e1, e2, e4⟩]
          · rw [ind_t ⟨e1, e4⟩, ind_f (fun h => e4 h.2.2)]; omega
      · rw [ind_f (fun h => e1 h.1), ind_f (fun h => e1 h.1), ind_f (fun h => e1 ((hS1 t).1 h.1).1), ind_f (fun h => e1 h.1)]
    -- the weights that are left
    have hleft : ∀ x, C x → (∃ t, t < n ∧ S' t = true ∧ x t ≠ 0) → (w + q - 1) / q ≤ wtS n S' x := fun x hx hn => by
      obtain ⟨b, h1, h2, _⟩ := hagree x hx
      obtain ⟨t, ht, hSt, hxt⟩ := hn
      have h3 := hcm' _ h1 ⟨t, ht, ((hS1 t).1 hSt).1, by
        show x t + b * c t ≠ 0
        rw [((hS1 t).1 hSt).2, F.mulZ, F.addZ]; exact hxt⟩
      have h4 := hsplit x b
      have h5 : sig n (fun t => ind (S t = true ∧ c t ≠ 0 ∧ x t + b * c t = 0)) ≤ wtS n S' x := by omega
      have h6 : w ≤ q * wtS n S' x := Int.le_trans h2 (Int.mul_le_mul_of_nonneg_left h5 (by omega))
      have : (w + q - 1) / q < wtS n S' x + 1 := Int.ediv_lt_of_lt_mul (by omega) (by rw [Int.add_mul, Int.mul_comm (wtS n S' x)]; omega)
      omega
    -- the words that are left
    have hcount : (q : Int) ^ k ≤ sig N (fun i => ind (repS W n S' i)) := by
      have h1 : sig N (fun i => ind (repS W n S i)) ≤ sig N (fun i => sig N (fun r => ind (repS W n S' r) * ind (repS W n S i ∧ ∀ t, t < n → S' t = true → W r t = W i t))) := sig_le fun i hi => by
        by_cases e1 : repS W n S i
        · rw [ind_t e1]
          obtain ⟨r, hr, h1, h2⟩ := repS_ex W n S' i
          have := sig_pos (n := N) (f := fun r => ind (repS W n S' r) * ind (repS W n S i ∧ ∀ t, t < n → S' t = true → W r t = W i t)) (fun _ _ => Int.mul_nonneg (ind_nonneg _) (ind_nonneg _)) (show r < N by omega)
          rw [ind_t h1, ind_t ⟨e1, h2⟩] at this
          omega
        · rw [ind_f e1]; exact sig_nonneg fun _ _ => Int.mul_nonneg (ind_nonneg _) (ind_nonneg _)
      rw [sig_swap] at h1
      have h2 : sig N (fun r => sig N (fun i => ind (repS W n S' r) * ind (repS W n S i ∧ ∀ t, t < n → S' t = true → W r t = W i t))) ≤ sig N (fun r => q * ind (repS W n S' r)) := sig_le fun r hr => by
        rw [sig_mul]
        have : sig N (fun i => ind (repS W n S i ∧ ∀ t, t < n → S' t = true → W r t = W i t)) ≤ q := by
          -- the number of each
          have hnum : ∀ i, ∃ v, i < N → (∀ t, t < n → S' t = true → W r t = W i t) → v < q ∧ ∀ t, t < n → S t = true → (W i t + -1 * W r t) + e v * c t = 0 := fun i => by
            by_cases hi : i < N ∧ ∀ t, t < n → S' t = true → W r t = W i t
            · obtain ⟨b, hb1, hb2, v, hv, hev⟩ := hagree (fun t => W i t + -1 * W r t) (hlin _ _ _ (hW i hi.1) (hW r hr))
              refine ⟨v, fun _ _ => ⟨hv, ?_⟩⟩
              rw [hev]
              have h4 := hsplit (fun t => W i t + -1 * W r t) b
              have h5 : wtS n S' (fun t => W i t + -1 * W r t) = 0 := by
                unfold wtS
                rw [sig_congr (g := fun _ => 0) fun t ht => ?_, sig_zero]
                refine ind_f fun h => h.2 ?_
                show W i t + -1 * W r t = 0
                rw [← hi.2 t ht h.1, F.negOne, F.addN]
              have hA : 1 ≤ sig n (fun t => ind (S t = true ∧ c t ≠ 0 ∧ W i t + -1 * W r t + b * c t = 0)) := by
                by_cases e0 : 1 ≤ sig n (fun t => ind (S t = true ∧ c t ≠ 0 ∧ W i t + -1 * W r t + b * c t = 0))
                · exact e0
                · exfalso
                  have e1 : sig n (fun t => ind (S t = true ∧ c t ≠ 0 ∧ W i t + -1 * W r t + b * c t = 0)) = 0 := by
                    have := sig_nonneg (n := n) (f := fun t => ind (S t = true ∧ c t ≠ 0 ∧ W i t + -1 * W r t + b * c t = 0)) fun _ _ => ind_nonneg _
                    omega
                  rw [e1] at hb2
                  omega
              by_cases e6 : ∃ t, t < n ∧ S t = true ∧ W i t + -1 * W r t + b * c t ≠ 0
              · have := hcm' _ hb1 e6
                omega
              · intro t ht hS
                by_cases e7 : W i t + -1 * W r t + b * c t = 0
                · exact e7
                · exact absurd ⟨t, ht, hS, e7⟩ e6
            · exact ⟨0, fun h1 h2 => absurd ⟨h1, h2⟩ hi⟩
          obtain ⟨f, hf⟩ := Classical.axiomOfChoice hnum
          refine sig_few f (fun i hi hp => (hf i hi hp.2).1) fun i j hi hj hp1 hp2 hfe => ?_
          have g1 := (hf i hi hp1.2).2
          have g2 := (hf j hj hp2.2).2
          rw [hfe] at g1
          have hsame : ∀ t, t < n → S t = true → W i t = W j t := fun t ht hS => F.cancelR (F.cancelR ((g1 t ht hS).trans (g2 t ht hS).symm))
          rcases Nat.lt_trichotomy i j with e1 | e1 | e1
          · exact absurd hsame (hp2.1 i e1)
          · exact e1
          · exact absurd (fun t ht hS => (hsame t ht hS).symm) (hp1.1 j e1)
        have h3 := Int.mul_le_mul_of_nonneg_left this (ind_nonneg (repS W n S' r))
        rw [Int.mul_comm (q : Int)]
        exact h3
      rw [sig_mul] at h2
      have h3 : (q : Int) ^ (k + 1) ≤ q * sig N (fun i => ind (repS W n S' i)) := by omega
      rw [Int.pow_succ, Int.mul_comm] at h3
      exact Int.le_of_mul_le_mul_left h3 (by omega)
    have hd' : 1 ≤ (w + q - 1) / q := (Int.le_ediv_iff_mul_le (by omega)).2 (by omega)
    have hfin := ih S' ((w + q - 1) / q) hd' hleft hcount
    have hcard : sig n (fun t => ind (S' t = true)) + w = sig n (fun t => ind (S t = true)) := by
      rw [hw]
      unfold wtS
      rw [← sig_add]
      refine sig_congr fun t _ => ?_
      by_cases e1 : S t = true
      · rw [ind_t e1]
        by_cases e2 : c t = 0
        · rw [ind_t ((hS1 t).2 ⟨e1, e2⟩), ind_f (fun h => h.2 e2)]; omega
        · rw [ind_f (fun h => e2 ((hS1 t).1 h).2), ind_t ⟨e1, e2⟩]; omega
      · rw [ind_f (fun h => e1 ((hS1 t).1 h).1), ind_f (fun h => e1 h.1), ind_f e1]; omega
    have := grN_mono (q := (q : Int)) (by omega) hdw (k + 1)
    rw [grN_head (q : Int) w] at this
    omega
end
end Go.Proofs.Ytgininddoalenaa
