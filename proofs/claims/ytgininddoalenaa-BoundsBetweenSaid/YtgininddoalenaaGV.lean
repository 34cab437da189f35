/- The theorem of Gilbert and Varshamov: plain laws. -/
import Derived.Test.YtgininddoalenaaSpanMath
namespace Go.Proofs.Ytgininddoalenaa

/-- Sums in a field. -/
def ksum {K : Type} [Add K] [Zero K] : Nat → (Nat → K) → K
  | 0, _ => 0
  | n + 1, f => ksum n f + f n
section
variable {K : Type} [Add K] [Mul K] [Neg K] [Zero K] [One K] (F : Fie K)
theorem ksum_congr {K : Type} [Add K] [Zero K] {n : Nat} {f g : Nat → K} (h : ∀ i, i < n → f i = g i) : ksum n f = ksum n g := by
  induction n with
  | zero => rfl
  | succ n ih => show ksum n f + f n = ksum n g + g n; rw [ih fun i hi => h i (by omega), h n (by omega)]
include F
theorem ksum_add (n : Nat) (f g : Nat → K) : ksum n (fun i => f i + g i) = ksum n f + ksum n g := by
  induction n with
  | zero => exact (F.zeroA _).symm
  | succ n ih => show ksum n _ + (f n + g n) = ksum n f + f n + (ksum n g + g n); rw [ih, F.addA, F.addA, F.addL (ksum n g)]
theorem ksum_mul (n : Nat) (c : K) (f : Nat → K) : ksum n (fun i => c * f i) = c * ksum n f := by
  induction n with
  | zero => exact (F.mulZ c).symm
  | succ n ih => show ksum n _ + _ = c * (ksum n f + f n); rw [ih, F.dist]
theorem ksum_zero (n : Nat) : ksum n (fun _ => (0 : K)) = 0 := by
  induction n with
  | zero => rfl
  | succ n ih => show ksum n _ + 0 = 0; rw [ih, F.zeroA]
end
theorem chs_mono (n k : Nat) : chs n k ≤ chs (n + 1) k := by
  cases k with
  | zero => simp [chs]
  | succ k => show chs n (k + 1) ≤ chs n k + chs n (k + 1); omega
theorem vol_mono (q : Nat) {n n' : Nat} (h : n ≤ n') (k : Nat) : vol q n k ≤ vol q n' k := by
  obtain ⟨m, rfl⟩ : ∃ m, n' = n + m := ⟨n' - n, by omega⟩
  clear h
  induction m with
  | zero => exact Nat.le_refl _
  | succ m ih =>
    refine Nat.le_trans ih ?_
    show vol q (n + m) k ≤ vol q (n + m + 1) k
    clear ih
    induction k with
    | zero => exact Nat.le_refl _
    | succ k ih => exact Nat.add_le_add ih (Nat.mul_le_mul_right _ (chs_mono _ _))
/-- As many as have their own numbers. -/
theorem sig_own {N M : Nat} {p : Nat → Prop} [∀ i, Decidable (p i)] (g : Nat → Nat) (hg : ∀ z, z < M → g z < N ∧ p (g z)) (hi : ∀ z z', z < M → z' < M → g z = g z' → z = z') : (M : Int) ≤ sig N (fun u => ind (p u)) := by
  have h1 : sig M (fun _ => 1) ≤ sig M (fun z => sig N (fun u => ind (p u) * ind (g z = u))) := sig_le fun z hz => by
    have h := sig_pos (n := N) (f := fun u => ind (p u) * ind (g z = u)) (fun u _ => Int.mul_nonneg (ind_nonneg _) (ind_nonneg _)) (hg z hz).1
    have e : ind (p (g z)) * ind (g z = g z) = 1 := by rw [ind_t (hg z hz).2, ind_t rfl]; rfl
    rw [← e]; exact h
  rw [sig_const, sig_swap] at h1
  have h2 : sig N (fun u => sig M (fun z => ind (p u) * ind (g z = u))) ≤ sig N (fun u => ind (p u)) := sig_le fun u _ => by
    rw [sig_mul]
    have h := sig_most (n := M) (p := fun z => g z = u) fun z z' h1 h2 e1 e2 => hi z z' h1 h2 (e1.trans e2.symm)
    have := Int.mul_le_mul_of_nonneg_left h (ind_nonneg (p u))
    omega
  omega
/-- So many can be listed. -/
theorem sig_list {p : Nat → Prop} [∀ i, Decidable (p i)] : ∀ N M : Nat, (M : Int) ≤ sig N (fun u => ind (p u)) → ∃ g : Nat → Nat, (∀ i, i < M → g i < N ∧ p (g i)) ∧ ∀ i i', i < M → i' < M → g i = g i' → i = i' := by
  intro N
  induction N with
  | zero => exact fun M h => ⟨fun _ => 0, fun i hi => by have : (M : Int) ≤ 0 := h; omega, fun i i' hi => by have : (M : Int) ≤ 0 := h; omega⟩
  | succ N ih =>
    intro M h
    have h' : (M : Int) ≤ sig N (fun u => ind (p u)) + ind (p N) := h
    by_cases e : p N
    · rw [ind_t e] at h'
      by_cases hM : M = 0
      · subst hM; exact ⟨fun _ => 0, fun i hi => by omega, fun i i' hi => by omega⟩
      · obtain ⟨g, h1, h2⟩ := ih (M - 1) (by omega)
        refine ⟨fun i => if i = M - 1 then N else g i, fun i hi => ?_, fun i i' hi hi' he => ?_⟩
        · show (if i = M - 1 then N else g i) < N + 1 ∧ p (if i = M - 1 then N else g i)
          by_cases e1 : i = M - 1
          · rw [if_pos e1]; exact ⟨by omega, e⟩
          · rw [if_neg e1]; have := h1 i (by omega); exact ⟨by omega, this.2⟩
        · have he' : (if i = M - 1 then N else g i) = (if i' = M - 1 then N else g i') := he
          by_cases e1 : i = M - 1
          · by_cases e2 : i' = M - 1
            · omega
            · rw [if_pos e1, if_neg e2] at he'
              have := (h1 i' (by omega)).1
              omega
          · by_cases e2 : i' = M - 1
            · rw [if_neg e1, if_pos e2] at he'
              have := (h1 i (by omega)).1
              omega
            · rw [if_neg e1, if_neg e2] at he'
              exact h2 i i' (by omega) (by omega) he'
    · rw [ind_f e] at h'
      obtain ⟨g, h1, h2⟩ := ih M (by omega)
      exact ⟨g, fun i hi => by have := h1 i hi; exact ⟨by omega, this.2⟩, h2⟩
section
variable {q : Nat} [Add (El q)] [Mul (El q)] [Zero (El q)]
/-- The combination of the first columns by the digits of a number. -/
def comb (hq : 0 < q) (h : Nat → Nat → El q) (j : Nat) (y : Nat → Nat) (i : Nat) : El q := ksum j fun t => toEl q hq (y t) * h t i
def synd (hq : 0 < q) (h : Nat → Nat → El q) (j r : Nat) (y : Nat → Nat) : Nat := code q (fun i => (comb hq h j y i).val) r
theorem synd_lt (hq : 0 < q) (h : Nat → Nat → El q) (j r : Nat) (y : Nat → Nat) : synd hq h j r y < q ^ r := code_lt fun i _ => (comb hq h j y i).lt
theorem synd_eq {hq : 0 < q} {h : Nat → Nat → El q} {j r : Nat} {y y' : Nat → Nat} (e : synd hq h j r y = synd hq h j r y') : ∀ i, i < r → comb hq h j y i = comb hq h j y' i := fun i hi =>
  El.ext' (code_inj (fun i _ => (comb hq h j y i).lt) (fun i _ => (comb hq h j y' i).lt) e i hi)
end
/-- Few nonzero entries. -/
def few0 {q : Nat} (j : Nat) (x : Nat → El q) : Int := sig j fun t => ind ((x t).val ≠ 0)
theorem gv_columns {q : Nat} [Add (El q)] [Mul (El q)] [Neg (El q)] [Zero (El q)] [One (El q)] (F : Fie (El q)) (h0 : (0 : El q).val = 0) (hq : 0 < q) {n r d : Nat} (hd : 1 ≤ d) (hn : 1 ≤ n) (hvol : vol q (n - 1) (d - 1) < q ^ r) : ∀ j, j ≤ n → ∃ h : Nat → Nat → El q, ∀ x : Nat → El q, (∀ i, i < r → ksum j (fun t => x t * h t i) = 0) → few0 j x < d → ∀ t, t < j → x t = 0 := by
  have hz : ∀ x : El q, x = 0 ↔ x.val = 0 := fun x => ⟨fun e => by rw [e, h0], fun e => El.ext' (by rw [e, h0])⟩
  intro j
  induction j with
  | zero => exact fun _ => ⟨fun _ _ => 0, fun _ _ _ t ht => by omega⟩
  | succ j ih =>
    intro hj
    obtain ⟨h, hh⟩ := ih (by omega)
    -- a column that is no combination of few of the others
    have hcol : ∃ c : Nat → El q, ∀ y : Nat → El q, few0 j y + 2 ≤ (d : Int) → ∃ i, i < r ∧ ksum j (fun t => y t * h t i) ≠ c i := by
      by_cases hex : ∃ c : Nat → El q, ∀ y : Nat → El q, few0 j y + 2 ≤ (d : Int) → ∃ i, i < r ∧ ksum j (fun t => y t * h t i) ≠ c i
      · exact hex
      · exfalso
        have hd2 : 2 ≤ d := by
          rcases Nat.lt_or_ge d 2 with e | e
          · refine absurd ⟨fun _ => 0, fun y hy => ?_⟩ hex
            have : 0 ≤ few0 j y := sig_nonneg fun _ _ => ind_nonneg _
            omega
          · exact e
        have hall : ∀ z, ∃ u, z < q ^ r → u < q ^ j ∧ dis j (dig q u) (fun _ => 0) ≤ ((d - 2 : Nat) : Int) ∧ ∀ i, i < r → comb hq h j (dig q u) i = toEl q hq (dig q z i) := fun z => by
          by_cases hzr : z < q ^ r
          · have : ¬ ∀ y : Nat → El q, few0 j y + 2 ≤ (d : Int) → ∃ i, i < r ∧ ksum j (fun t => y t * h t i) ≠ toEl q hq (dig q z i) := fun hc => hex ⟨fun i => toEl q hq (dig q z i), hc⟩
            have : ∃ y : Nat → El q, few0 j y + 2 ≤ (d : Int) ∧ ∀ i, i < r → ksum j (fun t => y t * h t i) = toEl q hq (dig q z i) := by
              by_cases e : ∃ y : Nat → El q, few0 j y + 2 ≤ (d : Int) ∧ ∀ i, i < r → ksum j (fun t => y t * h t i) = toEl q hq (dig q z i)
              · exact e
              · refine absurd (fun y hy => ?_) this
                by_cases e2 : ∃ i, i < r ∧ ksum j (fun t => y t * h t i) ≠ toEl q hq (dig q z i)
                · exact e2
                · exact absurd ⟨y, hy, fun i hi => by
                    by_cases e3 : ksum j (fun t => y t * h t i) = toEl q hq (dig q z i)
                    · exact e3
                    · exact absurd ⟨i, hi, e3⟩ e2⟩ e
            obtain ⟨y, hy, hyc⟩ := this
            have hyl : ∀ t, t < j → (y t).val < q := fun t _ => (y t).lt
            have hdv : ∀ t, t < j → dig q (valN q (fun t => (y t).val) j) t = (y t).val := dig_valN hyl
            refine ⟨valN q (fun t => (y t).val) j, fun _ => ⟨valN_lt hyl, ?_, fun i hi => ?_⟩⟩
            · have e : dis j (dig q (valN q (fun t => (y t).val) j)) (fun _ => 0) = few0 j y := sig_congr fun t ht => by
                show ind (dig q (valN q (fun t => (y t).val) j) t ≠ 0) = _
                rw [hdv t ht]
              rw [e]; omega
            · rw [← hyc i hi]
              refine ksum_congr fun t ht => ?_
              rw [hdv t ht]
              congr 1
              exact El.ext' (toEl_val hq (y t).lt)
          · exact ⟨0, fun h => absurd h hzr⟩
        obtain ⟨g, hg⟩ := Classical.axiomOfChoice hall
        have h1 := sig_own (N := q ^ j) (M := q ^ r) (p := fun u => dis j (dig q u) (fun _ => 0) ≤ ((d - 2 : Nat) : Int)) g (fun z hz => ⟨(hg z hz).1, (hg z hz).2.1⟩) fun z z' hz1 hz2 e => by
          refine dig_ext hq hz1 hz2 fun i hi => ?_
          have a1 := (hg z hz1).2.2 i hi
          have a2 := (hg z' hz2).2.2 i hi
          rw [e] at a1
          exact toEl_inj hq (dig_lt hq _ _) (dig_lt hq _ _) (a1.symm.trans a2)
        have h2 := ball_count (q := q) (n := j) (c := fun _ => 0) hq (fun _ _ => hq) (d - 2)
        rw [h2, show d - 2 + 1 = d - 1 by omega] at h1
        have h3 := vol_mono q (show j ≤ n - 1 by omega) (d - 1)
        omega
    obtain ⟨c, hc⟩ := hcol
    refine ⟨fun t => if t = j then c else h t, fun x hx hfew => ?_⟩
    have hsum : ∀ i, i < r → ksum j (fun t => x t * h t i) + x j * c i = 0 := fun i hi => by
      have := hx i hi
      have e : ksum (j + 1) (fun t => x t * (if t = j then c else h t) i) = ksum j (fun t => x t * h t i) + x j * c i := by
        show ksum j _ + x j * (if j = j then c else h j) i = _
        rw [if_pos rfl]
        congr 1
        exact ksum_congr fun t ht => by rw [if_neg (by omega)]
      rw [← e]; exact this
    have hfew' : few0 j x + ind ((x j).val ≠ 0) < d := hfew
    by_cases e : x j = 0
    · have hprev := hh x (fun i hi => by have := hsum i hi; rwa [e, F.zMul, F.addZ] at this) (by have := ind_nonneg ((x j).val ≠ 0); omega)
      intro t ht
      by_cases e2 : t = j
      · rw [e2]; exact e
      · exact hprev t (by omega)
    · exfalso
      rw [ind_t (p := (x j).val ≠ 0) (fun h => e ((hz _).2 h))] at hfew'
      obtain ⟨z, hzz⟩ := F.inv _ e
      have hw : few0 j (fun t => -z * x t) ≤ few0 j x := sig_le fun t _ => by
        by_cases e2 : x t = 0
        · have : -z * x t = 0 := by rw [e2, F.mulZ]
          rw [ind_f (p := (-z * x t).val ≠ 0) (fun h => h ((hz _).1 this))]
          exact ind_nonneg _
        · rw [ind_t (p := (x t).val ≠ 0) (fun h => e2 ((hz _).2 h))]
          unfold ind; split <;> omega
      obtain ⟨i, hi, hne⟩ := hc (fun t => -z * x t) (by omega)
      apply hne
      have h1 : ksum j (fun t => -z * x t * h t i) = -z * ksum j (fun t => x t * h t i) := by
        rw [← ksum_mul F]
        exact ksum_congr fun t _ => F.mulA _ _ _
      have h2 : ksum j (fun t => x t * h t i) = -(x j * c i) := F.negOf (by rw [F.addC]; exact hsum i hi)
      show ksum j (fun t => -z * x t * h t i) = c i
      rw [h1, h2, F.mulNeg, F.negMul, F.negNeg, ← F.mulA, F.mulC z, hzz, F.oneM]
/-- The theorem: q to the power of k words of distance d. -/
theorem varshamov {q n k d : Nat} {add mul : Nat → Nat → Nat} (hL : FieldLaws q add mul) (hk : k ≤ n) (hd : 1 ≤ d) (hn : 1 ≤ n) (hvol : vol q (n - 1) (d - 1) < q ^ (n - k)) : ∃ W, Words q n d (q ^ k) W := by
  have h2 := hL.two
  have hq : 0 < q := by omega
  obtain ⟨iA, iM, iN, i0, i1, F, ha, hm, h0, _⟩ := fie_of hL
  obtain ⟨h, hh⟩ := gv_columns F h0 hq hd hn hvol n (Nat.le_refl n)
  -- one syndrome of many words
  have hfib : ∃ z, z < q ^ (n - k) ∧ ((q ^ k : Nat) : Int) ≤ sig (q ^ n) (fun u => ind (synd hq h n (n - k) (dig q u) = z)) := by
    by_cases e : ∃ z, z < q ^ (n - k) ∧ ((q ^ k : Nat) : Int) ≤ sig (q ^ n) (fun u => ind (synd hq h n (n - k) (dig q u) = z))
    · exact e
    · exfalso
      have h1 : sig (q ^ (n - k)) (fun z => sig (q ^ n) (fun u => ind (synd hq h n (n - k) (dig q u) = z))) ≤ sig (q ^ (n - k)) (fun _ => ((q ^ k : Nat) : Int) - 1) := sig_le fun z hz => by
        have : ¬ ((q ^ k : Nat) : Int) ≤ sig (q ^ n) (fun u => ind (synd hq h n (n - k) (dig q u) = z)) := fun h => e ⟨z, hz, h⟩
        omega
      rw [sig_swap, sig_congr (n := q ^ n) (g := fun _ => 1) fun u _ => by
        rw [sig_one (synd_lt hq h n (n - k) (dig q u)) fun z _ hne => by rw [ind_f (fun e => hne e.symm)], ind_t rfl], sig_const, sig_const] at h1
      have hp : (q ^ n : Nat) = q ^ (n - k) * q ^ k := by rw [← Nat.pow_add]; congr 1; omega
      have hpos : 0 < q ^ (n - k) := Nat.pow_pos hq
      rw [hp, Int.natCast_mul, Int.mul_sub] at h1
      omega
  obtain ⟨z, hz, hcnt⟩ := hfib
  obtain ⟨g, hg1, hg2⟩ := sig_list (p := fun u => synd hq h n (n - k) (dig q u) = z) (q ^ n) (q ^ k) hcnt
  refine ⟨fun i => dig q (g i), fun i j _ _ => dig_lt hq _ _, fun i i' hi hi' hne => ?_⟩
  rcases Int.lt_or_le (dis n (dig q (g i)) (dig q (g i'))) (d : Int) with hlt | hge
  · exfalso
    have hsame := synd_eq ((hg1 i hi).2.trans (hg1 i' hi').2.symm)
    have hx := hh (fun t => toEl q hq (dig q (g i) t) + -toEl q hq (dig q (g i') t)) (fun r hr => by
      have e1 : ksum n (fun t => (toEl q hq (dig q (g i) t) + -toEl q hq (dig q (g i') t)) * h t r) = comb hq h n (dig q (g i)) r + -1 * comb hq h n (dig q (g i')) r := by
        unfold comb
        rw [← ksum_mul F, ← ksum_add F]
        exact ksum_congr fun t _ => by rw [F.distR, F.negMul, F.negOne]
      rw [e1, hsame r hr, F.negOne, F.addN]) (by
      refine Int.lt_of_le_of_lt (sig_le fun t _ => ?_) hlt
      by_cases e : dig q (g i) t = dig q (g i') t
      · have : toEl q hq (dig q (g i) t) + -toEl q hq (dig q (g i') t) = 0 := by rw [e, F.addN]
        rw [ind_f (fun hne => hne (by show (toEl q hq (dig q (g i) t) + -toEl q hq (dig q (g i') t)).val = 0; rw [this, h0]))]
        exact ind_nonneg _
      · rw [ind_t (p := dig q (g i) t ≠ dig q (g i') t) e]
        unfold ind; split <;> omega)
    exact hne (hg2 i i' hi hi' (dig_ext hq (hg1 i hi).1 (hg1 i' hi').1 fun t ht => toEl_inj hq (dig_lt hq _ _) (dig_lt hq _ _) (F.subEq (hx t ht))))
  · exact hge
/-- One word. -/
theorem words_one {q n d : Nat} (hq : 0 < q) : Words q n d 1 (fun _ _ => 0) := ⟨fun _ _ _ _ => hq, fun i k hi hk hne => by omega⟩
end Go.Proofs.Ytgininddoalenaa
