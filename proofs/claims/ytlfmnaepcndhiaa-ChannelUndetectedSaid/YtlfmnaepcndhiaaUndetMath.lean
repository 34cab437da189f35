/- Undetected: plain laws. -/
import Derived.Test.YtlfmnaepcndhiaaNats
namespace Go.Proofs.Ytlfmnaepcndhiaa
open Go.RowKit

def cl2 (p : Nat × (Nat → Rat)) (i : Nat) : Rat := cutR p.2 p.1 i
/-- x times the probability of a word of weight k. -/
def tmP (q n x k : Nat) : Nat × (Nat → Rat) := (clen (mulP (fun _ => (x : Rat)) 1 (patR q n k) (n + 1)) (1 + (n + 1)), mulP (fun _ => (x : Rat)) 1 (patR q n k) (n + 1))
def adP (a b : Nat × (Nat → Rat)) : Nat × (Nat → Rat) := (clen (sumP a.2 a.1 b.2 b.1) (max a.1 b.1), sumP a.2 a.1 b.2 b.1)
/-- The sums as the program has them: what is 0 is passed over. -/
def wtP (q n : Nat) (xs : Nat → Nat) : Nat → Nat × (Nat → Rat)
  | 0 => (0, fun _ => 0)
  | k + 1 => if xs k = 0 then wtP q n xs k else adP (wtP q n xs k) (tmP q n (xs k) k)
/-- .. and as the document has them. -/
def ruP (q n : Nat) (xs : Nat → Nat) : Nat → Nat × (Nat → Rat)
  | 0 => (0, fun _ => 0)
  | j + 1 => adP (ruP q n xs j) (tmP q n (xs (j + 1)) (j + 1))
theorem sumP_cl2 {a a' b : Nat × (Nat → Rat)} (h : ∀ i, cl2 a i = cl2 a' i) : sumP a.2 a.1 b.2 b.1 = sumP a'.2 a'.1 b.2 b.1 := by
  funext i
  show cutR a.2 a.1 i + _ = cutR a'.2 a'.1 i + _
  have := h i
  unfold cl2 at this
  rw [this]
theorem clen_clen (rs : Nat → Rat) (m : Nat) : clen rs (clen rs m) = clen rs m := by
  induction m with
  | zero => rfl
  | succ m ih =>
    by_cases e : rs m = 0
    · rw [clen_skip e, ih]
    · rw [clen_top e, clen_top e]
theorem clen_cut (rs : Nat → Rat) (m : Nat) : clen (cutR rs m) m = clen rs m := clen_congr fun i hi => by unfold cutR; rw [if_pos hi]
/-- Both lists are the same, and canonical. -/
def SameP (a b : Nat × (Nat → Rat)) : Prop := a.1 = b.1 ∧ (∀ i, cl2 a i = cl2 b i) ∧ clen b.2 b.1 = b.1
theorem SameP.add {a b p : Nat × (Nat → Rat)} (h : SameP a b) : SameP (adP a p) (adP b p) := by
  obtain ⟨h1, h2, h3⟩ := h
  unfold adP
  rw [sumP_cl2 (b := p) h2, h1]
  exact ⟨rfl, fun i => rfl, clen_clen _ _⟩
theorem tmP_zero (q n k : Nat) : (tmP q n 0 k).1 = 0 := by
  have : ∀ m, clen (mulP (fun _ => ((0 : Nat) : Rat)) 1 (patR q n k) (n + 1)) m = 0 := fun m => by
    induction m with
    | zero => rfl
    | succ m ih =>
      rw [clen_skip, ih]
      rw [mulP_one]
      split
      · show (0 : Rat) * _ = 0; grind
      · rfl
  exact this _
theorem SameP.skip {a b : Nat × (Nat → Rat)} (h : SameP a b) {p : Nat × (Nat → Rat)} (hp : p.1 = 0) : SameP a (adP b p) := by
  obtain ⟨h1, h2, h3⟩ := h
  have hs : sumP b.2 b.1 p.2 p.1 = cutR b.2 b.1 := by
    funext i
    show cutR b.2 b.1 i + cutR p.2 p.1 i = _
    have : cutR p.2 p.1 i = 0 := by unfold cutR; rw [hp, if_neg (by omega)]
    rw [this]; grind
  have e1 : (adP b p).1 = b.1 := by
    unfold adP
    show clen _ _ = _
    rw [hs, hp, Nat.max_eq_left (Nat.zero_le _), clen_cut, h3]
  refine ⟨by rw [e1]; exact h1, fun i => ?_, ?_⟩
  · rw [h2 i]
    show _ = cutR (adP b p).2 (adP b p).1 i
    rw [e1]
    show cutR b.2 b.1 i = cutR (sumP b.2 b.1 p.2 p.1) b.1 i
    rw [hs]
    unfold cutR
    split <;> rfl
  · exact clen_clen _ _
theorem wt_ru (q n : Nat) (xs : Nat → Nat) (h0 : xs 0 = 0) : ∀ j, SameP (wtP q n xs (j + 1)) (ruP q n xs j) := by
  intro j
  induction j with
  | zero =>
    show SameP (if xs 0 = 0 then wtP q n xs 0 else _) _
    rw [if_pos h0]
    exact ⟨rfl, fun i => rfl, rfl⟩
  | succ j ih =>
    show SameP (if xs (j + 1) = 0 then wtP q n xs (j + 1) else _) _
    by_cases e : xs (j + 1) = 0
    · rw [if_pos e]
      show SameP _ (adP (ruP q n xs j) (tmP q n (xs (j + 1)) (j + 1)))
      rw [e]
      exact ih.skip (tmP_zero q n (j + 1))
    · rw [if_neg e]
      exact ih.add
theorem ruP_congr {q n : Nat} {xs ys : Nat → Nat} (h : ∀ i, 0 < i → xs i = ys i) (j : Nat) : ruP q n xs j = ruP q n ys j := by
  induction j with
  | zero => rfl
  | succ j ih => show adP _ _ = adP _ _; rw [ih, h (j + 1) (by omega)]
theorem ruP_canon (q n : Nat) (xs : Nat → Nat) (j : Nat) : clen (ruP q n xs j).2 (ruP q n xs j).1 = (ruP q n xs j).1 := by
  cases j with
  | zero => rfl
  | succ j => exact clen_clen _ _
/-- Sizes. -/
theorem rsz_cl2 {p : Nat × (Nat → Rat)} {N : Nat} (h : ∀ i, rsz (cl2 p i) N) : ∀ i, i < p.1 → rsz (p.2 i) N := fun i hi => by
  have := h i
  unfold cl2 cutR at this
  rwa [if_pos hi] at this
theorem rsz_pat {q n k : Nat} (hq : 2 ≤ q) (hq2 : q ≤ 256) (hn : n ≤ 64) (hk : k ≤ 64) (i : Nat) : rsz (patR q n k i) 200 := by
  unfold patR
  split
  · exact rsz_zero.mono (by omega)
  · exact rsz_rv (by have := dl_chs (n - k) (i - k) (by omega); omega) (by have := dl_qpow (q := q - 1) (n := k) (by omega) (by omega); omega) (by omega)
theorem rsz_tm {q n x k : Nat} (hq : 2 ≤ q) (hq2 : q ≤ 256) (hn : n ≤ 64) (hk : k ≤ 64) (hx : dl x ≤ 8) (i : Nat) : rsz ((tmP q n x k).2 i) 500 :=
  (rsz_outP (N := 200) (a := fun _ => (x : Rat)) (b := patR q n k) (m := 1) (m' := n + 1) (fun _ _ => rsz_nat (by omega) (by omega)) (fun i _ => rsz_pat hq hq2 hn hk i) 1 (Nat.le_refl _) i).mono (by omega)
theorem rsz_cut {rs : Nat → Rat} {m N : Nat} (h : ∀ i, rsz (rs i) N) (i : Nat) : rsz (cutR rs m i) N := by
  unfold cutR
  split
  · exact h i
  · exact rsz_zero.mono (rsz_pos (h 0))
theorem rsz_ad {a b : Nat × (Nat → Rat)} {N M : Nat} (h1 : ∀ i, rsz (cl2 a i) N) (h2 : ∀ i, rsz (b.2 i) M) (i : Nat) : rsz (cl2 (adP a b) i) (N + M + 1) := by
  show rsz (cutR (sumP a.2 a.1 b.2 b.1) (clen _ _) i) _
  rw [cutR_clen, cutR_sumP]
  exact rsz_add (h1 i) (rsz_cut h2 i)
theorem rsz_wt {q n : Nat} {xs : Nat → Nat} (hq : 2 ≤ q) (hq2 : q ≤ 256) (hn : n ≤ 64) (hx : ∀ k, k ≤ n → dl (xs k) ≤ 8) : ∀ k, k ≤ n + 1 → ∀ i, rsz (cl2 (wtP q n xs k) i) (1 + k * 501) := by
  intro k
  induction k with
  | zero => intro _ i; show rsz (cutR _ 0 i) _; unfold cutR; rw [if_neg (by omega)]; exact rsz_zero
  | succ k ih =>
    intro hk i
    show rsz (cl2 (if xs k = 0 then _ else _) i) _
    split
    · exact (ih (by omega) i).mono (by omega)
    · exact (rsz_ad (ih (by omega)) (rsz_tm hq hq2 hn (by omega) (hx k (by omega))) i).mono (by omega)
theorem rsz_ru {q n : Nat} {xs : Nat → Nat} (hq : 2 ≤ q) (hq2 : q ≤ 256) (hn : n ≤ 64) (hx : ∀ k, k ≤ n → dl (xs k) ≤ 8) : ∀ k, k ≤ n → ∀ i, rsz (cl2 (ruP q n xs k) i) (1 + k * 501) := by
  intro k
  induction k with
  | zero => intro _ i; show rsz (cutR _ 0 i) _; unfold cutR; rw [if_neg (by omega)]; exact rsz_zero
  | succ k ih =>
    intro hk i
    exact (rsz_ad (ih (by omega)) (rsz_tm hq hq2 hn (by omega) (hx (k + 1) (by omega))) i).mono (by omega)
theorem wtP_len (q n : Nat) (xs : Nat → Nat) (k : Nat) : (wtP q n xs k).1 ≤ n + 2 := by
  induction k with
  | zero => exact Nat.zero_le _
  | succ k ih =>
    show (if xs k = 0 then _ else _ : Nat × (Nat → Rat)).1 ≤ _
    split
    · exact ih
    · have h1 : (tmP q n (xs k) k).1 ≤ n + 2 := by have := clen_le (mulP (fun _ => ((xs k : Nat) : Rat)) 1 (patR q n k) (n + 1)) (1 + (n + 1)); show clen _ _ ≤ _; omega
      refine Nat.le_trans (clen_le _ _) ?_
      omega
theorem ruP_len (q n : Nat) (xs : Nat → Nat) (k : Nat) : (ruP q n xs k).1 ≤ n + 2 := by
  induction k with
  | zero => exact Nat.zero_le _
  | succ k ih =>
    have h1 : (tmP q n (xs (k + 1)) (k + 1)).1 ≤ n + 2 := by have := clen_le (mulP (fun _ => ((xs (k + 1) : Nat) : Rat)) 1 (patR q n (k + 1)) (n + 1)) (1 + (n + 1)); show clen _ _ ≤ _; omega
    refine Nat.le_trans (clen_le _ _) ?_
    omega
end Go.Proofs.Ytlfmnaepcndhiaa
