/- Ranks of distinct keys. -/
import Derived.Test.YtnocbkhnmdmfhaaWordsMath
namespace Go.Proofs.Ytnocbkhnmdmfhaa

/-- How many of the first n have a smaller key. -/
def rankOf (k : Nat → Nat) (n v : Nat) : Nat := (List.range n).countP fun u => decide (k u < k v)
theorem rankOf_le (k : Nat → Nat) (n v : Nat) : rankOf k n v ≤ n := by
  have := List.countP_le_length (p := fun u => decide (k u < k v)) (l := List.range n)
  unfold rankOf
  simpa using this
theorem countP_lt {p q : Nat → Bool} {l : List Nat} (h : ∀ x, x ∈ l → p x = true → q x = true) {y : Nat} (hy : y ∈ l) (hq : q y = true) (hp : p y = false) : l.countP p < l.countP q := by
  induction l with
  | nil => cases hy
  | cons a l ih =>
    have hle : ∀ l : List Nat, (∀ x, x ∈ l → p x = true → q x = true) → l.countP p ≤ l.countP q := fun l h => List.countP_mono_left h
    rw [List.countP_cons, List.countP_cons]
    rcases List.mem_cons.1 hy with rfl | hm
    · rw [hp, hq]
      have := hle l fun x hx => h x (by simp [hx])
      simp
      omega
    · have h1 := ih (fun x hx => h x (by simp [hx])) hm
      have h2 : (if p a = true then 1 else 0) ≤ if q a = true then 1 else 0 := by
        by_cases e : p a = true
        · rw [if_pos e, if_pos (h a (by simp) e)]
          exact Nat.le_refl _
        · rw [if_neg e]
          exact Nat.zero_le _
      omega
theorem rankOf_lt {k : Nat → Nat} {n u v : Nat} (hu : u < n) (h : k u < k v) : rankOf k n u < rankOf k n v := by
  unfold rankOf
  exact countP_lt (fun x _ hx => by simp at hx ⊢; omega) (List.mem_range.2 hu) (by simpa using h) (by simp)
theorem rankOf_bound {k : Nat → Nat} {n v : Nat} (hv : v < n) : rankOf k n v < n := by
  have h := countP_lt (p := fun u => decide (k u < k v)) (q := fun _ => true) (l := List.range n) (fun _ _ _ => rfl) (List.mem_range.2 hv) rfl (by simp)
  unfold rankOf
  simpa using h
theorem rankOf_inj {k : Nat → Nat} {n u v : Nat} (hk : ∀ a b, a < n → b < n → k a = k b → a = b) (hu : u < n) (hv : v < n) (h : rankOf k n u = rankOf k n v) : u = v := by
  rcases Nat.lt_trichotomy (k u) (k v) with h1 | h1 | h1
  · have := rankOf_lt hu h1; omega
  · exact hk u v hu hv h1
  · have := rankOf_lt hv h1; omega
theorem rankOf_iff {k : Nat → Nat} {n u v : Nat} (hu : u < n) (hv : v < n) : rankOf k n u < rankOf k n v ↔ k u < k v := by
  constructor
  · intro h
    rcases Nat.lt_trichotomy (k u) (k v) with h1 | h1 | h1
    · exact h1
    · unfold rankOf at h
      rw [h1] at h
      omega
    · have := rankOf_lt hv h1; omega
  · exact rankOf_lt hu
/-- In a sorted list of the first n, each stands at its rank. -/
theorem rankOf_place {k : Nat → Nat} {n : Nat} {l : List Nat} (hp : l.Perm (List.range n)) (hs : ∀ p q, p < q → q < l.length → k (l.getD p 0) < k (l.getD q 0)) {p : Nat} (h : p < l.length) : rankOf k n (l.getD p 0) = p := by
  unfold rankOf
  rw [← hp.countP_eq]
  have key : ∀ (m : List Nat) (c : Nat), (∀ i, i < m.length → (decide (k (m.getD i 0) < k (l.getD p 0)) = true ↔ i < c)) → c ≤ m.length → m.countP (fun u => decide (k u < k (l.getD p 0))) = c := by
    intro m
    induction m with
    | nil => intro c _ hc; simp at hc; simp [hc]
    | cons a m ih =>
      intro c h1 hc
      rw [List.countP_cons]
      have h0 := h1 0 (by simp)
      by_cases e : c = 0
      · subst e
        have ha : decide (k a < k (l.getD p 0)) = false := by
          cases hd : decide (k a < k (l.getD p 0)) with
          | false => rfl
          | true => exact absurd (h0.1 (by simpa using hd)) (by omega)
        rw [ih 0 (fun i hi => by
          have := h1 (i + 1) (by simp; omega)
          constructor
          · intro h2
            have := this.1 (by simpa using h2)
            omega
          · intro h2; omega) (by omega), ha]
        simp
      · have ha : decide (k a < k (l.getD p 0)) = true := by simpa using h0.2 (by omega)
        rw [ih (c - 1) (fun i hi => by
          have := h1 (i + 1) (by simp; omega)
          constructor
          · intro h2
            have := this.1 (by simpa using h2)
            omega
          · intro h2
            have := this.2 (by omega)
            simpa using this) (by simp at hc; omega), ha]
        simp
        omega
  refine key l p (fun i hi => ?_) (by omega)
  rw [decide_eq_true_iff]
  constructor
  · intro h1
    rcases Nat.lt_trichotomy i p with h2 | h2 | h2
    · exact h2
    · subst h2; omega
    · have := hs p i h2 hi; omega
  · intro h1
    exact hs i p h1 h
end Go.Proofs.Ytnocbkhnmdmfhaa
