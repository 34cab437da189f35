/- Plain laws of the reference's field: sums with 0, products with 0 and with 1. -/
import Derived.Test.YtgininddoalenaaFldD
namespace Go.Proofs.Ytgininddoalenaa

theorem dig_zero (p i : Nat) : dig p 0 i = 0 := by simp [dig]
theorem dig_first (p x : Nat) : dig p x 0 = x % p := by simp [dig]
theorem dig_next (p x i : Nat) : dig p x (i + 1) = dig p (x / p) i := by
  unfold dig
  rw [Nat.pow_succ', Nat.div_div_eq_div_mul]
theorem valN_dig {p : Nat} (hp : 0 < p) : ∀ (n x : Nat), x < p ^ n → valN p (dig p x) n = x := by
  intro n
  induction n with
  | zero =>
    intro x hx
    have : x < 1 := by simpa using hx
    have : x = 0 := by omega
    subst this
    rfl
  | succ n ih =>
    intro x hx
    have h1 : x / p < p ^ n := by
      rw [Nat.div_lt_iff_lt_mul hp, ← Nat.pow_succ]
      exact hx
    show dig p x 0 + p * valN p (fun i => dig p x (i + 1)) n = x
    have h2 : valN p (fun i => dig p x (i + 1)) n = valN p (dig p (x / p)) n := valN_congr fun i _ => dig_next p x i
    rw [h2, ih _ h1, dig_first]
    exact Nat.mod_add_div x p
theorem addF_zero {P M x : Nat} (hP : 0 < P) (hx : x < P ^ M) : addF P M 0 x = x := by
  have h : addF P M 0 x = valN P (dig P x) M := valN_congr fun i _ => by
    rw [dig_zero, Nat.zero_add]
    exact Nat.mod_eq_of_lt (dig_lt hP x i)
  rw [h, valN_dig hP M x hx]
theorem addF_comm (P M x y : Nat) : addF P M x y = addF P M y x := valN_congr fun i _ => by rw [Nat.add_comm]
theorem rIn_same {P M : Nat} {m c : Nat → Nat} {i : Nat} (hc : ∀ t, c t < P) (hi : c i = 0) : ∀ j t, rIn P M m i c j t = c t := by
  intro j
  induction j with
  | zero => exact fun _ => rfl
  | succ j ih =>
    intro t
    show (if t = i - M + j then (rIn P M m i c j (i - M + j) + (P - rIn P M m i c j i) * m j) % P else rIn P M m i c j t) = c t
    rw [ih, ih, ih, hi]
    split
    · rename_i e
      rw [e, Nat.sub_zero, Nat.add_mul_mod_self_left]
      exact Nat.mod_eq_of_lt (hc _)
    · rfl
theorem rOut_same {P M : Nat} {m c : Nat → Nat} (hc : ∀ t, c t < P) (hi : ∀ t, M ≤ t → c t = 0) : ∀ s, s + 1 ≤ M → ∀ t, rOut P M m c s t = c t := by
  intro s
  induction s with
  | zero => exact fun _ _ => rfl
  | succ s ih =>
    intro hs t
    have e : rOut P M m c s = c := funext (ih (by omega))
    show rIn P M m (2 * M - 2 - s) (rOut P M m c s) M t = c t
    rw [e]
    exact rIn_same hc (hi _ (by omega)) M t
theorem mIn_zero {P : Nat} {a b c : Nat → Nat} {i : Nat} (hc : ∀ t, c t < P) (hb : ∀ j, b j = 0) : ∀ j t, mIn P a b i c j t = c t := by
  intro j
  induction j with
  | zero => exact fun _ => rfl
  | succ j ih =>
    intro t
    show (if t = i + j then (mIn P a b i c j (i + j) + a i * b j) % P else mIn P a b i c j t) = c t
    rw [ih, ih, hb, Nat.mul_zero, Nat.add_zero]
    split
    · rename_i e
      rw [e]
      exact Nat.mod_eq_of_lt (hc _)
    · rfl
theorem mOut_zero {P M : Nat} (hP : 0 < P) {a b : Nat → Nat} (hb : ∀ j, b j = 0) : ∀ i t, mOut P a b M i t = 0 := by
  intro i
  induction i with
  | zero => exact fun _ => rfl
  | succ i ih =>
    intro t
    have e : mOut P a b M i = fun _ => 0 := funext ih
    show mIn P a b i (mOut P a b M i) M t = 0
    rw [e]
    exact mIn_zero (fun _ => hP) hb M t
theorem valN_zero (P n : Nat) : valN P (fun _ => 0) n = 0 := by
  induction n with
  | zero => rfl
  | succ n ih => simp [valN, ih]
theorem mulF_zero {P M : Nat} (hP : 0 < P) (hM : 1 ≤ M) (m : Nat → Nat) (x : Nat) : mulF P M m x 0 = 0 := by
  have h0 := mOut_zero (M := M) hP (a := dig P x) (b := dig P 0) (fun j => dig_zero P j)
  have h : mulF P M m x 0 = valN P (fun _ => 0) M := valN_congr fun i _ => by
    rw [rOut_same (fun t => by rw [h0]; exact hP) (fun t _ => h0 M t) (M - 1) (by omega), h0]
  rw [h, valN_zero]
theorem mIn_one {P : Nat} {a b c : Nat → Nat} {i : Nat} (hc : ∀ t, c t < P) (h0 : b 0 = 1) (hb : ∀ j, b (j + 1) = 0) : ∀ j t, mIn P a b i c (j + 1) t = if t = i then (c i + a i) % P else c t := by
  intro j
  induction j with
  | zero =>
    intro t
    show (if t = i + 0 then (c (i + 0) + a i * b 0) % P else c t) = _
    rw [h0, Nat.mul_one, Nat.add_zero]
  | succ j ih =>
    intro t
    show (if t = i + (j + 1) then (mIn P a b i c (j + 1) (i + (j + 1)) + a i * b (j + 1)) % P else mIn P a b i c (j + 1) t) = _
    rw [ih, ih, hb, Nat.mul_zero, Nat.add_zero]
    by_cases e : t = i + (j + 1)
    · rw [if_pos e, if_neg (by omega), if_neg (by omega), ← e]
      exact Nat.mod_eq_of_lt (hc _)
    · rw [if_neg e]
theorem mOut_one {P M : Nat} (hP : 0 < P) (hM : 1 ≤ M) {a b : Nat → Nat} (ha : ∀ t, a t < P) (h0 : b 0 = 1) (hb : ∀ j, b (j + 1) = 0) : ∀ i t, mOut P a b M i t = if t < i then a t else 0 := by
  intro i
  induction i with
  | zero => exact fun t => by rw [if_neg (by omega)]; rfl
  | succ i ih =>
    intro t
    have e : mOut P a b M i = fun t => if t < i then a t else 0 := funext ih
    obtain ⟨M', rfl⟩ : ∃ k, M = k + 1 := ⟨M - 1, by omega⟩
    show mIn P a b i (mOut P a b (M' + 1) i) (M' + 1) t = _
    rw [e, mIn_one (fun t => by split; exact ha t; exact hP) h0 hb]
    by_cases e1 : t = i
    · rw [if_pos e1, if_neg (by omega), if_pos (by omega), Nat.zero_add, e1]
      exact Nat.mod_eq_of_lt (ha _)
    · rw [if_neg e1]
      by_cases e2 : t < i
      · rw [if_pos e2, if_pos (by omega)]
      · rw [if_neg e2, if_neg (by omega)]
theorem mulF_one {P M x : Nat} (hP : 2 ≤ P) (hM : 1 ≤ M) (m : Nat → Nat) (hx : x < P ^ M) : mulF P M m x 1 = x := by
  have hb0 : dig P 1 0 = 1 := by rw [dig_first]; exact Nat.mod_eq_of_lt (by omega)
  have hb : ∀ j, dig P 1 (j + 1) = 0 := fun j => by rw [dig_next, Nat.div_eq_of_lt (by omega), dig_zero]
  have h0 := mOut_one (M := M) (by omega) hM (a := dig P x) (b := dig P 1) (fun t => dig_lt (by omega) x t) hb0 hb
  have h : mulF P M m x 1 = valN P (dig P x) M := valN_congr fun i hi => by
    rw [rOut_same (fun t => by rw [h0]; split; exact dig_lt (by omega) x t; omega) (fun t ht => by rw [h0, if_neg (by omega)]) (M - 1) (by omega), h0, if_pos hi]
  rw [h, valN_dig (by omega) M x hx]
end Go.Proofs.Ytgininddoalenaa
