/- The bounds of Hamming, Plotkin and Elias for lists of words: plain laws. -/
import Derived.Test.YtgininddoalenaaWordMath
import Derived.Test.YtgininddoalenaaElias
import Derived.Test.YtgininddoalenaaFormulas
namespace Go.Proofs.Ytgininddoalenaa

theorem ind_le (x : Int) (r : Nat) (hx : 0 ≤ x) : ind (x ≤ (r : Int)) = sig (r + 1) (fun i => ind (x = (i : Int))) := by
  by_cases h : x ≤ (r : Int)
  · rw [sig_one (k := x.toNat) (by omega) fun i _ hne => by unfold ind; rw [if_neg (by omega)]]
    unfold ind; rw [if_pos h, if_pos (by omega)]
  · rw [sig_congr (g := fun _ => 0) fun i hi => by unfold ind; rw [if_neg (by omega)], sig_zero]
    unfold ind; rw [if_neg h]
theorem sphereW {q : Nat} {c : Nat → Nat} : ∀ (n : Nat), (∀ j, j < n → c j < q) → ∀ i : Nat, sumW q n (fun y => ind (dis n y c = (i : Int))) = ((chs n i * (q - 1) ^ i : Nat) : Int) := by
  intro n
  induction n with
  | zero =>
    intro _ i
    show ind ((0 : Int) = (i : Int)) = _
    cases i with
    | zero => rfl
    | succ i => unfold ind; rw [if_neg (by omega), chs_gt (by omega)]; simp
  | succ n ih =>
    intro hc i
    have ih := ih fun j hj => hc j (by omega)
    have hcn := hc n (by omega)
    show sig q (fun a => sumW q n (fun y => ind (dis (n + 1) (updW y n a) c = (i : Int)))) = _
    have e : ∀ a, a < q → sumW q n (fun y => ind (dis (n + 1) (updW y n a) c = (i : Int))) = if a = c n then ((chs n i * (q - 1) ^ i : Nat) : Int) else (match i with | 0 => 0 | i' + 1 => ((chs n i' * (q - 1) ^ i' : Nat) : Int)) := by
      intro a _
      by_cases h : a = c n
      · rw [if_pos h, ← ih i]
        refine sumW_congr fun y => ?_
        rw [dis_upd]
        have : ind (a ≠ c n) = 0 := by unfold ind; rw [if_neg (by omega)]
        rw [this, Int.add_zero]
      · rw [if_neg h]
        have e1 : ind (a ≠ c n) = 1 := by unfold ind; rw [if_pos h]
        cases i with
        | zero =>
          show _ = (0 : Int)
          rw [sumW_congr (G := fun _ => 0) fun y => by
            rw [dis_upd, e1]
            have := dis_nonneg n y c
            unfold ind; rw [if_neg (by omega)], sumW_const (q : Int) 0 q n rfl]
          simp
        | succ i =>
          show _ = ((chs n i * (q - 1) ^ i : Nat) : Int)
          rw [← ih i]
          refine sumW_congr fun y => ?_
          rw [dis_upd, e1]
          unfold ind
          congr 1
          exact propext ⟨fun h => by omega, fun h => by omega⟩
    rw [sig_congr e, sig_other hcn]
    cases i with
    | zero => rw [chs_zero, chs_zero]; simp
    | succ i =>
      show ((chs n (i + 1) * (q - 1) ^ (i + 1) : Nat) : Int) + ((q : Int) - 1) * ((chs n i * (q - 1) ^ i : Nat) : Int) = (((chs n i + chs n (i + 1)) * (q - 1) ^ (i + 1) : Nat) : Int)
      have hq : ((q : Int) - 1) = ((q - 1 : Nat) : Int) := by omega
      rw [hq, ← Int.natCast_mul, ← Int.natCast_add]
      congr 1
      rw [Nat.add_mul, Nat.pow_succ]
      generalize (q - 1) ^ i = z
      generalize chs n i = x
      generalize chs n (i + 1) = y
      generalize q - 1 = p
      grind
theorem vol_sig (q n : Nat) : ∀ k, ((vol q n k : Nat) : Int) = sig k (fun i => ((chs n i * (q - 1) ^ i : Nat) : Int))
  | 0 => rfl
  | k + 1 => by
    show ((vol q n k + chs n k * (q - 1) ^ k : Nat) : Int) = sig k _ + _
    rw [Int.natCast_add, vol_sig q n k]
theorem ballW {q n : Nat} {c : Nat → Nat} (hc : ∀ j, j < n → c j < q) (r : Nat) : sumW q n (fun y => ind (dis n y c ≤ (r : Int))) = ((vol q n (r + 1) : Nat) : Int) := by
  rw [sumW_congr (G := fun y => sig (r + 1) (fun i => ind (dis n y c = (i : Int)))) fun y => ind_le _ r (dis_nonneg n y c), sumW_sig, vol_sig]
  exact sig_congr fun i _ => sphereW n hc i
theorem hamming {q n d M : Nat} {W : Nat → Nat → Nat} (h : Words q n d M W) (hd : 1 ≤ d) : M ≤ hamN q n d := by
  have h1 : sumW q n (fun y => sig M (fun i => ind (dis n y (W i) ≤ (((d - 1) / 2 : Nat) : Int)))) ≤ sumW q n (fun _ => 1) := sumW_le fun y => sig_most fun i k hi hk e1 e2 => by
    by_cases e : i = k
    · exact e
    · exfalso
      have := h.far i k hi hk e
      have := dis_tri n (W i) (W k) y
      omega
  rw [sumW_sig, sig_congr fun i hi => ballW (fun j hj => h.lt i j hi hj) ((d - 1) / 2), sig_const, sumW_const (q : Int) 1 q n rfl, Int.mul_one] at h1
  unfold hamN
  rw [Nat.le_div_iff_mul_le (vol_pos q n _)]
  have e : ((q : Int) ^ n) = ((q ^ n : Nat) : Int) := by simp
  rw [e, ← Int.natCast_mul] at h1
  omega

theorem sig_prod (n m : Nat) (f g : Nat → Int) : sig n f * sig m g = sig n (fun i => sig m (fun k => f i * g k)) := by
  rw [sig_congr (f := fun i => sig m (fun k => f i * g k)) (g := fun i => sig m g * f i) fun i _ => by rw [sig_mul, Int.mul_comm], sig_mul, Int.mul_comm]
theorem sq_nonneg (x : Int) : 0 ≤ x * x := by
  rcases Int.le_total 0 x with h | h
  · exact Int.mul_nonneg h h
  · have := Int.mul_nonneg (a := -x) (b := -x) (by omega) (by omega)
    rwa [Int.neg_mul_neg] at this
theorem cauchy (n : Nat) (u m : Nat → Int) : sig n (fun a => u a * m a) * sig n (fun a => u a * m a) ≤ sig n (fun a => u a * u a) * sig n (fun a => m a * m a) := by
  have h : 0 ≤ sig n (fun a => sig n (fun b => (u a * m b - u b * m a) * (u a * m b - u b * m a))) := sig_nonneg fun a _ => sig_nonneg fun b _ => sq_nonneg _
  have e : ∀ a b, (u a * m b - u b * m a) * (u a * m b - u b * m a) = (u a * u a) * (m b * m b) + ((m a * m a) * (u b * u b) + (-2) * ((u a * m a) * (u b * m b))) := fun a b => by grind
  rw [sig_congr fun a _ => sig_congr fun b _ => e a b] at h
  rw [sig_congr fun a _ => (sig_add n _ _).trans (by rw [sig_add n _ _]), sig_add, sig_add, ← sig_prod, ← sig_prod, sig_congr (f := fun a => sig n fun i => -2 * (u a * m a * (u i * m i))) fun a _ => sig_mul n (-2) _, sig_mul, ← sig_prod] at h
  have e2 : sig n (fun a => m a * m a) * sig n (fun a => u a * u a) = sig n (fun a => u a * u a) * sig n (fun a => m a * m a) := Int.mul_comm _ _
  omega
/-- Pairs of words of a part of the list, counted twice. -/
theorem pairs {q n d M : Nat} {W : Nat → Nat → Nat} (h : Words q n d M W) (P : Nat → Prop) [∀ i, Decidable (P i)] (K : Int) (hK : K = sig M (fun i => ind (P i))) :
    (d : Int) * (K * K - K) + sig n (fun j => sig q (fun a => sig M (fun i => ind (P i) * ind (W i j = a)) * sig M (fun i => ind (P i) * ind (W i j = a)))) ≤ n * (K * K) := by
  -- the sum of the distances of all pairs
  have hpp : sig M (fun i => sig M (fun k => ind (P i) * ind (P k))) = K * K := by rw [← sig_prod, ← hK]
  have lo : (d : Int) * (K * K - K) ≤ sig M (fun i => sig M (fun k => ind (P i) * ind (P k) * dis n (W i) (W k))) := by
    have h1 : sig M (fun i => sig M (fun k => (d : Int) * (ind (P i) * ind (P k)) + (if k = i then -((d : Int) * ind (P i)) else 0))) ≤ sig M (fun i => sig M (fun k => ind (P i) * ind (P k) * dis n (W i) (W k))) := sig_le fun i hi => sig_le fun k hk => by
      have hd := dis_nonneg n (W i) (W k)
      by_cases e : k = i
      · subst e
        rw [if_pos rfl]
        rcases ind_01 (P k) with e1 | e1 <;> rw [e1] <;> simp <;> omega
      · rw [if_neg e]
        have := h.far i k hi hk (fun e2 => e e2.symm)
        rcases ind_01 (P i) with e1 | e1 <;> rcases ind_01 (P k) with e2 | e2 <;> rw [e1, e2] <;> simp <;> omega
    refine Int.le_trans (Int.le_of_eq ?_) h1
    rw [sig_congr fun i _ => sig_add M _ _, sig_add, sig_congr (f := fun i => sig M fun k => (d : Int) * (ind (P i) * ind (P k))) fun i _ => sig_mul M d _, sig_mul, hpp,
      sig_congr (f := fun i => sig M fun k => if k = i then -((d : Int) * ind (P i)) else 0) (g := fun i => (-(d : Int)) * ind (P i)) fun i hi => by
        rw [sig_one hi fun k _ hne => by rw [if_neg hne], if_pos rfl, Int.neg_mul], sig_mul, ← hK]
    grind
  have hi : sig M (fun i => sig M (fun k => ind (P i) * ind (P k) * dis n (W i) (W k))) = sig n (fun j => K * K - sig q (fun a => sig M (fun i => ind (P i) * ind (W i j = a)) * sig M (fun i => ind (P i) * ind (W i j = a)))) := by
    have e1 : ∀ i k, ind (P i) * ind (P k) * dis n (W i) (W k) = sig n (fun j => ind (P i) * ind (P k) * ind (W i j ≠ W k j)) := fun i k => by unfold dis; rw [sig_mul]
    rw [sig_congr fun i _ => sig_congr fun k _ => e1 i k, sig_congr fun i _ => sig_swap M n _, sig_swap]
    refine sig_congr fun j hj => ?_
    have e2 : ∀ i k, i < M → k < M → ind (P i) * ind (P k) * ind (W i j ≠ W k j) = ind (P i) * ind (P k) + (-1) * sig q (fun a => (ind (P i) * ind (W i j = a)) * (ind (P k) * ind (W k j = a))) := fun i k hi hk => by
      have hw := h.lt i j hi hj
      rw [sig_one hw fun a _ hne => by
        have : ind (W i j = a) = 0 := by unfold ind; rw [if_neg fun e => hne e.symm]
        rw [this]; simp]
      have e3 : ind (W i j = W i j) = 1 := by unfold ind; rw [if_pos rfl]
      rw [e3]
      by_cases e : W i j = W k j
      · have a1 : ind (W i j ≠ W k j) = 0 := by unfold ind; rw [if_neg (fun hne => hne e)]
        have a2 : ind (W k j = W i j) = 1 := by unfold ind; rw [if_pos e.symm]
        rw [a1, a2]; grind
      · have a1 : ind (W i j ≠ W k j) = 1 := by unfold ind; rw [if_pos e]
        have a2 : ind (W k j = W i j) = 0 := by unfold ind; rw [if_neg (fun e2 => e e2.symm)]
        rw [a1, a2]; grind
    rw [sig_congr fun i hi => sig_congr fun k hk => e2 i k hi hk, sig_congr fun i _ => sig_add M _ _, sig_add, hpp, sig_congr (f := fun i => sig M fun k => (-1) * sig q fun a => ind (P i) * ind (W i j = a) * (ind (P k) * ind (W k j = a))) fun i _ => (sig_mul M (-1) _), sig_mul, sig_congr fun i _ => sig_swap M q _, sig_swap M q, sig_congr fun a _ => (sig_prod M M _ _).symm]
    omega
  rw [hi] at lo
  have e5 : sig n (fun j => K * K - sig q (fun a => sig M (fun i => ind (P i) * ind (W i j = a)) * sig M (fun i => ind (P i) * ind (W i j = a)))) = n * (K * K) + (-1) * sig n (fun j => sig q (fun a => sig M (fun i => ind (P i) * ind (W i j = a)) * sig M (fun i => ind (P i) * ind (W i j = a)))) := by
    rw [← sig_const n (K * K), ← sig_mul n (-1), ← sig_add]
    exact sig_congr fun j _ => by omega
  rw [e5] at lo
  omega
theorem syms {q n d M : Nat} {W : Nat → Nat → Nat} (h : Words q n d M W) (P : Nat → Prop) [∀ i, Decidable (P i)] {j : Nat} (hj : j < n) : sig q (fun a => sig M (fun i => ind (P i) * ind (W i j = a))) = sig M (fun i => ind (P i)) := by
  rw [sig_swap]
  refine sig_congr fun i hi => ?_
  rw [sig_one (h.lt i j hi hj) fun a _ hne => by
    have : ind (W i j = a) = 0 := by unfold ind; rw [if_neg fun e => hne e.symm]
    rw [this]; simp]
  have e3 : ind (W i j = W i j) = 1 := by unfold ind; rw [if_pos rfl]
  rw [e3, Int.mul_one]
theorem plotkin {q n d M : Nat} {W : Nat → Nat → Nat} (h : Words q n d M W) (hM : 1 ≤ M) (hyes : (q - 1) * n < q * d) : M ≤ plotN q n d := by
  have hp := pairs h (fun _ => True) (M : Int) (by
    have : ∀ i : Nat, ind True = 1 := fun _ => by unfold ind; rw [if_pos trivial]
    rw [sig_congr (g := fun _ => 1) fun i _ => this i, sig_const, Int.mul_one])
  have hq : 0 < q := by
    rcases Nat.eq_zero_or_pos q with e | e
    · subst e; simp at hyes
    · exact e
  have hs : (n : Int) * ((M : Int) * M) ≤ q * sig n (fun j => sig q (fun a => sig M (fun i => ind True * ind (W i j = a)) * sig M (fun i => ind True * ind (W i j = a)))) := by
    rw [← sig_const, ← sig_mul]
    refine sig_le fun j hj => ?_
    have c := cauchy q (fun _ => 1) (fun a => sig M (fun i => ind True * ind (W i j = a)))
    rw [sig_congr (f := fun a => 1 * sig M (fun i => ind True * ind (W i j = a))) (g := fun a => sig M (fun i => ind True * ind (W i j = a))) fun a _ => Int.one_mul _, syms h (fun _ => True) hj] at c
    have : sig M (fun i => ind True) = (M : Int) := by
      rw [sig_congr (g := fun _ => 1) fun i _ => by unfold ind; rw [if_pos trivial], sig_const, Int.mul_one]
    rw [this, sig_const] at c
    simpa using c
  generalize sig n (fun j => sig q (fun a => sig M (fun i => ind True * ind (W i j = a)) * sig M (fun i => ind True * ind (W i j = a)))) = Q at hp hs
  unfold plotN
  rw [Nat.le_div_iff_mul_le (by omega)]
  have key : (M : Int) * ((q : Int) * d * M - (q : Int) * d + n * M - q * n * M) ≤ (M : Int) * 0 := by
    have h1 : (q : Int) * ((d : Int) * ((M : Int) * M - M) + Q) ≤ q * (n * ((M : Int) * M)) := Int.mul_le_mul_of_nonneg_left hp (by omega)
    have e1 : (q : Int) * ((d : Int) * ((M : Int) * M - M) + Q) = q * d * M * M - q * d * M + q * Q := by grind
    have e2 : (M : Int) * ((q : Int) * d * M - (q : Int) * d + n * M - q * n * M) = q * d * M * M - q * d * M + n * (M * M) - q * (n * (M * M)) := by grind
    rw [e2, Int.mul_zero]
    rw [e1] at h1
    omega
  have k2 := Int.le_of_mul_le_mul_left key (by omega)
  have e3 : (((q - 1) * n : Nat) : Int) = (q : Int) * n - n := by
    rw [Int.natCast_mul, Int.natCast_sub (by omega)]; grind
  have e4 : ((M * (q * d - (q - 1) * n) : Nat) : Int) = (q : Int) * d * M - (q * n * M - n * M) := by
    rw [Int.natCast_mul, Int.natCast_sub (by omega), e3, Int.natCast_mul]; grind
  have e5 : ((q * d : Nat) : Int) = (q : Int) * d := by simp
  omega
/-- A ball of radius w holds few words. -/
theorem inBall {q n d M : Nat} {W : Nat → Nat → Nat} (h : Words q n d M W) (hq : 2 ≤ q) (hn : 1 ≤ n) (y : Nat → Nat) (hy : ∀ j, j < n → y j < q) (w : Nat) (hw : q * w ≤ (q - 1) * n) :
    sig M (fun i => ind (dis n y (W i) ≤ (w : Int))) * eliDen q n d w ≤ (((q - 1) * n * d : Nat) : Int) := by
  obtain ⟨K, hK⟩ : ∃ K, K = sig M (fun i => ind (dis n y (W i) ≤ (w : Int))) := ⟨_, rfl⟩
  have hK0 : 0 ≤ K := by rw [hK]; exact sig_nonneg fun _ _ => ind_nonneg _
  rw [← hK]
  have hp := pairs h (fun i => dis n y (W i) ≤ (w : Int)) K hK
  -- what differs from the centre
  have hE : ∀ j, j < n → sig M (fun i => ind (dis n y (W i) ≤ (w : Int)) * ind (W i j = y j)) = K - sig M (fun i => ind (dis n y (W i) ≤ (w : Int)) * ind (y j ≠ W i j)) := fun j _ => by
    rw [hK]
    have : sig M (fun i => ind (dis n y (W i) ≤ (w : Int))) = sig M (fun i => ind (dis n y (W i) ≤ (w : Int)) * ind (W i j = y j) + ind (dis n y (W i) ≤ (w : Int)) * ind (y j ≠ W i j)) := sig_congr fun i _ => by
      have : ind (W i j = y j) + ind (y j ≠ W i j) = 1 := by
        unfold ind
        by_cases e : W i j = y j
        · rw [if_pos e, if_neg (fun h => h e.symm)]; rfl
        · rw [if_neg e, if_pos (fun h => e h.symm)]; rfl
      rw [← Int.mul_add, this, Int.mul_one]
    rw [this, sig_add]; omega
  obtain ⟨e, he⟩ : ∃ e : Nat → Int, e = fun j => sig M (fun i => ind (dis n y (W i) ≤ (w : Int)) * ind (y j ≠ W i j)) := ⟨_, rfl⟩
  have hEsum : sig n e ≤ K * w := by
    rw [he, sig_swap, hK, Int.mul_comm, ← sig_mul]
    refine sig_le fun i _ => ?_
    rw [sig_mul]
    show ind (dis n y (W i) ≤ (w : Int)) * dis n y (W i) ≤ _
    unfold ind
    split
    · omega
    · simp
  have hE0 : 0 ≤ sig n e := by rw [he]; exact sig_nonneg fun j _ => sig_nonneg fun i _ => Int.mul_nonneg (ind_nonneg _) (ind_nonneg _)
  have hQ : ((q : Int) - 1) * (n * (K * K)) - 2 * ((q : Int) - 1) * K * sig n e + q * sig n (fun j => e j * e j) ≤ ((q : Int) - 1) * sig n (fun j => sig q (fun a => sig M (fun i => ind (dis n y (W i) ≤ (w : Int)) * ind (W i j = a)) * sig M (fun i => ind (dis n y (W i) ≤ (w : Int)) * ind (W i j = a)))) := by
    have e1 : ((q : Int) - 1) * (n * (K * K)) - 2 * ((q : Int) - 1) * K * sig n e + q * sig n (fun j => e j * e j) = sig n (fun j => ((q : Int) - 1) * ((K - e j) * (K - e j)) + e j * e j) := by
      have : ∀ j, ((q : Int) - 1) * ((K - e j) * (K - e j)) + e j * e j = ((q : Int) - 1) * (K * K) + ((-(2 * ((q : Int) - 1) * K)) * e j + q * (e j * e j)) := fun j => by grind
      rw [sig_congr fun j _ => this j, sig_add, sig_add, sig_const, sig_mul n (-(2 * ((q : Int) - 1) * K)) e, sig_mul n (q : Int) (fun j => e j * e j)]
      generalize sig n e = E
      generalize sig n (fun j => e j * e j) = R
      clear this hE he hEsum hE0 hp
      grind
    rw [e1, ← sig_mul]
    refine sig_le fun j hj => ?_
    have hs := syms h (fun i => dis n y (W i) ≤ (w : Int)) hj
    have hKe := hE j hj
    have hej : e j = sig M (fun i => ind (dis n y (W i) ≤ (w : Int)) * ind (y j ≠ W i j)) := by rw [he]
    rw [← hej] at hKe
    rw [← hK] at hs
    generalize hm : (fun a => sig M (fun i => ind (dis n y (W i) ≤ (w : Int)) * ind (W i j = a))) = m at hs
    have hms : m (y j) = K - e j := by rw [← hm]; exact hKe
    have hma : ∀ a, sig M (fun i => ind (dis n y (W i) ≤ (w : Int)) * ind (W i j = a)) = m a := fun a => by rw [← hm]
    rw [sig_congr fun a _ => by rw [hma a]]
    -- Cauchy over the other symbols
    have c := cauchy q (fun a => if a = y j then 0 else 1) m
    have c1 : sig q (fun a => (if a = y j then 0 else 1) * m a) = e j := by
      have : ∀ a, (if a = y j then 0 else 1) * m a = m a + (if a = y j then -(m a) else 0) := fun a => by split <;> omega
      rw [sig_congr fun a _ => this a, sig_add, hs, sig_one (hy j hj) fun a _ hne => by rw [if_neg hne], if_pos rfl, hms]; omega
    have c2 : sig q (fun a => (if a = y j then (0 : Int) else 1) * (if a = y j then 0 else 1)) = (q : Int) - 1 := by
      have : ∀ a, (if a = y j then (0 : Int) else 1) * (if a = y j then 0 else 1) = (if a = y j then 0 else 1) := fun a => by split <;> rfl
      rw [sig_congr fun a _ => this a, sig_other (hy j hj)]; omega
    rw [c1, c2] at c
    -- the centre's symbol has its own square
    have c3 := cauchy q (fun a => if a = y j then 0 else 1) (fun a => if a = y j then 0 else m a)
    have c4 : sig q (fun a => (if a = y j then (0 : Int) else 1) * (if a = y j then 0 else m a)) = e j := by
      rw [← c1]; exact sig_congr fun a _ => by split <;> simp_all
    have c5 : sig q (fun a => (if a = y j then (0 : Int) else m a) * (if a = y j then 0 else m a)) = sig q (fun a => m a * m a) - (K - e j) * (K - e j) := by
      have : ∀ a, (if a = y j then (0 : Int) else m a) * (if a = y j then 0 else m a) = m a * m a + (if a = y j then -(m a * m a) else 0) := fun a => by split <;> simp_all <;> omega
      rw [sig_congr fun a _ => this a, sig_add, sig_one (f := fun a => if a = y j then -(m a * m a) else 0) (hy j hj) fun a _ hne => by rw [if_neg hne], if_pos rfl, hms]; omega
    rw [c4, c2, c5] at c3
    rw [Int.mul_sub] at c3
    omega
  have hsq := cauchy n (fun _ => 1) e
  rw [sig_congr (f := fun a => 1 * e a) (g := e) fun a _ => Int.one_mul _] at hsq
  have hc1 : sig n (fun _ => (1 : Int) * 1) = n := by rw [sig_const]; simp
  rw [hc1] at hsq
  generalize sig n (fun j => sig q (fun a => sig M (fun i => ind (dis n y (W i) ≤ (w : Int)) * ind (W i j = a)) * sig M (fun i => ind (dis n y (W i) ≤ (w : Int)) * ind (W i j = a)))) = Q at hp hQ
  generalize sig n (fun j => e j * e j) = R at hQ hsq
  generalize sig n e = E at hEsum hE0 hQ hsq
  have hwq : (q : Int) * w ≤ ((q : Int) - 1) * n := by
    have : ((q * w : Nat) : Int) ≤ (((q - 1) * n : Nat) : Int) := by omega
    rw [Int.natCast_mul, Int.natCast_mul, Int.natCast_sub (by omega)] at this
    exact this
  have hden : eliDen q n d w = (q : Int) * w * w - 2 * ((q : Int) - 1) * n * w + ((q : Int) - 1) * n * d := by
    unfold eliDen
    simp only [Int.natCast_mul, Int.natCast_sub (show 1 ≤ q by omega)]
    rfl
  have hrhs : (((q - 1) * n * d : Nat) : Int) = ((q : Int) - 1) * n * d := by
    simp only [Int.natCast_mul, Int.natCast_sub (show 1 ≤ q by omega)]
    rfl
  rw [hden, hrhs]
  rcases Int.lt_or_le 0 K with hKp | hKn
  · refine Int.le_of_mul_le_mul_left (a := K) ?_ hKp
    -- (q-1) d (K² - K) ≤ 2 (q-1) K E - q R
    have s1 : ((q : Int) - 1) * ((d : Int) * (K * K - K) + Q) ≤ ((q : Int) - 1) * (n * (K * K)) := Int.mul_le_mul_of_nonneg_left hp (by omega)
    have s1' : ((q : Int) - 1) * ((d : Int) * (K * K - K)) ≤ 2 * ((q : Int) - 1) * K * E - q * R := by
      rw [Int.mul_add] at s1; omega
    -- times n
    have s2 : (n : Int) * (((q : Int) - 1) * ((d : Int) * (K * K - K))) ≤ n * (2 * ((q : Int) - 1) * K * E - q * R) := Int.mul_le_mul_of_nonneg_left s1' (by omega)
    have s3 : (q : Int) * (E * E) ≤ q * (n * R) := Int.mul_le_mul_of_nonneg_left hsq (by omega)
    -- E is at most K w
    have s4 : 0 ≤ (K * w - E) * (2 * (((q : Int) - 1) * n) * K - q * (K * w + E)) := by
      refine Int.mul_nonneg (by omega) ?_
      have t1 : (q : Int) * (K * w + E) ≤ q * (K * w + K * w) := Int.mul_le_mul_of_nonneg_left (by omega) (by omega)
      have t2 : (2 * K) * ((q : Int) * w) ≤ (2 * K) * (((q : Int) - 1) * n) := Int.mul_le_mul_of_nonneg_left hwq (by omega)
      have t3 : (q : Int) * (K * w + K * w) = (2 * K) * ((q : Int) * w) := by grind
      have t4 : 2 * (((q : Int) - 1) * n) * K = (2 * K) * (((q : Int) - 1) * n) := by grind
      omega
    have e1 : (n : Int) * (((q : Int) - 1) * ((d : Int) * (K * K - K))) = K * K * (((q : Int) - 1) * n * d) - K * (((q : Int) - 1) * n * d) := by grind
    have e2 : (n : Int) * (2 * ((q : Int) - 1) * K * E - q * R) = 2 * (((q : Int) - 1) * n) * K * E - q * (n * R) := by grind
    have e3 : (K * w - E) * (2 * (((q : Int) - 1) * n) * K - q * (K * w + E)) = 2 * (((q : Int) - 1) * n) * K * K * w - q * K * K * w * w - 2 * (((q : Int) - 1) * n) * K * E + q * (E * E) := by grind
    have e4 : K * (K * ((q : Int) * w * w - 2 * ((q : Int) - 1) * n * w + ((q : Int) - 1) * n * d)) = q * K * K * w * w - 2 * (((q : Int) - 1) * n) * K * K * w + K * K * (((q : Int) - 1) * n * d) := by grind
    rw [e1, e2] at s2
    rw [e3] at s4
    rw [e4]
    omega
  · have : K = 0 := by omega
    rw [this, Int.zero_mul]
    exact Int.mul_nonneg (Int.mul_nonneg (by omega) (by omega)) (by omega)
theorem sumW_le' {q : Nat} : ∀ {n : Nat} {F G : (Nat → Nat) → Int}, (∀ y, (∀ j, j < n → y j < q) → F y ≤ G y) → sumW q n F ≤ sumW q n G
  | 0, _, _, h => h _ fun j hj => by omega
  | n + 1, _, _, h => sig_le fun a ha => sumW_le' fun y hy => h _ fun j hj => by
      unfold updW
      split
      · exact ha
      · exact hy j (by omega)
theorem elias_one {q n d M : Nat} {W : Nat → Nat → Nat} (h : Words q n d M W) (hq : 2 ≤ q) (hn : 1 ≤ n) (w : Nat) (hw : q * w ≤ (q - 1) * n) (hden : 0 < eliDen q n d w) : M ≤ eliB q n d w := by
  have h1 : sumW q n (fun y => eliDen q n d w * sig M (fun i => ind (dis n y (W i) ≤ (w : Int)))) ≤ sumW q n (fun _ => (((q - 1) * n * d : Nat) : Int)) := sumW_le' fun y hy => by
    rw [Int.mul_comm]; exact inBall h hq hn y hy w hw
  rw [sumW_mul, sumW_sig, sig_congr fun i hi => ballW (fun j hj => h.lt i j hi hj) w, sig_const, sumW_const (q : Int) _ q n rfl] at h1
  unfold eliB
  have hv := vol_pos q n w
  obtain ⟨D, hD⟩ : ∃ D : Nat, eliDen q n d w = (D : Int) := ⟨(eliDen q n d w).toNat, by omega⟩
  rw [hD] at h1 hden ⊢
  rw [Int.toNat_natCast]
  rw [Nat.le_div_iff_mul_le (Nat.mul_pos (by omega) hv)]
  have e : ((q : Int) ^ n) = ((q ^ n : Nat) : Int) := by simp
  rw [e, ← Int.natCast_mul, ← Int.natCast_mul, ← Int.natCast_mul] at h1
  have h2 : D * (M * vol q n (w + 1)) ≤ q ^ n * ((q - 1) * n * d) := by omega
  have e1 : M * (D * vol q n (w + 1)) = D * (M * vol q n (w + 1)) := by
    generalize vol q n (w + 1) = v; grind
  have e2 : (q - 1) * n * d * q ^ n = q ^ n * ((q - 1) * n * d) := Nat.mul_comm _ _
  omega
theorem elias_best {q n d M : Nat} {W : Nat → Nat → Nat} (h : Words q n d M W) (hq : 2 ≤ q) (hn : 1 ≤ n) (hd : 1 ≤ d) : ∀ k, k ≤ eliEnd q n → M ≤ eliBest q n d k := by
  intro k
  induction k with
  | zero =>
    intro _
    show M ≤ q ^ n
    have := elias_one h hq hn 0 (by simp) (eliDen_zero hq hn hd)
    rw [eliB_zero hq hn hd] at this
    exact this
  | succ k ih =>
    intro hk
    have h1 := ih (by omega)
    have hw := (eliEnd_iff (q := q) (n := n) (w := k) hq).1 (by omega)
    unfold eliBest
    split
    · rename_i hc
      exact elias_one h hq hn k hw hc.1
    · exact h1
end Go.Proofs.Ytgininddoalenaa
