/- The reference's field: its product is that of polynomials modulo the modulus; where the modulus is irreducible, it is a field. -/
import Derived.Test.YtgininddoalenaaFldE
import Derived.Test.YtgininddoalenaaPolMod
namespace Go.Proofs.Ytgininddoalenaa

theorem dig_valN {p : Nat} : ∀ {n : Nat} {f : Nat → Nat}, (∀ i, i < n → f i < p) → ∀ j, j < n → dig p (valN p f n) j = f j
  | 0, _, _, j, hj => by omega
  | n + 1, f, h, j, hj => by
    have h0 := h 0 (by omega)
    show dig p (f 0 + p * valN p (fun i => f (i + 1)) n) j = f j
    cases j with
    | zero => rw [dig_first, Nat.add_mul_mod_self_left]; exact Nat.mod_eq_of_lt h0
    | succ j =>
      rw [dig_next, Nat.add_mul_div_left _ _ (by omega), Nat.div_eq_of_lt h0, Nat.zero_add]
      exact dig_valN (fun i hi => h (i + 1) (by omega)) j (by omega)
theorem dig_ext {p M x y : Nat} (hp : 0 < p) (hx : x < p ^ M) (hy : y < p ^ M) (h : ∀ j, j < M → dig p x j = dig p y j) : x = y := by
  rw [← valN_dig hp M x hx, ← valN_dig hp M y hy]
  exact valN_congr h
/-- The digits as integers. -/
def dgt (p x j : Nat) : Int := (dig p x j : Nat)
theorem dgt_ext {p M x y : Nat} (hp : 0 < p) (hx : x < p ^ M) (hy : y < p ^ M) (h : ∀ j, j < M → cg p (dgt p x j) (dgt p y j)) : x = y :=
  dig_ext hp hx hy fun j hj => cg_nat (h j hj) (dig_lt hp _ _) (dig_lt hp _ _)
theorem addF_dgt {P M : Nat} (hP : 0 < P) (x y : Nat) {j : Nat} (hj : j < M) : cg P (dgt P (addF P M x y) j) (dgt P x j + dgt P y j) := by
  unfold dgt addF
  rw [dig_valN (fun _ _ => Nat.mod_lt _ hP) j hj]
  exact (cg_nmod _).trans (cg_eq (by simp))
section
variable {P M : Nat} {m : Nat → Nat} {a b c : Nat → Nat}
theorem mIn_ev {N i : Nat} (q : Nat) : ∀ j, j < M + 1 → i + j < N + 1 → cg P (evX M m N (mIn P a b i c j) q) (evX M m N c q + a i * sig j fun k => b k * pwX M m (i + k) q) := by
  intro j
  induction j with
  | zero => intro _ _; exact cg_eq (by show evX M m N c q = evX M m N c q + a i * 0; omega)
  | succ j ih =>
    intro hj hjN
    have h1 : evX M m N (mIn P a b i c (j + 1)) q = evX M m N (mIn P a b i c j) q + ((((mIn P a b i c j (i + j) + a i * b j) % P : Nat) : Int) - mIn P a b i c j (i + j)) * pwX M m (i + j) q := evX_upd (by omega)
    rw [h1]
    refine ((ih (by omega) (by omega)).add ((((cg_nmod _).add (cg_refl _))).mul (cg_refl _))).trans (cg_eq ?_)
    show _ = _ + (a i : Int) * (sig j (fun k => b k * pwX M m (i + k) q) + b j * pwX M m (i + j) q)
    simp only [Int.natCast_add, Int.natCast_mul]
    grind
theorem mOut_ev (hM : 1 ≤ M) (q : Nat) : ∀ i, i < M + 1 → cg P (evX M m (2 * M - 1) (mOut P a b M i) q) (sig i fun i => a i * sig M fun k => b k * pwX M m (i + k) q) := by
  intro i
  induction i with
  | zero =>
    intro _
    refine cg_eq ?_
    show sig _ (fun t => (((0 : Nat) : Int)) * _) = 0
    rw [sig_congr (g := fun _ => 0) fun t _ => by simp, sig_zero]
  | succ i ih =>
    intro hi
    exact (mIn_ev q M (by omega) (by omega)).trans ((ih (by omega)).add (cg_refl _))
theorem rIn_at (i j t : Nat) (h : t < i - M ∨ i - M + j ≤ t) : rIn P M m i c j t = c t := by
  induction j with
  | zero => rfl
  | succ j ih =>
    show (if t = i - M + j then _ else _) = _
    rw [if_neg (by omega)]
    exact ih (by omega)
theorem rIn_ev {i : Nat} (hM : M ≤ i) (hc : c i ≤ P) (q : Nat) : ∀ j, j < M + 1 → cg P (evX M m i (rIn P M m i c j) q) (evX M m i c q - c i * sig j fun k => m k * pwX M m (i - M + k) q) := by
  intro j
  induction j with
  | zero => intro _; exact cg_eq (by show evX M m i c q = evX M m i c q - c i * 0; omega)
  | succ j ih =>
    intro hj
    have h1 : evX M m i (rIn P M m i c (j + 1)) q = evX M m i (rIn P M m i c j) q + ((((rIn P M m i c j (i - M + j) + (P - rIn P M m i c j i) * m j) % P : Nat) : Int) - rIn P M m i c j (i - M + j)) * pwX M m (i - M + j) q := evX_upd (by omega)
    rw [h1, rIn_at i j i (by omega)]
    refine ((ih (by omega)).add ((((cg_nmod _).add (cg_refl _))).mul (cg_refl _))).trans ?_
    show cg P _ (_ - (c i : Int) * (sig j (fun k => m k * pwX M m (i - M + k) q) + m j * pwX M m (i - M + j) q))
    refine ⟨m j * pwX M m (i - M + j) q, ?_⟩
    simp only [Int.natCast_add, Int.natCast_mul, Int.natCast_sub hc]
    grind
theorem rOut_ev (hP : 0 < P) (hM : 1 ≤ M) (hc : ∀ t, c t < P) (q : Nat) : ∀ s, s + 1 ≤ M → cg P (evX M m (2 * M - 1 - s) (rOut P M m c s) q) (evX M m (2 * M - 1) c q) := by
  intro s
  induction s with
  | zero => intro _; exact cg_refl _
  | succ s ih =>
    intro hs
    have hl := rOut_lt (M := M) (m := m) hP hc s (2 * M - 2 - s)
    refine Go.Proofs.Ytgininddoalenaa.cg.trans ?_ (ih (by omega))
    have e1 : 2 * M - 1 - s = (2 * M - 2 - s) + 1 := by omega
    have e2 : 2 * M - 1 - (s + 1) = 2 * M - 2 - s := by omega
    rw [e1, e2]
    have h := rIn_ev (P := P) (m := m) (i := 2 * M - 2 - s) (c := rOut P M m c s) (show M ≤ 2 * M - 2 - s by omega) (by omega) q M (by omega)
    refine h.trans (cg_eq ?_)
    show _ = evX M m (2 * M - 2 - s) (rOut P M m c s) q + (rOut P M m c s (2 * M - 2 - s) : Int) * pwX M m (2 * M - 2 - s) q
    rw [pwX_red hM (show M ≤ 2 * M - 2 - s by omega), Int.mul_neg]
    omega
/-- The digits of a product. -/
theorem mulF_dgt (hP : 0 < P) (hM : 1 ≤ M) (x y : Nat) {j : Nat} (hj : j < M) : cg P (dgt P (mulF P M m x y) j) (mulI M m (dgt P x) (dgt P y) j) := by
  have hl := mOut_lt (a := dig P x) (b := dig P y) (M := M) hP M
  unfold dgt mulF
  rw [dig_valN (fun i _ => rOut_lt hP hl (M - 1) i) j hj]
  have h1 : evX M m M (rOut P M m (mOut P (dig P x) (dig P y) M M) (M - 1)) j = (rOut P M m (mOut P (dig P x) (dig P y) M M) (M - 1) j : Nat) := by
    unfold evX
    rw [sig_one hj fun t ht hne => by rw [pwX_low ht, if_neg (by omega)]; omega, pwX_low hj, if_pos rfl]
    omega
  rw [← h1]
  have h2 := rOut_ev (m := m) hP hM hl j (M - 1) (by omega)
  rw [show 2 * M - 1 - (M - 1) = M by omega] at h2
  exact h2.trans (mOut_ev hM j M (by omega))
theorem mulF_lt (hP : 0 < P) (x y : Nat) : mulF P M m x y < P ^ M := valN_lt fun _ _ => rOut_lt hP (mOut_lt hP M) _ _
end
/-- One step's sums of the division of the modulus. -/
def dIn (P d : Nat) (low : Nat → Nat) (i c : Nat) (r : Nat → Nat) : Nat → Nat → Nat
  | 0 => r
  | j + 1 => fun t => if t = i - d + j then (dIn P d low i c r j (i - d + j) + (P - c) * low j) % P else dIn P d low i c r j t
def dOut (P d : Nat) (low : Nat → Nat) (M : Nat) (r : Nat → Nat) : Nat → Nat → Nat
  | 0 => r
  | s + 1 => fun t => if t = M - s then 0 else dIn P d low (M - s) (dOut P d low M r s (M - s)) (dOut P d low M r s) d t
/-- The modulus with its leading coefficient. -/
def modR (M : Nat) (m : Nat → Nat) (t : Nat) : Nat := if t < M then m t else 1
/-- The remainder is 0. -/
def DivB (P M : Nat) (m : Nat → Nat) (d : Nat) (low : Nat → Nat) : Prop := ∀ t, t < M + 1 → dOut P d low M (modR M m) (M + 1 - d) t = 0
/-- No monic divisor of degree 1 to half of M. -/
def IrrB (P M : Nat) (m : Nat → Nat) : Prop := ∀ d, 1 ≤ d → 2 * d ≤ M → ∀ v, v < P ^ d → ¬ DivB P M m d (dig P v)
theorem dIn_lt {P d : Nat} (hP : 0 < P) {low r : Nat → Nat} {i c : Nat} (hr : ∀ t, r t < P) : ∀ j t, dIn P d low i c r j t < P := by
  intro j
  induction j with
  | zero => exact hr
  | succ j ih =>
    intro t
    show (if t = i - d + j then _ else _) < P
    split
    · exact Nat.mod_lt _ hP
    · exact ih t
theorem dOut_lt {P d M : Nat} (hP : 0 < P) {low r : Nat → Nat} (hr : ∀ t, r t < P) : ∀ s t, dOut P d low M r s t < P := by
  intro s
  induction s with
  | zero => exact hr
  | succ s ih =>
    intro t
    show (if t = M - s then 0 else _) < P
    split
    · exact hP
    · exact dIn_lt hP ih d t
theorem dIn_at {P d : Nat} {low r : Nat → Nat} {i c : Nat} (j t : Nat) (h : t < i - d ∨ i - d + j ≤ t) : dIn P d low i c r j t = r t := by
  induction j with
  | zero => rfl
  | succ j ih =>
    show (if t = i - d + j then _ else _) = _
    rw [if_neg (by omega)]
    exact ih (by omega)
/-- What has been divided is 0. -/
theorem dOut_zero {P d M : Nat} {low r : Nat → Nat} (hd : d ≤ M) : ∀ s, s ≤ M + 1 - d → ∀ t, M < t + s → t ≤ M → dOut P d low M r s t = 0 := by
  intro s
  induction s with
  | zero => intro _ t h1 h2; omega
  | succ s ih =>
    intro hs t h1 h2
    show (if t = M - s then 0 else _) = 0
    by_cases e : t = M - s
    · rw [if_pos e]
    · rw [if_neg e, dIn_at d t (by omega)]
      exact ih (by omega) t (by omega) h2
/-- The quotient. -/
def hD (P d : Nat) (low : Nat → Nat) (M : Nat) (r : Nat → Nat) : Nat → Nat → Int
  | 0 => fun _ => 0
  | s + 1 => fun t => if t = M - s - d then (dOut P d low M r s (M - s) : Nat) else hD P d low M r s t
def lead (d : Nat) (low : Nat → Nat) (k : Nat) : Int := if k < d then (low k : Nat) else if k = d then 1 else 0
section
variable {P M d : Nat} {m low : Nat → Nat}
theorem hD_low (hd : d ≤ M) : ∀ s, s ≤ M + 1 - d → ∀ t, t + s ≤ M - d → hD P d low M (modR M m) s t = 0 := by
  intro s
  induction s with
  | zero => exact fun _ _ _ => rfl
  | succ s ih =>
    intro hs t ht
    show (if t = M - s - d then _ else _) = (0 : Int)
    rw [if_neg (by omega)]
    exact ih (by omega) t (by omega)
theorem hD_high (hd : d ≤ M) : ∀ s, s ≤ M + 1 - d → ∀ t, M - d < t → hD P d low M (modR M m) s t = 0 := by
  intro s
  induction s with
  | zero => exact fun _ _ _ => rfl
  | succ s ih =>
    intro hs t ht
    show (if t = M - s - d then _ else _) = (0 : Int)
    rw [if_neg (by omega)]
    exact ih (by omega) t ht
theorem hD_top (hd : d ≤ M) : ∀ s, s + 1 ≤ M + 1 - d → hD P d low M (modR M m) (s + 1) (M - d) = 1 := by
  intro s
  induction s with
  | zero =>
    intro _
    show (if M - d = M - 0 - d then ((modR M m (M - 0) : Nat) : Int) else _) = 1
    rw [if_pos (by omega)]
    unfold modR
    rw [if_neg (by omega)]; rfl
  | succ s ih =>
    intro hs
    show (if M - d = M - (s + 1) - d then _ else _) = (1 : Int)
    rw [if_neg (by omega)]
    exact ih (by omega)
theorem dIn_ev {i c : Nat} {r : Nat → Nat} (hid : d ≤ i) (hiM : i ≤ M) (hc : c ≤ P) (q : Nat) : ∀ j, j < d + 1 → cg P (evX M m (M + 1) (dIn P d low i c r j) q) (evX M m (M + 1) r q - c * sig j fun k => low k * pwX M m (i - d + k) q) := by
  intro j
  induction j with
  | zero => intro _; exact cg_eq (by show evX M m (M + 1) r q = evX M m (M + 1) r q - c * 0; omega)
  | succ j ih =>
    intro hj
    have h1 : evX M m (M + 1) (dIn P d low i c r (j + 1)) q = evX M m (M + 1) (dIn P d low i c r j) q + ((((dIn P d low i c r j (i - d + j) + (P - c) * low j) % P : Nat) : Int) - dIn P d low i c r j (i - d + j)) * pwX M m (i - d + j) q := evX_upd (by omega)
    rw [h1]
    refine ((ih (by omega)).add ((((cg_nmod _).add (cg_refl _))).mul (cg_refl _))).trans ?_
    show cg P _ (_ - (c : Int) * (sig j (fun k => low k * pwX M m (i - d + k) q) + low j * pwX M m (i - d + j) q))
    refine ⟨low j * pwX M m (i - d + j) q, ?_⟩
    simp only [Int.natCast_add, Int.natCast_mul, Int.natCast_sub hc]
    grind
theorem lead_sum (t q : Nat) : sig (d + 1) (fun k => lead d low k * pwX M m (t + k) q) = sig d (fun k => low k * pwX M m (t + k) q) + pwX M m (t + d) q := by
  show sig d _ + _ = _
  have h1 : sig d (fun k => lead d low k * pwX M m (t + k) q) = sig d (fun k => low k * pwX M m (t + k) q) := sig_congr fun k hk => by unfold lead; rw [if_pos hk]
  have h2 : lead d low d = 1 := by unfold lead; rw [if_neg (by omega), if_pos rfl]
  rw [h1]
  show _ + lead d low d * pwX M m (t + d) q = _
  rw [h2]; omega
theorem dOut_ev (hP : 0 < P) (hP1 : 1 < P) (hm : ∀ t, t < M → m t < P) (hM : 1 ≤ M) (hd : d ≤ M) (q : Nat) : ∀ s, s ≤ M + 1 - d → cg P (evX M m (M + 1) (dOut P d low M (modR M m) s) q) (- sig (M + 1) fun t => hD P d low M (modR M m) s t * sig (d + 1) fun k => lead d low k * pwX M m (t + k) q) := by
  intro s
  have hr : ∀ t, modR M m t < P := fun t => by unfold modR; split; exact hm t (by assumption); exact hP1
  induction s with
  | zero =>
    intro _
    refine cg_eq ?_
    show sig M (fun t => ((modR M m t : Nat) : Int) * pwX M m t q) + ((modR M m M : Nat) : Int) * pwX M m M q = - sig (M + 1) (fun t => 0 * _)
    rw [sig_congr (n := M + 1) (g := fun _ => 0) fun t _ => by rw [Int.zero_mul], sig_zero]
    rw [sig_congr (n := M) (g := fun t => (m t : Int) * pwX M m t q) fun t ht => by unfold modR; rw [if_pos ht]]
    unfold modR
    rw [if_neg (by omega), pwX_red hM (Nat.le_refl M), Nat.sub_self]
    simp only [Nat.zero_add]
    omega
  | succ s ih =>
    intro hs
    obtain ⟨c, hcd⟩ : ∃ c, c = dOut P d low M (modR M m) s (M - s) := ⟨_, rfl⟩
    have hc : c < P := by rw [hcd]; exact dOut_lt hP hr s _
    have h0 := hD_low (P := P) (m := m) (low := low) hd s (by omega) (M - s - d) (by omega)
    have h1 : evX M m (M + 1) (dOut P d low M (modR M m) (s + 1)) q = evX M m (M + 1) (dIn P d low (M - s) c (dOut P d low M (modR M m) s) d) q + (((0 : Nat) : Int) - dIn P d low (M - s) c (dOut P d low M (modR M m) s) d (M - s)) * pwX M m (M - s) q := by
      rw [hcd]; exact evX_upd (by omega)
    have h2 := dIn_ev (P := P) (M := M) (m := m) (low := low) (i := M - s) (c := c) (r := dOut P d low M (modR M m) s) (show d ≤ M - s by omega) (by omega) (by omega) q d (by omega)
    rw [h1, dIn_at d (M - s) (by omega), ← hcd]
    refine (h2.add (cg_refl _)).trans ?_
    refine (((ih (by omega)).add (cg_refl _)).add (cg_refl _)).trans (cg_eq ?_)
    have h3 : sig (M + 1) (fun t => hD P d low M (modR M m) (s + 1) t * sig (d + 1) fun k => lead d low k * pwX M m (t + k) q) = sig (M + 1) (fun t => hD P d low M (modR M m) s t * sig (d + 1) fun k => lead d low k * pwX M m (t + k) q) + sig (M + 1) (fun t => if t = M - s - d then (c : Int) * sig (d + 1) (fun k => lead d low k * pwX M m (t + k) q) else 0) := by
      rw [← sig_add]
      refine sig_congr fun t _ => ?_
      show (if t = M - s - d then ((dOut P d low M (modR M m) s (M - s) : Nat) : Int) else hD P d low M (modR M m) s t) * _ = _
      rw [← hcd]
      by_cases e : t = M - s - d
      · rw [if_pos e, if_pos e, e, h0]; omega
      · rw [if_neg e, if_neg e]; omega
    have h4 : sig (M + 1) (fun t => if t = M - s - d then (c : Int) * sig (d + 1) (fun k => lead d low k * pwX M m (t + k) q) else 0) = (c : Int) * sig (d + 1) (fun k => lead d low k * pwX M m (M - s - d + k) q) := by
      rw [sig_one (k := M - s - d) (by omega) fun t _ hne => by rw [if_neg hne], if_pos rfl]
    rw [h3, h4, lead_sum, show M - s - d + d = M - s by omega]
    grind
/-- Quotient times divisor, plus remainder, is 0. -/
theorem div_mul (hP1 : 1 < P) (hm : ∀ t, t < M → m t < P) (hd1 : 1 ≤ d) (hd : d < M) {q : Nat} (hq : q < M) : cg P (mulI M m (hD P d low M (modR M m) (M + 1 - d)) (lead d low) q) (- (dOut P d low M (modR M m) (M + 1 - d) q : Nat)) := by
  have h := dOut_ev (low := low) (by omega) hP1 hm (by omega) (show d ≤ M by omega) q (M + 1 - d) (Nat.le_refl _)
  have hz := dOut_zero (P := P) (low := low) (r := modR M m) (show d ≤ M by omega) (M + 1 - d) (Nat.le_refl _)
  have h1 : evX M m (M + 1) (dOut P d low M (modR M m) (M + 1 - d)) q = (dOut P d low M (modR M m) (M + 1 - d) q : Nat) := by
    unfold evX
    rw [sig_one (k := q) (by omega) fun t ht hne => by
      by_cases e : t < M
      · rw [pwX_low e, if_neg (by omega)]; omega
      · rw [hz t (by omega) (by omega)]; omega]
    rw [pwX_low hq, if_pos rfl]; omega
  rw [h1] at h
  have h2 : mulI M m (hD P d low M (modR M m) (M + 1 - d)) (lead d low) q = sig (M + 1) fun t => hD P d low M (modR M m) (M + 1 - d) t * sig (d + 1) fun k => lead d low k * pwX M m (t + k) q := by
    unfold mulI
    rw [sig_cut (n := M + 1) (k := M) (by omega) fun t h1 h2 => by rw [hD_high (by omega) _ (Nat.le_refl _) t (by omega)]; omega]
    refine sig_congr fun t _ => ?_
    congr 1
    exact sig_cut (by omega) fun k h1 h2 => by unfold lead; rw [if_neg (by omega), if_neg (by omega)]; omega
  rw [h2]
  have := h.neg
  exact (cg_eq (by omega)).trans this.symm
end
/-- Inverses modulo a prime. -/
theorem prime_inv {P : Nat} (hP : PrimeB P) : ∀ c, 0 < c → c < P → ∃ u : Int, cg P (u * c) 1 := by
  intro c
  induction c using Nat.strongRecOn with
  | ind c ih =>
    intro h0 hc
    by_cases h1 : c = 1
    · exact ⟨1, cg_eq (by rw [h1]; rfl)⟩
    · have hr : P % c ≠ 0 := hP c (by omega) hc
      have hl : P % c < c := Nat.mod_lt _ h0
      obtain ⟨u, k, hu⟩ := ih (P % c) hl (by omega) (by omega)
      have hdiv : ((P % c : Nat) : Int) = P - c * (P / c : Nat) := by
        have := Nat.mod_add_div P c
        have h2 : ((P % c + c * (P / c) : Nat) : Int) = P := by rw [this]
        rw [Int.natCast_add, Int.natCast_mul] at h2
        omega
      rw [hdiv] at hu
      refine ⟨-u * (P / c : Nat), k - u, ?_⟩
      grind
section
variable {P M : Nat} {m : Nat → Nat}
/-- Inverses of polynomials. -/
theorem pol_inv (hP1 : 1 < P) (hp : PrimeB P) (hM : 1 ≤ M) (hm : M = 1 ∨ ∀ t, t < M → m t < P) (hi : IrrB P M m) : ∀ d, d < M → ∀ A : Nat → Int, (∀ k, d < k → k < M → cg P (A k) 0) → ¬ cg P (A d) 0 → ∃ B : Nat → Int, ∀ j, j < M → cg P (mulI M m A B j) (one0 j) := by
  have hunit : ∀ x : Int, ¬ cg P x 0 → ∃ u : Int, cg P (u * x) 1 := fun x hx => by
    have h0 : 0 ≤ x % P := Int.emod_nonneg _ (by omega)
    have h1 : x % P < P := Int.emod_lt_of_pos _ (by omega)
    obtain ⟨c, hc⟩ := Int.eq_ofNat_of_zero_le h0
    have hc0 : c ≠ 0 := fun e => hx (((cg_mod x).symm).trans (cg_eq (by rw [hc, e]; rfl)))
    obtain ⟨u, hu⟩ := prime_inv hp c (by omega) (by omega)
    refine ⟨u, (Go.Proofs.Ytgininddoalenaa.cg.mulL u ?_).trans hu⟩
    rw [← hc]
    exact (cg_mod x).symm
  have hne1 : ¬ cg P 1 0 := fun h => by
    have := cg_nat (P := P) (a := 1) (b := 0) h (by omega) (by omega)
    omega
  intro d
  induction d using Nat.strongRecOn with
  | ind d ih =>
    intro hd A hA hAd
    obtain ⟨u, hu⟩ := hunit _ hAd
    by_cases hd0 : d = 0
    · subst hd0
      refine ⟨fun k => u * one0 k, fun j hj => ?_⟩
      rw [mulI_comm, mulI_smul]
      have h1 : cg P (mulI M m one0 A j) (A j) := cg_eq (mulI_one A hj)
      refine (Go.Proofs.Ytgininddoalenaa.cg.mulL u h1).trans ?_
      unfold one0
      by_cases e : j = 0
      · subst e; rw [if_pos rfl]; exact hu
      · rw [if_neg e]
        exact (Go.Proofs.Ytgininddoalenaa.cg.mulL u (hA j (by omega) hj)).trans (cg_eq (by omega))
    · have hm' : ∀ t, t < M → m t < P := hm.resolve_left (by omega)
      obtain ⟨low, hlow⟩ : ∃ low : Nat → Nat, low = fun k => ((u * A k) % P).toNat := ⟨_, rfl⟩
      have hlc : ∀ k, (low k : Int) = (u * A k) % P := fun k => by
        rw [hlow]
        have := Int.emod_nonneg (u * A k) (show (P : Int) ≠ 0 by omega)
        simp only; omega
      have hll : ∀ k, low k < P := fun k => by
        have := Int.emod_lt_of_pos (u * A k) (show (0 : Int) < P by omega)
        have := hlc k; omega
      obtain ⟨low', hlow'⟩ : ∃ l, l = dig P (valN P low d) := ⟨_, rfl⟩
      have hlq : ∀ k, k < d → low' k = low k := fun k hk => by rw [hlow']; exact dig_valN (fun i _ => hll i) k hk
      have hlead : ∀ k, k < M → cg P (lead d low' k) (u * A k) := fun k hk => by
        unfold lead
        by_cases e : k < d
        · rw [if_pos e, hlq k e, hlc]; exact cg_mod _
        · rw [if_neg e]
          by_cases e2 : k = d
          · rw [if_pos e2, e2]; exact hu.symm
          · rw [if_neg e2]
            exact ((Go.Proofs.Ytgininddoalenaa.cg.mulL u (hA k (by omega) hk)).trans (cg_eq (by omega))).symm
      obtain ⟨h, hh⟩ : ∃ h, h = hD P d low' M (modR M m) (M + 1 - d) := ⟨_, rfl⟩
      obtain ⟨r, hr⟩ : ∃ r, r = dOut P d low' M (modR M m) (M + 1 - d) := ⟨_, rfl⟩
      have hmul : ∀ q, q < M → cg P (mulI M m h (lead d low') q) (- (r q : Nat)) := fun q hq => by
        rw [hh, hr]; exact div_mul hP1 hm' (by omega) hd hq
      have hrl : ∀ t, r t < P := fun t => by
        rw [hr]
        exact dOut_lt (by omega) (fun t => by unfold modR; split; exact hm' t (by assumption); exact hP1) _ t
      have hrz : ∀ t, d ≤ t → t ≤ M → r t = 0 := fun t h1 h2 => by rw [hr]; exact dOut_zero (by omega) _ (Nat.le_refl _) t (by omega) h2
      -- from an inverse of u A to one of A
      have key : ∀ X : Nat → Int, (∀ j, j < M → cg P (mulI M m (lead d low') X j) (one0 j)) → ∃ B : Nat → Int, ∀ j, j < M → cg P (mulI M m A B j) (one0 j) := fun X hX => by
        refine ⟨fun k => u * X k, fun j hj => ?_⟩
        refine Go.Proofs.Ytgininddoalenaa.cg.trans ?_ (hX j hj)
        rw [mulI_comm A, mulI_smul, mulI_comm X, ← mulI_smul]
        exact mulI_cg (fun i hi => (hlead i hi).symm) (fun i _ => cg_refl _) j
      by_cases hz : ∀ t, t < d → r t = 0
      · have hr0 : ∀ t, t < M + 1 → r t = 0 := fun t ht => by
          by_cases e : t < d
          · exact hz t e
          · exact hrz t (by omega) (by omega)
        by_cases h2d : 2 * d ≤ M
        · exact absurd (show DivB P M m d (dig P (valN P low d)) by rw [← hlow']; unfold DivB; rw [← hr]; exact hr0) (hi d (by omega) h2d _ (valN_lt fun i _ => hll i))
        · obtain ⟨B, hB⟩ := ih (M - d) (by omega) (by omega) h (fun k h1 h2 => by rw [hh, hD_high (by omega) _ (Nat.le_refl _) k h1]; exact cg_refl _) (by rw [hh, show M + 1 - d = (M - d) + 1 by omega, hD_top (by omega) (M - d) (by omega)]; exact hne1)
          exfalso
          apply hne1
          have e1 : lead d low' d = 1 := by unfold lead; rw [if_neg (by omega), if_pos rfl]
          rw [← e1]
          have h1 : cg P (mulI M m one0 (lead d low') d) (mulI M m (mulI M m h B) (lead d low') d) := mulI_cg (fun i hi => (hB i hi).symm) (fun i _ => cg_refl _) d
          have h2 : mulI M m (mulI M m h B) (lead d low') = mulI M m (mulI M m h (lead d low')) B := by rw [mulI_comm h B, mulI_assoc hM, mulI_comm B]
          have h3 : cg P (mulI M m (mulI M m h (lead d low')) B d) (mulI M m (fun _ => 0) B d) := mulI_cg (fun i hi' => (hmul i hi').trans (cg_eq (by rw [hr0 i (by omega)]; rfl))) (fun i _ => cg_refl _) d
          have h4 : mulI M m (fun _ => 0) B d = 0 := by
            unfold mulI
            rw [sig_congr (g := fun _ => 0) fun i _ => by rw [Int.zero_mul], sig_zero]
          rw [mulI_one _ hd, h2] at h1
          exact h1.trans (h3.trans (cg_eq h4))
      · -- the greatest index with a remainder that is not 0
        have hex : ∃ t, t < d ∧ r t ≠ 0 ∧ ∀ k, t < k → k < d → r k = 0 := by
          have : ∀ n, n ≤ d → (∀ t, n ≤ t → t < d → r t = 0) ∨ ∃ t, n ≤ t ∧ t < d ∧ r t ≠ 0 ∧ ∀ k, t < k → k < d → r k = 0 := by
            intro n
            induction hk : d - n generalizing n with
            | zero => intro hn; exact .inl fun t h1 h2 => by omega
            | succ k ihk =>
              intro hn
              rcases ihk (n + 1) (by omega) (by omega) with h | ⟨t, h1, h2, h3, h4⟩
              · by_cases e : r n = 0
                · exact .inl fun t h1 h2 => by
                    by_cases e2 : t = n
                    · rw [e2]; exact e
                    · exact h t (by omega) h2
                · exact .inr ⟨n, Nat.le_refl _, by omega, e, fun k h1 h2 => h k (by omega) h2⟩
              · exact .inr ⟨t, by omega, h2, h3, h4⟩
          rcases this 0 (by omega) with h | ⟨t, _, h2, h3, h4⟩
          · exact absurd (fun t ht => h t (by omega) ht) hz
          · exact ⟨t, h2, h3, h4⟩
        obtain ⟨t, ht, hrt, hrk⟩ := hex
        obtain ⟨B, hB⟩ := ih t ht (by omega) (fun k => - (r k : Int)) (fun k h1 h2 => by
          have : r k = 0 := by
            by_cases e : k < d
            · exact hrk k h1 e
            · exact hrz k (by omega) (by omega)
          exact cg_eq (by rw [this]; rfl)) (fun h => by
          have h' := h.neg
          rw [Int.neg_neg] at h'
          exact hrt (cg_nat (P := P) (a := r t) (b := 0) (h'.trans (cg_eq rfl)) (hrl t) (by omega)))
        refine key (mulI M m h B) fun j hj => ?_
        have e1 : mulI M m (lead d low') (mulI M m h B) = mulI M m (mulI M m h (lead d low')) B := by rw [← mulI_assoc hM, mulI_comm (lead d low') h]
        rw [e1]
        exact (mulI_cg (fun i hi' => hmul i hi') (fun i _ => cg_refl _) j).trans (hB j hj)
end
/-- The laws of a field of q elements, the numbers below q. -/
structure FieldLaws (q : Nat) (add mul : Nat → Nat → Nat) : Prop where
  two : 2 ≤ q
  addLt : ∀ x y, add x y < q
  mulLt : ∀ x y, mul x y < q
  addComm : ∀ x y, add x y = add y x
  addAssoc : ∀ x y z, x < q → y < q → z < q → add (add x y) z = add x (add y z)
  zeroAdd : ∀ x, x < q → add 0 x = x
  neg : ∀ x, x < q → ∃ y, y < q ∧ add x y = 0
  mulComm : ∀ x y, x < q → y < q → mul x y = mul y x
  mulAssoc : ∀ x y z, x < q → y < q → z < q → mul (mul x y) z = mul x (mul y z)
  oneMul : ∀ x, x < q → mul 1 x = x
  distrib : ∀ x y z, x < q → y < q → z < q → mul x (add y z) = add (mul x y) (mul x z)
  inv : ∀ x, x < q → x ≠ 0 → ∃ y, y < q ∧ mul x y = 1
/-- What Check accepts. -/
def FieldOk (P M : Nat) (m : Nat → Nat) : Prop := FldOk P M ∧ PrimeB P ∧ (M = 1 ∨ ∀ t, t < M → m t < P) ∧ IrrB P M m
theorem fieldLaws {P M : Nat} {m : Nat → Nat} (h : FieldOk P M m) : FieldLaws (P ^ M) (addF P M) (mulF P M m) := by
  obtain ⟨⟨hP2, hM, _, _⟩, hp, hm, hi⟩ := h
  have hP0 : 0 < P := by omega
  have hq : P ≤ P ^ M := by
    have := Nat.pow_le_pow_right hP0 hM
    simpa using this
  have one : ∀ j, dgt P 1 j = one0 j := fun j => by
    unfold dgt one0
    cases j with
    | zero => rw [dig_first, Nat.mod_eq_of_lt (by omega)]; rfl
    | succ j => rw [dig_next, Nat.div_eq_of_lt (by omega), dig_zero]; rfl
  have aD := fun (x y j : Nat) (hj : j < M) => addF_dgt (P := P) hP0 x y hj
  have mD := fun (x y j : Nat) (hj : j < M) => mulF_dgt (P := P) (m := m) hP0 hM x y hj
  have val : ∀ B : Nat → Int, ∃ y, y < P ^ M ∧ ∀ j, j < M → cg P (dgt P y j) (B j) := fun B => by
    have hl : ∀ j, (((B j) % P).toNat : Int) = B j % P := fun j => by
      have := Int.emod_nonneg (B j) (show (P : Int) ≠ 0 by omega)
      omega
    have hlt : ∀ j, ((B j) % P).toNat < P := fun j => by
      have := Int.emod_lt_of_pos (B j) (show (0 : Int) < P by omega)
      have := hl j; omega
    refine ⟨valN P (fun j => ((B j) % P).toNat) M, valN_lt fun i _ => hlt i, fun j hj => ?_⟩
    unfold dgt
    rw [dig_valN (fun i _ => hlt i) j hj, hl]
    exact cg_mod _
  refine ⟨by omega, fun x y => addF_lt hP0 x y, fun x y => mulF_lt hP0 x y, addF_comm P M, fun x y z hx hy hz => ?_, fun x hx => addF_zero hP0 hx, fun x hx => ?_, fun x y hx hy => ?_, fun x y z hx hy hz => ?_, fun x hx => ?_, fun x y z hx hy hz => ?_, fun x hx h0 => ?_⟩
  · refine dgt_ext hP0 (addF_lt hP0 _ _) (addF_lt hP0 _ _) fun j hj => ?_
    refine (aD _ _ j hj).trans (((aD _ _ j hj).add (cg_refl _)).trans ?_)
    exact (cg_eq (by omega)).trans ((aD _ _ j hj).trans ((cg_refl _).add (aD _ _ j hj))).symm
  · obtain ⟨y, hy, hB⟩ := val fun j => - dgt P x j
    refine ⟨y, hy, dgt_ext hP0 (addF_lt hP0 _ _) (Nat.pow_pos hP0) fun j hj => ?_⟩
    refine (aD _ _ j hj).trans (((cg_refl _).add (hB j hj)).trans (cg_eq ?_))
    unfold dgt; rw [dig_zero]; omega
  · refine dgt_ext hP0 (mulF_lt hP0 _ _) (mulF_lt hP0 _ _) fun j hj => ?_
    exact (mD _ _ j hj).trans ((cg_eq (by rw [mulI_comm])).trans (mD _ _ j hj).symm)
  · refine dgt_ext hP0 (mulF_lt hP0 _ _) (mulF_lt hP0 _ _) fun j hj => ?_
    refine (mD _ _ j hj).trans ((mulI_cg (fun i hi => mD _ _ i hi) (fun i _ => cg_refl _) j).trans ?_)
    rw [mulI_assoc hM]
    exact ((mD _ _ j hj).trans (mulI_cg (fun i _ => cg_refl _) (fun i hi => mD _ _ i hi) j)).symm
  · refine dgt_ext hP0 (mulF_lt hP0 _ _) hx fun j hj => ?_
    refine (mD _ _ j hj).trans (cg_eq ?_)
    rw [show dgt P 1 = one0 from funext one, mulI_one _ hj]
  · refine dgt_ext hP0 (mulF_lt hP0 _ _) (addF_lt hP0 _ _) fun j hj => ?_
    refine (mD _ _ j hj).trans ((mulI_cg (fun i _ => cg_refl _) (fun i hi => aD _ _ i hi) j).trans ?_)
    rw [mulI_addR]
    exact ((aD _ _ j hj).trans ((mD _ _ j hj).add (mD _ _ j hj))).symm
  · -- the leading digit
    have hex : ∃ d, d < M ∧ dig P x d ≠ 0 ∧ ∀ k, d < k → k < M → dig P x k = 0 := by
      have : ∀ n, n ≤ M → (∀ t, n ≤ t → t < M → dig P x t = 0) ∨ ∃ t, n ≤ t ∧ t < M ∧ dig P x t ≠ 0 ∧ ∀ k, t < k → k < M → dig P x k = 0 := by
        intro n
        induction hk : M - n generalizing n with
        | zero => intro hn; exact .inl fun t h1 h2 => by omega
        | succ k ihk =>
          intro hn
          rcases ihk (n + 1) (by omega) (by omega) with h | ⟨t, h1, h2, h3, h4⟩
          · by_cases e : dig P x n = 0
            · exact .inl fun t h1 h2 => by
                by_cases e2 : t = n
                · rw [e2]; exact e
                · exact h t (by omega) h2
            · exact .inr ⟨n, Nat.le_refl _, by omega, e, fun k h1 h2 => h k (by omega) h2⟩
          · exact .inr ⟨t, by omega, h2, h3, h4⟩
      rcases this 0 (by omega) with h | ⟨t, _, h2, h3, h4⟩
      · exact absurd (dig_ext hP0 hx (Nat.pow_pos hP0) fun j hj => by rw [h j (by omega) hj, dig_zero]) h0
      · exact ⟨t, h2, h3, h4⟩
    obtain ⟨d, hd, hnz, hk⟩ := hex
    obtain ⟨B, hB⟩ := pol_inv (by omega) hp hM hm hi d hd (dgt P x) (fun k h1 h2 => cg_eq (by unfold dgt; rw [hk k h1 h2]; rfl)) (fun h => hnz (cg_nat (P := P) (b := 0) h (dig_lt hP0 _ _) hP0))
    obtain ⟨y, hy, hyB⟩ := val B
    refine ⟨y, hy, dgt_ext hP0 (mulF_lt hP0 _ _) (by omega) fun j hj => ?_⟩
    refine (mD _ _ j hj).trans ((mulI_cg (fun i _ => cg_refl _) (fun i hi' => hyB i hi') j).trans ((hB j hj).trans (cg_eq (one j).symm)))
end Go.Proofs.Ytgininddoalenaa
