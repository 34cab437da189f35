/- Polynomials modulo a monic polynomial, over the integers and modulo P: a commutative ring. -/
import Derived.Test.YtgininddoalenaaWordMath
namespace Go.Proofs.Ytgininddoalenaa

/-- Congruence. -/
def cg (P : Nat) (a b : Int) : Prop := ∃ k : Int, a = b + P * k
section
variable {P : Nat} {a b c d : Int}
theorem cg_refl (a : Int) : cg P a a := ⟨0, by simp⟩
theorem cg_eq (h : a = b) : cg P a b := h ▸ cg_refl a
theorem cg.symm (h : cg P a b) : cg P b a := by obtain ⟨k, rfl⟩ := h; exact ⟨-k, by rw [Int.mul_neg]; omega⟩
theorem cg.trans (h : cg P a b) (g : cg P b c) : cg P a c := by obtain ⟨k, rfl⟩ := h; obtain ⟨l, rfl⟩ := g; exact ⟨l + k, by rw [Int.mul_add]; omega⟩
theorem cg.add (h : cg P a b) (g : cg P c d) : cg P (a + c) (b + d) := by obtain ⟨k, rfl⟩ := h; obtain ⟨l, rfl⟩ := g; exact ⟨k + l, by rw [Int.mul_add]; omega⟩
theorem cg.neg (h : cg P a b) : cg P (-a) (-b) := by obtain ⟨k, rfl⟩ := h; exact ⟨-k, by rw [Int.mul_neg]; omega⟩
theorem cg.mul (h : cg P a b) (g : cg P c d) : cg P (a * c) (b * d) := by
  obtain ⟨k, rfl⟩ := h; obtain ⟨l, rfl⟩ := g
  exact ⟨b * l + k * d + P * k * l, by grind⟩
theorem cg.mulL (x : Int) (g : cg P c d) : cg P (x * c) (x * d) := (cg_refl x).mul g
theorem cg_mod (a : Int) : cg P (a % P) a := ⟨-(a / P), by have := Int.emod_add_mul_ediv a P; rw [Int.mul_neg]; omega⟩
theorem cg_nmod (a : Nat) : cg P ((a % P : Nat) : Int) a := by rw [Int.natCast_emod]; exact cg_mod _
theorem cg_self (x : Int) : cg P (P * x) 0 := ⟨x, by omega⟩
theorem cg_nat {a b : Nat} (h : cg P a b) (ha : a < P) (hb : b < P) : a = b := by
  obtain ⟨k, hk⟩ := h
  have h1 : k = 0 := by
    rcases Int.lt_trichotomy k 0 with h | h | h
    · have : (P : Int) * k ≤ P * (-1) := Int.mul_le_mul_of_nonneg_left (by omega) (by omega)
      omega
    · exact h
    · have : (P : Int) * 1 ≤ P * k := Int.mul_le_mul_of_nonneg_left (by omega) (by omega)
      omega
  subst h1
  omega
theorem cg_sig {n : Nat} {f g : Nat → Int} (h : ∀ i, i < n → cg P (f i) (g i)) : cg P (sig n f) (sig n g) := by
  induction n with
  | zero => exact cg_refl _
  | succ n ih => exact (ih fun i hi => h i (by omega)).add (h n (by omega))
end
theorem sig_mulR (n : Nat) (f : Nat → Int) (c : Int) : sig n (fun i => f i * c) = sig n f * c := by
  rw [Int.mul_comm, ← sig_mul]; exact sig_congr fun i _ => Int.mul_comm _ _
theorem sig_sub (n : Nat) (f g : Nat → Int) : sig n (fun i => f i - g i) = sig n f - sig n g := by
  induction n with
  | zero => rfl
  | succ n ih => show sig n _ + (f n - g n) = sig n f + f n - (sig n g + g n); rw [ih]; omega
theorem sig_neg (n : Nat) (f : Nat → Int) : sig n (fun i => - f i) = - sig n f := by
  induction n with
  | zero => rfl
  | succ n ih => show sig n _ + (- f n) = - (sig n f + f n); rw [ih]; omega
theorem sig_cut {n k : Nat} {f : Nat → Int} (hk : k ≤ n) (h : ∀ i, k ≤ i → i < n → f i = 0) : sig n f = sig k f := by
  induction n with
  | zero => have : k = 0 := by omega
            subst this; rfl
  | succ n ih =>
    by_cases e : k = n + 1
    · subst e; rfl
    · show sig n f + f n = _
      rw [ih (by omega) fun i h1 h2 => h i h1 (by omega), h n (by omega) (by omega)]; omega
/-- Two sums changed about. -/
theorem sig_about (n k : Nat) (x y : Nat → Int) (F : Nat → Nat → Int) : sig n (fun i => x i * sig k (fun j => y j * F i j)) = sig k (fun j => y j * sig n (fun i => x i * F i j)) := by
  have h1 : sig n (fun i => x i * sig k (fun j => y j * F i j)) = sig n (fun i => sig k (fun j => x i * (y j * F i j))) := sig_congr fun i _ => (sig_mul _ _ _).symm
  have h2 : sig k (fun j => y j * sig n (fun i => x i * F i j)) = sig k (fun j => sig n (fun i => y j * (x i * F i j))) := sig_congr fun i _ => (sig_mul _ _ _).symm
  rw [h1, h2, sig_swap]
  exact sig_congr fun j _ => sig_congr fun i _ => by rw [← Int.mul_assoc, ← Int.mul_assoc, Int.mul_comm (x i)]
theorem sig_lin (n k : Nat) (x : Nat → Int) (W : Nat → Nat → Int) (F : Nat → Int) : sig n (fun a => sig k (fun i => x i * W i a) * F a) = sig k (fun i => x i * sig n (fun a => W i a * F a)) := by
  have h1 : sig n (fun a => sig k (fun i => x i * W i a) * F a) = sig n (fun a => F a * sig k (fun i => x i * W i a)) := sig_congr fun a _ => Int.mul_comm _ _
  rw [h1, sig_about]
  exact sig_congr fun i _ => by congr 1; exact sig_congr fun a _ => Int.mul_comm _ _

/-- The coefficients of the powers of x, below the modulus x^M + sum of m j x^j. -/
def pwX (M : Nat) (m : Nat → Nat) : Nat → Nat → Int
  | 0, j => if j = 0 then 1 else 0
  | n + 1, j => if j < M then (if j = 0 then 0 else pwX M m n (j - 1)) - m j * pwX M m n (M - 1) else 0
def one0 (j : Nat) : Int := if j = 0 then 1 else 0
section
variable {M : Nat} {m : Nat → Nat}
theorem pwX_ge (hM : 1 ≤ M) {n j : Nat} (hj : M ≤ j) : pwX M m n j = 0 := by
  cases n with
  | zero => show (if j = 0 then (1 : Int) else 0) = 0; rw [if_neg (by omega)]
  | succ n => show (if j < M then _ else (0 : Int)) = 0; rw [if_neg (by omega)]
theorem pwX_low : ∀ {t : Nat}, t < M → ∀ j, pwX M m t j = if j = t then 1 else 0 := by
  intro t
  induction t with
  | zero => exact fun _ _ => rfl
  | succ t ih =>
    intro ht j
    show (if j < M then (if j = 0 then 0 else pwX M m t (j - 1)) - m j * pwX M m t (M - 1) else 0) = _
    rw [ih (by omega), ih (by omega), if_neg (show ¬ M - 1 = t by omega)]
    by_cases e : j = t + 1
    · rw [if_pos e, if_pos (by omega), if_neg (by omega), if_pos (by omega)]; omega
    · rw [if_neg e]
      by_cases e1 : j < M
      · rw [if_pos e1]
        by_cases e2 : j = 0
        · rw [if_pos e2]; omega
        · rw [if_neg e2, if_neg (by omega)]; omega
      · rw [if_neg e1]
theorem pwX_top (hM : 1 ≤ M) (j : Nat) : pwX M m M j = if j < M then -(m j : Int) else 0 := by
  obtain ⟨k, rfl⟩ : ∃ k, M = k + 1 := ⟨M - 1, by omega⟩
  show (if j < k + 1 then (if j = 0 then 0 else pwX (k + 1) m k (j - 1)) - m j * pwX (k + 1) m k (k + 1 - 1) else 0) = _
  rw [pwX_low (by omega), pwX_low (by omega), if_pos (show k + 1 - 1 = k by omega)]
  by_cases e1 : j < k + 1
  · rw [if_pos e1, if_pos e1]
    by_cases e2 : j = 0
    · rw [if_pos e2]; omega
    · rw [if_neg e2, if_neg (by omega)]; omega
  · rw [if_neg e1, if_neg e1]
theorem pwX_mul (hM : 1 ≤ M) : ∀ b n j, sig M (fun a => pwX M m n a * pwX M m (a + b) j) = pwX M m (n + b) j := by
  intro b
  induction b with
  | zero =>
    intro n j
    by_cases e : j < M
    · rw [sig_one e fun i hi hne => by rw [Nat.add_zero, pwX_low hi, if_neg (by omega)]; omega, Nat.add_zero, pwX_low e, if_pos rfl, Nat.add_zero]; omega
    · rw [sig_congr (g := fun _ => 0) fun i hi => by rw [pwX_ge hM (show M ≤ j by omega)]; omega, sig_zero, pwX_ge hM (by omega)]
  | succ b ih =>
    intro n j
    show sig M (fun a => pwX M m n a * (if j < M then (if j = 0 then 0 else pwX M m (a + b) (j - 1)) - m j * pwX M m (a + b) (M - 1) else 0)) = (if j < M then (if j = 0 then 0 else pwX M m (n + b) (j - 1)) - m j * pwX M m (n + b) (M - 1) else 0)
    by_cases e : j < M
    · simp only [if_pos e]
      have h1 : ∀ a, pwX M m n a * ((if j = 0 then 0 else pwX M m (a + b) (j - 1)) - m j * pwX M m (a + b) (M - 1)) = (if j = 0 then 0 else pwX M m n a * pwX M m (a + b) (j - 1)) - m j * (pwX M m n a * pwX M m (a + b) (M - 1)) := fun a => by
        split <;> grind
      rw [sig_congr fun a _ => h1 a, sig_sub, sig_mul, ih]
      by_cases e2 : j = 0
      · simp only [if_pos e2]; rw [sig_zero]
      · simp only [if_neg e2]; rw [ih]
    · simp only [if_neg e]
      rw [sig_congr (g := fun _ => 0) fun i hi => by omega, sig_zero]
theorem pwX_red (hM : 1 ≤ M) {i : Nat} (hi : M ≤ i) (q : Nat) : pwX M m i q = - sig M (fun k => m k * pwX M m (i - M + k) q) := by
  have h := pwX_mul (m := m) hM (i - M) M q
  rw [show M + (i - M) = i by omega] at h
  rw [← h, ← sig_neg]
  exact sig_congr fun k hk => by
    rw [pwX_top hM, if_pos hk, Int.neg_mul, show k + (i - M) = i - M + k by omega]
end
/-- The product. -/
def mulI (M : Nat) (m : Nat → Nat) (x y : Nat → Int) (j : Nat) : Int := sig M fun i => x i * sig M fun k => y k * pwX M m (i + k) j
section
variable {M P : Nat} {m : Nat → Nat} {x y z x' y' : Nat → Int}
theorem mulI_comm (x y : Nat → Int) : mulI M m x y = mulI M m y x := funext fun j => by
  show sig M (fun i => x i * sig M fun k => y k * pwX M m (i + k) j) = sig M (fun i => y i * sig M fun k => x k * pwX M m (i + k) j)
  rw [sig_about]
  exact sig_congr fun k _ => by congr 1; exact sig_congr fun i _ => by rw [Nat.add_comm]
theorem mulI_cg (hx : ∀ i, i < M → cg P (x i) (x' i)) (hy : ∀ i, i < M → cg P (y i) (y' i)) (j : Nat) : cg P (mulI M m x y j) (mulI M m x' y' j) :=
  cg_sig fun i hi => (hx i hi).mul (cg_sig fun k hk => (hy k hk).mul (cg_refl _))
def mul3 (M : Nat) (m : Nat → Nat) (x y z : Nat → Int) (j : Nat) : Int := sig M fun i => x i * sig M fun k => y k * sig M fun l => z l * pwX M m (i + k + l) j
theorem mulI_mulI (hM : 1 ≤ M) (x y z : Nat → Int) (j : Nat) : mulI M m (mulI M m x y) z j = mul3 M m x y z j := by
  show sig M (fun a => sig M (fun i => x i * sig M fun k => y k * pwX M m (i + k) a) * sig M fun l => z l * pwX M m (a + l) j) = _
  rw [sig_lin]
  refine sig_congr fun i _ => ?_
  congr 1
  rw [sig_lin]
  refine sig_congr fun k _ => ?_
  congr 1
  rw [sig_about]
  exact sig_congr fun l _ => by rw [pwX_mul hM]
theorem mul3_turn (x y z : Nat → Int) (j : Nat) : mul3 M m x y z j = mul3 M m y z x j := by
  show sig M (fun i => x i * sig M fun k => y k * sig M fun l => z l * pwX M m (i + k + l) j) = sig M (fun k => y k * sig M fun l => z l * sig M fun i => x i * pwX M m (k + l + i) j)
  rw [sig_about]
  refine sig_congr fun k _ => ?_
  congr 1
  rw [sig_about]
  refine sig_congr fun l _ => ?_
  congr 1
  exact sig_congr fun i _ => by rw [show i + k + l = k + l + i by omega]
theorem mulI_assoc (hM : 1 ≤ M) (x y z : Nat → Int) : mulI M m (mulI M m x y) z = mulI M m x (mulI M m y z) := funext fun j => by
  rw [mulI_comm x (mulI M m y z), mulI_mulI hM, mulI_mulI hM, mul3_turn]
theorem mulI_addR (x y z : Nat → Int) (j : Nat) : mulI M m x (fun k => y k + z k) j = mulI M m x y j + mulI M m x z j := by
  unfold mulI
  rw [← sig_add]
  refine sig_congr fun i _ => ?_
  rw [← Int.mul_add, ← sig_add]
  congr 1
  exact sig_congr fun k _ => by rw [Int.add_mul]
theorem mulI_smul (c : Int) (x y : Nat → Int) (j : Nat) : mulI M m (fun k => c * x k) y j = c * mulI M m x y j := by
  unfold mulI
  rw [← sig_mul]
  exact sig_congr fun i _ => by rw [Int.mul_assoc]
theorem mulI_one (x : Nat → Int) {j : Nat} (hj : j < M) : mulI M m one0 x j = x j := by
  unfold mulI
  rw [sig_one (k := 0) (by omega) fun i _ hne => by unfold one0; rw [if_neg hne]; omega]
  rw [sig_one (k := j) hj fun i hi hne => by rw [Nat.zero_add, pwX_low hi, if_neg (by omega)]; omega]
  rw [Nat.zero_add, pwX_low hj, if_pos rfl]
  unfold one0
  rw [if_pos rfl]; omega
end
/-- The value of a list of N coefficients. -/
def evX (M : Nat) (m : Nat → Nat) (N : Nat) (c : Nat → Nat) (q : Nat) : Int := sig N fun t => (c t : Int) * pwX M m t q
theorem evX_upd {M N s v q : Nat} {m c : Nat → Nat} (hs : s < N) : evX M m N (fun t => if t = s then v else c t) q = evX M m N c q + ((v : Int) - c s) * pwX M m s q := by
  have h : sig N (fun t => if t = s then ((v : Int) - c s) * pwX M m s q else 0) = ((v : Int) - c s) * pwX M m s q := by
    rw [sig_one hs fun i _ hne => by rw [if_neg hne], if_pos rfl]
  rw [← h]
  unfold evX
  rw [← sig_add]
  refine sig_congr fun t _ => ?_
  simp only
  by_cases e : t = s
  · subst e; rw [if_pos rfl, if_pos rfl]; grind
  · rw [if_neg e, if_neg e]; omega
end Go.Proofs.Ytgininddoalenaa
