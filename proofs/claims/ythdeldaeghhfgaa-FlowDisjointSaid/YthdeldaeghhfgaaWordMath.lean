/- Lists of words with a distance: plain laws of the classical bounds. -/
import Derived.Test.YthdeldaeghhfgaaBase
namespace Go.Proofs.Ythdeldaeghhfgaa

/-- Sums. -/
def sig : Nat → (Nat → Int) → Int
  | 0, _ => 0
  | n + 1, f => sig n f + f n
theorem sig_congr {n : Nat} {f g : Nat → Int} (h : ∀ i, i < n → f i = g i) : sig n f = sig n g := by
  induction n with
  | zero => rfl
  | succ n ih => show sig n f + f n = sig n g + g n; rw [ih fun i hi => h i (by omega), h n (by omega)]
theorem sig_add (n : Nat) (f g : Nat → Int) : sig n (fun i => f i + g i) = sig n f + sig n g := by
  induction n with
  | zero => rfl
  | succ n ih => show sig n _ + (f n + g n) = sig n f + f n + (sig n g + g n); rw [ih]; omega
theorem sig_mul (n : Nat) (c : Int) (f : Nat → Int) : sig n (fun i => c * f i) = c * sig n f := by
  induction n with
  | zero => show (0 : Int) = c * 0; omega
  | succ n ih => show sig n _ + _ = c * (sig n f + f n); rw [ih, Int.mul_add]
theorem sig_const (n : Nat) (c : Int) : sig n (fun _ => c) = n * c := by
  induction n with
  | zero => show (0 : Int) = ((0 : Nat) : Int) * c; simp
  | succ n ih => show sig n _ + c = _; rw [ih]; grind
theorem sig_zero (n : Nat) : sig n (fun _ => 0) = 0 := by rw [sig_const]; simp
theorem sig_le {n : Nat} {f g : Nat → Int} (h : ∀ i, i < n → f i ≤ g i) : sig n f ≤ sig n g := by
  induction n with
  | zero => exact Int.le_refl _
  | succ n ih => show sig n f + f n ≤ sig n g + g n; have := ih fun i hi => h i (by omega); have := h n (by omega); omega
theorem sig_nonneg {n : Nat} {f : Nat → Int} (h : ∀ i, i < n → 0 ≤ f i) : 0 ≤ sig n f := by
  have := sig_le (f := fun _ => 0) (g := f) h
  rwa [sig_zero] at this
theorem sig_swap (n m : Nat) (f : Nat → Nat → Int) : sig n (fun i => sig m (fun j => f i j)) = sig m (fun j => sig n (fun i => f i j)) := by
  induction n with
  | zero => show (0 : Int) = sig m (fun j => 0); rw [sig_zero]
  | succ n ih => show sig n _ + sig m _ = sig m (fun j => sig n _ + f n j); rw [ih, sig_add]
theorem sig_one {n : Nat} {f : Nat → Int} {k : Nat} (hk : k < n) (h : ∀ i, i < n → i ≠ k → f i = 0) : sig n f = f k := by
  induction n with
  | zero => omega
  | succ n ih =>
    show sig n f + f n = f k
    by_cases e : k = n
    · subst e
      have : sig k f = 0 := by rw [sig_congr (g := fun _ => 0) fun i hi => h i (by omega) (by omega), sig_zero]
      rw [this]; omega
    · rw [ih (by omega) fun i hi hne => h i (by omega) hne, h n (by omega) (by omega)]; omega
/-- An indicator. -/
def ind (p : Prop) [Decidable p] : Int := if p then 1 else 0
theorem ind_01 (p : Prop) [Decidable p] : ind p = 0 ∨ ind p = 1 := by unfold ind; split <;> simp
theorem ind_nonneg (p : Prop) [Decidable p] : 0 ≤ ind p := by unfold ind; split <;> omega
/-- At most one of many. -/
theorem sig_most {n : Nat} {p : Nat → Prop} [∀ i, Decidable (p i)] (h : ∀ i k, i < n → k < n → p i → p k → i = k) : sig n (fun i => ind (p i)) ≤ 1 := by
  by_cases e : ∃ k, k < n ∧ p k
  · obtain ⟨k, hk, hp⟩ := e
    rw [sig_one hk fun i hi hne => by unfold ind; rw [if_neg fun hpi => hne (h i k hi hk hpi hp)]]
    unfold ind; split <;> omega
  · rw [sig_congr (g := fun _ => 0) fun i hi => by unfold ind; rw [if_neg fun hp => e ⟨i, hi, hp⟩], sig_zero]; omega
theorem sig_pos {n : Nat} {f : Nat → Int} (h : ∀ i, i < n → 0 ≤ f i) {k : Nat} (hk : k < n) : f k ≤ sig n f := by
  induction n with
  | zero => omega
  | succ n ih =>
    show f k ≤ sig n f + f n
    by_cases e : k = n
    · subst e; have := sig_nonneg (n := k) (f := f) fun i hi => h i (by omega); omega
    · have := ih (fun i hi => h i (by omega)) (by omega); have := h n (by omega); omega
/-- Many in few boxes. -/
theorem pigeon {M N : Nat} {f : Nat → Nat} (hf : ∀ i, i < M → f i < N) (hi : ∀ i k, i < M → k < M → f i = f k → i = k) : M ≤ N := by
  have h1 : sig N (fun v => sig M (fun i => ind (f i = v))) ≤ sig N (fun _ => 1) := sig_le fun v _ => sig_most fun i k h1 h2 e1 e2 => hi i k h1 h2 (e1.trans e2.symm)
  rw [sig_swap, sig_const, sig_congr (g := fun _ => 1) fun i hi' => by
    rw [sig_one (hf i hi') fun v _ hne => by unfold ind; rw [if_neg fun e => hne e.symm]]
    unfold ind; rw [if_pos rfl], sig_const] at h1
  omega

/-- The number of places where two words differ. -/
def dis (n : Nat) (a b : Nat → Nat) : Int := sig n (fun j => ind (a j ≠ b j))
theorem dis_tri (n : Nat) (a b c : Nat → Nat) : dis n a b ≤ dis n c a + dis n c b := by
  unfold dis
  rw [← sig_add]
  refine sig_le fun j _ => ?_
  unfold ind
  by_cases h1 : c j = a j <;> by_cases h2 : c j = b j <;> by_cases h3 : a j = b j <;> simp_all
theorem dis_nonneg (n : Nat) (a b : Nat → Nat) : 0 ≤ dis n a b := sig_nonneg fun _ _ => ind_nonneg _
theorem dis_le (n : Nat) (a b : Nat → Nat) : dis n a b ≤ n := by
  have : dis n a b ≤ sig n (fun _ => 1) := sig_le fun j _ => by unfold ind; split <;> omega
  rwa [sig_const, Int.mul_one] at this
/-- M words of length n over q symbols, any two at a distance of at least d. -/
structure Words (q n d M : Nat) (W : Nat → Nat → Nat) : Prop where
  lt : ∀ i j, i < M → j < n → W i j < q
  far : ∀ i k, i < M → k < M → i ≠ k → (d : Int) ≤ dis n (W i) (W k)

/-- The first k symbols as one number. -/
def code (q : Nat) (a : Nat → Nat) : Nat → Nat
  | 0 => 0
  | k + 1 => code q a k + a k * q ^ k
theorem code_lt {q : Nat} {a : Nat → Nat} {k : Nat} (h : ∀ j, j < k → a j < q) : code q a k < q ^ k := by
  induction k with
  | zero => show 0 < 1; omega
  | succ k ih =>
    show code q a k + a k * q ^ k < q ^ (k + 1)
    have h1 := ih fun j hj => h j (by omega)
    have h2 : (a k + 1) * q ^ k ≤ q * q ^ k := Nat.mul_le_mul_right _ (h k (by omega))
    rw [Nat.pow_succ, Nat.mul_comm (q ^ k) q]
    rw [Nat.add_mul, Nat.one_mul] at h2
    omega
theorem code_inj {q : Nat} {a b : Nat → Nat} {k : Nat} (ha : ∀ j, j < k → a j < q) (hb : ∀ j, j < k → b j < q) (e : code q a k = code q b k) : ∀ j, j < k → a j = b j := by
  induction k with
  | zero => intro j hj; omega
  | succ k ih =>
    have h1 := code_lt (k := k) fun j hj => ha j (by omega)
    have h2 := code_lt (k := k) fun j hj => hb j (by omega)
    have e' : code q a k + a k * q ^ k = code q b k + b k * q ^ k := e
    have hp : 0 < q ^ k := by omega
    have e1 : (code q a k + a k * q ^ k) / q ^ k = a k := by rw [Nat.add_mul_div_right _ _ hp, Nat.div_eq_of_lt h1, Nat.zero_add]
    have e2 : (code q b k + b k * q ^ k) / q ^ k = b k := by rw [Nat.add_mul_div_right _ _ hp, Nat.div_eq_of_lt h2, Nat.zero_add]
    have ek : a k = b k := by rw [← e1, ← e2, e']
    intro j hj
    by_cases hjk : j = k
    · rw [hjk]; exact ek
    · refine ih (fun j hj => ha j (by omega)) (fun j hj => hb j (by omega)) ?_ j (by omega)
      rw [ek] at e'; omega
theorem sig_split (a b : Nat) (f : Nat → Int) : sig (a + b) f = sig a f + sig b (fun j => f (a + j)) := by
  induction b with
  | zero => show sig a f = sig a f + 0; omega
  | succ b ih => show sig (a + b) f + f (a + b) = sig a f + (sig b _ + f (a + b)); rw [ih]; omega
theorem singleton {q n d M : Nat} {W : Nat → Nat → Nat} (h : Words q n d M W) (hd : 1 ≤ d) (hdn : d ≤ n) : M ≤ q ^ (n - d + 1) := by
  refine pigeon (f := fun i => code q (W i) (n - d + 1)) (fun i hi => code_lt fun j hj => h.lt i j hi (by omega)) fun i k hi hk e => ?_
  have hag := code_inj (fun j hj => h.lt i j hi (by omega)) (fun j hj => h.lt k j hk (by omega)) e
  rcases Nat.lt_or_ge i k with hlt | hge
  · exfalso
    have hf := h.far i k hi hk (by omega)
    unfold dis at hf
    rw [show n = (n - d + 1) + (d - 1) by omega, sig_split, sig_congr (n := n - d + 1) (g := fun _ => 0) (fun j hj => by unfold ind; rw [if_neg (by have := hag j hj; omega)]), sig_zero] at hf
    have : sig (d - 1) (fun j => ind (W i (n - d + 1 + j) ≠ W k (n - d + 1 + j))) ≤ sig (d - 1) (fun _ => 1) := sig_le fun j _ => by unfold ind; split <;> omega
    rw [sig_const] at this
    omega
  · by_cases e2 : i = k
    · exact e2
    · exfalso
      have hf := h.far i k hi hk e2
      unfold dis at hf
      rw [show n = (n - d + 1) + (d - 1) by omega, sig_split, sig_congr (n := n - d + 1) (g := fun _ => 0) (fun j hj => by unfold ind; rw [if_neg (by have := hag j hj; omega)]), sig_zero] at hf
      have : sig (d - 1) (fun j => ind (W i (n - d + 1 + j) ≠ W k (n - d + 1 + j))) ≤ sig (d - 1) (fun _ => 1) := sig_le fun j _ => by unfold ind; split <;> omega
      rw [sig_const] at this
      omega

/-- The sum over all words of length n. -/
def updW (y : Nat → Nat) (n a : Nat) (j : Nat) : Nat := if j = n then a else y j
def sumW (q : Nat) : Nat → ((Nat → Nat) → Int) → Int
  | 0, F => F (fun _ => 0)
  | n + 1, F => sig q (fun a => sumW q n (fun y => F (updW y n a)))
theorem sumW_congr {q n : Nat} {F G : (Nat → Nat) → Int} (h : ∀ y, F y = G y) : sumW q n F = sumW q n G := by
  have : F = G := funext h
  rw [this]
theorem sumW_le {q : Nat} : ∀ {n : Nat} {F G : (Nat → Nat) → Int}, (∀ y, F y ≤ G y) → sumW q n F ≤ sumW q n G
  | 0, _, _, h => h _
  | _ + 1, _, _, h => sig_le fun _ _ => sumW_le fun _ => h _
theorem sumW_sig {q : Nat} : ∀ (n M : Nat) (G : Nat → (Nat → Nat) → Int), sumW q n (fun y => sig M (fun i => G i y)) = sig M (fun i => sumW q n (G i))
  | 0, _, _ => rfl
  | n + 1, M, G => by
    show sig q (fun a => sumW q n (fun y => sig M (fun i => G i (updW y n a)))) = sig M (fun i => sig q (fun a => sumW q n (fun y => G i (updW y n a))))
    rw [sig_congr fun a _ => sumW_sig n M (fun i y => G i (updW y n a)), sig_swap]
theorem sumW_const (q c : Int) (k n : Nat) (hq : q = k) : sumW k n (fun _ => c) = q ^ n * c := by
  subst hq
  induction n with
  | zero => show c = 1 * c; omega
  | succ n ih =>
    show sig k (fun _ => sumW k n (fun _ => c)) = _
    rw [sig_congr fun a _ => ih, sig_const, Int.pow_succ]; grind
theorem sumW_add {q : Nat} : ∀ (n : Nat) (F G : (Nat → Nat) → Int), sumW q n (fun y => F y + G y) = sumW q n F + sumW q n G
  | 0, _, _ => rfl
  | n + 1, F, G => by
    show sig q (fun a => sumW q n (fun y => F (updW y n a) + G (updW y n a))) = _
    rw [sig_congr fun a _ => sumW_add n (fun y => F (updW y n a)) (fun y => G (updW y n a)), sig_add]; rfl
theorem sumW_mul {q : Nat} (c : Int) : ∀ (n : Nat) (F : (Nat → Nat) → Int), sumW q n (fun y => c * F y) = c * sumW q n F
  | 0, _ => rfl
  | n + 1, F => by
    show sig q (fun a => sumW q n (fun y => c * F (updW y n a))) = _
    rw [sig_congr fun a _ => sumW_mul c n (fun y => F (updW y n a)), sig_mul]; rfl
theorem dis_upd (n : Nat) (y c : Nat → Nat) (a : Nat) : dis (n + 1) (updW y n a) c = dis n y c + ind (a ≠ c n) := by
  show sig n _ + ind (updW y n a n ≠ c n) = _
  rw [sig_congr (g := fun j => ind (y j ≠ c j)) fun j hj => by unfold updW; rw [if_neg (by omega)]]
  have : updW y n a n = a := by unfold updW; rw [if_pos rfl]
  rw [this]; rfl
theorem sig_other {q s : Nat} (hs : s < q) (x y : Int) : sig q (fun a => if a = s then x else y) = x + (q - 1) * y := by
  have h1 : sig q (fun a => if a = s then x else y) = sig q (fun a => (if a = s then x - y else 0) + y) := sig_congr fun a _ => by split <;> omega
  rw [h1, sig_add, sig_const, sig_one hs fun i _ hne => by rw [if_neg hne], if_pos rfl]; grind
end Go.Proofs.Ythdeldaeghhfgaa
