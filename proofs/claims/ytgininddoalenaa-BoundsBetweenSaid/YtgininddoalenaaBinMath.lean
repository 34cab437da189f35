/- The bounds of Johnson for lists of binary words: plain laws. -/
import Derived.Test.YtgininddoalenaaWordBounds
import Derived.Test.YtgininddoalenaaJohnson
namespace Go.Proofs.Ytgininddoalenaa

/-- The weight; the overlap. -/
def wt (n : Nat) (a : Nat → Nat) : Int := sig n (fun j => ind (a j = 1))
def ovl (n : Nat) (a b : Nat → Nat) : Int := sig n (fun j => ind (a j = 1) * ind (b j = 1))
theorem dis_ovl {n : Nat} {a b : Nat → Nat} (ha : ∀ j, j < n → a j < 2) (hb : ∀ j, j < n → b j < 2) : dis n a b = wt n a + wt n b - 2 * ovl n a b := by
  have : dis n a b = sig n (fun j => (ind (a j = 1) + ind (b j = 1)) + (-2) * (ind (a j = 1) * ind (b j = 1))) := sig_congr fun j hj => by
    have h1 := ha j hj
    have h2 := hb j hj
    unfold ind
    rcases (by omega : a j = 0 ∨ a j = 1) with e1 | e1 <;> rcases (by omega : b j = 0 ∨ b j = 1) with e2 | e2 <;> rw [e1, e2] <;> simp
  rw [this, sig_add, sig_add, sig_mul]
  show wt n a + wt n b + -2 * ovl n a b = _
  omega
theorem ovl_nonneg (n : Nat) (a b : Nat → Nat) : 0 ≤ ovl n a b := sig_nonneg fun _ _ => Int.mul_nonneg (ind_nonneg _) (ind_nonneg _)
theorem wt_zero {n : Nat} {a : Nat → Nat} (ha : ∀ j, j < n → a j < 2) : dis n a (fun _ => 0) = wt n a := sig_congr fun j hj => by
  have := ha j hj
  unfold ind
  rcases (by omega : a j = 0 ∨ a j = 1) with e1 | e1 <;> rw [e1] <;> simp
theorem wt_one {n : Nat} {a : Nat → Nat} (ha : ∀ j, j < n → a j < 2) : dis n (fun _ => 1) a = n - wt n a := by
  have : dis n (fun _ => 1) a = sig n (fun j => 1 + (-1) * ind (a j = 1)) := sig_congr fun j hj => by
    have := ha j hj
    unfold ind
    rcases (by omega : a j = 0 ∨ a j = 1) with e1 | e1 <;> rw [e1] <;> simp
  rw [this, sig_add, sig_mul, sig_const]
  show (n : Int) * 1 + -1 * wt n a = _
  omega
/-- A place struck out. -/
def del (j : Nat) (a : Nat → Nat) (k : Nat) : Nat := if k < j then a k else a (k + 1)
theorem sig_del {f : Nat → Int} : ∀ n j, j < n + 1 → sig (n + 1) f = sig n (fun k => if k < j then f k else f (k + 1)) + f j := by
  intro n
  induction n with
  | zero => intro j hj; obtain rfl : j = 0 := by omega
            rfl
  | succ n ih =>
    intro j hj
    by_cases e : j = n + 1
    · subst e
      show sig (n + 1) f + f (n + 1) = _
      rw [sig_congr (f := f) (g := fun k => if k < n + 1 then f k else f (k + 1)) fun k hk => by rw [if_pos hk]]
    · show sig (n + 1) f + f (n + 1) = (sig n _ + (if n < j then f n else f (n + 1))) + f j
      rw [ih j (by omega), if_neg (by omega)]
      omega
theorem dis_del {n j : Nat} {a b : Nat → Nat} (hj : j < n + 1) : dis (n + 1) a b = dis n (del j a) (del j b) + ind (a j ≠ b j) := by
  unfold dis
  rw [sig_del n j hj]
  congr 1
  exact sig_congr fun k _ => by unfold del; split <;> rfl
theorem wt_del {n j : Nat} {a : Nat → Nat} (hj : j < n + 1) : wt (n + 1) a = wt n (del j a) + ind (a j = 1) := by
  unfold wt
  rw [sig_del n j hj]
  congr 1
  exact sig_congr fun k _ => by unfold del; split <;> rfl
theorem ind_and (p r : Prop) [Decidable p] [Decidable r] : ind (p ∧ r) = ind p * ind r := by
  unfold ind
  by_cases h1 : p <;> by_cases h2 : r <;> simp [h1, h2]
/-- Words of one weight, some of a list. -/
theorem conN_bound {e : Nat} (he : 1 ≤ e) : ∀ (n w M : Nat) (W : Nat → Nat → Nat) (P : Nat → Prop) [∀ i, Decidable (P i)], (∀ i, i < M → P i → ∀ j, j < n → W i j < 2) → (∀ i, i < M → P i → wt n (W i) = (w : Int)) →
    (∀ i k, i < M → k < M → P i → P k → i ≠ k → 2 * (e : Int) ≤ dis n (W i) (W k)) → sig M (fun i => ind (P i)) ≤ (conN e n w : Int) := by
  intro n
  induction n with
  | zero =>
    intro w M W P _ hb hw hf
    have hc : conN e 0 w = 1 := conN_small (by omega)
    rw [hc]
    exact sig_most fun i k hi hk p1 p2 => by
      by_cases h : i = k
      · exact h
      · exfalso
        have := hf i k hi hk p1 p2 h
        have e0 : dis 0 (W i) (W k) = 0 := rfl
        omega
  | succ n ih =>
    intro w M W P _ hb hw hf
    by_cases hs : w < e ∨ n + 1 < w + e
    · rw [conN_small hs]
      refine sig_most fun i k hi hk p1 p2 => ?_
      by_cases h : i = k
      · exact h
      · exfalso
        have hd := hf i k hi hk p1 p2 h
        have w1 := hw i hi p1
        have w2 := hw k hk p2
        rcases hs with hs | hs
        · have h1 := dis_ovl (hb i hi p1) (hb k hk p2)
          have h2 := ovl_nonneg (n + 1) (W i) (W k)
          omega
        · have h1 := dis_tri (n + 1) (W i) (W k) (fun _ => 1)
          rw [wt_one (hb i hi p1), wt_one (hb k hk p2)] at h1
          omega
    · rw [conN_step hs]
      have hw1 : 1 ≤ w := by omega
      -- incidences
      have hinc : sig (n + 1) (fun j => sig M (fun i => ind (P i ∧ W i j = 1))) = w * sig M (fun i => ind (P i)) := by
        rw [sig_swap, ← sig_mul]
        refine sig_congr fun i hi => ?_
        rw [sig_congr (g := fun j => ind (P i) * ind (W i j = 1)) fun j _ => ind_and _ _, sig_mul]
        show ind (P i) * wt (n + 1) (W i) = _
        by_cases p : P i
        · rw [hw i hi p, Int.mul_comm]
        · have : ind (P i) = 0 := by unfold ind; rw [if_neg p]
          rw [this]; simp
      have hcol : ∀ j, j < n + 1 → sig M (fun i => ind (P i ∧ W i j = 1)) ≤ (conN e n (w - 1) : Int) := fun j hj => by
        refine ih (w - 1) M (fun i => del j (W i)) (fun i => P i ∧ W i j = 1) (fun i hi p k hk => ?_) (fun i hi p => ?_) (fun i k hi hk p1 p2 hne => ?_)
        · unfold del
          split
          · exact hb i hi p.1 k (by omega)
          · exact hb i hi p.1 (k + 1) (by omega)
        · have := wt_del (a := W i) hj
          rw [hw i hi p.1] at this
          have e1 : ind (W i j = 1) = 1 := by unfold ind; rw [if_pos p.2]
          rw [e1] at this
          show wt n (del j (W i)) = _
          omega
        · have := dis_del (a := W i) (b := W k) hj
          have e1 : ind (W i j ≠ W k j) = 0 := by unfold ind; rw [if_neg (by rw [p1.2, p2.2]; simp)]
          rw [e1] at this
          have := hf i k hi hk p1.1 p2.1 hne
          show _ ≤ dis n (del j (W i)) (del j (W k))
          omega
      have h1 : sig (n + 1) (fun j => sig M (fun i => ind (P i ∧ W i j = 1))) ≤ sig (n + 1) (fun _ => (conN e n (w - 1) : Int)) := sig_le hcol
      rw [hinc, sig_const] at h1
      have hK : 0 ≤ sig M (fun i => ind (P i)) := sig_nonneg fun i _ => ind_nonneg _
      obtain ⟨K, hKe⟩ := Int.eq_ofNat_of_zero_le hK
      rw [hKe] at h1 ⊢
      rw [← Int.natCast_mul, ← Int.natCast_mul] at h1
      have h2 : K ≤ (n + 1) * conN e n (w - 1) / w := by
        rw [Nat.le_div_iff_mul_le (by omega), Nat.mul_comm K w]
        omega
      omega

/-- Seen from another word. -/
def xor2 (c a : Nat → Nat) (j : Nat) : Nat := if a j = c j then 0 else 1
theorem xor2_lt (c a : Nat → Nat) (j : Nat) : xor2 c a j < 2 := by unfold xor2; split <;> omega
theorem wt_xor (n : Nat) (c a : Nat → Nat) : wt n (xor2 c a) = dis n c a := sig_congr fun j _ => by
  unfold ind xor2
  by_cases h : a j = c j
  · rw [if_pos h, if_neg (by omega), if_neg (by intro e; exact e h.symm)]
  · rw [if_neg h, if_pos rfl, if_pos (fun e => h e.symm)]
theorem dis_xor {n : Nat} {c a b : Nat → Nat} (hc : ∀ j, j < n → c j < 2) (ha : ∀ j, j < n → a j < 2) (hb : ∀ j, j < n → b j < 2) : dis n (xor2 c a) (xor2 c b) = dis n a b := sig_congr fun j hj => by
  have h1 := hc j hj
  have h2 := ha j hj
  have h3 := hb j hj
  unfold ind xor2
  rcases (by omega : a j = 0 ∨ a j = 1) with e1 | e1 <;> rcases (by omega : b j = 0 ∨ b j = 1) with e2 | e2 <;> rcases (by omega : c j = 0 ∨ c j = 1) with e3 | e3 <;> rw [e1, e2, e3] <;> simp
/-- Few words at one distance from a word. -/
theorem sphere_few {n d M t s : Nat} {W : Nat → Nat → Nat} (h : Words 2 n d M W) (hd : d = 2 * t + 1) (c : Nat → Nat) (hc : ∀ j, j < n → c j < 2) :
    sig M (fun i => ind (dis n c (W i) = (s : Int))) ≤ (conN (t + 1) n s : Int) := by
  refine conN_bound (e := t + 1) (by omega) n s M (fun i => xor2 c (W i)) (fun i => dis n c (W i) = (s : Int)) (fun i hi _ j _ => xor2_lt _ _ _) (fun i hi p => by rw [wt_xor]; exact p) (fun i k hi hk p1 p2 hne => ?_)
  have h1 := dis_ovl (n := n) (a := xor2 c (W i)) (b := xor2 c (W k)) (fun j _ => xor2_lt _ _ _) (fun j _ => xor2_lt _ _ _)
  rw [dis_xor hc (fun j hj => h.lt i j hi hj) (fun j hj => h.lt k j hk hj), wt_xor, wt_xor, p1, p2] at h1
  have := h.far i k hi hk hne
  rw [dis_xor hc (fun j hj => h.lt i j hi hj) (fun j hj => h.lt k j hk hj)]
  omega
theorem shell_few {n d M t : Nat} {W : Nat → Nat → Nat} (h : Words 2 n d M W) (hd : d = 2 * t + 1) (c : Nat → Nat) (hc : ∀ j, j < n → c j < 2) :
    sig M (fun i => ind (dis n c (W i) = ((t + 1 : Nat) : Int))) ≤ ((n / (t + 1) : Nat) : Int) := by
  have h1 : sig n (fun j => sig M (fun i => ind (dis n c (W i) = ((t + 1 : Nat) : Int) ∧ xor2 c (W i) j = 1))) ≤ sig n (fun _ => 1) := sig_le fun j hj => sig_most fun i k hi hk p1 p2 => by
    by_cases e : i = k
    · exact e
    · exfalso
      have h1 := dis_ovl (n := n) (a := xor2 c (W i)) (b := xor2 c (W k)) (fun j _ => xor2_lt _ _ _) (fun j _ => xor2_lt _ _ _)
      rw [dis_xor hc (fun j hj => h.lt i j hi hj) (fun j hj => h.lt k j hk hj), wt_xor, wt_xor, p1.1, p2.1] at h1
      have h2 : ind (xor2 c (W i) j = 1) * ind (xor2 c (W k) j = 1) ≤ ovl n (xor2 c (W i)) (xor2 c (W k)) := sig_pos (f := fun j => ind (xor2 c (W i) j = 1) * ind (xor2 c (W k) j = 1)) (fun j _ => Int.mul_nonneg (ind_nonneg _) (ind_nonneg _)) hj
      have e1 : ind (xor2 c (W i) j = 1) = 1 := by unfold ind; rw [if_pos p1.2]
      have e2 : ind (xor2 c (W k) j = 1) = 1 := by unfold ind; rw [if_pos p2.2]
      rw [e1, e2] at h2
      have := h.far i k hi hk e
      omega
  have h2 : sig n (fun j => sig M (fun i => ind (dis n c (W i) = ((t + 1 : Nat) : Int) ∧ xor2 c (W i) j = 1))) = ((t + 1 : Nat) : Int) * sig M (fun i => ind (dis n c (W i) = ((t + 1 : Nat) : Int))) := by
    rw [sig_swap, ← sig_mul]
    refine sig_congr fun i hi => ?_
    rw [sig_congr (g := fun j => ind (dis n c (W i) = ((t + 1 : Nat) : Int)) * ind (xor2 c (W i) j = 1)) fun j _ => ind_and _ _, sig_mul]
    show ind (dis n c (W i) = ((t + 1 : Nat) : Int)) * wt n (xor2 c (W i)) = _
    rw [wt_xor]
    unfold ind
    split
    · rename_i e; rw [e]; omega
    · simp
  rw [h2, sig_const] at h1
  have hK : 0 ≤ sig M (fun i => ind (dis n c (W i) = ((t + 1 : Nat) : Int))) := sig_nonneg fun i _ => ind_nonneg _
  obtain ⟨K, hKe⟩ := Int.eq_ofNat_of_zero_le hK
  rw [hKe] at h1 ⊢
  rw [← Int.natCast_mul] at h1
  have h3 : K ≤ n / (t + 1) := by
    rw [Nat.le_div_iff_mul_le (by omega), Nat.mul_comm]
    omega
  omega
/-- Words between two words. -/
theorem between {a b : Nat → Nat} : ∀ (n s r : Nat), (∀ j, j < n → a j < 2) → (∀ j, j < n → b j < 2) → dis n a b = ((s + r : Nat) : Int) → sumW 2 n (fun y => ind (dis n y a = (s : Int)) * ind (dis n y b = (r : Int))) = (chs (s + r) r : Int) := by
  intro n
  induction n with
  | zero =>
    intro s r _ _ h
    have e0 : dis 0 a b = 0 := rfl
    rw [e0] at h
    obtain ⟨rfl, rfl⟩ : s = 0 ∧ r = 0 := by omega
    rfl
  | succ n ih =>
    intro s r ha hb h
    have h2 : dis (n + 1) a b = dis n a b + ind (a n ≠ b n) := rfl
    show (0 + sumW 2 n (fun y => ind (dis (n + 1) (updW y n 0) a = (s : Int)) * ind (dis (n + 1) (updW y n 0) b = (r : Int)))) + sumW 2 n (fun y => ind (dis (n + 1) (updW y n 1) a = (s : Int)) * ind (dis (n + 1) (updW y n 1) b = (r : Int))) = _
    rw [sumW_congr (G := fun y => ind (dis n y a + ind (0 ≠ a n) = (s : Int)) * ind (dis n y b + ind (0 ≠ b n) = (r : Int))) fun y => by rw [dis_upd, dis_upd], sumW_congr (F := fun y => ind (dis (n + 1) (updW y n 1) a = (s : Int)) * ind (dis (n + 1) (updW y n 1) b = (r : Int))) (G := fun y => ind (dis n y a + ind (1 ≠ a n) = (s : Int)) * ind (dis n y b + ind (1 ≠ b n) = (r : Int))) fun y => by rw [dis_upd, dis_upd]]
    have ha' := ha n (by omega)
    have hb' := hb n (by omega)
    have ih := fun s r => ih s r (fun j hj => ha j (by omega)) (fun j hj => hb j (by omega))
    -- both one further: none
    have none2 : dis n a b = ((s + r : Nat) : Int) → sumW 2 n (fun y => ind (dis n y a + 1 = (s : Int)) * ind (dis n y b + 1 = (r : Int))) = 0 := fun hd => by
      rw [sumW_congr (G := fun _ => 0) fun y => ?_, sumW_const (2 : Int) 0 2 n rfl]
      · simp
      · have := dis_tri n a b y
        unfold ind
        by_cases e1 : dis n y a + 1 = (s : Int)
        · by_cases e2 : dis n y b + 1 = (r : Int)
          · exfalso; omega
          · rw [if_neg e2]; simp
        · rw [if_neg e1]; simp
    -- one further from a, one from b
    have up1 : dis n a b + 1 = ((s + r : Nat) : Int) → sumW 2 n (fun y => ind (dis n y a + 1 = (s : Int)) * ind (dis n y b = (r : Int))) = (if s = 0 then 0 else (chs (s - 1 + r) r : Int)) := fun hd => by
      cases s with
      | zero =>
        rw [if_pos rfl, sumW_congr (G := fun _ => 0) fun y => ?_, sumW_const (2 : Int) 0 2 n rfl]
        · simp
        · have := dis_nonneg n y a
          unfold ind; rw [if_neg (by omega)]; simp
      | succ s =>
        rw [if_neg (by omega), Nat.add_sub_cancel, ← ih s r (by omega)]
        exact sumW_congr fun y => by
          congr 1
          unfold ind
          congr 1
          exact propext ⟨fun h => by omega, fun h => by omega⟩
    have up2 : dis n a b + 1 = ((s + r : Nat) : Int) → sumW 2 n (fun y => ind (dis n y a = (s : Int)) * ind (dis n y b + 1 = (r : Int))) = (if r = 0 then 0 else (chs (s + (r - 1)) (r - 1) : Int)) := fun hd => by
      cases r with
      | zero =>
        rw [if_pos rfl, sumW_congr (G := fun _ => 0) fun y => ?_, sumW_const (2 : Int) 0 2 n rfl]
        · simp
        · have := dis_nonneg n y b
          have e : ind (dis n y b + 1 = ((0 : Nat) : Int)) = 0 := by unfold ind; rw [if_neg (by omega)]
          rw [e]; simp
      | succ r =>
        rw [if_neg (by omega), Nat.add_sub_cancel, ← ih s r (by omega)]
        exact sumW_congr fun y => by
          congr 1
          unfold ind
          congr 1
          exact propext ⟨fun h => by omega, fun h => by omega⟩
    have hsum : dis n a b + 1 = ((s + r : Nat) : Int) → (if s = 0 then 0 else (chs (s - 1 + r) r : Int)) + (if r = 0 then 0 else (chs (s + (r - 1)) (r - 1) : Int)) = (chs (s + r) r : Int) := fun hd => by
      have := dis_nonneg n a b
      cases s with
      | zero =>
        cases r with
        | zero => exfalso; omega
        | succ r => rw [if_pos rfl, if_neg (by omega), Nat.add_sub_cancel, Nat.zero_add, Nat.zero_add, chs_self, chs_self]; rfl
      | succ s =>
        cases r with
        | zero => rw [if_neg (by omega), if_pos rfl, chs_zero, chs_zero]; rfl
        | succ r =>
          rw [if_neg (by omega), if_neg (by omega), Nat.add_sub_cancel, Nat.add_sub_cancel, show s + 1 + (r + 1) = (s + 1 + r) + 1 by omega, show s + (r + 1) = s + 1 + r by omega]
          show _ = ((chs (s + 1 + r) r + chs (s + 1 + r) (r + 1) : Nat) : Int)
          omega
    have i0 : ∀ x y : Nat, x = y → ind (x ≠ y) = 0 := fun x y e => by unfold ind; rw [if_neg (fun h => h e)]
    have i1 : ∀ x y : Nat, x ≠ y → ind (x ≠ y) = 1 := fun x y e => by unfold ind; rw [if_pos e]
    rcases (by omega : a n = 0 ∨ a n = 1) with e1 | e1 <;> rcases (by omega : b n = 0 ∨ b n = 1) with e2 | e2
    · rw [e1, e2, i0 0 0 rfl] at h2
      rw [e1, e2, i0 0 0 rfl, i1 1 0 (by omega)]
      simp only [Int.add_zero] at h2 ⊢
      rw [none2 (by omega), ih s r (by omega)]; omega
    · rw [e1, e2, i1 0 1 (by omega)] at h2
      rw [e1, e2, i0 0 0 rfl, i1 1 0 (by omega), i1 0 1 (by omega), i0 1 1 rfl]
      simp only [Int.add_zero]
      rw [up1 (by omega), up2 (by omega), ← hsum (by omega)]; omega
    · rw [e1, e2, i1 1 0 (by omega)] at h2
      rw [e1, e2, i0 0 0 rfl, i1 1 0 (by omega), i1 0 1 (by omega), i0 1 1 rfl]
      simp only [Int.add_zero]
      rw [up1 (by omega), up2 (by omega), ← hsum (by omega)]; omega
    · rw [e1, e2, i0 1 1 rfl] at h2
      rw [e1, e2, i1 0 1 (by omega), i0 1 1 rfl]
      simp only [Int.add_zero] at h2 ⊢
      rw [none2 (by omega), ih s r (by omega)]; omega
theorem sumW_le2 {q n : Nat} {F G : (Nat → Nat) → Int} (h : ∀ y, (∀ j, j < n → y j < q) → F y ≤ G y) : sumW q n F ≤ sumW q n G := sumW_le' h
theorem johnson_odd {n d M t : Nat} {W : Nat → Nat → Nat} (h : Words 2 n d M W) (hd : d = 2 * t + 1) (hdn : d ≤ n) : M ≤ johN n d := by
  have ht : d / 2 = t := by omega
  have hm1 : 1 ≤ n / (t + 1) := (Nat.le_div_iff_mul_le (by omega)).2 (by omega)
  obtain ⟨m, hm⟩ : ∃ m, m = n / (t + 1) := ⟨_, rfl⟩
  obtain ⟨V, hV⟩ : ∃ V, V = vol 2 n (t + 1) := ⟨_, rfl⟩
  have hVp : 0 < V := by rw [hV]; exact vol_pos 2 n t
  -- how many balls hold y; how many words lie next to y
  have c1 : ∀ y, sig M (fun i => ind (dis n y (W i) ≤ (t : Int))) ≤ 1 := fun y => sig_most fun i k hi hk e1 e2 => by
    by_cases e : i = k
    · exact e
    · exfalso
      have := h.far i k hi hk e
      have := dis_tri n (W i) (W k) y
      omega
  have c0 : ∀ y, 0 ≤ sig M (fun i => ind (dis n y (W i) ≤ (t : Int))) := fun y => sig_nonneg fun i _ => ind_nonneg _
  have cV : sumW 2 n (fun y => sig M (fun i => ind (dis n y (W i) ≤ (t : Int)))) = M * (V : Int) := by
    rw [sumW_sig, sig_congr fun i hi => ballW (fun j hj => h.lt i j hi hj) t, sig_const, hV]
  have up : sumW 2 n (fun y => sig M (fun i => ind (dis n y (W i) = ((t + 1 : Nat) : Int))) * (1 - sig M (fun i => ind (dis n y (W i) ≤ (t : Int))))) ≤ (m : Int) * (2 ^ n - M * V) := by
    have h1 : sumW 2 n (fun y => sig M (fun i => ind (dis n y (W i) = ((t + 1 : Nat) : Int))) * (1 - sig M (fun i => ind (dis n y (W i) ≤ (t : Int))))) ≤ sumW 2 n (fun y => (m : Int) * (1 + (-1) * sig M (fun i => ind (dis n y (W i) ≤ (t : Int))))) := sumW_le2 fun y hy => by
      have s1 := shell_few h hd y hy
      rw [← hm] at s1
      have e : (1 : Int) + (-1) * sig M (fun i => ind (dis n y (W i) ≤ (t : Int))) = 1 - sig M (fun i => ind (dis n y (W i) ≤ (t : Int))) := by omega
      rw [e]
      exact Int.mul_le_mul_of_nonneg_right s1 (by have := c1 y; omega)
    rw [sumW_mul, sumW_add, sumW_mul, cV, sumW_const (2 : Int) 1 2 n rfl] at h1
    have e : (m : Int) * (2 ^ n * 1 + -1 * (M * (V : Int))) = (m : Int) * (2 ^ n - M * V) := by congr 1; omega
    rw [e] at h1
    exact h1
  -- from below, one word at a time
  obtain ⟨X, hX⟩ : ∃ X, X = johX n d := ⟨_, rfl⟩
  have each : ∀ i, i < M → (X : Int) ≤ sumW 2 n (fun y => ind (dis n y (W i) = ((t + 1 : Nat) : Int)) * (1 - sig M (fun k => ind (dis n y (W k) ≤ (t : Int))))) := fun i hi => by
    have pos : 0 ≤ sumW 2 n (fun y => ind (dis n y (W i) = ((t + 1 : Nat) : Int)) * (1 - sig M (fun k => ind (dis n y (W k) ≤ (t : Int))))) := by
      have := sumW_le (q := 2) (n := n) (F := fun _ => 0) (G := fun y => ind (dis n y (W i) = ((t + 1 : Nat) : Int)) * (1 - sig M (fun k => ind (dis n y (W k) ≤ (t : Int))))) fun y => Int.mul_nonneg (ind_nonneg _) (by have := c1 y; omega)
      rw [sumW_const (2 : Int) 0 2 n rfl, Int.mul_zero] at this
      exact this
    have e1 : ∀ y, ind (dis n y (W i) = ((t + 1 : Nat) : Int)) * (1 - sig M (fun k => ind (dis n y (W k) ≤ (t : Int)))) = ind (dis n y (W i) = ((t + 1 : Nat) : Int)) + (-1) * sig M (fun k => ind (dis n y (W i) = ((t + 1 : Nat) : Int)) * ind (dis n y (W k) ≤ (t : Int))) := fun y => by
      rw [sig_mul]; grind
    have e2 : sumW 2 n (fun y => ind (dis n y (W i) = ((t + 1 : Nat) : Int)) * (1 - sig M (fun k => ind (dis n y (W k) ≤ (t : Int))))) = (chs n (t + 1) : Int) - sig M (fun k => sumW 2 n (fun y => ind (dis n y (W i) = ((t + 1 : Nat) : Int)) * ind (dis n y (W k) ≤ (t : Int)))) := by
      rw [sumW_congr e1, sumW_add, sumW_mul, sumW_sig, sphereW n (fun j hj => h.lt i j hi hj) (t + 1)]
      have : chs n (t + 1) * (2 - 1) ^ (t + 1) = chs n (t + 1) := by simp
      rw [this]; omega
    have e3 : sig M (fun k => sumW 2 n (fun y => ind (dis n y (W i) = ((t + 1 : Nat) : Int)) * ind (dis n y (W k) ≤ (t : Int)))) ≤ (chs d t : Int) * conN (t + 1) n d := by
      have s1 : sig M (fun k => sumW 2 n (fun y => ind (dis n y (W i) = ((t + 1 : Nat) : Int)) * ind (dis n y (W k) ≤ (t : Int)))) ≤ sig M (fun k => (chs d t : Int) * ind (dis n (W i) (W k) = (d : Int))) := sig_le fun k hk => by
        by_cases hdk : dis n (W i) (W k) = (d : Int)
        · have e4 : ind (dis n (W i) (W k) = (d : Int)) = 1 := by unfold ind; rw [if_pos hdk]
          rw [e4, Int.mul_one]
          have hb := between n (t + 1) t (fun j hj => h.lt i j hi hj) (fun j hj => h.lt k j hk hj) (by rw [hdk]; omega)
          have e5 : chs (t + 1 + t) t = chs d t := by rw [hd]; congr 1; omega
          rw [e5] at hb
          rw [← hb]
          refine sumW_le fun y => ?_
          have := dis_tri n (W i) (W k) y
          unfold ind
          by_cases f1 : dis n y (W i) = ((t + 1 : Nat) : Int)
          · rw [if_pos f1]
            by_cases f2 : dis n y (W k) ≤ (t : Int)
            · rw [if_pos f2, if_pos (by omega)]; omega
            · rw [if_neg f2]; split <;> omega
          · rw [if_neg f1]; simp
        · have e4 : ind (dis n (W i) (W k) = (d : Int)) = 0 := by unfold ind; rw [if_neg hdk]
          rw [e4, Int.mul_zero]
          have := sumW_le (q := 2) (n := n) (F := fun y => ind (dis n y (W i) = ((t + 1 : Nat) : Int)) * ind (dis n y (W k) ≤ (t : Int))) (G := fun _ => 0) fun y => by
            have htr := dis_tri n (W i) (W k) y
            unfold ind
            by_cases f1 : dis n y (W i) = ((t + 1 : Nat) : Int)
            · by_cases f2 : dis n y (W k) ≤ (t : Int)
              · exfalso
                by_cases e : i = k
                · subst e; omega
                · have := h.far i k hi hk e
                  omega
              · rw [if_neg f2]; simp
            · rw [if_neg f1]; simp
          rw [sumW_const (2 : Int) 0 2 n rfl, Int.mul_zero] at this
          exact this
      rw [sig_mul] at s1
      refine Int.le_trans s1 (Int.mul_le_mul_of_nonneg_left ?_ (by omega))
      exact sphere_few h hd (W i) (fun j hj => h.lt i j hi hj)
    rw [hX]
    unfold johX
    rw [ht]
    rw [e2] at pos ⊢
    rw [← Int.natCast_mul] at e3
    omega
  have low : (M : Int) * X ≤ sumW 2 n (fun y => sig M (fun i => ind (dis n y (W i) = ((t + 1 : Nat) : Int))) * (1 - sig M (fun i => ind (dis n y (W i) ≤ (t : Int))))) := by
    have e1 : ∀ y, sig M (fun i => ind (dis n y (W i) = ((t + 1 : Nat) : Int))) * (1 - sig M (fun i => ind (dis n y (W i) ≤ (t : Int)))) = sig M (fun i => ind (dis n y (W i) = ((t + 1 : Nat) : Int)) * (1 - sig M (fun k => ind (dis n y (W k) ≤ (t : Int))))) := fun y => by
      rw [Int.mul_comm, ← sig_mul]
      exact sig_congr fun i _ => Int.mul_comm _ _
    rw [sumW_congr e1, sumW_sig, ← sig_const M (X : Int)]
    exact sig_le each
  have fin := Int.le_trans low up
  unfold johN
  rw [ht, ← hX, ← hV, ← hm]
  rw [Nat.le_div_iff_mul_le (Nat.add_pos_left (Nat.mul_pos (by omega) hVp) _)]
  have e1 : ((M * (m * V + X) : Nat) : Int) = (m : Int) * (M * V) + M * X := by
    simp only [Int.natCast_mul, Int.natCast_add]; grind
  have e2 : ((m * 2 ^ n : Nat) : Int) = (m : Int) * 2 ^ n := by simp
  rw [Int.mul_sub] at fin
  omega
theorem johnson {n d M : Nat} {W : Nat → Nat → Nat} (h : Words 2 n d M W) (hd : 1 ≤ d) (hdn : d ≤ n) : M ≤ johA n d := by
  unfold johA
  split
  · rename_i he
    refine johnson_odd (t := (d - 2) / 2) (W := W) (M := M) (n := n - 1) (d := d - 1) ⟨fun i j hi hj => h.lt i j hi (by omega), fun i k hi hk hne => ?_⟩ (by omega) (by omega)
    have := h.far i k hi hk hne
    obtain ⟨n', rfl⟩ : ∃ n', n = n' + 1 := ⟨n - 1, by omega⟩
    have e : dis (n' + 1) (W i) (W k) = dis n' (W i) (W k) + ind (W i n' ≠ W k n') := rfl
    have := ind_01 (W i n' ≠ W k n')
    rw [Nat.add_sub_cancel]
    omega
  · exact johnson_odd (t := d / 2) h (by omega) hdn
theorem constant_bound {n d M w : Nat} {W : Nat → Nat → Nat} (h : Words 2 n d M W) (hd : 1 ≤ d) : sig M (fun i => ind (wt n (W i) = (w : Int))) ≤ (conN ((d + 1) / 2) n w : Int) := by
  refine conN_bound (by omega) n w M W (fun i => wt n (W i) = (w : Int)) (fun i hi _ j hj => h.lt i j hi hj) (fun i hi p => p) (fun i k hi hk p1 p2 hne => ?_)
  have h1 := dis_ovl (fun j hj => h.lt i j hi hj) (fun j hj => h.lt k j hk hj)
  have := h.far i k hi hk hne
  omega
end Go.Proofs.Ytgininddoalenaa
