/- The least path: first edge of least cost from each node. -/
import Derived.Test.YtnocbkhnmdmfhaaBwd
namespace Go.Proofs.Ytnocbkhnmdmfhaa
open Go.RowKit

section
variable {T : Trel} {y : Nat → Nat → Int}
theorem Trel.bwE_le {next : Nat → Int} {i : Nat} {v : Nat} : ∀ j q, q < j → (T.fr i q).toNat = v → T.bwE y next i j v ≤ capI (y i q) (next (T.to i q).toNat) := by
  intro j
  induction j with
  | zero => intro q hq; omega
  | succ j ih =>
    intro q hq hf
    show (if (T.fr i j).toNat = v then _ else _) ≤ _
    by_cases e : q = j
    · subst e
      rw [if_pos hf]
      exact Int.min_le_right _ _
    · have := ih q (by omega) hf
      split
      · exact Int.le_trans (Int.min_le_left _ _) this
      · exact this
theorem Trel.bwE_att {next : Nat → Int} {i : Nat} {v : Nat} : ∀ j, T.bwE y next i j v = 4611686018427387904 ∨ ∃ q, q < j ∧ (T.fr i q).toNat = v ∧ T.bwE y next i j v = capI (y i q) (next (T.to i q).toNat) := by
  intro j
  induction j with
  | zero => exact .inl rfl
  | succ j ih =>
    have e : T.bwE y next i (j + 1) v = if (T.fr i j).toNat = v then min (T.bwE y next i j v) (capI (y i j) (next (T.to i j).toNat)) else T.bwE y next i j v := rfl
    rw [e]
    by_cases h : (T.fr i j).toNat = v
    · rw [if_pos h]
      by_cases h2 : T.bwE y next i j v ≤ capI (y i j) (next (T.to i j).toNat)
      · rw [Int.min_eq_left h2]
        rcases ih with h3 | ⟨q, h3, h4, h5⟩
        · exact .inl h3
        · exact .inr ⟨q, by omega, h4, h5⟩
      · rw [Int.min_eq_right (by omega)]
        exact .inr ⟨j, by omega, h, rfl⟩
    · rw [if_neg h]
      rcases ih with h3 | ⟨q, h3, h4, h5⟩
      · exact .inl h3
      · exact .inr ⟨q, by omega, h4, h5⟩
theorem Trel.bw_step (T : Trel) (y : Nat → Nat → Int) {i : Nat} (hi : i < T.n) (v : Nat) : T.bw y (T.n - i) v = T.bwE y (T.bw y (T.n - (i + 1))) i (T.el i) v := by
  have e : T.n - i = (T.n - (i + 1)) + 1 := by omega
  rw [e]
  show T.bwE y (T.bw y (T.n - (i + 1))) (T.n - (T.n - (i + 1) + 1)) (T.el (T.n - (T.n - (i + 1) + 1))) v = _
  rw [show T.n - (T.n - (i + 1) + 1) = i by omega]
theorem Trel.bw_le (hP : T.Proper) (hy : Costs T y) : ∀ r, r ≤ T.n → ∀ v : Nat, (v : Int) < T.W (T.n - r) → T.bw y r v ≤ (r : Int) * 2147483648 := by
  intro r
  induction r with
  | zero =>
    intro _ v hv
    have := hP.wn
    rw [Nat.sub_zero] at hv
    obtain rfl : v = 0 := by omega
    show (if 0 = 0 then (0 : Int) else _) ≤ _
    rw [if_pos rfl]
    omega
  | succ r ih =>
    intro hr v hv
    obtain ⟨j, hj⟩ := Trel.outs_pos hP (i := T.n - (r + 1)) (by omega) (by omega) hv
    obtain ⟨hj1, hj2⟩ := Trel.outs_mem.1 hj
    have h2 := hP.shape.ins (T.n - (r + 1)) (by omega) j hj1
    unfold Trel.inside at h2
    have e : T.n - (r + 1) + 1 = T.n - r := by omega
    rw [e] at h2
    have h3 := ih (by omega) (T.to (T.n - (r + 1)) j).toNat (by omega)
    have h4 := Trel.bwE_le (T := T) (y := y) (next := T.bw y r) (i := T.n - (r + 1)) (v := v) _ j hj1 (by omega)
    have h5 := hy (T.n - (r + 1)) (by omega) j hj1
    have h6 := hP.shape.n64
    have h7 : capI (y (T.n - (r + 1)) j) (T.bw y r (T.to (T.n - (r + 1)) j).toNat) = y (T.n - (r + 1)) j + T.bw y r (T.to (T.n - (r + 1)) j).toNat := capI_small (by omega)
    show T.bwE y (T.bw y r) (T.n - (r + 1)) (T.el (T.n - (r + 1))) v ≤ _
    rw [h7] at h4
    have h8 : ((r + 1 : Nat) : Int) * 2147483648 = (r : Int) * 2147483648 + 2147483648 := by omega
    omega
/-- Edge j leads from node v along a least path. -/
def Trel.lp (T : Trel) (y : Nat → Nat → Int) (i v j : Nat) : Bool := (T.fr i j == (v : Int)) && (y i j + T.bw y (T.n - (i + 1)) (T.to i j).toNat == T.bw y (T.n - i) v)
theorem Trel.lp_ex (hP : T.Proper) (hy : Costs T y) {i v : Nat} (hi : i < T.n) (hv : (v : Int) < T.W i) : ∃ j, j < T.el i ∧ T.lp y i v j = true := by
  have h1 := Trel.bw_le hP hy (T.n - i) (by omega) v (by rw [show T.n - (T.n - i) = i by omega]; exact hv)
  have h2 := hP.shape.n64
  rw [Trel.bw_step T y hi] at h1
  rcases Trel.bwE_att (T := T) (y := y) (next := T.bw y (T.n - (i + 1))) (i := i) (v := v) (T.el i) with h3 | ⟨q, h3, h4, h5⟩
  · omega
  · refine ⟨q, h3, ?_⟩
    have h6 := hP.shape.ins i hi q h3
    unfold Trel.inside at h6
    unfold Trel.lp
    rw [Trel.bw_step T y hi, h5, Bool.and_eq_true, beq_iff_eq, beq_iff_eq]
    rw [h5] at h1
    unfold capI at h1 ⊢
    refine ⟨by omega, ?_⟩
    split
    · rename_i h7
      rw [if_pos h7] at h1
      omega
    · rfl
/-- The first index below m that p holds at. -/
def firstOf (p : Nat → Bool) (m : Nat) : Nat := ((List.range m).find? p).getD m
theorem firstOf_eq {p : Nat → Bool} {m j : Nat} (hj : j < m) (hp : p j = true) (hn : ∀ q, q < j → p q = false) : firstOf p m = j := by
  unfold firstOf
  have : (List.range m).find? p = some j := by
    rw [List.find?_range_eq_some]
    exact ⟨hp, List.mem_range.2 hj, fun q hq => by rw [hn q hq]; rfl⟩
  rw [this]
  rfl
/-- The nodes of the least path, and its labels. -/
def Trel.nd (T : Trel) (y : Nat → Nat → Int) : Nat → Nat
  | 0 => 0
  | i + 1 => (T.to i (firstOf (T.lp y i (T.nd y i)) (T.el i))).toNat
def Trel.wd (T : Trel) (y : Nat → Nat → Int) (i : Nat) : Int := T.lb i (firstOf (T.lp y i (T.nd y i)) (T.el i))
theorem Trel.nd_step {i j : Nat} (hj : j < T.el i) (hp : T.lp y i (T.nd y i) j = true) (hn : ∀ q, q < j → T.lp y i (T.nd y i) q = false) : T.nd y (i + 1) = (T.to i j).toNat ∧ T.wd y i = T.lb i j := by
  have := firstOf_eq hj hp hn
  exact ⟨by show (T.to i (firstOf _ _)).toNat = _; rw [this], by show T.lb i (firstOf _ _) = _; rw [this]⟩
end
end Go.Proofs.Ytnocbkhnmdmfhaa
