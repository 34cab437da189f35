/- The least costs of the paths to the end. -/
import Derived.Test.YtnocbkhnmdmfhaaMinPlus
import Derived.Test.YtnocbkhnmdmfhaaTrelProper
import Derived.Test.YtnocbkhnmdmfhaaWordsMath
namespace Go.Proofs.Ytnocbkhnmdmfhaa
open Go.RowKit

/-- The least cost from node v over the first edges of section i. -/
def Trel.bwE (T : Trel) (y : Nat → Nat → Int) (next : Nat → Int) (i : Nat) : Nat → Nat → Int
  | 0, _ => 4611686018427387904
  | j + 1, v => if (T.fr i j).toNat = v then min (T.bwE y next i j v) (capI (y i j) (next (T.to i j).toNat)) else T.bwE y next i j v
/-- The least cost of the paths to the end from node v, r sections ahead of it. -/
def Trel.bw (T : Trel) (y : Nat → Nat → Int) : Nat → Nat → Int
  | 0, v => if v = 0 then 0 else 4611686018427387904
  | r + 1, v => T.bwE y (T.bw y r) (T.n - (r + 1)) (T.el (T.n - (r + 1))) v
/-- What the table holds when the sections behind i are done and j edges of section i. -/
def Trel.bwX (T : Trel) (y : Nat → Nat → Int) (i j u v : Nat) : Int := if i < u then T.bw y (T.n - u) v else if u = i then T.bwE y (T.bw y (T.n - (i + 1))) i j v else 4611686018427387904
def Costs (T : Trel) (y : Nat → Nat → Int) : Prop := ∀ i, i < T.n → ∀ j, j < T.el i → 0 ≤ y i j ∧ y i j ≤ 2147483648
section
variable {T : Trel} {y : Nat → Nat → Int}
theorem Trel.bwE_cost {next : Nat → Int} {i : Nat} (hn : ∀ v, Cost (next v)) : ∀ j, (∀ q, q < j → Cost (y i q)) → ∀ v, Cost (T.bwE y next i j v) := by
  intro j
  induction j with
  | zero => intro _ v; show Cost 4611686018427387904; unfold Cost; omega
  | succ j ih =>
    intro hy v
    have h1 := ih (fun q hq => hy q (by omega)) v
    show Cost (if _ then _ else _)
    split
    · exact min_cost h1 (capI_cost (hy j (by omega)) (hn _))
    · exact h1
theorem Costs.cost (h : Costs T y) {i j : Nat} (hi : i < T.n) (hj : j < T.el i) : Cost (y i j) := by
  have := h i hi j hj
  unfold Cost
  omega
theorem Trel.bw_cost (h : Costs T y) : ∀ r, r ≤ T.n → ∀ v, Cost (T.bw y r v) := by
  intro r
  induction r with
  | zero => intro _ v; show Cost (if v = 0 then 0 else _); unfold Cost; split <;> omega
  | succ r ih =>
    intro hr v
    exact Trel.bwE_cost (ih (by omega)) _ (fun q hq => h.cost (by omega) hq) v
theorem Trel.bwX_cost (h : Costs T y) {i j : Nat} (hi : i < T.n) (hj : j ≤ T.el i) (u v : Nat) : Cost (T.bwX y i j u v) := by
  unfold Trel.bwX
  split
  · exact Trel.bw_cost h _ (by omega) _
  · split
    · exact Trel.bwE_cost (Trel.bw_cost h _ (by omega)) _ (fun q hq => h.cost hi (by omega)) _
    · unfold Cost; omega
theorem Trel.bwX_put (i j u v : Nat) {fn tn : Nat} (hf : (T.fr i j).toNat = fn) (ht : (T.to i j).toNat = tn) :
    (fun u' j' => if u' = i ∧ j' = fn then min (T.bwX y i j i fn) (capI (y i j) (T.bwX y i j (i + 1) tn)) else T.bwX y i j u' j') u v = T.bwX y i (j + 1) u v := by
  have e1 : T.bwX y i j i fn = T.bwE y (T.bw y (T.n - (i + 1))) i j fn := by
    unfold Trel.bwX
    rw [if_neg (by omega), if_pos rfl]
  have e2 : T.bwX y i j (i + 1) tn = T.bw y (T.n - (i + 1)) tn := by
    unfold Trel.bwX
    rw [if_pos (by omega)]
  simp only [e1, e2]
  by_cases h : i < u
  · rw [if_neg (by omega)]
    unfold Trel.bwX
    rw [if_pos h, if_pos h]
  · by_cases h2 : u = i
    · subst h2
      have e3 : T.bwX y u (j + 1) u v = if (T.fr u j).toNat = v then min (T.bwE y (T.bw y (T.n - (u + 1))) u j v) (capI (y u j) (T.bw y (T.n - (u + 1)) (T.to u j).toNat)) else T.bwE y (T.bw y (T.n - (u + 1))) u j v := by
        show (if u < u then _ else if u = u then T.bwE y (T.bw y (T.n - (u + 1))) u (j + 1) v else _) = _
        rw [if_neg (by omega), if_pos rfl]
        rfl
      rw [e3, hf, ht]
      by_cases h3 : v = fn
      · subst h3
        rw [if_pos ⟨rfl, rfl⟩, if_pos rfl]
      · rw [if_neg fun hh => h3 hh.2, if_neg fun hh => h3 hh.symm]
        unfold Trel.bwX
        rw [if_neg (by omega), if_pos rfl]
    · rw [if_neg fun hh => h2 hh.1]
      unfold Trel.bwX
      rw [if_neg h, if_neg h2, if_neg h, if_neg h2]
theorem Trel.bwX_next {i : Nat} (hi : i < T.n) (u v : Nat) : T.bwX y i (T.el i) u v = if i ≤ u then T.bw y (T.n - u) v else 4611686018427387904 := by
  unfold Trel.bwX
  by_cases h : i < u
  · rw [if_pos h, if_pos (by omega)]
  · rw [if_neg h]
    by_cases h2 : u = i
    · subst h2
      rw [if_pos rfl, if_pos (Nat.le_refl _)]
      have e : T.n - u = (T.n - (u + 1)) + 1 := by omega
      rw [e]
      show _ = T.bwE y (T.bw y (T.n - (u + 1))) (T.n - (T.n - (u + 1) + 1)) (T.el (T.n - (T.n - (u + 1) + 1))) v
      rw [show T.n - (T.n - (u + 1) + 1) = u by omega]
    · rw [if_neg h2, if_neg (by omega)]
theorem Trel.bwX_first {i : Nat} (u v : Nat) : T.bwX y i 0 u v = if i + 1 ≤ u then T.bw y (T.n - u) v else 4611686018427387904 := by
  unfold Trel.bwX
  by_cases h : i < u
  · rw [if_pos h, if_pos (by omega)]
  · rw [if_neg h, if_neg (show ¬ i + 1 ≤ u by omega)]
    split
    · rfl
    · rfl
end
end Go.Proofs.Ytnocbkhnmdmfhaa
