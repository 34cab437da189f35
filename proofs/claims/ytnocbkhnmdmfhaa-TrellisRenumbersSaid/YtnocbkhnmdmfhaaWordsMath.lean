/- The words of a trellis: by depth and by levels. -/
import Derived.Test.YtnocbkhnmdmfhaaAccepts47
namespace Go.Proofs.Ytnocbkhnmdmfhaa
open Go.RowKit

/-- The edges of section i that lead from node v, among the first m. -/
def Trel.outs (T : Trel) (i : Nat) (v : Int) (m : Nat) : List Nat := (List.range m).filter fun j => T.fr i j == v
/-- The labels of the paths from node v, r sections ahead of the end. -/
def Trel.dn (T : Trel) : Nat → Int → List (List Int)
  | 0, _ => [[]]
  | r + 1, v => (T.outs (T.n - (r + 1)) v (T.el (T.n - (r + 1)))).flatMap fun j => (T.dn r (T.to (T.n - (r + 1)) j)).map fun q => T.lb (T.n - (r + 1)) j :: q
/-- One more edge behind a path. -/
def Trel.ext (T : Trel) (i m : Nat) (x : List Int × Int) : List (List Int × Int) := (T.outs i x.2 m).map fun j => (x.1 ++ [T.lb i j], T.to i j)
/-- The paths of i edges from the root, with their ends. -/
def Trel.lev (T : Trel) : Nat → List (List Int × Int)
  | 0 => [([], 0)]
  | i + 1 => (T.lev i).flatMap (T.ext i (T.el i))
theorem Trel.outs_succ (T : Trel) (i : Nat) (v : Int) (m : Nat) : T.outs i v (m + 1) = T.outs i v m ++ if T.fr i m = v then [m] else [] := by
  unfold Trel.outs
  rw [List.range_succ, List.filter_append]
  by_cases h : T.fr i m = v
  · simp [h]
  · simp [h]
theorem Trel.outs_mem {T : Trel} {i m j : Nat} {v : Int} : j ∈ T.outs i v m ↔ j < m ∧ T.fr i j = v := by
  simp [Trel.outs]
theorem Trel.ext_succ (T : Trel) (i m : Nat) (x : List Int × Int) : T.ext i (m + 1) x = T.ext i m x ++ if T.fr i m = x.2 then [(x.1 ++ [T.lb i m], T.to i m)] else [] := by
  unfold Trel.ext
  rw [Trel.outs_succ, List.map_append]
  congr 1
  split <;> simp
theorem Trel.lev_dn (T : Trel) : ∀ i, i ≤ T.n → (T.lev i).flatMap (fun x => (T.dn (T.n - i) x.2).map fun q => x.1 ++ q) = T.dn T.n 0 := by
  intro i
  induction i with
  | zero => intro _; simp [Trel.lev]
  | succ i ih =>
    intro hi
    rw [← ih (by omega)]
    show ((T.lev i).flatMap (T.ext i (T.el i))).flatMap _ = _
    rw [List.flatMap_assoc]
    congr 1
    funext x
    have e : T.n - i = (T.n - (i + 1)) + 1 := by omega
    rw [e]
    show _ = (List.flatMap _ (T.outs _ _ _)).map _
    have e2 : T.n - (T.n - (i + 1) + 1) = i := by omega
    rw [e2, List.map_flatMap]
    unfold Trel.ext
    rw [List.flatMap_map]
    congr 1
    funext j
    simp [List.map_map, Function.comp_def]
theorem Trel.lev_words (T : Trel) : (T.lev T.n).map (·.1) = T.dn T.n 0 := by
  rw [← Trel.lev_dn T T.n (Nat.le_refl _)]
  have : ∀ l : List (List Int × Int), l.map (·.1) = l.flatMap (fun x => (T.dn (T.n - T.n) x.2).map fun q => x.1 ++ q) := by
    intro l
    induction l with
    | nil => rfl
    | cons a l ih => rw [List.map_cons, List.flatMap_cons, ih, Nat.sub_self]; simp [Trel.dn]
  exact this _
theorem Trel.lev_in {T : Trel} (h : T.Proper) : ∀ i, i ≤ T.n → ∀ x, x ∈ T.lev i → x.1.length = i ∧ 0 ≤ x.2 ∧ x.2 < T.W i := by
  intro i
  induction i with
  | zero =>
    intro _ x hx
    simp [Trel.lev] at hx
    subst hx
    exact ⟨rfl, Int.le_refl _, by have := h.w0; show (0 : Int) < _; omega⟩
  | succ i ih =>
    intro hi x hx
    simp only [Trel.lev, List.mem_flatMap] at hx
    obtain ⟨y, hy, hx⟩ := hx
    unfold Trel.ext at hx
    rw [List.mem_map] at hx
    obtain ⟨j, hj, rfl⟩ := hx
    have h1 := ih (by omega) y hy
    have h2 := h.shape.ins i (by omega) j (Trel.outs_mem.1 hj).1
    unfold Trel.inside at h2
    refine ⟨by simp [h1.1], ?_, ?_⟩ <;> simp only <;> omega
theorem Trel.outs_pos {T : Trel} (h : T.Proper) {i : Nat} (hi : i < T.n) {v : Int} (h0 : 0 ≤ v) (h1 : v < T.W i) : ∃ j, j ∈ T.outs i v (T.el i) := by
  have h2 := (h.sec i hi).2.1 v.toNat (by omega)
  obtain ⟨j, hj, e⟩ := hitB_iff.1 h2
  exact ⟨j, Trel.outs_mem.2 ⟨hj, by omega⟩⟩
theorem Trel.dn_pos {T : Trel} (h : T.Proper) : ∀ r, r ≤ T.n → ∀ v, 0 ≤ v → v < T.W (T.n - r) → 1 ≤ (T.dn r v).length := by
  intro r
  induction r with
  | zero => intro _ v _ _; simp [Trel.dn]
  | succ r ih =>
    intro hr v h0 h1
    obtain ⟨j, hj⟩ := Trel.outs_pos h (i := T.n - (r + 1)) (by omega) h0 h1
    have h2 := h.shape.ins (T.n - (r + 1)) (by omega) j (Trel.outs_mem.1 hj).1
    unfold Trel.inside at h2
    have e : T.n - (r + 1) + 1 = T.n - r := by omega
    rw [e] at h2
    have h3 := ih (by omega) (T.to (T.n - (r + 1)) j) (by omega) (by omega)
    obtain ⟨q, hq⟩ := List.exists_mem_of_length_pos (show 0 < (T.dn r (T.to (T.n - (r + 1)) j)).length by omega)
    show 1 ≤ (List.flatMap _ _).length
    exact List.length_pos_of_mem (List.mem_flatMap.2 ⟨j, hj, List.mem_map.2 ⟨q, hq, rfl⟩⟩)
theorem flatMap_len_ge {α β : Type} (f : α → List β) : ∀ l : List α, (∀ x, x ∈ l → 1 ≤ (f x).length) → l.length ≤ (l.flatMap f).length := by
  intro l
  induction l with
  | nil => intro _; simp
  | cons a l ih =>
    intro h
    have h1 := h a (by simp)
    have h2 := ih fun x hx => h x (by simp [hx])
    simp only [List.flatMap_cons, List.length_append, List.length_cons]
    omega
theorem Trel.lev_le {T : Trel} (h : T.Proper) (i : Nat) (hi : i ≤ T.n) : (T.lev i).length ≤ (T.dn T.n 0).length := by
  rw [← Trel.lev_dn T i hi]
  refine flatMap_len_ge _ _ fun x hx => ?_
  have h1 := Trel.lev_in h i hi x hx
  rw [List.length_map]
  exact Trel.dn_pos h _ (by omega) _ h1.2.1 (by rw [show T.n - (T.n - i) = i by omega]; exact h1.2.2)
/-- How many of the paths of i edges end at node v. -/
def endsAt (l : List (List Int × Int)) (v : Nat) : Nat := l.countP fun x => x.2.toNat == v
theorem countP_flatMap_ext (T : Trel) (i u : Nat) (prev : Nat → Nat) (l : List (List Int × Int)) (hl : ∀ x, x ∈ l → 0 ≤ x.2) (hp : ∀ v, prev v = endsAt l v) : ∀ m, (∀ j, j < m → 0 ≤ T.fr i j) → endsAt (l.flatMap (T.ext i m)) u = T.fwdE (fun _ _ => 1) prev i m u := by
  intro m
  induction m with
  | zero =>
    intro _
    have : l.flatMap (T.ext i 0) = [] := by
      rw [List.flatMap_eq_nil_iff]
      intro x _
      simp [Trel.ext, Trel.outs]
    rw [this]
    rfl
  | succ m ih =>
    intro hm
    show _ = T.fwdE (fun _ _ => 1) prev i m u + if (T.to i m).toNat = u then prev (T.fr i m).toNat * 1 else 0
    rw [← ih fun j hj => hm j (by omega), hp]
    have h0 := hm m (by omega)
    clear hp ih hm
    unfold endsAt
    induction l with
    | nil => simp
    | cons a l ih =>
      have ih := ih fun x hx => hl x (by simp [hx])
      have ha := hl a (by simp)
      simp only [List.flatMap_cons, List.countP_append, ih, Trel.ext_succ, List.countP_cons]
      by_cases e : T.fr i m = a.2
      · by_cases e2 : (T.to i m).toNat = u
        · simp [e, e2]; omega
        · simp [e, e2]
      · have e3 : ¬ a.2.toNat = (T.fr i m).toNat := by omega
        by_cases e2 : (T.to i m).toNat = u
        · simp [e, e2, e3]; omega
        · simp [e, e2]
theorem Trel.ends_fwd {T : Trel} (h : T.Proper) : ∀ i, i ≤ T.n → ∀ v, T.fwd (fun _ _ => 1) i v = endsAt (T.lev i) v := by
  intro i
  induction i with
  | zero =>
    intro _ v
    show (if v = 0 then 1 else 0) = _
    unfold endsAt Trel.lev
    by_cases e : v = 0
    · subst e; rfl
    · have : ¬ 0 = v := fun h => e h.symm
      simp [e, this]
  | succ i ih =>
    intro hi v
    show T.fwdE _ _ i (T.el i) v = _
    exact (countP_flatMap_ext T i v _ _ (fun x hx => (Trel.lev_in h i (by omega) x hx).2.1) (ih (by omega)) _ fun j hj => by
      have := h.shape.ins i (by omega) j hj
      unfold Trel.inside at this
      omega).symm
theorem Trel.words_len {T : Trel} (h : T.Proper) : (T.dn T.n 0).length = T.fwd (fun _ _ => 1) T.n 0 := by
  rw [Trel.ends_fwd h T.n (Nat.le_refl _), ← Trel.lev_words, List.length_map]
  unfold endsAt
  refine (List.countP_eq_length.2 fun x hx => ?_).symm
  have h1 := Trel.lev_in h T.n (Nat.le_refl _) x hx
  have := h.wn
  rw [beq_iff_eq]
  omega
end Go.Proofs.Ytnocbkhnmdmfhaa
