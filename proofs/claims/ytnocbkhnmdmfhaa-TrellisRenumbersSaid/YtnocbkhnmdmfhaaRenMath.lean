/- The new numbers of the nodes of a proper trellis: ranks by the least path labels. -/
import Derived.Test.YtnocbkhnmdmfhaaRank
import Derived.Test.YtnocbkhnmdmfhaaEdge
import Derived.Test.YtnocbkhnmdmfhaaAccepts47
namespace Go.Proofs.Ytnocbkhnmdmfhaa

/-! ### Groups -/
/-- The numbers below e in groups: first those with g = 0, then those with g = 1, .. -/
def grp (g : Nat → Nat) (e u : Nat) : List Nat := (List.range u).flatMap fun a => (List.range e).filter fun j => g j = a
def grpA (g : Nat → Nat) (e u j : Nat) : List Nat := grp g e u ++ (List.range j).filter fun q => g q = u
theorem grpA_zero (g : Nat → Nat) (e : Nat) : grpA g e 0 0 = [] := rfl
theorem grpA_next (g : Nat → Nat) (e u : Nat) : grpA g e u e = grpA g e (u + 1) 0 := by
  unfold grpA grp
  rw [List.range_succ, List.flatMap_append]
  simp
theorem grpA_pos {g : Nat → Nat} {e u j : Nat} (h : g j = u) : grpA g e u (j + 1) = grpA g e u j ++ [j] := by
  unfold grpA
  rw [List.range_succ, List.filter_append, List.append_assoc]
  simp [h]
theorem grpA_neg {g : Nat → Nat} {e u j : Nat} (h : ¬ g j = u) : grpA g e u (j + 1) = grpA g e u j := by
  unfold grpA
  rw [List.range_succ, List.filter_append]
  simp [h]
theorem grpA_end (g : Nat → Nat) (e u : Nat) : grpA g e u 0 = grp g e u := by unfold grpA; simp
theorem mem_grp {g : Nat → Nat} {e u j : Nat} : j ∈ grp g e u ↔ j < e ∧ g j < u := by
  unfold grp
  simp only [List.mem_flatMap, List.mem_range, List.mem_filter, decide_eq_true_eq]
  constructor
  · rintro ⟨a, h1, h2, h3⟩; exact ⟨h2, by omega⟩
  · rintro ⟨h1, h2⟩; exact ⟨g j, h2, h1, rfl⟩
theorem mem_grpA {g : Nat → Nat} {e u j q : Nat} : q ∈ grpA g e u j ↔ q < e ∧ g q < u ∨ q < j ∧ g q = u := by
  unfold grpA
  rw [List.mem_append, mem_grp]
  simp
theorem grp_pairwise {g : Nat → Nat} {e u : Nat} {R : Nat → Nat → Prop} (h1 : ∀ a b, a < e → b < e → g a < g b → R a b) (h2 : ∀ a b, a < b → b < e → g a = g b → R a b) : (grp g e u).Pairwise R := by
  unfold grp
  rw [List.pairwise_flatMap]
  refine ⟨fun a _ => ?_, ?_⟩
  · refine List.Pairwise.filter _ ?_ |>.imp_of_mem ?_ (R := fun x y => x < y)
    · exact List.pairwise_lt_range
    · intro x y hx hy hxy
      simp only [List.mem_filter, List.mem_range, decide_eq_true_eq] at hx hy
      exact h2 x y hxy hy.1 (by omega)
  · refine List.pairwise_lt_range.imp ?_
    intro a b hab x hx y hy
    simp only [List.mem_filter, List.mem_range, decide_eq_true_eq] at hx hy
    exact h1 x y hx.1 hy.1 (by omega)
theorem grp_perm {g : Nat → Nat} {e u : Nat} (h : ∀ j, j < e → g j < u) : (grp g e u).Perm (List.range e) := by
  refine (List.perm_ext_iff_of_nodup ?_ List.nodup_range).2 fun j => ?_
  · exact grp_pairwise (fun a b _ _ h e => by subst e; omega) (fun a b h _ _ e => by omega)
  · rw [mem_grp, List.mem_range]
    exact ⟨fun h => h.1, fun hj => ⟨hj, h j hj⟩⟩

/-! ### First visits -/
def firsts (l : List Nat) : List Nat := l.foldl (fun a v => if v ∈ a then a else a ++ [v]) []
theorem firsts_one (l : List Nat) (v : Nat) : firsts (l ++ [v]) = if v ∈ firsts l then firsts l else firsts l ++ [v] := by
  unfold firsts
  rw [List.foldl_append]
  rfl
theorem mem_firsts {l : List Nat} {v : Nat} : v ∈ firsts l ↔ v ∈ l := by
  have key : ∀ m : List Nat, v ∈ firsts m.reverse ↔ v ∈ m.reverse := by
    intro m
    induction m with
    | nil => exact Iff.rfl
    | cons a m ih =>
      rw [List.reverse_cons, firsts_one, List.mem_append, ← ih]
      by_cases h : a ∈ firsts m.reverse
      · rw [if_pos h]
        constructor
        · exact .inl
        · rintro (h1 | h1)
          · exact h1
          · obtain rfl : v = a := by simpa using h1
            exact h
      · rw [if_neg h, List.mem_append]
  have := key l.reverse
  rwa [List.reverse_reverse] at this
theorem firsts_pairwise {R : Nat → Nat → Prop} {f : Nat → Nat} {V : List Nat} (h : ∀ A B j, V = A ++ j :: B → (∀ a, a ∈ A → f a ≠ f j) → ∀ a, a ∈ A → R (f a) (f j)) : (firsts (V.map f)).Pairwise R := by
  have key : ∀ (m B : List Nat), V = m.reverse ++ B → (firsts (m.reverse.map f)).Pairwise R := by
    intro m
    induction m with
    | nil => intro B _; exact List.Pairwise.nil
    | cons a m ih =>
      intro B hB
      rw [List.reverse_cons, List.append_assoc] at hB
      have h1 := ih _ hB
      rw [List.reverse_cons, List.map_append, List.map_singleton, firsts_one]
      by_cases hm : f a ∈ firsts (m.reverse.map f)
      · rw [if_pos hm]; exact h1
      · rw [if_neg hm, List.pairwise_append]
        refine ⟨h1, List.pairwise_singleton _ _, ?_⟩
        intro x hx y hy
        obtain rfl : y = f a := by simpa using hy
        rw [mem_firsts, List.mem_map] at hx hm
        obtain ⟨q, hq, rfl⟩ := hx
        exact h m.reverse B a hB (fun b hb e => hm ⟨b, hb, e⟩) q hq
  have := key V.reverse [] (by simp)
  rwa [List.reverse_reverse] at this

/-- Distinct members of m, as many as m has: m itself. -/
theorem perm_of_nodup : ∀ {l m : List Nat}, l.Nodup → (∀ x, x ∈ l → x ∈ m) → m.length ≤ l.length → l.Perm m := by
  intro l
  induction l with
  | nil =>
    intro m _ _ h
    obtain rfl : m = [] := List.length_eq_zero_iff.1 (by simpa using h)
    exact List.Perm.refl _
  | cons a l ih =>
    intro m h1 h2 h3
    have ha := h2 a (by simp)
    rw [List.nodup_cons] at h1
    have hl := List.length_erase_of_mem ha
    have hp := ih (m := m.erase a) h1.2 (fun x hx => (List.mem_erase_of_ne (fun e : x = a => h1.1 (by rw [← e]; exact hx))).2 (h2 x (by simp [hx]))) (by simp at h3; omega)
    exact (hp.cons a).trans (List.perm_cons_erase ha).symm
/-! ### Keys and numbers -/
/-- The number of the node that edge j of section i leaves, and its label, in one number. -/
def Trel.code (T : Trel) (f : Nat → Nat) (i j : Nat) : Nat := f (T.fr i j).toNat * 256 + (T.lb i j).toNat
/-- The least code of the first j edges into v. -/
def Trel.kt (T : Trel) (f : Nat → Nat) (i : Nat) : Nat → Nat → Nat
  | 0, _ => 1099511627776
  | j + 1, v => if (T.to i j).toNat = v ∧ T.code f i j < T.kt f i j v then T.code f i j else T.kt f i j v
/-- The new number of node v at time i. -/
def Trel.nm (T : Trel) : Nat → Nat → Nat
  | 0, _ => 0
  | i + 1, v => rankOf (T.kt (T.nm i) i (T.el i)) (T.W (i + 1)).toNat v
/-- Edge j of section i, renumbered. -/
def Trel.tri (T : Trel) (i j : Nat) : Int × Int × Int := ((T.nm i (T.fr i j).toNat : Nat), T.lb i j, (T.nm (i + 1) (T.to i j).toNat : Nat))
section
variable {T : Trel} {f : Nat → Nat} {i : Nat}
theorem Trel.kt_le : ∀ {j q : Nat}, q < j → T.kt f i j (T.to i q).toNat ≤ T.code f i q := by
  intro j
  induction j with
  | zero => intro q h; omega
  | succ j ih =>
    intro q h
    unfold Trel.kt
    by_cases e : q = j
    · subst e
      split
      · exact Nat.le_refl _
      · rename_i h1
        simp at h1
        exact h1
    · have h1 := ih (q := q) (by omega)
      split
      · omega
      · exact h1
theorem Trel.kt_att : ∀ {j v : Nat}, T.kt f i j v = 1099511627776 ∨ ∃ q, q < j ∧ (T.to i q).toNat = v ∧ T.kt f i j v = T.code f i q := by
  intro j v
  induction j with
  | zero => exact .inl rfl
  | succ j ih =>
    unfold Trel.kt
    split
    · rename_i h
      exact .inr ⟨j, by omega, h.1, rfl⟩
    · rcases ih with h | ⟨q, h1, h2, h3⟩
      · exact .inl h
      · exact .inr ⟨q, by omega, h2, h3⟩
end
section
variable {T : Trel} (h : T.Proper)
include h
theorem Trel.Proper.nm_lt {i v : Nat} (hi : i ≤ T.n) (hv : v < (T.W i).toNat) : T.nm i v < (T.W i).toNat := by
  match i with
  | 0 => rw [h.w0]; show 0 < _; decide
  | i + 1 => exact rankOf_bound hv
theorem Trel.Proper.frL {i j : Nat} (hi : i < T.n) (hj : j < T.el i) : (T.fr i j).toNat < (T.W i).toNat ∧ (((T.fr i j).toNat : Nat) : Int) = T.fr i j := by
  have := h.shape.ins i hi j hj
  unfold Trel.inside at this
  omega
theorem Trel.Proper.toL {i j : Nat} (hi : i < T.n) (hj : j < T.el i) : (T.to i j).toNat < (T.W (i + 1)).toNat ∧ (((T.to i j).toNat : Nat) : Int) = T.to i j := by
  have := h.shape.ins i hi j hj
  unfold Trel.inside at this
  omega
theorem Trel.Proper.lbL {i j : Nat} (hi : i < T.n) (hj : j < T.el i) : (T.lb i j).toNat < 256 ∧ (((T.lb i j).toNat : Nat) : Int) = T.lb i j := by
  have := (h.sec i hi).1 j hj
  unfold Trel.edgeOk at this
  omega
theorem Trel.Proper.code_lt {i j : Nat} (hi : i < T.n) (hj : j < T.el i) : T.code (T.nm i) i j < 16777216 := by
  have h1 := h.nm_lt (by omega) (h.frL hi hj).1
  have h2 := (h.shape.wid (i := i) (by omega)).2
  have h3 := (h.lbL hi hj).1
  unfold Trel.code
  omega
theorem Trel.Proper.kt_hit {i v : Nat} (hi : i < T.n) (hv : v < (T.W (i + 1)).toNat) : ∃ q, q < T.el i ∧ (T.to i q).toNat = v ∧ T.kt (T.nm i) i (T.el i) v = T.code (T.nm i) i q := by
  obtain ⟨j, hj, e⟩ := hitB_iff.1 ((h.sec i hi).2.2 v hv)
  have e2 : (T.to i j).toNat = v := by omega
  have h1 := Trel.kt_le (T := T) (f := T.nm i) (i := i) hj
  have h2 := h.code_lt hi hj
  rw [e2] at h1
  rcases Trel.kt_att (T := T) (f := T.nm i) (i := i) (j := T.el i) (v := v) with h3 | h3
  · omega
  · exact h3
theorem Trel.Proper.code_inj {i : Nat} (hi : i < T.n) (hn : ∀ u v, u < (T.W i).toNat → v < (T.W i).toNat → T.nm i u = T.nm i v → u = v) {j q : Nat} (hj : j < T.el i) (hq : q < T.el i) (e : T.code (T.nm i) i j = T.code (T.nm i) i q) : j = q := by
  have h1 := h.lbL hi hj
  have h2 := h.lbL hi hq
  unfold Trel.code at e
  have e1 : T.nm i (T.fr i j).toNat = T.nm i (T.fr i q).toNat := by omega
  have e2 := hn _ _ (h.frL hi hj).1 (h.frL hi hq).1 e1
  have h3 := h.frL hi hj
  have h4 := h.frL hi hq
  rcases Nat.lt_trichotomy j q with h5 | h5 | h5
  · have := Trel.ord (h.sec i hi) q j h5 hq; omega
  · exact h5
  · have := Trel.ord (h.sec i hi) j q h5 hj; omega
theorem Trel.Proper.key_inj {i : Nat} (hi : i < T.n) (hn : ∀ u v, u < (T.W i).toNat → v < (T.W i).toNat → T.nm i u = T.nm i v → u = v) (u v : Nat) (hu : u < (T.W (i + 1)).toNat) (hv : v < (T.W (i + 1)).toNat)
    (e : T.kt (T.nm i) i (T.el i) u = T.kt (T.nm i) i (T.el i) v) : u = v := by
  obtain ⟨j, hj, e1, e2⟩ := h.kt_hit hi hu
  obtain ⟨q, hq, e3, e4⟩ := h.kt_hit hi hv
  have := h.code_inj hi hn hj hq (by omega)
  subst this
  omega
theorem Trel.Proper.nm_inj : ∀ {i : Nat}, i ≤ T.n → ∀ u v, u < (T.W i).toNat → v < (T.W i).toNat → T.nm i u = T.nm i v → u = v := by
  intro i
  induction i with
  | zero => intro _ u v hu hv _; rw [h.w0] at hu hv; have : (1 : Int).toNat = 1 := rfl; omega
  | succ i ih =>
    intro hi u v hu hv e
    exact rankOf_inj (fun a b ha hb hab => h.key_inj (by omega) (ih (by omega)) a b ha hb hab) hu hv e
theorem Trel.Proper.keys {i : Nat} (hi : i < T.n) (u v : Nat) (hu : u < (T.W (i + 1)).toNat) (hv : v < (T.W (i + 1)).toNat)
    (e : T.kt (T.nm i) i (T.el i) u = T.kt (T.nm i) i (T.el i) v) : u = v := h.key_inj hi (h.nm_inj (by omega)) u v hu hv e
theorem Trel.Proper.tri_inj {i j q : Nat} (hi : i < T.n) (hj : j < T.el i) (hq : q < T.el i) (e1 : (T.tri i j).1 = (T.tri i q).1) (e2 : (T.tri i j).2.1 = (T.tri i q).2.1) : j = q := by
  have e1' : T.nm i (T.fr i j).toNat = T.nm i (T.fr i q).toNat := by
    have : ((T.nm i (T.fr i j).toNat : Nat) : Int) = (T.nm i (T.fr i q).toNat : Nat) := e1
    omega
  have e2' : T.lb i j = T.lb i q := e2
  refine h.code_inj hi (h.nm_inj (by omega)) hj hq ?_
  unfold Trel.code
  rw [e1', e2']
end

/-! ### The renumbered sections -/
def SecRen (T : Trel) (i : Nat) (y : Nat → Int × Int × Int) : Prop :=
  ((List.range (T.el i)).map y).Perm ((List.range (T.el i)).map (T.tri i)) ∧ ∀ p q, p < q → q < T.el i → ltE (y p) (y q)
def IsRen (T : Trel) (y : Nat → Nat → Int × Int × Int) : Prop := ∀ i, i < T.n → SecRen T i (y i)
theorem ltE_irrefl (x : Int × Int × Int) : ¬ ltE x x := by unfold ltE; omega
theorem ltE_asymm {x y : Int × Int × Int} (h : ltE x y) : ¬ ltE y x := by unfold ltE at *; omega
theorem pairwise_range_map {α : Type} {R : α → α → Prop} {n : Nat} {y : Nat → α} : ((List.range n).map y).Pairwise R ↔ ∀ p q, p < q → q < n → R (y p) (y q) := by
  rw [List.pairwise_iff_getElem]
  constructor
  · intro h p q hpq hq
    have := h p q (by simp; omega) (by simpa using hq) hpq
    simpa using this
  · intro h p q hp hq hpq
    have := h p q hpq (by simpa using hq)
    simpa using this
theorem SecRen.of_sort {T : Trel} (h : T.Proper) {i : Nat} (hi : i < T.n) {y : Nat → Int × Int × Int} (hp : ((List.range (T.el i)).map y).Perm ((List.range (T.el i)).map (T.tri i))) (hs : ∀ p q, p < q → q < T.el i → ¬ ltE (y q) (y p)) : SecRen T i y := by
  refine ⟨hp, fun p q hpq hq => ?_⟩
  have h1 : (((List.range (T.el i)).map (T.tri i)).map fun t => (t.1, t.2.1)).Nodup := by
    rw [List.map_map]
    refine pairwise_range_map.2 fun a b hab hb e => ?_
    simp only [Function.comp, Prod.mk.injEq] at e
    have := h.tri_inj hi (by omega) hb e.1 e.2
    omega
  have h2 := ((hp.map fun t => (t.1, t.2.1)).nodup_iff).2 h1
  rw [List.map_map] at h2
  have h3 := pairwise_range_map.1 h2 p q hpq hq
  have h4 := hs p q hpq hq
  simp only [Function.comp, ne_eq, Prod.mk.injEq] at h3
  unfold ltE at *
  omega
theorem SecRen.unique {T : Trel} {i : Nat} {y z : Nat → Int × Int × Int} (h1 : SecRen T i y) (h2 : SecRen T i z) {j : Nat} (hj : j < T.el i) : y j = z j := by
  have hp := h1.1.trans h2.1.symm
  have e := List.Perm.eq_of_pairwise (le := ltE) (fun a b _ _ k1 k2 => absurd k2 (ltE_asymm k1)) (pairwise_range_map.2 h1.2) (pairwise_range_map.2 h2.2) hp
  have e2 := congrArg (fun l => l[j]?) e
  simpa [hj] using e2

/-! ### First visits number the nodes -/
/-- The edges of section i by the new numbers of the nodes that they leave. -/
def Trel.vis (T : Trel) (i : Nat) : List Nat := grp (fun j => T.nm i (T.fr i j).toNat) (T.el i) (T.W i).toNat
section
variable {T : Trel} (h : T.Proper)
include h
theorem Trel.Proper.vis_perm {i : Nat} (hi : i < T.n) : (T.vis i).Perm (List.range (T.el i)) := grp_perm fun _ hj => h.nm_lt (by omega) (h.frL hi hj).1
theorem Trel.Proper.code_mono {i : Nat} (hi : i < T.n) {a b : Nat} (ha : a < T.el i) (hb : b < T.el i) (e : T.nm i (T.fr i a).toNat < T.nm i (T.fr i b).toNat ∨ T.nm i (T.fr i a).toNat = T.nm i (T.fr i b).toNat ∧ a < b) : T.code (T.nm i) i a < T.code (T.nm i) i b := by
  have h1 := h.lbL hi ha
  have h2 := h.lbL hi hb
  unfold Trel.code
  rcases e with e | ⟨e, h3⟩
  · omega
  · have e2 := h.nm_inj (by omega) _ _ (h.frL hi ha).1 (h.frL hi hb).1 e
    have h5 := h.frL hi ha
    have h6 := h.frL hi hb
    have := Trel.ord (h.sec i hi) b a h3 hb
    omega
theorem Trel.Proper.vis_code {i : Nat} (hi : i < T.n) : (T.vis i).Pairwise fun a b => T.code (T.nm i) i a < T.code (T.nm i) i b :=
  grp_pairwise (fun _ _ ha hb e => h.code_mono hi ha hb (.inl e)) (fun _ _ hab hb e => h.code_mono hi (by omega) hb (.inr ⟨e, hab⟩))
theorem Trel.Proper.next_perm {i : Nat} (hi : i < T.n) : (firsts ((T.vis i).map fun j => (T.to i j).toNat)).Perm (List.range (T.W (i + 1)).toNat) ∧
    ∀ v, v < (T.W (i + 1)).toNat → (firsts ((T.vis i).map fun j => (T.to i j).toNat)).idxOf v = T.nm (i + 1) v := by
  have hpw : (firsts ((T.vis i).map fun j => (T.to i j).toNat)).Pairwise fun a b => T.kt (T.nm i) i (T.el i) a < T.kt (T.nm i) i (T.el i) b := by
    refine firsts_pairwise (f := fun j => (T.to i j).toNat) ?_
    intro A B j hV hne a ha
    have hpw := h.vis_code hi
    have hm : ∀ x, x ∈ T.vis i → x < T.el i := fun x hx => by simpa using (h.vis_perm hi).mem_iff.1 hx
    rw [hV] at hpw hm
    have haj := hm a (by simp [ha])
    have hjj := hm j (by simp)
    have h1 : T.kt (T.nm i) i (T.el i) (T.to i a).toNat ≤ T.code (T.nm i) i a := Trel.kt_le haj
    have h2 : T.code (T.nm i) i a < T.code (T.nm i) i j := (List.pairwise_append.1 hpw).2.2 a ha j (by simp)
    obtain ⟨q, hq, e1, e2⟩ := h.kt_hit hi (h.toL hi hjj).1
    have hqV : q ∈ A ++ j :: B := hV ▸ (h.vis_perm hi).mem_iff.2 (List.mem_range.2 hq)
    show T.kt (T.nm i) i (T.el i) (T.to i a).toNat < T.kt (T.nm i) i (T.el i) (T.to i j).toNat
    rw [e2]
    rcases List.mem_append.1 hqV with hqA | hqB
    · exact absurd e1 (hne q hqA)
    · rcases List.mem_cons.1 hqB with rfl | hqB
      · omega
      · have h3 := (List.pairwise_cons.1 (List.pairwise_append.1 hpw).2.1).1 q hqB
        omega
  have hp : (firsts ((T.vis i).map fun j => (T.to i j).toNat)).Perm (List.range (T.W (i + 1)).toNat) := by
    refine (List.perm_ext_iff_of_nodup (hpw.imp fun {a b} hab e => by subst e; omega) List.nodup_range).2 fun v => ?_
    rw [mem_firsts, List.mem_map, List.mem_range]
    constructor
    · rintro ⟨j, hj, rfl⟩
      exact (h.toL hi (by simpa using (h.vis_perm hi).mem_iff.1 hj)).1
    · intro hv
      obtain ⟨j, hj, e⟩ := hitB_iff.1 ((h.sec i hi).2.2 v hv)
      exact ⟨j, (h.vis_perm hi).mem_iff.2 (List.mem_range.2 hj), by omega⟩
  refine ⟨hp, fun v hv => ?_⟩
  have hm := hp.mem_iff.2 (List.mem_range.2 hv)
  obtain ⟨N, hN⟩ : ∃ N, N = firsts ((T.vis i).map fun j => (T.to i j).toNat) := ⟨_, rfl⟩
  rw [← hN] at hm hp hpw ⊢
  have hlt := List.idxOf_lt_length_iff.2 hm
  have hg : N.getD (N.idxOf v) 0 = v := by
    rw [List.getD_eq_getElem?_getD, List.getElem?_eq_getElem hlt, List.getElem_idxOf]
    rfl
  have h1 := rankOf_place (k := T.kt (T.nm i) i (T.el i)) hp (fun p q hpq hq => by
    rw [List.getD_eq_getElem?_getD, List.getD_eq_getElem?_getD, List.getElem?_eq_getElem (by omega), List.getElem?_eq_getElem hq]
    exact List.pairwise_iff_getElem.1 hpw p q _ _ hpq) hlt
  rw [hg] at h1
  exact h1.symm
/-- The edges as the reference lists them. -/
theorem Trel.Proper.vis_ren {i : Nat} (hi : i < T.n) : SecRen T i fun p => T.tri i ((T.vis i).getD p 0) := by
  have hl : (T.vis i).length = T.el i := by have := (h.vis_perm hi).length_eq; simpa using this
  have e : ((List.range (T.el i)).map fun p => T.tri i ((T.vis i).getD p 0)) = (T.vis i).map (T.tri i) := by
    apply List.ext_getElem (by simp [hl])
    intro p h1 h2
    simp only [List.getElem_map, List.getElem_range]
    rw [List.getD_eq_getElem?_getD, List.getElem?_eq_getElem (by simpa using h2)]
    rfl
  refine ⟨?_, ?_⟩
  · rw [e]
    exact (h.vis_perm hi).map _
  · refine pairwise_range_map.1 ?_
    rw [e, List.pairwise_map]
    refine grp_pairwise (fun a b ha hb e => .inl (by show ((T.nm i (T.fr i a).toNat : Nat) : Int) < (T.nm i (T.fr i b).toNat : Nat); omega)) (fun a b hab hb e => .inr ⟨by show ((T.nm i (T.fr i a).toNat : Nat) : Int) = (T.nm i (T.fr i b).toNat : Nat); omega, ?_⟩)
    show T.lb i a < T.lb i b
    have e2 := h.nm_inj (by omega) _ _ (h.frL hi (by omega)).1 (h.frL hi hb).1 e
    have h5 := h.frL (j := a) hi (by omega)
    have h6 := h.frL (j := b) hi hb
    have := Trel.ord (h.sec i hi) b a hab hb
    omega
end
end Go.Proofs.Ytnocbkhnmdmfhaa
