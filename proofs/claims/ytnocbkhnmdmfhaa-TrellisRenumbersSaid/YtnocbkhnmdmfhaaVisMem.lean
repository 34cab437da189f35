/- What codewrightref47.Renumber works on. -/
import Derived.Test.YtnocbkhnmdmfhaaRenMath
import Derived.Test.YtnocbkhnmdmfhaaNumRows
namespace Go.Proofs.Ytnocbkhnmdmfhaa
open Go.RowKit

/-- A layered graph with other edges. -/
def Trel.re (T : Trel) (y : Nat → Nat → Int × Int × Int) : Trel := ⟨T.nw, T.W, T.n, T.el, fun i j => (y i j).1, fun i j => (y i j).2.1, fun i j => (y i j).2.2⟩
theorem IsRen.in64 {T : Trel} (hP : T.Proper) {y : Nat → Nat → Int × Int × Int} (h : IsRen T y) {i : Nat} (hi : i < T.n) {j : Nat} (hj : j < T.el i) : InI64 (y i j).1 ∧ InI64 (y i j).2.1 ∧ InI64 (y i j).2.2 := by
  have hm : y i j ∈ (List.range (T.el i)).map (y i) := List.mem_map.2 ⟨j, List.mem_range.2 hj, rfl⟩
  obtain ⟨q, hq, e⟩ := List.mem_map.1 ((h i hi).1.mem_iff.1 hm)
  rw [List.mem_range] at hq
  rw [← e]
  have h1 := hP.nm_lt (by omega) (hP.frL hi hq).1
  have h2 := hP.nm_lt (i := i + 1) (by omega) (hP.toL hi hq).1
  have h3 := (hP.shape.wid (i := i) (by omega)).2
  have h4 := (hP.shape.wid (i := i + 1) (by omega)).2
  have h5 := hP.lbL hi hq
  refine ⟨⟨?_, ?_⟩, ⟨?_, ?_⟩, ⟨?_, ?_⟩⟩
  · show (-9223372036854775808 : Int) ≤ (T.nm i (T.fr i q).toNat : Nat); omega
  · show ((T.nm i (T.fr i q).toNat : Nat) : Int) ≤ 9223372036854775807; omega
  · show (-9223372036854775808 : Int) ≤ T.lb i q; omega
  · show T.lb i q ≤ (9223372036854775807 : Int); omega
  · show (-9223372036854775808 : Int) ≤ (T.nm (i + 1) (T.to i q).toNat : Nat); omega
  · show ((T.nm (i + 1) (T.to i q).toNat : Nat) : Int) ≤ 9223372036854775807; omega
/-- The renumbered sections and the widths read as a layered graph. -/
theorem IsRen.reads {T : Trel} (hP : T.Proper) {y : Nat → Nat → Int × Int × Int} (h : IsRen T y) {w : World} {base : Nat} {v wv : Value} (hE : ETab w base v T.n T.el y) (hA : Own w base 3 1 wv T.nw (fun k _ => .int .i64 (T.W k))) :
    ∃ A B c d, wv = .slice A T.nw c ∧ v = .slice B T.n d ∧ (T.re y).Reads w A B ∧ T.nw ≤ c ∧ c ≤ maxLen ∧ T.n ≤ d ∧ d ≤ maxLen := by
  have hnw := hP.shape.nw
  have hn := hP.shape.n64
  refine ETab.reads (T := T.re y) hE hA (fun i hi => ?_) (fun i hi j hj => h.in64 hP hi hj) (by show T.nw ≤ _; omega) (by show T.n ≤ _; omega) (fun i hi => by have := hP.shape.elb hi; show T.el i ≤ _; omega)
  have hi' : i < T.nw := hi
  have := hP.shape.wid (i := i) (by omega)
  refine ⟨?_, ?_⟩
  · show (-9223372036854775808 : Int) ≤ T.W i; omega
  · show T.W i ≤ (9223372036854775807 : Int); omega
theorem ETab.mono {w : World} {base b' n : Nat} {v : Value} {el : Nat → Nat} {y : Nat → Nat → Int × Int × Int} (h : ETab w base v n el y) (hb : b' ≤ base) : ETab w b' v n el y := by
  obtain ⟨R, h1, h2⟩ := h
  exact ⟨R, h1.mono hb, fun i hi => (h2 i hi).mono hb⟩
/-- The widths and the sections y, in slices of somebody's own. -/
def RenOut (T : Trel) (y : Nat → Nat → Int × Int × Int) (w : World) (A B : Option Addr) (c d : Nat) : Prop := ETab w 0 (.slice B T.n d) T.n T.el y ∧ Own w 0 3 1 (.slice A T.nw c) T.nw (fun k _ => .int .i64 (T.W k))
theorem RenOut.on {T : Trel} {y : Nat → Nat → Int × Int × Int} {w w' : World} {A B : Option Addr} {c d : Nat} (h : RenOut T y w A B c d) (hb : Below w.heap.size w w') : RenOut T y w' A B c d := ⟨h.1.on hb, h.2.on hb⟩
theorem RenOut.setCell {T : Trel} {y : Nat → Nat → Int × Int × Int} {w : World} {A B : Option Addr} {c d : Nat} (h : RenOut T y w A B c d) {t : TypeId} {m : Nat} {F : Nat → Value} {b i : Nat} (hr : w.rowIs b t m F) (h1 : t ≠ 70) (h2 : t ≠ 72) (h3 : t ≠ 3) (u : Value) : RenOut T y (w.setCell ⟨b, i, none⟩ u) A B c d :=
  ⟨h.1.setCell hr h1 h2 u, h.2.setCell (own_row_ne hr h.2 h3) u⟩
theorem RenOut.reads {T : Trel} (hP : T.Proper) {y : Nat → Nat → Int × Int × Int} (hy : IsRen T y) {w : World} {A B : Option Addr} {c d : Nat} (h : RenOut T y w A B c d) : (T.re y).Reads w A B ∧ T.nw ≤ c ∧ c ≤ maxLen ∧ T.n ≤ d ∧ d ≤ maxLen := by
  obtain ⟨A', B', c', d', e1, e2, hR, k1, k2, k3, k4⟩ := hy.reads hP h.1 h.2
  injection e1 with e1 _ e1'
  subst e1 e1'
  injection e2 with e2 _ e2'
  subst e2 e2'
  exact ⟨hR, k1, k2, k3, k4⟩
/-- The number of node v when the nodes of N have been met. -/
def numOf (N : List Nat) (v : Nat) : Int := if v ∈ N then (N.idxOf v : Nat) else -1
theorem numOf_new {N : List Nat} {v : Nat} (h : v ∉ N) (x : Nat) : numOf (N ++ [v]) x = if x = v then ((N.length : Nat) : Int) else numOf N x := by
  unfold numOf
  by_cases e : x = v
  · subst e
    rw [if_pos (by simp), if_pos rfl, List.idxOf_append, if_neg h]
    simp
  · rw [if_neg e]
    by_cases hx : x ∈ N
    · rw [if_pos hx, if_pos (by simp [hx]), List.idxOf_append, if_pos hx]
    · rw [if_neg hx, if_neg (by simp [hx, e])]
def Trel.triN (T : Trel) (i : Nat) (N : List Nat) (q : Nat) : Int × Int × Int := ((T.nm i (T.fr i q).toNat : Nat), T.lb i q, (N.idxOf (T.to i q).toNat : Nat))
theorem Trel.triN_new {T : Trel} {i : Nat} {N : List Nat} {v q : Nat} (h : (T.to i q).toNat ∈ N) : T.triN i (N ++ [v]) q = T.triN i N q := by
  unfold Trel.triN
  rw [List.idxOf_append, if_pos h]
/-- The edges seen; the nodes met. -/
def Trel.visV (T : Trel) (i u j : Nat) : List Nat := grpA (fun j => T.nm i (T.fr i j).toNat) (T.el i) u j
def Trel.visN (T : Trel) (i u j : Nat) : List Nat := firsts ((T.visV i u j).map fun q => (T.to i q).toNat)
def Trel.visE (T : Trel) (i u j p : Nat) : Int × Int × Int := T.triN i (T.visN i u j) ((T.visV i u j).getD p 0)
section
variable {T : Trel} {i u j : Nat}
theorem Trel.visV_pos (h : T.nm i (T.fr i j).toNat = u) : T.visV i u (j + 1) = T.visV i u j ++ [j] := grpA_pos h
theorem Trel.visV_neg (h : ¬ T.nm i (T.fr i j).toNat = u) : T.visV i u (j + 1) = T.visV i u j := grpA_neg h
theorem Trel.visN_pos (h : T.nm i (T.fr i j).toNat = u) : T.visN i u (j + 1) = if (T.to i j).toNat ∈ T.visN i u j then T.visN i u j else T.visN i u j ++ [(T.to i j).toNat] := by
  unfold Trel.visN
  rw [Trel.visV_pos h, List.map_append, List.map_singleton, firsts_one]
theorem Trel.visN_neg (h : ¬ T.nm i (T.fr i j).toNat = u) : T.visN i u (j + 1) = T.visN i u j := by
  unfold Trel.visN
  rw [Trel.visV_neg h]
theorem Trel.visE_neg (h : ¬ T.nm i (T.fr i j).toNat = u) : T.visE i u (j + 1) = T.visE i u j := by
  funext p
  unfold Trel.visE
  rw [Trel.visN_neg h, Trel.visV_neg h]
theorem Trel.visE_old (h : T.nm i (T.fr i j).toNat = u) {p : Nat} (hp : p < (T.visV i u j).length) : T.visE i u (j + 1) p = T.visE i u j p := by
  have hm : (T.to i ((T.visV i u j).getD p 0)).toNat ∈ T.visN i u j := by
    unfold Trel.visN
    rw [mem_firsts, List.mem_map]
    refine ⟨_, ?_, rfl⟩
    rw [List.getD_eq_getElem?_getD, List.getElem?_eq_getElem hp]
    exact List.getElem_mem _
  unfold Trel.visE
  rw [Trel.visN_pos h, Trel.visV_pos h, List.getD_eq_getElem?_getD, List.getElem?_append_left hp, ← List.getD_eq_getElem?_getD]
  split
  · rfl
  · exact Trel.triN_new hm
theorem Trel.visE_last (h : T.nm i (T.fr i j).toNat = u) : T.visE i u (j + 1) (T.visV i u j).length = (((u : Nat) : Int), T.lb i j, (((T.visN i u (j + 1)).idxOf (T.to i j).toNat : Nat) : Int)) := by
  unfold Trel.visE
  rw [Trel.visV_pos h]
  have : (T.visV i u j ++ [j]).getD (T.visV i u j).length 0 = j := by simp [List.getD_eq_getElem?_getD]
  rw [this]
  unfold Trel.triN
  rw [h]
theorem Trel.visN_mem (h : T.nm i (T.fr i j).toNat = u) : (T.to i j).toNat ∈ T.visN i u (j + 1) := by
  rw [Trel.visN_pos h]
  split
  · assumption
  · simp
theorem Trel.visV_next : T.visV i u (T.el i) = T.visV i (u + 1) 0 := grpA_next _ _ _
theorem Trel.visN_next : T.visN i u (T.el i) = T.visN i (u + 1) 0 := by unfold Trel.visN; rw [Trel.visV_next]
theorem Trel.visE_next : T.visE i u (T.el i) = T.visE i (u + 1) 0 := by
  funext p
  unfold Trel.visE
  rw [Trel.visN_next, Trel.visV_next]
theorem Trel.visV_len (hj : j ≤ T.el i) : (T.visV i u j).length ≤ T.el i := by
  have hnd : (T.visV i u j).Nodup := by
    unfold Trel.visV grpA
    refine List.nodup_append.2 ⟨grp_pairwise (fun a b _ _ h e => by subst e; omega) (fun a b h _ _ e => by omega), List.Pairwise.filter _ List.nodup_range, ?_⟩
    intro a ha b hb e
    subst e
    rw [mem_grp] at ha
    simp only [List.mem_filter, List.mem_range, decide_eq_true_eq] at hb
    omega
  have hsub : ∀ q, q ∈ T.visV i u j → q ∈ List.range (T.el i) := fun q hq => by
    rw [List.mem_range]
    rcases (mem_grpA (g := fun j => T.nm i (T.fr i j).toNat)).1 hq with h | h <;> omega
  by_cases h : (T.visV i u j).length ≤ T.el i
  · exact h
  · have := (perm_of_nodup hnd hsub (by simp; omega)).length_eq
    simp at this
    omega
end
theorem Trel.visN_nodup (T : Trel) (i u j : Nat) : (T.visN i u j).Nodup := firsts_pairwise fun _ _ _ _ h a ha => h a ha
theorem Trel.Proper.visN_lt {T : Trel} (h : T.Proper) {i u j x : Nat} (hi : i < T.n) (hj : j ≤ T.el i) (hx : x ∈ T.visN i u j) : x < (T.W (i + 1)).toNat := by
  unfold Trel.visN at hx
  rw [mem_firsts, List.mem_map] at hx
  obtain ⟨q, hq, rfl⟩ := hx
  have : q < T.el i := by rcases (mem_grpA (g := fun j => T.nm i (T.fr i j).toNat)).1 hq with h | h <;> omega
  exact (h.toL hi this).1
/-- The order in which the nodes at time i stand. -/
def OrdOk (T : Trel) (i : Nat) (o : Nat → Nat) : Prop := ∀ u, u < (T.W i).toNat → o u < (T.W i).toNat ∧ T.nm i (o u) = u
theorem Trel.Proper.vis_end {T : Trel} (h : T.Proper) {i : Nat} (hi : i < T.n) :
    (T.visV i (T.W i).toNat 0).length = T.el i ∧ (∀ p, p < T.el i → T.visE i (T.W i).toNat 0 p = T.tri i ((T.vis i).getD p 0)) ∧ (T.visN i (T.W i).toNat 0).length = (T.W (i + 1)).toNat ∧ OrdOk T (i + 1) (fun u => (T.visN i (T.W i).toNat 0).getD u 0) := by
  have hV : T.visV i (T.W i).toNat 0 = T.vis i := grpA_end _ _ _
  obtain ⟨h1, h2⟩ := h.next_perm hi
  have hN : T.visN i (T.W i).toNat 0 = firsts ((T.vis i).map fun j => (T.to i j).toNat) := by unfold Trel.visN; rw [hV]
  rw [← hN] at h1 h2
  have hl : (T.vis i).length = T.el i := by have := (h.vis_perm hi).length_eq; simpa using this
  have hnl : (T.visN i (T.W i).toNat 0).length = (T.W (i + 1)).toNat := by have := h1.length_eq; simpa using this
  refine ⟨by rw [hV, hl], fun p hp => ?_, hnl, fun u hu => ?_⟩
  · unfold Trel.visE
    rw [hV]
    have hq : (T.vis i).getD p 0 < T.el i := by
      rw [List.getD_eq_getElem?_getD, List.getElem?_eq_getElem (by omega)]
      exact List.mem_range.1 ((h.vis_perm hi).mem_iff.1 (List.getElem_mem _))
    unfold Trel.triN Trel.tri
    rw [h2 _ (h.toL hi hq).1]
  · have hg : (T.visN i (T.W i).toNat 0).getD u 0 = (T.visN i (T.W i).toNat 0)[u]'(by omega) := by
      rw [List.getD_eq_getElem?_getD, List.getElem?_eq_getElem (by omega)]
      rfl
    have hlt : (T.visN i (T.W i).toNat 0).getD u 0 < (T.W (i + 1)).toNat := by
      rw [hg]
      exact List.mem_range.1 (h1.mem_iff.1 (List.getElem_mem _))
    refine ⟨hlt, ?_⟩
    show T.nm (i + 1) ((T.visN i (T.W i).toNat 0).getD u 0) = u
    rw [← h2 _ hlt, hg]
    exact (h1.nodup_iff.2 List.nodup_range).idxOf_getElem _ _
end Go.Proofs.Ytnocbkhnmdmfhaa
