/- What trellis.Renumber works on: least edges, names. -/
import Derived.Test.YtnocbkhnmdmfhaaRenameMem
namespace Go.Proofs.Ytnocbkhnmdmfhaa
open Go.RowKit

/-! ### The least edges -/
/-- The least edge into v among the first j, or an empty one. -/
def Trel.lx (T : Trel) (f : Nat → Nat) (i j v : Nat) : Int × Int × Int := if T.kt f i j v < 1099511627776 then (((T.kt f i j v / 256 : Nat) : Int), ((T.kt f i j v % 256 : Nat) : Int), 0) else (0, 0, 0)
/-- An edge into v is among the first j. -/
def Trel.sn (T : Trel) (f : Nat → Nat) (i j v : Nat) : Bool := decide (T.kt f i j v < 1099511627776)
section
variable {T : Trel} {f : Nat → Nat} {i j tn : Nat}
theorem Trel.kt_take (ht : (T.to i j).toNat = tn) (h : T.code f i j < T.kt f i j tn) (v : Nat) : T.kt f i (j + 1) v = if v = tn then T.code f i j else T.kt f i j v := by
  show (if (T.to i j).toNat = v ∧ T.code f i j < T.kt f i j v then T.code f i j else T.kt f i j v) = _
  by_cases e : v = tn
  · subst e
    rw [if_pos rfl, if_pos ⟨ht, h⟩]
  · rw [if_neg e, if_neg (fun h => e (by omega))]
variable {a1 : Nat} {lv : Int}
theorem Trel.lx_less (hl : 0 ≤ lv ∧ lv < 256) (hc : T.code f i j = a1 * 256 + lv.toNat) (hk : T.sn f i j tn = true) : lessV (a1 : Nat) lv (T.lx f i j tn).1 (T.lx f i j tn).2.1 < 0 ↔ T.code f i j < T.kt f i j tn := by
  have hk : T.kt f i j tn < 1099511627776 := of_decide_eq_true hk
  rw [lessV_neg]
  unfold Trel.lx
  rw [if_pos hk, hc]
  show ((a1 : Nat) : Int) < ((T.kt f i j tn / 256 : Nat) : Int) ∨ ((a1 : Nat) : Int) = ((T.kt f i j tn / 256 : Nat) : Int) ∧ lv < ((T.kt f i j tn % 256 : Nat) : Int) ↔ _
  omega
theorem Trel.lx_take (ht : (T.to i j).toNat = tn) (hl : 0 ≤ lv ∧ lv < 256) (hc : T.code f i j = a1 * 256 + lv.toNat) (ha : a1 < 65536) (h : T.code f i j < T.kt f i j tn) (v : Nat) : T.lx f i (j + 1) v = if v = tn then (((a1 : Nat) : Int), lv, 0) else T.lx f i j v := by
  unfold Trel.lx
  rw [Trel.kt_take ht h]
  by_cases e : v = tn
  · rw [if_pos e, if_pos e, if_pos (by omega), hc]
    have e1 : (a1 * 256 + lv.toNat) / 256 = a1 := by omega
    have e2 : (a1 * 256 + lv.toNat) % 256 = lv.toNat := by omega
    rw [e1, e2]
    have : ((lv.toNat : Nat) : Int) = lv := by omega
    rw [this]
  · rw [if_neg e, if_neg e]
theorem Trel.sn_take (ht : (T.to i j).toNat = tn) (hl : 0 ≤ lv ∧ lv < 256) (hc : T.code f i j = a1 * 256 + lv.toNat) (ha : a1 < 65536) (h : T.code f i j < T.kt f i j tn) (v : Nat) : T.sn f i (j + 1) v = if v = tn then true else T.sn f i j v := by
  unfold Trel.sn
  rw [Trel.kt_take ht h]
  by_cases e : v = tn
  · rw [if_pos e, if_pos e, decide_eq_true_iff]
    omega
  · rw [if_neg e, if_neg e]
theorem Trel.kt_new (hl : 0 ≤ lv ∧ lv < 256) (hc : T.code f i j = a1 * 256 + lv.toNat) (ha : a1 < 65536) (h : T.sn f i j tn = false) : T.code f i j < T.kt f i j tn := by
  have h1 : ¬ T.kt f i j tn < 1099511627776 := of_decide_eq_false h
  omega
end
section
variable {T : Trel} {f : Nat → Nat} {i j tn : Nat} (ht : (T.to i j).toNat = tn) (h : ¬ T.code f i j < T.kt f i j tn)
include ht h
theorem Trel.kt_skip (v : Nat) : T.kt f i (j + 1) v = T.kt f i j v := by
  show (if (T.to i j).toNat = v ∧ T.code f i j < T.kt f i j v then T.code f i j else T.kt f i j v) = _
  rw [if_neg]
  rintro ⟨e, h2⟩
  rw [ht] at e
  subst e
  exact h h2
theorem Trel.lx_skip (v : Nat) : T.lx f i (j + 1) v = T.lx f i j v := by unfold Trel.lx; rw [Trel.kt_skip ht h]
theorem Trel.sn_skip (v : Nat) : T.sn f i (j + 1) v = T.sn f i j v := by unfold Trel.sn; rw [Trel.kt_skip ht h]
end
theorem Trel.lx_zero (T : Trel) (f : Nat → Nat) (i v : Nat) : T.lx f i 0 v = (0, 0, 0) := by
  unfold Trel.lx Trel.kt
  rw [if_neg (by omega)]
theorem Trel.sn_zero (T : Trel) (f : Nat → Nat) (i v : Nat) : T.sn f i 0 v = false := by
  unfold Trel.sn Trel.kt
  exact decide_eq_false (by omega)
/-- What the nodes are sorted by. -/
theorem Trel.Proper.lx_key {T : Trel} (h : T.Proper) {i : Nat} (hi : i < T.n) (u v : Nat) (hu : u < (T.W (i + 1)).toNat) (hv : v < (T.W (i + 1)).toNat) :
    lessV (T.lx (T.nm i) i (T.el i) u).1 (T.lx (T.nm i) i (T.el i) u).2.1 (T.lx (T.nm i) i (T.el i) v).1 (T.lx (T.nm i) i (T.el i) v).2.1 < 0 ↔ T.kt (T.nm i) i (T.el i) u < T.kt (T.nm i) i (T.el i) v := by
  obtain ⟨p, hp, _, e1⟩ := h.kt_hit hi hu
  obtain ⟨q, hq, _, e2⟩ := h.kt_hit hi hv
  have h1 := h.code_lt hi hp
  have h2 := h.code_lt hi hq
  rw [lessV_neg]
  unfold Trel.lx
  rw [if_pos (by omega), if_pos (by omega)]
  show ((T.kt (T.nm i) i (T.el i) u / 256 : Nat) : Int) < ((T.kt (T.nm i) i (T.el i) v / 256 : Nat) : Int) ∨ ((T.kt (T.nm i) i (T.el i) u / 256 : Nat) : Int) = ((T.kt (T.nm i) i (T.el i) v / 256 : Nat) : Int) ∧ ((T.kt (T.nm i) i (T.el i) u % 256 : Nat) : Int) < ((T.kt (T.nm i) i (T.el i) v % 256 : Nat) : Int) ↔ _
  omega
theorem run_makeEdge (n : Nat) (hn : n ≤ 1048576) (w : World) :
    (Instr.makeSlice 70 (.int .i64 (n : Int)) (.int .i64 (n : Int))).run Try.prog w = .ok (.slice (some ⟨w.heap.size, 0, none⟩) n n) (w.alloc (.cells (madeCells #[.int .i64 0, .int .i64 0, .int .i64 0] (n * 3)) 72)) := by
  obtain ⟨i, hi, hz, hs, hb⟩ := info_parts Try.infoEdge
  have h := run_make (P := Try.prog) w 70 72 i _ Try.underlying70 hi hz .i64 .i64 (n : Int) (n : Int) (by omega) (by omega) (by rw [hb]; omega) (by omega)
  rw [h, hs, Int.toNat_natCast]
  rfl
theorem rowIs_madeEdge (w : World) (n : Nat) : (w.alloc (.cells (madeCells #[.int .i64 0, .int .i64 0, .int .i64 0] (n * 3)) 72)).rowIs w.heap.size 72 (n * 3) (eRow fun _ => (0, 0, 0)) := by
  refine ⟨_, heap_new_at rfl, size_madeCells _ _, fun i hi => ?_⟩
  have e : eRow (fun _ => (0, 0, 0)) i = .int .i64 0 := by
    unfold eRow edgeCell
    split
    · rfl
    · split <;> rfl
  rw [e]
  have h3 : i % 3 = 0 ∨ i % 3 = 1 ∨ i % 3 = 2 := by omega
  rcases h3 with h3 | h3 | h3 <;> simp [madeCells, hi, h3]
theorem eRow_put {w : World} {b n u : Nat} {t : TypeId} {x x' : Nat → Int × Int × Int} (h : w.rowIs b t (n * 3) (eRow x)) {p q r : Int} (hx : ∀ v, x' v = if v = u then (p, q, r) else x v) :
    (((w.setCell ⟨b, u * 3, none⟩ (.int .i64 p)).setCell ⟨b, u * 3 + 1, none⟩ (.int .i64 q)).setCell ⟨b, u * 3 + 2, none⟩ (.int .i64 r)).rowIs b t (n * 3) (eRow x') := by
  refine (((h.set (u * 3) (.int .i64 p)).set (u * 3 + 1) (.int .i64 q)).set (u * 3 + 2) (.int .i64 r)).congr fun k _ => ?_
  unfold eRow edgeCell
  rw [hx]
  by_cases e : k / 3 = u
  · rw [if_pos e]
    have h3 : k % 3 = 0 ∨ k % 3 = 1 ∨ k % 3 = 2 := by omega
    rcases h3 with h3 | h3 | h3
    · rw [if_neg (by omega), if_neg (by omega), if_pos (by omega), if_pos h3]
    · rw [if_neg (by omega), if_pos (by omega), if_neg (by omega), if_pos h3]
    · rw [if_pos (by omega), if_neg (by omega), if_neg (by omega)]
  · rw [if_neg e, if_neg (by omega), if_neg (by omega), if_neg (by omega)]

/-! ### The names -/
def Trel.nrow (T : Trel) (k : Nat) : List Int := (List.range (T.W k).toNat).map fun u => ((T.nm k u : Nat) : Int)
def Trel.names (T : Trel) (i : Nat) : List (List Int) := (List.range i).map T.nrow
theorem Trel.names_succ (T : Trel) (i : Nat) : T.names (i + 1) = T.names i ++ [T.nrow i] := by
  unfold Trel.names
  rw [List.range_succ, List.map_append]
  rfl
theorem Trel.names_len (T : Trel) (i : Nat) : (T.names i).length = i := by simp [Trel.names]
theorem Trel.names_get (T : Trel) {i k : Nat} (h : k < i) : (T.names i).getD k [] = T.nrow k := by
  unfold Trel.names
  rw [List.getD_eq_getElem?_getD, List.getElem?_map, List.getElem?_range h]
  rfl
theorem Trel.nrow_len (T : Trel) (k : Nat) : (T.nrow k).length = (T.W k).toNat := by simp [Trel.nrow]
theorem Trel.nrow_get (T : Trel) {k u : Nat} (h : u < (T.W k).toNat) : (T.nrow k).getD u 0 = (T.nm k u : Nat) := by
  unfold Trel.nrow
  rw [List.getD_eq_getElem?_getD, List.getElem?_map, List.getElem?_range h]
  rfl
theorem Trel.names_one {T : Trel} (h : T.Proper) : T.names 1 = [[0]] := by
  have : (T.W 0).toNat = 1 := by rw [h.w0]; rfl
  unfold Trel.names Trel.nrow
  simp [this, Trel.nm]
theorem Trel.names_rows {T : Trel} (h : T.Proper) {w : World} {base : Nat} {v : Value} (hT : TabL w base v (T.names (T.n + 1))) :
    ∃ O c, v = .slice O (T.n + 1) c ∧ IntRows w O (T.n + 1) (fun i => (T.W i).toNat) (fun i k => (T.nm i k : Nat)) := by
  obtain ⟨O, c, e, h1, h2, h3⟩ := hT.rows (fun l hl x hx => by
    obtain ⟨k, hk, rfl⟩ := List.mem_map.1 hl
    obtain ⟨u, hu, rfl⟩ := List.mem_map.1 hx
    rw [List.mem_range] at hk hu
    have := h.nm_lt (by omega) hu
    have := (h.shape.wid (i := k) (by omega)).2
    omega)
  rw [T.names_len] at e h3
  refine ⟨O, c, e, fun i hi => ?_⟩
  obtain ⟨b, off, A, c', e1, k1, k2, k3, k4, k5, k6⟩ := h3 i hi
  simp only [T.names_get hi, T.nrow_len] at k2 k3 k5 k6
  refine ⟨b, off, A, c', e1, k1, k2, k3, k4, k5.congr fun u hu => T.nrow_get hu, fun u hu => ?_⟩
  have := k6 u hu
  rwa [T.nrow_get hu] at this
theorem TabL.read {w : World} {base N c k : Nat} {A : Option Addr} {L : List (List Int)} (h : TabL w base (.slice A N c) L) (hk : k < L.length) :
    ∃ b o RA rc, A = some ⟨b, o, none⟩ ∧ b < w.heap.size ∧ w.cell? ⟨b, o + k, none⟩ = some (.slice RA (L.getD k []).length rc) ∧ OwnL w base (.slice RA (L.getD k []).length rc) (L.getD k []) := by
  obtain ⟨R, hA, hB⟩ := h
  obtain ⟨A1, c1, e1⟩ := hA.shape
  injection e1 with e1 e2 e3
  subst e1 e2 e3
  obtain ⟨b, o, e, hb1, hc1⟩ := hA.rd rfl k hk
  have g1 := hc1 0 (by omega)
  rw [Nat.mul_one, Nat.add_zero] at g1
  have hr := hB k hk
  obtain ⟨RA, rc, hR⟩ := Own.shape hr
  rw [hR] at hr
  exact ⟨b, o, RA, rc, e, hb1, by rw [g1, ← hR], hr⟩
theorem ownL_of_row {w : World} {g m base : Nat} {f : Nat → Int} (h : w.rowIs g 3 m (fun u => .int .i64 (f u))) (hb : base ≤ g) (hm : m ≤ maxLen) : OwnL w base (.slice (some ⟨g, 0, none⟩) m m) ((List.range m).map f) := by
  have hl : ((List.range m).map f).length = m := by simp
  unfold OwnL
  rw [hl]
  refine (own_of_row h hb hm).congr fun u hu _ _ => ?_
  unfold listCell
  rw [List.getD_eq_getElem?_getD, List.getElem?_map, List.getElem?_range hu]
  rfl
/-- The names of the root, just made. -/
theorem names_start (w : World) : TabL ((w.alloc (Obj.cells #[.int .i64 0] 3)).alloc (Obj.cells #[.slice (some ⟨w.heap.size, 0, none⟩) 1 1] 22)) w.heap.size (.slice (some ⟨w.heap.size + 1, 0, none⟩) 1 1) [[0]] := by
  have h0 := Own.new (w := w) (base := w.heap.size) (e := 3) (s := 1) (m := 1) (cap := 1) (cur := #[.int .i64 0]) (f := listCell [0]) (Nat.le_refl _) (Nat.le_refl _) (by unfold maxLen; omega) (by simp) (fun k hk j hj => by
    obtain rfl : k = 0 := by omega
    obtain rfl : j = 0 := by omega
    rfl)
  have h1 := Own.new (w := w.alloc (Obj.cells #[.int .i64 0] 3)) (base := w.heap.size) (e := 22) (s := 1) (m := 1) (cap := 1) (cur := #[.slice (some ⟨w.heap.size, 0, none⟩) 1 1]) (f := fun _ _ => .slice (some ⟨w.heap.size, 0, none⟩) 1 1) (by simp) (by omega) (by unfold maxLen; omega) (by simp) (fun k hk j hj => by
    obtain rfl : k = 0 := by omega
    obtain rfl : j = 0 := by omega
    rfl)
  have e1 : (w.alloc (Obj.cells #[.int .i64 0] 3)).heap.size = w.heap.size + 1 := by simp
  rw [e1] at h1
  refine ⟨fun _ => .slice (some ⟨w.heap.size, 0, none⟩) 1 1, h1, fun i hi => ?_⟩
  obtain rfl : i = 0 := by simp at hi; omega
  exact h0.alloc _
end Go.Proofs.Ytnocbkhnmdmfhaa
