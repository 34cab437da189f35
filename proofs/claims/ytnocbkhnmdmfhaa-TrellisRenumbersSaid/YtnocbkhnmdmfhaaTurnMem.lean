/- codewrightlaw47.turn, turned: the nodes of each time turned. -/
import Derived.Test.YtnocbkhnmdmfhaaTurnMath
import Derived.Test.YtnocbkhnmdmfhaaRefRen
namespace Go.Proofs.Ytnocbkhnmdmfhaa
open Go.RowKit

/-- By how much the nodes at time i are turned. -/
def Trel.tv (T : Trel) (m : Nat) (b : Nat → Int) (i : Nat) : Nat := if i < m then (((b i).tmod (T.W i) + T.W i).tmod (T.W i)).toNat else 0
theorem tmod_small {a n : Int} (hn : 0 < n) : -n < a.tmod n ∧ a.tmod n < n := by
  have h1 := Int.tmod_lt_of_pos a hn
  have h2 := Int.tmod_lt_of_pos (-a) hn
  rw [Int.neg_tmod] at h2
  omega
theorem Trel.tv_lt {T : Trel} (hP : T.Proper) {m i : Nat} {b : Nat → Int} (hi : i ≤ T.n) : T.tv m b i < (T.W i).toNat := by
  have hw := hP.shape.wid hi
  unfold Trel.tv
  split
  · have h1 := tmod_small (a := (b i).tmod (T.W i) + T.W i) (n := T.W i) (by omega)
    omega
  · omega
set_option maxRecDepth 100000 in
set_option maxHeartbeats 4000000 in
theorem turn_any (T : Trel) (A B V : Option Addr) (c d m vc i : Nat) (b : Nat → Int) (w : World) (h : T.Reads w A B) (hP : T.Proper) (hv : IntsR w w.heap.size V m b) (hb : ∀ k, k < m → InI64 (b k)) (hi : i ≤ T.n) :
    Calls Try.prog 73 #[.agg #[.slice A T.nw c, .slice B T.n d], .slice V m vc, .int .i64 (i : Nat)] w fun e w' => e = .returned (.int .i64 (T.tv m b i : Nat)) ∧ Below w.heap.size w w' := by
  obtain ⟨RB, hRB⟩ : ∃ o, o = (Obj.cells #[.slice A T.nw c, .slice B T.n d] 25) := ⟨_, rfl⟩
  have hB0 : Below (w.heap.size + 1) (w.alloc RB) (w.alloc RB) := Below.refl _ _
  have HS : Hid (∀ w', Below (w.heap.size + 1) (w.alloc RB) w' → (w'.cell? ⟨w.heap.size, 0, none⟩ = some (.slice A T.nw c) ∧ w'.cell? ⟨w.heap.size, 1, none⟩ = some (.slice B T.n d)) ∧ Below w.heap.size w w') := fun w' hB => by
    have hB' := tbox_below hB
    subst hRB
    exact ⟨⟨tbox hB rfl, tbox hB rfl⟩, hB'⟩
  obtain ⟨⟨p0, p1⟩, hW⟩ := HS.out _ hB0
  have hi0 : (0 : Int) ≤ (i : Int) := by omega
  have hn64 := hP.shape.n64
  by_cases hlt : i < m
  · have hlt' : (i : Int) < (m : Int) := by omega
    have hge : ¬ (m : Int) ≤ (i : Int) := by omega
    have hge2 : ¬ (i : Int) ≥ (m : Int) := by omega
    have hnw : (i : Int) < (T.nw : Int) := by have := hP.shape.nw; omega
    obtain ⟨ab, ao, rfl, hab, x0, _⟩ := (h.on hW).width (i := i) (by have := hP.shape.nw; omega)
    obtain ⟨vb, vo, rfl, hvb, y0⟩ := (hv.on hW).at hlt
    have hw := hP.shape.wid hi
    have hbb := hb i hlt
    obtain ⟨n, hn⟩ : ∃ n, n = T.W i := ⟨_, rfl⟩
    obtain ⟨x, hx⟩ : ∃ x, x = b i := ⟨_, rfl⟩
    rw [← hn] at x0 hw
    rw [← hx] at y0 hbb
    have hbb1 := hbb.1
    have hbb2 := hbb.2
    have h1 := tmod_small (a := x) (n := n) (by omega)
    have h2 := tmod_small (a := x.tmod n + n) (n := n) (by omega)
    have h3 : 0 ≤ (x.tmod n + n).tmod n := Int.tmod_nonneg _ (by omega)
    have hres : Hid (((T.tv m b i : Nat) : Int) = (x.tmod n + n).tmod n) := by
      show _ = _
      unfold Trel.tv
      rw [if_pos hlt, ← hn, ← hx]
      omega
    have hn0 : ¬ n = 0 := by omega
    have hw6 : IntKind.i64.wrap (x.tmod n + n) = x.tmod n + n := IntWalk.i64_in _ (by omega)
    clear h hv hb hn hx hbb
    go_enter Try.func73, Try.ntmps73
    go_upto_region 1 with fail
    rw [← hRB]
    clear hRB HS hB0
    go_wp2
    go_ret
    refine ⟨?_, hW⟩
    rw [hres.out]
    show Ending.returned (.int .i64 (x.tmod n % n)) = _
    have hq0 : 0 ≤ x.tmod n + n := by omega
    rw [Int.tmod_eq_emod_of_nonneg hq0]
    simp
  · have hge : (i : Int) ≥ (m : Int) := by omega
    go_enter Try.func73, Try.ntmps73
    go_upto_region 1 with fail
    rw [← hRB]
    clear hRB HS hB0
    go_wp2
    go_ret
    refine ⟨?_, hW⟩
    unfold Trel.tv
    rw [if_neg hlt]
    rfl

/-- Edge q of section i, turned. -/
def Trel.trn (T : Trel) (s : Nat → Nat) (i q : Nat) : Int × Int × Int := (((T.pi s i (T.fr i q).toNat : Nat) : Int), T.lb i q, ((T.pi s (i + 1) (T.to i q).toNat : Nat) : Int))
/-- The edges listed ahead of edge j at node v. -/
def Trel.tlA (T : Trel) (s : Nat → Nat) (i v j : Nat) : List Nat := grpA (fun j => T.pi s i (T.fr i j).toNat) (T.el i) v j
def Trel.tlE (T : Trel) (s : Nat → Nat) (i v j p : Nat) : Int × Int × Int := T.trn s i ((T.tlA s i v j).getD p 0)
theorem grpA_len {g : Nat → Nat} {e u j : Nat} (hj : j ≤ e) : (grpA g e u j).length ≤ e := by
  have hnd : (grpA g e u j).Nodup := by
    unfold grpA
    refine List.nodup_append.2 ⟨grp_pairwise (fun a b _ _ h e => by subst e; omega) (fun a b h _ _ e => by omega), List.Pairwise.filter _ List.nodup_range, ?_⟩
    intro a ha b hb e
    subst e
    rw [mem_grp] at ha
    simp only [List.mem_filter, List.mem_range, decide_eq_true_eq] at hb
    omega
  have hsub : ∀ q, q ∈ grpA g e u j → q ∈ List.range e := fun q hq => by
    rw [List.mem_range]
    rcases mem_grpA.1 hq with h | h <;> omega
  by_cases h : (grpA g e u j).length ≤ e
  · exact h
  · have := (perm_of_nodup hnd hsub (by simp; omega)).length_eq
    simp at this
    omega
section
variable {T : Trel} {s : Nat → Nat} {i v j : Nat}
theorem Trel.tlA_pos (h : T.pi s i (T.fr i j).toNat = v) : T.tlA s i v (j + 1) = T.tlA s i v j ++ [j] := grpA_pos h
theorem Trel.tlA_neg (h : ¬ T.pi s i (T.fr i j).toNat = v) : T.tlA s i v (j + 1) = T.tlA s i v j := grpA_neg h
theorem Trel.tlE_neg (h : ¬ T.pi s i (T.fr i j).toNat = v) : T.tlE s i v (j + 1) = T.tlE s i v j := by
  funext p
  unfold Trel.tlE
  rw [Trel.tlA_neg h]
theorem Trel.tlE_old (h : T.pi s i (T.fr i j).toNat = v) {p : Nat} (hp : p < (T.tlA s i v j).length) : T.tlE s i v (j + 1) p = T.tlE s i v j p := by
  unfold Trel.tlE
  rw [Trel.tlA_pos h, List.getD_eq_getElem?_getD, List.getElem?_append_left hp, ← List.getD_eq_getElem?_getD]
theorem Trel.tlE_last (h : T.pi s i (T.fr i j).toNat = v) : T.tlE s i v (j + 1) (T.tlA s i v j).length = (((v : Nat) : Int), T.lb i j, ((T.pi s (i + 1) (T.to i j).toNat : Nat) : Int)) := by
  unfold Trel.tlE
  rw [Trel.tlA_pos h]
  have : (T.tlA s i v j ++ [j]).getD (T.tlA s i v j).length 0 = j := by simp [List.getD_eq_getElem?_getD]
  rw [this]
  unfold Trel.trn
  rw [h]
theorem Trel.tlA_next : T.tlA s i v (T.el i) = T.tlA s i (v + 1) 0 := grpA_next _ _ _
theorem Trel.tlE_next : T.tlE s i v (T.el i) = T.tlE s i (v + 1) 0 := by
  funext p
  unfold Trel.tlE
  rw [Trel.tlA_next]
end
/-- What has been built ahead of section i. -/
structure TuSt (T : Trel) (s : Nat → Nat) (i ob wb wc rb : Nat) (w : World) (base : Nat) : Prop where
  res : w.rowIs rb 25 2 (fun _ => .slice none 0 0)
  wid : Own w base 3 1 (.slice (some ⟨wb, 0, none⟩) T.nw wc) T.nw (fun k _ => .int .i64 (T.W k))
  box : ∃ EV, w.rowIs ob 25 2 (fun k => if k = 0 then .slice (some ⟨wb, 0, none⟩) T.nw wc else EV) ∧ ETab w base EV i T.el fun i p => T.trn s i ((T.tl s i).getD p 0)
theorem TuSt.on {T : Trel} {s : Nat → Nat} {i ob wb wc rb base : Nat} {w w' : World} (h : TuSt T s i ob wb wc rb w base) (hb : Below w.heap.size w w') : TuSt T s i ob wb wc rb w' base := by
  obtain ⟨h0, h1, ⟨EV, h2, h3⟩⟩ := h
  exact ⟨h0.of_block (hb.block rb h0.lt), h1.on hb, ⟨EV, h2.of_block (hb.block ob h2.lt), h3.on hb⟩⟩
theorem tuSt_start {T : Trel} (s : Nat → Nat) (X : World) {cap : Nat} {cur : Array Value} (k1 : T.nw ≤ cap) (k2 : cap ≤ maxLen) (k3 : cap * 1 ≤ cur.size) (k4 : ∀ k, k < T.nw → ∀ j, j < 1 → cur[k * 1 + j]? = some (.int .i64 (T.W k))) :
    TuSt T s 0 (X.heap.size + 1 + 1 + 1) (X.heap.size + 1 + 1) cap X.heap.size ((((X.alloc (Obj.cells #[.slice none 0 0, .slice none 0 0] 25)).alloc (Obj.cells #[] 3)).alloc (Obj.cells cur 3)).alloc (Obj.cells #[.slice (some ⟨X.heap.size + 1 + 1, 0, none⟩) T.nw cap, .slice none 0 0] 25)).drew X.heap.size := by
  obtain ⟨X1, hX1⟩ : ∃ W, W = X.alloc (Obj.cells #[.slice none 0 0, .slice none 0 0] 25) := ⟨_, rfl⟩
  obtain ⟨X2, hX2⟩ : ∃ W, W = X1.alloc (Obj.cells #[] 3) := ⟨_, rfl⟩
  obtain ⟨X3, hX3⟩ : ∃ W, W = X2.alloc (Obj.cells cur 3) := ⟨_, rfl⟩
  obtain ⟨X4, hX4⟩ : ∃ W, W = X3.alloc (Obj.cells #[.slice (some ⟨X.heap.size + 1 + 1, 0, none⟩) T.nw cap, .slice none 0 0] 25) := ⟨_, rfl⟩
  have s1 : X1.heap.size = X.heap.size + 1 := by rw [hX1]; simp
  have s2 : X2.heap.size = X.heap.size + 1 + 1 := by rw [hX2]; simp [s1]
  have s3 : X3.heap.size = X.heap.size + 1 + 1 + 1 := by rw [hX3]; simp [s2]
  have b2 : Below X1.heap.size X1 X2 := by rw [hX2]; exact (Below.refl _ _).alloc (Nat.le_refl _) _
  have b3 : Below X2.heap.size X2 X3 := by rw [hX3]; exact (Below.refl _ _).alloc (Nat.le_refl _) _
  have b4 : Below X3.heap.size X3 X4 := by rw [hX4]; exact (Below.refl _ _).alloc (Nat.le_refl _) _
  have r1 : X1.rowIs X.heap.size 25 2 (fun _ => .slice none 0 0) := by rw [hX1]; exact World.rowIs_alloc X _ _ _ (fun i hi => by
    match i, hi with
    | 0, _ => rfl
    | 1, _ => rfl)
  have r3 := Own.new (w := X2) (base := X.heap.size) (e := 3) (s := 1) (f := fun k _ => .int .i64 (T.W k)) (by omega) k1 k2 k3 k4
  rw [← hX3, s2] at r3
  have r4 : X4.rowIs (X.heap.size + 1 + 1 + 1) 25 2 (fun k => if k = 0 then .slice (some ⟨X.heap.size + 1 + 1, 0, none⟩) T.nw cap else .slice none 0 0) := by
    rw [hX4, ← s3]
    exact World.rowIs_alloc X3 _ _ _ (fun i hi => by
      match i, hi with
      | 0, _ => rfl
      | 1, _ => rfl)
  rw [← hX1, ← hX2, ← hX3, ← hX4]
  refine ⟨?_, (r3.on b4).drew, ⟨.slice none 0 0, r4, ETab.nil _ _ _ _⟩⟩
  have := r1.of_block (b2.block _ r1.lt)
  have := this.of_block (b3.block _ this.lt)
  exact this.of_block (b4.block _ this.lt)
end Go.Proofs.Ytnocbkhnmdmfhaa
