/- Flows and cuts: the plain laws. -/
import Derived.Test.YthdeldaeghhfgaaIsFlow
namespace Go.Proofs.Ythdeldaeghhfgaa
open Go.RowKit

def sumV (g : Nat → Int) : Nat → Int
  | 0 => 0
  | k + 1 => sumV g k + g k

theorem sumV_congr {g h : Nat → Int} {n : Nat} (e : ∀ i, i < n → g i = h i) : sumV g n = sumV h n := by
  induction n with
  | zero => rfl
  | succ n ih => simp only [sumV]; rw [ih fun i hi => e i (by omega), e n (by omega)]
theorem sumV_add (g h : Nat → Int) (n : Nat) : sumV (fun i => g i + h i) n = sumV g n + sumV h n := by
  induction n with
  | zero => rfl
  | succ n ih => simp only [sumV]; rw [ih]; omega
theorem sumV_sub (g h : Nat → Int) (n : Nat) : sumV (fun i => g i - h i) n = sumV g n - sumV h n := by
  induction n with
  | zero => rfl
  | succ n ih => simp only [sumV]; rw [ih]; omega
theorem sumV_zero {g : Nat → Int} {n : Nat} (e : ∀ i, i < n → g i = 0) : sumV g n = 0 := by
  induction n with
  | zero => rfl
  | succ n ih => simp only [sumV]; rw [ih fun i hi => e i (by omega), e n (by omega)]; rfl
theorem sumV_single {g : Nat → Int} {n a : Nat} (ha : a < n) (e : ∀ i, i < n → i ≠ a → g i = 0) : sumV g n = g a := by
  induction n with
  | zero => omega
  | succ n ih =>
    simp only [sumV]
    by_cases h : a = n
    · subst h
      rw [sumV_zero fun i hi => e i (by omega) (by omega)]; omega
    · rw [ih (by omega) fun i hi => e i (by omega), e n (by omega) (by omega)]; omega
theorem sumV_pair {g : Nat → Int} {n a b : Nat} (ha : a < n) (hb : b < n) (hab : a ≠ b) (e : ∀ i, i < n → i ≠ a → i ≠ b → g i = 0) : sumV g n = g a + g b := by
  have h1 : sumV g n = sumV (fun i => if i = a then g i else 0) n + sumV (fun i => if i = a then 0 else g i) n := by
    rw [← sumV_add]
    exact sumV_congr fun i _ => by split <;> omega
  rw [h1, sumV_single ha (fun i _ h => if_neg h), sumV_single hb (fun i hi h => by
    by_cases hia : i = a
    · simp [hia]
    · simp [hia, e i hi hia h])]
  simp [Ne.symm hab]
theorem sumV_le {g h : Nat → Int} {n : Nat} (e : ∀ i, i < n → g i ≤ h i) : sumV g n ≤ sumV h n := by
  induction n with
  | zero => exact Int.le_refl _
  | succ n ih =>
    simp only [sumV]
    have := ih fun i hi => e i (by omega)
    have := e n (by omega)
    omega

/-- What the first k arcs carry out of a set, less what they carry into it. -/
def Net.crossTo (N : Net) (f : Nat → Int) (sd : Nat → Bool) (k : Nat) : Int := sumV (fun i => (if sd (N.fr i).toNat then f i else 0) - (if sd (N.to i).toNat then f i else 0)) k

theorem Net.sum_net {N : Net} (hg : N.Good) (f : Nat → Int) (sd : Nat → Bool) (k : Nat) (hk : k ≤ N.n) :
    sumV (fun v => if sd v then N.netAt f v k else 0) N.V.toNat = N.crossTo f sd k := by
  induction k with
  | zero => simp [Net.netAt, Net.crossTo, sumV]; exact sumV_zero fun _ _ => rfl
  | succ k ih =>
    obtain ⟨g0, g1, g2, g3, _⟩ := hg.arc k (by omega)
    have h1 : sumV (fun v => if sd v then N.netAt f v (k + 1) else 0) N.V.toNat =
        sumV (fun v => if sd v then N.netAt f v k else 0) N.V.toNat + sumV (fun v => if sd v then (if N.fr k = v then f k else 0) else 0) N.V.toNat - sumV (fun v => if sd v then (if N.to k = v then f k else 0) else 0) N.V.toNat := by
      rw [← sumV_add, ← sumV_sub]
      exact sumV_congr fun v _ => by simp only [Net.netAt]; split <;> omega
    rw [h1, ih (by omega)]
    rw [sumV_single (a := (N.fr k).toNat) (by omega) (fun i _ hi => by
      have : ¬ N.fr k = (i : Int) := by omega
      simp [this])]
    rw [sumV_single (a := (N.to k).toNat) (by omega) (fun i _ hi => by
      have : ¬ N.to k = (i : Int) := by omega
      simp [this])]
    have e1 : N.fr k = (((N.fr k).toNat : Nat) : Int) := by omega
    have e2 : N.to k = (((N.to k).toNat : Nat) : Int) := by omega
    rw [if_pos e1, if_pos e2]
    simp only [Net.crossTo, sumV]
    omega

theorem Net.cross_le {N : Net} (f : Nat → Int) (sd : Nat → Bool) (hf : ∀ i, i < N.n → 0 ≤ f i ∧ f i ≤ N.cp i) (k : Nat) (hk : k ≤ N.n) : N.crossTo f sd k ≤ N.capTo sd k := by
  induction k with
  | zero => simp [Net.crossTo, sumV, Net.capTo]
  | succ k ih =>
    have := ih (by omega)
    have := hf k (by omega)
    have e : N.crossTo f sd (k + 1) = N.crossTo f sd k + ((if sd (N.fr k).toNat then f k else 0) - (if sd (N.to k).toNat then f k else 0)) := rfl
    rw [e]
    simp only [Net.capTo, Net.leaves]
    by_cases h1 : sd (N.fr k).toNat = true <;> by_cases h2 : sd (N.to k).toNat = true <;> simp [h1, h2] <;> omega

/-- The value of a flow is what crosses any cut. -/
theorem Net.value_cross {N : Net} {s t : Int} {m ms : Nat} {f : Nat → Int} {sd : Nat → Bool} (he : N.Ends s t) (hf : N.FlowP s t m f) (hc : N.CutP s t ms sd) : N.netAt f s N.n = N.crossTo f sd N.n := by
  rw [← Net.sum_net he.good f sd N.n (Nat.le_refl _)]
  have s0 := he.s0
  have s1 := he.s1
  have es : ((s.toNat : Nat) : Int) = s := by omega
  rw [sumV_single (a := s.toNat) (by omega) (fun i hi h => ?_)]
  · rw [if_pos hc.2.1, es]
  · by_cases hit : (i : Int) = t
    · have : i = t.toNat := by omega
      subst this
      simp [hc.2.2]
    · by_cases hd : sd i
      · simp only [hd, if_true]
        exact hf.2.2 i (by omega) (by omega) hit
      · simp [hd]

theorem Net.duality {N : Net} {s t : Int} {m ms : Nat} {f : Nat → Int} {sd : Nat → Bool} (he : N.Ends s t) (hf : N.FlowP s t m f) (hc : N.CutP s t ms sd) : N.netAt f s N.n ≤ N.cap sd := by
  rw [Net.value_cross he hf hc]
  exact Net.cross_le f sd hf.2.1 N.n (Nat.le_refl _)

theorem Net.balance {N : Net} {s t : Int} {m : Nat} {f : Nat → Int} (he : N.Ends s t) (hf : N.FlowP s t m f) : N.netAt f s N.n = -N.netAt f t N.n := by
  have h := Net.sum_net he.good f (fun _ => true) N.n (Nat.le_refl _)
  simp only [if_true] at h
  have h0 : N.crossTo f (fun _ => true) N.n = 0 := sumV_zero fun i _ => by simp
  rw [h0] at h
  have s0 := he.s0
  have s1 := he.s1
  have t0 := he.t0
  have t1 := he.t1
  have ne := he.ne
  rw [sumV_pair (a := s.toNat) (b := t.toNat) (by omega) (by omega) (by omega) (fun i hi h1 h2 => hf.2.2 i (by omega) (by omega) (by omega))] at h
  rw [show ((s.toNat : Nat) : Int) = s by omega, show ((t.toNat : Nat) : Int) = t by omega] at h
  omega

/-- One box: the cells of a struct that a call was given by value. -/
theorem box_cell {w wr : World} {cs : Array Value} {T : TypeId} (h : Below (w.heap.size + 1) (w.alloc (.cells cs T)) wr) (i : Nat) {v : Value} (hi : cs[i]? = some v) : wr.cell? ⟨w.heap.size, i, none⟩ = some v := by
  rw [h.cell (by simp), World.cell?_alloc_at _ _ _ _ rfl]
  exact hi
theorem box_below {w wr : World} {o : Obj} (h : Below (w.heap.size + 1) (w.alloc o) wr) : Below w.heap.size w wr := ((Below.refl _ _).alloc (Nat.le_refl _) _).trans (h.mono (by omega))
theorem box_lt {w wr : World} {o : Obj} (h : Below (w.heap.size + 1) (w.alloc o) wr) : w.heap.size < wr.heap.size := by have := h.size; simp at this; omega
theorem box_on {w wr w' : World} {o : Obj} (h : Below (w.heap.size + 1) (w.alloc o) wr) (hb : Below wr.heap.size wr w') : Below (w.heap.size + 1) (w.alloc o) w' := h.trans (hb.mono (box_lt h))

theorem flowP_vals {N : Net} {s t v : Int} {m : Nat} {f : Nat → Int} (he : N.Ends s t) (hf : N.FlowP s t m f) (h0 : 0 ≤ v) (h1 : v < N.V) : N.valE m f v = 0 ∧ N.valV m f v = N.netAt f v N.n := by
  obtain ⟨hmn, hr, _⟩ := hf
  subst hmn
  have hni : ¬ 0 ≤ idxTo outCap f N.n := by
    have : idxTo outCap f N.n = -1 := idxTo_neg fun i hi => by
      have := hr i hi
      have := he.good.arc i hi
      simp [outCap]; omega
    omega
  exact valE_ok (Net.chk_of_good he.good) hni h0 h1
theorem cutP_vals {N : Net} {s t : Int} {ms : Nat} {sd : Nat → Bool} (he : N.Ends s t) (hc : N.CutP s t ms sd) : N.cutE ms = 0 ∧ N.cutV ms sd = N.cap sd := by
  have : N.cutE ms = 0 := by simp [Net.cutE, Net.chk_of_good he.good, hc.1]
  exact ⟨this, by simp [Net.cutV, this]⟩
theorem netAt_small {N : Net} {s t v : Int} {m : Nat} {f : Nat → Int} (he : N.Ends s t) (hf : N.FlowP s t m f) : -2251799813685248 ≤ N.netAt f v N.n ∧ N.netAt f v N.n ≤ 2251799813685248 := by
  have := Net.netAt_bd2 (N := N) f v N.n fun i hi => by
    have := hf.2.1 i hi
    have := he.good.arc i hi
    omega
  have := he.good.n2
  omega
end Go.Proofs.Ythdeldaeghhfgaa
