/- A table of slices that the call owns. -/
import Derived.Test.YtnocbkhnmdmfhaaOwn
namespace Go.Proofs.Ytnocbkhnmdmfhaa
open Go.RowKit

theorem cell_setCell_ne {w : World} {p q : Addr} {u v : Value} (h : w.cell? q = some v) (hne : q ≠ p) : (w.setCell p u).cell? q = some v :=
  (World.cell?_setCell_other w p q u (fun e => hne (by rw [e]))).trans h
theorem cell_setCell_same {w : World} {b i : Nat} {u v : Value} (h : w.cell? ⟨b, i, none⟩ = some v) : (w.setCell ⟨b, i, none⟩ u).cell? ⟨b, i, none⟩ = some u := by
  unfold World.cell? at h
  split at h
  · rename_i c e fr hb
    have hb : w.heap[b]? = some (.cells c e fr) := hb
    simp only [Option.isSome_none, Bool.false_eq_true, if_false] at h
    have hi : i < c.size := (Array.getElem?_eq_some_iff.1 h).1
    simp [World.cell?, World.setCell, Array.getElem?_modify, hb, hi]
  · cases h
theorem cell_setCell_far {w : World} {p q : Addr} {u v : Value} (h : w.cell? q = some v) (hne : q.block ≠ p.block) : (w.setCell p u).cell? q = some v :=
  (World.cell?_setCell_other w p q u (fun e => hne (by rw [e]))).trans h

/-- Two boxes laid one behind the other: the first. -/
theorem box2_one {w wr : World} {o1 o2 : Obj} (h : Below (w.heap.size + 2) ((w.alloc o1).alloc o2) wr) : Below (w.heap.size + 1) (w.alloc o1) wr := ((Below.refl _ _).alloc (by simp) _).trans (h.mono (by omega))
theorem box2_two {w wr : World} {o1 : Obj} {cs : Array Value} {T : TypeId} (h : Below (w.heap.size + 2) ((w.alloc o1).alloc (.cells cs T)) wr) : wr.rowIs (w.heap.size + 1) T cs.size (fun i => cs.getD i undef) := by
  have h1 := World.rowIs_alloc (w.alloc o1) cs T (fun i => cs.getD i undef) (fun i hi => by simp [hi])
  simp only [World.size_alloc] at h1
  exact h1.of_block (h.block _ (by omega))
theorem box2_lt {w wr : World} {o1 o2 : Obj} (h : Below (w.heap.size + 2) ((w.alloc o1).alloc o2) wr) : w.heap.size + 1 < wr.heap.size := by have := h.size; simp at this; omega

/-- The rows that the call owns, one for each of m indexes, held in row g. -/
structure TabOwn (w : World) (g base te e s m : Nat) (F : Nat → Value) (n : Nat → Nat) (f : Nat → Nat → Nat → Value) : Prop where
  row : w.rowIs g te m F
  own : ∀ v, v < m → Own w base e s (F v) (n v) (f v)
  apart : ∀ v u, v < m → u < m → v ≠ u → (F v).ownBlock = none ∨ (F v).ownBlock ≠ (F u).ownBlock

section
variable {w w' : World} {g base te e s m : Nat} {F : Nat → Value} {n : Nat → Nat} {f : Nat → Nat → Nat → Value}
theorem TabOwn.alloc (h : TabOwn w g base te e s m F n f) (o : Obj) : TabOwn (w.alloc o) g base te e s m F n f := ⟨h.row.alloc o, fun v hv => (h.own v hv).alloc o, h.apart⟩
theorem TabOwn.drewN (h : TabOwn w g base te e s m F n f) (k : Nat) : TabOwn (w.drewN k) g base te e s m F n f := ⟨h.row, fun v hv => (h.own v hv).drewN k, h.apart⟩
theorem TabOwn.drew (h : TabOwn w g base te e s m F n f) : TabOwn w.drew g base te e s m F n f := ⟨h.row, fun v hv => (h.own v hv).drew, h.apart⟩

/-- Behind an append to row v that is stored back. -/
theorem TabOwn.put (h : TabOwn w g base te e s m F n f) (hgb : g < base) {v : Nat} (hv : v < m) {v' : Value} {n' : Nat} {f' : Nat → Nat → Value} (hown : Own w' base e s v' n' f') (hg : w.grownBy w' (F v).ownBlock) (hat : v'.ownBlock = (F v).ownBlock ∨ v'.ownBlock = some w.heap.size) :
    TabOwn (w'.setCell ⟨g, v, none⟩ v') g base te e s m (fun u => if u = v then v' else F u) (fun u => if u = v then n' else n u) (fun u => if u = v then f' else f u) := by
  have hlt : ∀ u, u < m → ∀ k, (F u).ownBlock = some k → base ≤ k ∧ k < w.heap.size := fun u hu => (h.own u hu).lt
  have hgw : g < w.heap.size := h.row.lt
  refine ⟨?_, fun u hu => ?_, fun a b ha hb hab => ?_⟩
  · have : w'.rowIs g te m F := h.row.of_block (hg.block g hgw (fun e => by have := (hlt v hv g e.symm).1; omega))
    exact (this.set v v').congr fun u _ => by split <;> rfl
  · by_cases e : u = v
    · subst e
      simp only [if_true]
      exact hown.setCell (fun e => by have := (hown.lt _ e).1; simp at this; omega) _
    · simp only [if_neg e]
      have hk : Own w' base _ s (F u) (n u) (f u) := (h.own u hu).kept hg (h.apart u v hu hv e)
      exact hk.setCell (fun e => by have := (hk.lt _ e).1; simp at this; omega) _
  · by_cases ea : a = v
    · have eb : ¬ b = v := fun e => hab (by rw [ea, e])
      simp only [if_pos ea, if_neg eb]
      subst ea
      rcases hat with h1 | h1
      · rw [h1]; exact h.apart a b ha hb hab
      · right
        rw [h1]
        intro e2
        have := (hlt b hb _ e2.symm).2
        omega
    · simp only [if_neg ea]
      by_cases eb : b = v
      · simp only [if_pos eb]
        subst eb
        rcases hat with h1 | h1
        · rw [h1]; exact h.apart a b ha hb hab
        · rw [h1]
          cases hfa : (F a).ownBlock with
          | none => exact .inl rfl
          | some k =>
            right
            intro e2
            injection e2 with e2
            have := (hlt a ha k hfa).2
            omega
      · simp only [if_neg eb]; exact h.apart a b ha hb hab
end

end Go.Proofs.Ytnocbkhnmdmfhaa
