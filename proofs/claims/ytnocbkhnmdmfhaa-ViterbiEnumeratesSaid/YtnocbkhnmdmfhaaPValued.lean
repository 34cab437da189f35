/- semiring.valued of polynomials. -/
import Derived.Test.YtnocbkhnmdmfhaaPRows
namespace Go.Proofs.Ytnocbkhnmdmfhaa
open Go.RowKit

/-- Rows of polynomials that are read. -/
def PolRows (w : World) (V : Option Addr) (m : Nat) (n : Nat → Nat) (y : Nat → Nat → Nat → Nat) : Prop :=
  ∀ i, i < m → ∃ b off R c, V = some ⟨b, off, none⟩ ∧ b < w.heap.size ∧ w.cell? ⟨b, off + i, none⟩ = some (.slice R (n i) c) ∧
    ∀ j, j < n i → ∃ b2 o2 U, R = some ⟨b2, o2, none⟩ ∧ b2 < w.heap.size ∧ w.cell? ⟨b2, o2 + j, none⟩ = some U ∧ PolV w U (y i j)
theorem PolRows.on {w w' : World} {V : Option Addr} {m : Nat} {n : Nat → Nat} {y : Nat → Nat → Nat → Nat} (h : PolRows w V m n y) (hb : Below w.heap.size w w') : PolRows w' V m n y := fun i hi => by
  obtain ⟨b, off, R, c, e, h1, h2, h3⟩ := h i hi
  refine ⟨b, off, R, c, e, Nat.lt_of_lt_of_le h1 hb.size, (hb.cell (p := ⟨b, _, none⟩) h1).trans h2, fun j hj => ?_⟩
  obtain ⟨b2, o2, U, e2, h4, h5, h6⟩ := h3 j hj
  exact ⟨b2, o2, U, e2, Nat.lt_of_lt_of_le h4 hb.size, (hb.cell (p := ⟨b2, _, none⟩) h4).trans h5, h6.on hb⟩
theorem PolTab.rows {w : World} {g base m : Nat} {F : Nat → Value} {n : Nat → Nat} {x : Nat → Nat → Nat → Nat} (h : PolTab w g base m F n x) : PolRows w (some ⟨g, 0, none⟩) m n x := fun i hi => by
  have hc := h.row.cell hi
  obtain ⟨A, c, e⟩ := (h.own i hi).isSlice
  rw [e] at hc
  refine ⟨g, 0, A, c, rfl, h.row.lt, by rw [Nat.zero_add]; exact hc, fun j hj => ?_⟩
  obtain ⟨b, o, d, U, e2, _, hl, hc2, hU, _⟩ := h.at hi hj
  rw [e] at e2
  injection e2 with e2
  exact ⟨b, o, U, e2, hl, hc2, hU⟩

set_option maxRecDepth 100000 in
set_option maxHeartbeats 4000000 in
theorem valuedP_any (T : Trel) (A B V : Option Addr) (c d vc : Nat) (y : Nat → Nat → Nat → Nat) (w : World) (h : T.Reads w A B) (hs : T.shapeE = 0) (hv : PolRows w V T.n T.el y) :
    Calls Try.prog 85 #[.agg #[.slice A T.nw c, .slice B T.n d], .slice V T.n vc] w fun e w' => e = .returned (.int .i64 0) ∧ Below w.heap.size w w' := by
  obtain ⟨RB, hRB⟩ : ∃ o, o = (Obj.cells #[.slice A T.nw c, .slice B T.n d] 25) := ⟨_, rfl⟩
  have hB0 : Below (w.heap.size + 1) (w.alloc RB) (w.alloc RB) := Below.refl _ _
  have HS : Hid (∀ w', Below (w.heap.size + 1) (w.alloc RB) w' → (w'.cell? ⟨w.heap.size, 0, none⟩ = some (.slice A T.nw c) ∧ w'.cell? ⟨w.heap.size, 1, none⟩ = some (.slice B T.n d)) ∧ Below w.heap.size w w') := fun w' hB => by
    have hB' := tbox_below hB
    subst hRB
    exact ⟨⟨tbox hB rfl, tbox hB rfl⟩, hB'⟩
  obtain ⟨⟨p0, p1⟩, hW⟩ := HS.out _ hB0
  go_enter Try.func85, Try.ntmps85
  go_wp2_with fail
  rw [← hRB]
  refine (shape_any T A B c d _ (h.on hW)).mono ?_
  rintro e w1 ⟨rfl, hb⟩
  have hB1 := tbox_on hB0 hb
  rw [hs]
  have HR := hid h
  have HV := hid hv
  have hn64 := (Trel.shape_of hs).n64
  clear hW p0 p1 hb hB0 hRB h hv hs
  obtain ⟨⟨p0, p1⟩, hW⟩ := HS.out _ hB1
  go_wp2
  go_loopg [22] T.n (fun gg iv wx => ∃ k : Nat, iv = .int .i64 (k : Nat) ∧ k ≤ T.n ∧ T.n ≤ k + gg ∧ Below w1.heap.size w1 wx)
  case atStart => exact ⟨0, rfl, by omega, by omega, Below.refl _ _⟩
  case round =>
    obtain ⟨k, rfl, hk, hkg, hb⟩ := hrel
    have hk0 : (0 : Int) ≤ (k : Int) := by omega
    replace p0 := cellS hb p0
    replace p1 := cellS hb p1
    have hWr := onS hW hb
    clear hW
    by_cases hlt : k < T.n
    · have hlt' : (k : Int) < (T.n : Int) := by omega
      obtain ⟨b, o, E, ec, rfl, _, x0, _, _, _, _⟩ := (HR.out.on hWr).sec hlt
      obtain ⟨vb, vo, R, rc, rfl, _, x1, _⟩ := (HV.out.on hWr) k hlt
      have hne : ((T.el k : Int) != (T.el k : Int)) = false := by simp
      go_wp2
      go_roundg (gk - 1)
      case measure => omega
      case rel => exact ⟨k + 1, by go_num, by omega, by omega, hb⟩
    · have hlt' : ¬ (k : Int) < (T.n : Int) := by omega
      go_wp2
      go_ret
      exact ⟨rfl, hWr⟩
end Go.Proofs.Ytnocbkhnmdmfhaa
