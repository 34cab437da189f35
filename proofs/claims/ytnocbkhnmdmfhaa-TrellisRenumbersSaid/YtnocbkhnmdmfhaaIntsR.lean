/- Lists of lists of integers that come in. -/
import Derived.Test.YtnocbkhnmdmfhaaOpen
namespace Go.Proofs.Ytnocbkhnmdmfhaa
open Go.RowKit Go.ChangeShapes Go.WideShapes Go.ChangeAt

/-- A slice of ints. -/
def IntsR (w : World) (B : Nat) (A : Option Addr) (n : Nat) (f : Nat → Int) : Prop := Rd w B A n 1 (fun j _ => .int .i64 (f j))
theorem IntsR.on {w w' : World} {A : Option Addr} {n : Nat} {f : Nat → Int} (h : IntsR w w.heap.size A n f) (hb : Below w.heap.size w w') : IntsR w' w'.heap.size A n f := (Rd.below h hb (Nat.le_refl _)).mono hb.size
theorem IntsR.at {w : World} {B n i : Nat} {A : Option Addr} {f : Nat → Int} (h : IntsR w B A n f) (hi : i < n) : ∃ b off, A = some ⟨b, off, none⟩ ∧ b < B ∧ w.cell? ⟨b, off + i, none⟩ = some (.int .i64 (f i)) := Rd.at1 h hi
theorem IntsR.congr {w : World} {B n : Nat} {A : Option Addr} {f g : Nat → Int} (h : IntsR w B A n f) (e : ∀ i, i < n → f i = g i) : IntsR w B A n g := fun i hi => by
  obtain ⟨b, off, e1, hb, hc⟩ := h i hi
  exact ⟨b, off, e1, hb, fun j hj => by rw [hc j hj]; show some (Value.int .i64 (f i)) = some (.int .i64 (g i)); rw [e i hi]⟩
/-- A slice of such slices. -/
def IntRows (w : World) (T : Option Addr) (M : Nat) (ln : Nat → Nat) (W : Nat → Nat → Int) : Prop :=
  ∀ i, i < M → ∃ b off A c, T = some ⟨b, off, none⟩ ∧ b < w.heap.size ∧ w.cell? ⟨b, off + i, none⟩ = some (.slice A (ln i) c) ∧ ln i ≤ c ∧ c ≤ maxLen ∧ IntsR w w.heap.size A (ln i) (W i) ∧ ∀ j, j < ln i → -9223372036854775808 ≤ W i j ∧ W i j ≤ 9223372036854775807
theorem IntRows.on {w w' : World} {T : Option Addr} {M : Nat} {ln : Nat → Nat} {W : Nat → Nat → Int} (h : IntRows w T M ln W) (hb : Below w.heap.size w w') : IntRows w' T M ln W := fun i hi => by
  obtain ⟨b, off, A, c, e, h1, h2, h3, h4, h5, h6⟩ := h i hi
  exact ⟨b, off, A, c, e, Nat.lt_of_lt_of_le h1 hb.size, (hb.cell (p := ⟨b, _, none⟩) h1).trans h2, h3, h4, h5.on hb, h6⟩
section
variable {H : Type} {enc : TypeId × Value → H} {w : World} {base : Nat} {spare : Nat → Bool} {held : Bool} {cs : List Value}
theorem sees_rows (h : Sees enc Try.prog w base spare held 26 cs) : ∃ T M c ln W, cs = [.slice T M c] ∧ M ≤ c ∧ c ≤ maxLen ∧ IntRows w T M ln W := by
  obtain ⟨T, m, c, f, hcs, h1, h2, hr, hf⟩ := sees_slice Try.underlying26 (show Try.prog.cellsOf 22 = 1 by kernel_rfl) (by omega) h
  have key : ∀ i, ∃ t : Option Addr × Nat × Nat × (Nat → Int), i < m → f i 0 = .slice t.1 t.2.1 t.2.2.1 ∧ t.2.1 ≤ t.2.2.1 ∧ t.2.2.1 ≤ maxLen ∧ IntsR w w.heap.size t.1 t.2.1 t.2.2.2 ∧ ∀ j, j < t.2.1 → -9223372036854775808 ≤ t.2.2.2 j ∧ t.2.2.2 j ≤ 9223372036854775807 := by
    intro i
    by_cases hi : i < m
    · obtain ⟨A, n, c, g, e, g1, g2, hx, hw⟩ := sees_ints Try.underlying22 Try.underlying3 (by kernel_rfl) (hf i hi)
      have e' : [f i 0] = [.slice A n c] := e
      simp only [List.cons.injEq, and_true] at e'
      exact ⟨(A, n, c, g), fun _ => ⟨e', g1, g2, hx, fun j hj => wf_i64 (hw j hj)⟩⟩
    · exact ⟨(none, 0, 0, fun _ => 0), fun h => absurd h hi⟩
  obtain ⟨t, key⟩ := Classical.axiomOfChoice key
  refine ⟨T, m, c, fun i => (t i).2.1, fun i => (t i).2.2.2, hcs, h1, h2, fun i hi => ?_⟩
  obtain ⟨e0, g1, g2, hx, hw⟩ := key i hi
  obtain ⟨b, off, e, hb, hc⟩ := hr i hi
  have hc0 := hc 0 (by omega)
  rw [e0] at hc0
  exact ⟨b, off, _, _, e, hb, by simpa using hc0, g1, g2, hx, hw⟩
end
end Go.Proofs.Ytnocbkhnmdmfhaa
