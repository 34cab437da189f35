/- A layered graph in memory. -/
import Derived.Test.YtnocbkhnmdmfhaaIntsR
import Derived.Test.YtnocbkhnmdmfhaaSeesW
namespace Go.Proofs.Ytnocbkhnmdmfhaa
open Go.RowKit Go.ChangeShapes Go.WideShapes Go.ChangeAt

/-- A layered graph: nw widths W, n sections; section i has el i edges. -/
structure Trel where
  nw : Nat
  W : Nat → Int
  n : Nat
  el : Nat → Nat
  fr : Nat → Nat → Int
  lb : Nat → Nat → Int
  to : Nat → Nat → Int

/-- The cells of edge j of section i. -/
def Trel.edge (T : Trel) (i j k : Nat) : Value := if k = 0 then .int .i64 (T.fr i j) else if k = 1 then .int .i64 (T.lb i j) else .int .i64 (T.to i j)
def InI64 (x : Int) : Prop := -9223372036854775808 ≤ x ∧ x ≤ 9223372036854775807
/-- The sections, as a slice of slices. -/
def Trel.Secs (T : Trel) (w : World) (B : Option Addr) : Prop :=
  ∀ i, i < T.n → ∃ b off E c, B = some ⟨b, off, none⟩ ∧ b < w.heap.size ∧ w.cell? ⟨b, off + i, none⟩ = some (.slice E (T.el i) c) ∧ T.el i ≤ c ∧ c ≤ maxLen ∧ Rd w w.heap.size E (T.el i) 3 (T.edge i) ∧
    ∀ j, j < T.el i → InI64 (T.fr i j) ∧ InI64 (T.lb i j) ∧ InI64 (T.to i j)
/-- The graph reads as T, with the widths at A and the sections at B. -/
def Trel.Reads (T : Trel) (w : World) (A B : Option Addr) : Prop :=
  IntsR w w.heap.size A T.nw T.W ∧ (∀ i, i < T.nw → InI64 (T.W i)) ∧ T.Secs w B ∧ T.nw ≤ 140737488351232 ∧ T.n ≤ 140737488351232 ∧ ∀ i, i < T.n → T.el i ≤ 140737488351232
section
variable {T : Trel} {w w' : World} {A B : Option Addr}
theorem Trel.Secs.on (h : T.Secs w B) (hb : Below w.heap.size w w') : T.Secs w' B := fun i hi => by
  obtain ⟨b, off, E, c, e, h1, h2, h3, h4, h5, h6⟩ := h i hi
  exact ⟨b, off, E, c, e, Nat.lt_of_lt_of_le h1 hb.size, (hb.cell (p := ⟨b, _, none⟩) h1).trans h2, h3, h4, (Rd.below h5 hb (Nat.le_refl _)).mono hb.size, h6⟩
theorem Trel.Reads.on (h : T.Reads w A B) (hb : Below w.heap.size w w') : T.Reads w' A B := ⟨h.1.on hb, h.2.1, h.2.2.1.on hb, h.2.2.2⟩
theorem Trel.Reads.width (h : T.Reads w A B) {i : Nat} (hi : i < T.nw) : ∃ b off, A = some ⟨b, off, none⟩ ∧ b < w.heap.size ∧ w.cell? ⟨b, off + i, none⟩ = some (.int .i64 (T.W i)) ∧ InI64 (T.W i) := by
  obtain ⟨b, off, e, h1, h2⟩ := h.1.at hi
  exact ⟨b, off, e, h1, h2, h.2.1 i hi⟩
/-- The header of a section. -/
theorem Trel.Reads.sec (h : T.Reads w A B) {i : Nat} (hi : i < T.n) : ∃ b off E c, B = some ⟨b, off, none⟩ ∧ b < w.heap.size ∧ w.cell? ⟨b, off + i, none⟩ = some (.slice E (T.el i) c) ∧ T.el i ≤ c ∧ c ≤ maxLen ∧ Rd w w.heap.size E (T.el i) 3 (T.edge i) ∧
    ∀ j, j < T.el i → InI64 (T.fr i j) ∧ InI64 (T.lb i j) ∧ InI64 (T.to i j) := h.2.2.1 i hi
/-- One edge. -/
theorem edge_at {E : Option Addr} {i j m : Nat} (h : Rd w w.heap.size E m 3 (T.edge i)) (hj : j < m) :
    ∃ b off, E = some ⟨b, off, none⟩ ∧ b < w.heap.size ∧ w.cell? ⟨b, off + j * 3, none⟩ = some (.int .i64 (T.fr i j)) ∧ w.cell? ⟨b, off + j * 3 + 1, none⟩ = some (.int .i64 (T.lb i j)) ∧ w.cell? ⟨b, off + j * 3 + 2, none⟩ = some (.int .i64 (T.to i j)) := Rd.at3 h hj
end
section
variable {H : Type} {enc : TypeId × Value → H} {w : World} {base : Nat} {spare : Nat → Bool} {held : Bool} {cs : List Value}
set_option maxRecDepth 100000 in
theorem sees_edge (h : Sees enc Try.prog w base spare held 72 cs) : ∃ a b c : Int, cs = [.int .i64 a, .int .i64 b, .int .i64 c] ∧ InI64 a ∧ InI64 b ∧ InI64 c := by
  obtain ⟨hl, _⟩ := sees_struct Try.underlying72 h
  match cs, hl.trans (show Try.prog.cellsOf 72 = 3 by kernel_rfl) with
  | [c0, c1, c2], _ =>
    have hc : Try.prog.cellsOf 3 = 1 := by kernel_rfl
    have g0 := sees_at Try.underlying72 h 0 3 0 1 ⟨_, rfl, rfl, rfl⟩ hc
    have g1 := sees_at Try.underlying72 h 1 3 1 1 ⟨_, rfl, rfl, rfl⟩ hc
    have g2 := sees_at Try.underlying72 h 2 3 2 1 ⟨_, rfl, rfl, rfl⟩ hc
    obtain ⟨a, ha, wa⟩ := sees_int Try.underlying3 g0
    obtain ⟨b, hb, wb⟩ := sees_int Try.underlying3 g1
    obtain ⟨c, hc, wc⟩ := sees_int Try.underlying3 g2
    simp at ha hb hc
    subst ha hb hc
    exact ⟨a, b, c, rfl, wf_i64 wa, wf_i64 wb, wf_i64 wc⟩
theorem sees_edges (h : SeesW enc Try.prog w base spare held 70 cs) : ∃ (A : Option Addr) (n c : Nat) (x y z : Nat → Int), cs = [.slice A n c] ∧ n ≤ c ∧ c ≤ maxLen ∧ n ≤ 140737488351232 ∧
    Rd w w.heap.size A n 3 (fun j k => if k = 0 then .int .i64 (x j) else if k = 1 then .int .i64 (y j) else .int .i64 (z j)) ∧ ∀ j, j < n → InI64 (x j) ∧ InI64 (y j) ∧ InI64 (z j) := by
  obtain ⟨A, n, c, f, hcs, h1, h2, hn, hr, hf⟩ := seesW_slice (B := 24) Try.underlying70 (show Try.prog.cellsOf 72 = 3 by kernel_rfl) (by omega) (by kernel_rfl) h
  have key : ∀ i, i < n → ∃ a b c : Int, (f i 0 = .int .i64 a ∧ f i 1 = .int .i64 b ∧ f i 2 = .int .i64 c) ∧ InI64 a ∧ InI64 b ∧ InI64 c := by
    intro i hi
    obtain ⟨a, b, c, e, wa, wb, wc⟩ := sees_edge (hf i hi).sees
    have e' : [f i 0, f i 1, f i 2] = [.int .i64 a, .int .i64 b, .int .i64 c] := e
    simp only [List.cons.injEq, and_true] at e'
    exact ⟨a, b, c, e', wa, wb, wc⟩
  refine ⟨A, n, c, fun i => intOf (f i 0), fun i => intOf (f i 1), fun i => intOf (f i 2), hcs, h1, h2, by omega, fun i hi => ?_, fun i hi => ?_⟩
  · obtain ⟨a, b, c, ⟨ea, eb, ec⟩, _⟩ := key i hi
    obtain ⟨bl, off, hA, hb, hc⟩ := hr i hi
    refine ⟨bl, off, hA, hb, fun j hj => ?_⟩
    rw [hc j hj]
    match j, hj with
    | 0, _ => show some (f i 0) = some (Value.int .i64 (intOf (f i 0))); rw [ea]; rfl
    | 1, _ => show some (f i 1) = some (Value.int .i64 (intOf (f i 1))); rw [eb]; rfl
    | 2, _ => show some (f i 2) = some (Value.int .i64 (intOf (f i 2))); rw [ec]; rfl
  · obtain ⟨a, b, c, ⟨ea, eb, ec⟩, wa, wb, wc⟩ := key i hi
    show InI64 (intOf (f i 0)) ∧ InI64 (intOf (f i 1)) ∧ InI64 (intOf (f i 2))
    rw [ea, eb, ec]
    exact ⟨wa, wb, wc⟩
set_option maxRecDepth 100000 in
theorem sees_trel (h : SeesW enc Try.prog w base spare held 25 cs) : ∃ (T : Trel) (A B : Option Addr) (c d : Nat), cs = [.slice A T.nw c, .slice B T.n d] ∧ T.Reads w A B ∧ T.nw ≤ c ∧ T.n ≤ d ∧ c ≤ maxLen ∧ d ≤ maxLen := by
  obtain ⟨hl, _⟩ := sees_struct Try.underlying25 h.sees
  match cs, hl.trans (show Try.prog.cellsOf 25 = 2 by kernel_rfl) with
  | [c0, c1], _ =>
    have g0 := seesW_at Try.underlying25 h 0 22 0 1 ⟨_, rfl, rfl, rfl⟩ (by kernel_rfl)
    have g1 := seesW_at Try.underlying25 h 1 23 1 1 ⟨_, rfl, rfl, rfl⟩ (by kernel_rfl)
    obtain ⟨A, m, c, g, e0, h1, h2, hx, hw⟩ := sees_ints Try.underlying22 Try.underlying3 (by kernel_rfl) g0.sees
    obtain ⟨_, m2, _, _, e2, _, _, hm8, _⟩ := seesW_slice (B := 8) Try.underlying22 (show Try.prog.cellsOf 3 = 1 by kernel_rfl) (by omega) (by kernel_rfl) g0
    obtain ⟨B, n, d, f, e1, h3, h4, hn24, hr, hf⟩ := seesW_slice (B := 24) Try.underlying23 (show Try.prog.cellsOf 70 = 1 by kernel_rfl) (by omega) (by kernel_rfl) g1
    simp at e0 e1 e2
    subst e0 e1
    obtain ⟨_, rfl, _⟩ : _ ∧ m = m2 ∧ _ := by simpa using e2
    have key : ∀ i, ∃ t : Option Addr × Nat × Nat × (Nat → Int) × (Nat → Int) × (Nat → Int), i < n → f i 0 = .slice t.1 t.2.1 t.2.2.1 ∧ t.2.1 ≤ t.2.2.1 ∧ t.2.2.1 ≤ maxLen ∧ t.2.1 ≤ 140737488351232 ∧
        Rd w w.heap.size t.1 t.2.1 3 (fun j k => if k = 0 then .int .i64 (t.2.2.2.1 j) else if k = 1 then .int .i64 (t.2.2.2.2.1 j) else .int .i64 (t.2.2.2.2.2 j)) ∧ ∀ j, j < t.2.1 → InI64 (t.2.2.2.1 j) ∧ InI64 (t.2.2.2.2.1 j) ∧ InI64 (t.2.2.2.2.2 j) := by
      intro i
      by_cases hi : i < n
      · obtain ⟨E, m', c', x, y, z, e, k1, k2, k5, k3, k4⟩ := sees_edges (hf i hi)
        have e' : [f i 0] = [.slice E m' c'] := e
        simp only [List.cons.injEq, and_true] at e'
        exact ⟨(E, m', c', x, y, z), fun _ => ⟨e', k1, k2, k5, k3, k4⟩⟩
      · exact ⟨(none, 0, 0, fun _ => 0, fun _ => 0, fun _ => 0), fun h => absurd h hi⟩
    obtain ⟨t, key⟩ := Classical.axiomOfChoice key
    refine ⟨⟨m, g, n, fun i => (t i).2.1, fun i => (t i).2.2.2.1, fun i => (t i).2.2.2.2.1, fun i => (t i).2.2.2.2.2⟩, A, B, c, d, rfl, ⟨hx, fun i hi => wf_i64 (hw i hi), fun i hi => ?_, (by show m ≤ _; omega), (by show n ≤ _; omega), fun i hi => (key i hi).2.2.2.1⟩, h1, h3, h2, h4⟩
    obtain ⟨k0, k1, k2, _, k3, k4⟩ := key i hi
    obtain ⟨b, off, e, hb, hc⟩ := hr i hi
    have hc0 := hc 0 (by omega)
    rw [k0] at hc0
    exact ⟨b, off, _, _, e, hb, by simpa using hc0, k1, k2, k3, k4⟩
end

/-- The sum of the first k widths; of the first k numbers of edges. -/
def Trel.sumW (T : Trel) : Nat → Int
  | 0 => 0
  | k + 1 => T.sumW k + T.W k
def Trel.sumE (T : Trel) : Nat → Nat
  | 0 => 0
  | k + 1 => T.sumE k + T.el k
def Trel.inside (T : Trel) (i j : Nat) : Prop := 0 ≤ T.fr i j ∧ T.fr i j < T.W i ∧ 0 ≤ T.to i j ∧ T.to i j < T.W (i + 1)
instance (T : Trel) (i j : Nat) : Decidable (T.inside i j) := by unfold Trel.inside; exact inferInstance
/-- The error of a layered graph. -/
def Trel.shapeE (T : Trel) : Int :=
  if 64 < T.n ∨ T.nw ≠ T.n + 1 then 3
  else if ¬ ∀ i, i < T.nw → 1 ≤ T.W i then 6
  else if 65536 < T.sumW T.nw then 8
  else if 262144 < T.sumE T.n then 8
  else if ¬ ∀ i, i < T.n → ∀ j, j < T.el i → T.inside i j then 6
  else 0
/-- A layered graph. -/
structure Trel.Shape (T : Trel) : Prop where
  n64 : T.n ≤ 64
  nw : T.nw = T.n + 1
  w1 : ∀ i, i ≤ T.n → 1 ≤ T.W i
  sW : T.sumW (T.n + 1) ≤ 65536
  sE : T.sumE T.n ≤ 262144
  ins : ∀ i, i < T.n → ∀ j, j < T.el i → T.inside i j
theorem Trel.shape_of {T : Trel} (h : T.shapeE = 0) : T.Shape := by
  unfold Trel.shapeE at h
  by_cases h1 : 64 < T.n ∨ T.nw ≠ T.n + 1
  · rw [if_pos h1] at h; omega
  rw [if_neg h1] at h
  by_cases h2 : ∀ i, i < T.nw → 1 ≤ T.W i
  · rw [if_neg (by simpa using h2)] at h
    by_cases h3 : 65536 < T.sumW T.nw
    · rw [if_pos h3] at h; omega
    rw [if_neg h3] at h
    by_cases h4 : 262144 < T.sumE T.n
    · rw [if_pos h4] at h; omega
    rw [if_neg h4] at h
    by_cases h5 : ∀ i, i < T.n → ∀ j, j < T.el i → T.inside i j
    · have hnw : T.nw = T.n + 1 := by omega
      exact ⟨by omega, hnw, fun i hi => h2 i (by omega), by rw [← hnw]; omega, by omega, h5⟩
    · rw [if_pos h5] at h; omega
  · rw [if_pos h2] at h; omega
theorem Trel.sumW_mono {T : Trel} {m : Nat} (h : ∀ i, i < m → 1 ≤ T.W i) : ∀ k d, k + d ≤ m → T.sumW k + d ≤ T.sumW (k + d) := by
  intro k d
  induction d with
  | zero => intro _; simp
  | succ d ih =>
    intro hk
    have h1 := ih (by omega)
    have h2 := h (k + d) (by omega)
    show T.sumW k + ((d + 1 : Nat) : Int) ≤ T.sumW (k + d) + T.W (k + d)
    omega
theorem Trel.sumE_mono {T : Trel} : ∀ k d, T.sumE k ≤ T.sumE (k + d) := by
  intro k d
  induction d with
  | zero => exact Nat.le_refl _
  | succ d ih => exact Nat.le_trans ih (Nat.le_add_right _ _)
theorem Trel.Shape.wid {T : Trel} (h : T.Shape) {i : Nat} (hi : i ≤ T.n) : 1 ≤ T.W i ∧ T.W i ≤ 65536 := by
  have h1 := h.w1 i hi
  have h2 := Trel.sumW_mono (m := T.n + 1) (fun i hi => h.w1 i (by omega)) 0 i (by omega)
  have h3 := Trel.sumW_mono (m := T.n + 1) (fun i hi => h.w1 i (by omega)) (i + 1) (T.n - i) (by omega)
  rw [show i + 1 + (T.n - i) = T.n + 1 by omega] at h3
  have h4 := h.sW
  have h5 : T.sumW (i + 1) = T.sumW i + T.W i := rfl
  simp [Trel.sumW] at h2
  omega
theorem Trel.Shape.elb {T : Trel} (h : T.Shape) {i : Nat} (hi : i < T.n) : T.el i ≤ 262144 := by
  have h3 := Trel.sumE_mono (T := T) (i + 1) (T.n - (i + 1))
  rw [show i + 1 + (T.n - (i + 1)) = T.n by omega] at h3
  have h4 := h.sE
  have h5 : T.sumE (i + 1) = T.sumE i + T.el i := rfl
  omega
end Go.Proofs.Ytnocbkhnmdmfhaa
