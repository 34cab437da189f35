/- Sums over the paths of a layered graph: plain; semiring.valued where the values fit. -/
import Derived.Test.YtnocbkhnmdmfhaaNumRows
namespace Go.Proofs.Ytnocbkhnmdmfhaa
open Go.RowKit

/-- Rows of numbers that are read. -/
def VTab (w : World) (V : Option Addr) (m : Nat) (ln : Nat → Nat) (y : Nat → Nat → Nat) : Prop :=
  ∀ i, i < m → ∃ b off R rc, V = some ⟨b, off, none⟩ ∧ b < w.heap.size ∧ w.cell? ⟨b, off + i, none⟩ = some (.slice R (ln i) rc) ∧ NatTab w w.heap.size R (ln i) (y i)
theorem VTab.on {w w' : World} {V : Option Addr} {m : Nat} {ln : Nat → Nat} {y : Nat → Nat → Nat} (h : VTab w V m ln y) (hb : Below w.heap.size w w') : VTab w' V m ln y := fun i hi => by
  obtain ⟨b, off, R, rc, e, h1, h2, h3⟩ := h i hi
  exact ⟨b, off, R, rc, e, Nat.lt_of_lt_of_le h1 hb.size, (hb.cell (p := ⟨b, _, none⟩) h1).trans h2, h3.on hb⟩
/-- What the first j edges of section i bring to node v. -/
def Trel.fwdE (T : Trel) (y : Nat → Nat → Nat) (prev : Nat → Nat) (i : Nat) : Nat → Nat → Nat
  | 0, _ => 0
  | j + 1, v => T.fwdE y prev i j v + if (T.to i j).toNat = v then prev (T.fr i j).toNat * y i j else 0
/-- The sum over the paths from the root to node v at time i. -/
def Trel.fwd (T : Trel) (y : Nat → Nat → Nat) : Nat → Nat → Nat
  | 0, v => if v = 0 then 1 else 0
  | i + 1, v => T.fwdE y (T.fwd y i) i (T.el i) v
theorem Trel.fwdE_le {T : Trel} {y : Nat → Nat → Nat} {prev : Nat → Nat} {i M : Nat} (hp : ∀ v, prev v ≤ M) : ∀ j, (∀ q, q < j → y i q ≤ 1) → ∀ v, T.fwdE y prev i j v ≤ j * M := by
  intro j
  induction j with
  | zero => intro _ v; simp [Trel.fwdE]
  | succ j ih =>
    intro hy v
    have h1 := ih (fun q hq => hy q (by omega)) v
    have h2 : prev (T.fr i j).toNat * y i j ≤ M * 1 := Nat.mul_le_mul (hp _) (hy j (by omega))
    show _ + (if _ then _ else 0) ≤ (j + 1) * M
    rw [Nat.add_mul]
    obtain ⟨z, hz⟩ : ∃ z, z = prev (T.fr i j).toNat * y i j := ⟨_, rfl⟩
    rw [← hz] at h2 ⊢
    obtain ⟨a, ha⟩ : ∃ a, a = T.fwdE y prev i j v := ⟨_, rfl⟩
    rw [← ha] at h1 ⊢
    split <;> omega
theorem Trel.fwd_le {T : Trel} (hs : T.Shape) {y : Nat → Nat → Nat} (hy : ∀ i, i < T.n → ∀ j, j < T.el i → y i j ≤ 1) : ∀ i, i ≤ T.n → ∀ v, T.fwd y i v ≤ 262144 ^ i := by
  intro i
  induction i with
  | zero => intro _ v; show (if v = 0 then 1 else 0) ≤ _; split <;> simp
  | succ i ih =>
    intro hi v
    have h1 := Trel.fwdE_le (T := T) (y := y) (i := i) (ih (by omega)) (T.el i) (hy i (by omega)) v
    have h2 := hs.elb (i := i) (by omega)
    show T.fwdE y (T.fwd y i) i (T.el i) v ≤ _
    rw [Nat.pow_succ, Nat.mul_comm]
    exact Nat.le_trans h1 (Nat.mul_le_mul_right _ h2)
theorem dl_path {x i : Nat} (hi : i ≤ 64) (h : x ≤ 262144 ^ i) : dl x ≤ 37 := by
  refine dl_le ?_
  have h1 : (262144 : Nat) ^ i ≤ 262144 ^ 64 := Nat.pow_le_pow_right (by omega) hi
  have h2 : (262144 : Nat) ^ 64 < 4294967296 ^ 37 := by decide +kernel
  omega
theorem Trel.fwd_dl {T : Trel} (hs : T.Shape) {y : Nat → Nat → Nat} (hy : ∀ i, i < T.n → ∀ j, j < T.el i → y i j ≤ 1) {i : Nat} (hi : i ≤ T.n) (v : Nat) : dl (T.fwd y i v) ≤ 37 :=
  dl_path (Nat.le_trans hi hs.n64) (Trel.fwd_le hs hy i hi v)
theorem Trel.fwdE_dl {T : Trel} (hs : T.Shape) {y : Nat → Nat → Nat} (hy : ∀ i, i < T.n → ∀ j, j < T.el i → y i j ≤ 1) {i j : Nat} (hi : i < T.n) (hj : j ≤ T.el i) (v : Nat) : dl (T.fwdE y (T.fwd y i) i j v) ≤ 37 := by
  have h1 := Trel.fwdE_le (T := T) (y := y) (i := i) (Trel.fwd_le hs hy i (by omega)) j (fun q hq => hy i hi q (by omega)) v
  have h2 := hs.elb (i := i) hi
  have h3 : j * 262144 ^ i ≤ 262144 * 262144 ^ i := Nat.mul_le_mul_right _ (by omega)
  refine dl_path (i := i + 1) (by have := hs.n64; omega) ?_
  rw [Nat.pow_succ, Nat.mul_comm (262144 ^ i)]
  exact Nat.le_trans h1 h3

set_option maxRecDepth 100000 in
set_option maxHeartbeats 4000000 in
theorem valuedN_any (T : Trel) (A B V : Option Addr) (c d vc : Nat) (y : Nat → Nat → Nat) (w : World) (h : T.Reads w A B) (hs : T.shapeE = 0) (hv : VTab w V T.n T.el y) :
    Calls Try.prog 93 #[.agg #[.slice A T.nw c, .slice B T.n d], .slice V T.n vc] w fun e w' => e = .returned (.int .i64 0) ∧ Below w.heap.size w w' := by
  obtain ⟨RB, hRB⟩ : ∃ o, o = (Obj.cells #[.slice A T.nw c, .slice B T.n d] 25) := ⟨_, rfl⟩
  have hB0 : Below (w.heap.size + 1) (w.alloc RB) (w.alloc RB) := Below.refl _ _
  have HS : Hid (∀ w', Below (w.heap.size + 1) (w.alloc RB) w' → (w'.cell? ⟨w.heap.size, 0, none⟩ = some (.slice A T.nw c) ∧ w'.cell? ⟨w.heap.size, 1, none⟩ = some (.slice B T.n d)) ∧ Below w.heap.size w w') := fun w' hB => by
    have hB' := tbox_below hB
    subst hRB
    exact ⟨⟨tbox hB rfl, tbox hB rfl⟩, hB'⟩
  obtain ⟨⟨p0, p1⟩, hW⟩ := HS.out _ hB0
  go_enter Try.func93, Try.ntmps93
  go_wp2_with fail
  rw [← hRB]
  refine (shape_any T A B c d _ (h.on hW)).mono ?_
  rintro e w1 ⟨rfl, hb⟩
  have hB1 := tbox_on hB0 hb
  rw [hs]
  have HR := hid h
  have HV := hid hv
  have hn64 := (Trel.shape_of hs).n64
  clear hW p0 p1 hb hB0 hRB h hv hs
  obtain ⟨⟨p0, p1⟩, hW⟩ := HS.out _ hB1
  go_wp2
  go_loopg [22] T.n (fun gg iv wx => ∃ k : Nat, iv = .int .i64 (k : Nat) ∧ k ≤ T.n ∧ T.n ≤ k + gg ∧ Below w1.heap.size w1 wx)
  case atStart => exact ⟨0, rfl, by omega, by omega, Below.refl _ _⟩
  case round =>
    obtain ⟨k, rfl, hk, hkg, hb⟩ := hrel
    have hk0 : (0 : Int) ≤ (k : Int) := by omega
    replace p0 := cellS hb p0
    replace p1 := cellS hb p1
    have hWr := onS hW hb
    clear hW
    by_cases hlt : k < T.n
    · have hlt' : (k : Int) < (T.n : Int) := by omega
      obtain ⟨b, o, E, ec, rfl, _, x0, _, _, _, _⟩ := (HR.out.on hWr).sec hlt
      obtain ⟨vb, vo, R, rc, rfl, _, x1, _⟩ := (HV.out.on hWr) k hlt
      have hne : ((T.el k : Int) != (T.el k : Int)) = false := by simp
      go_wp2
      go_roundg (gk - 1)
      case measure => omega
      case rel => exact ⟨k + 1, by go_num, by omega, by omega, hb⟩
    · have hlt' : ¬ (k : Int) < (T.n : Int) := by omega
      go_wp2
      go_ret
      exact ⟨rfl, hWr⟩
end Go.Proofs.Ytnocbkhnmdmfhaa
