/- Slices of numbers that come in; large, Order, Shape; channel.weighted, Undetected. -/
import Derived.Test.YtlfmnaepcndhiaaTotal
namespace Go.Proofs.Ytlfmnaepcndhiaa
open Go.RowKit Go.ChangeShapes Go.WideShapes Go.ChangeAt

/-- A slice of numbers of limbs of any kind, at most N each. -/
def NatRTab (w : World) (B : Nat) (T : Option Addr) (m : Nat) (xs : Nat → Nat) (N : Nat) : Prop :=
  ∀ i, i < m → ∃ b off A n c, T = some ⟨b, off, none⟩ ∧ b < B ∧ w.cell? ⟨b, off + i, none⟩ = some (.slice A n c) ∧ NatRaw w B A n (xs i) ∧ n ≤ c ∧ c ≤ maxLen ∧ n ≤ N
theorem NatRTab.on {w w' : World} {T : Option Addr} {m N : Nat} {xs : Nat → Nat} (h : NatRTab w w.heap.size T m xs N) (hb : Below w.heap.size w w') : NatRTab w' w'.heap.size T m xs N := fun i hi => by
  obtain ⟨b, off, A, n, c, e, h1, h2, h3, h4⟩ := h i hi
  exact ⟨b, off, A, n, c, e, Nat.lt_of_lt_of_le h1 hb.size, (hb.cell (p := ⟨b, _, none⟩) h1).trans h2, h3.on hb, h4⟩
/-- By their lengths. -/
def NatLens (w : World) (T : Option Addr) (m : Nat) (ln : Nat → Nat) : Prop := ∀ i, i < m → ∃ b off A c, T = some ⟨b, off, none⟩ ∧ b < w.heap.size ∧ w.cell? ⟨b, off + i, none⟩ = some (.slice A (ln i) c) ∧ ln i ≤ c ∧ c ≤ maxLen
theorem NatLens.on {w w' : World} {T : Option Addr} {m : Nat} {ln : Nat → Nat} (h : NatLens w T m ln) (hb : Below w.heap.size w w') : NatLens w' T m ln := fun i hi => by
  obtain ⟨b, off, A, c, e, h1, h2, h3⟩ := h i hi
  exact ⟨b, off, A, c, e, Nat.lt_of_lt_of_le h1 hb.size, (hb.cell (p := ⟨b, _, none⟩) h1).trans h2, h3⟩
section
variable {H : Type} {enc : TypeId × Value → H} {w : World} {base : Nat} {spare : Nat → Bool} {held : Bool} {cs : List Value}
theorem sees_nats (h : Sees enc Try.prog w base spare held 51 cs) : ∃ T m c ln xs, cs = [.slice T m c] ∧ m ≤ c ∧ c ≤ maxLen ∧ NatLens w T m ln ∧ ∀ N, (∀ i, i < m → ln i ≤ N) → NatRTab w w.heap.size T m xs N := by
  obtain ⟨T, m, c, f, hcs, h1, h2, hr, hf⟩ := sees_slice Try.underlying51 (show Try.prog.cellsOf 30 = 1 by kernel_rfl) (by omega) h
  have key : ∀ i, ∃ t : Option Addr × Nat × Nat × Nat, i < m → f i 0 = .slice t.1 t.2.1 t.2.2.1 ∧ t.2.1 ≤ t.2.2.1 ∧ t.2.2.1 ≤ maxLen ∧ NatRaw w w.heap.size t.1 t.2.1 t.2.2.2 := by
    intro i
    by_cases hi : i < m
    · obtain ⟨A, n, c, x, e, g1, g2, hx⟩ := sees_nat (hf i hi)
      have e' : [f i 0] = [.slice A n c] := e
      simp only [List.cons.injEq, and_true] at e'
      exact ⟨(A, n, c, x), fun _ => ⟨e', g1, g2, hx⟩⟩
    · exact ⟨(none, 0, 0, 0), fun h => absurd h hi⟩
  obtain ⟨t, key⟩ := Classical.axiomOfChoice key
  refine ⟨T, m, c, fun i => (t i).2.1, fun i => (t i).2.2.2, hcs, h1, h2, fun i hi => ?_, fun N hN i hi => ?_⟩
  · obtain ⟨e0, g1, g2, _⟩ := key i hi
    obtain ⟨b, off, e, hb, hc⟩ := hr i hi
    have hc0 := hc 0 (by omega)
    rw [e0] at hc0
    exact ⟨b, off, _, _, e, hb, by simpa using hc0, g1, g2⟩
  · obtain ⟨e0, g1, g2, hx⟩ := key i hi
    obtain ⟨b, off, e, hb, hc⟩ := hr i hi
    have hc0 := hc 0 (by omega)
    rw [e0] at hc0
    exact ⟨b, off, _, _, _, e, hb, by simpa using hc0, hx, g1, g2, hN i hi⟩
end
/-- One is longer than 8. -/
def largeB (ln : Nat → Nat) : Nat → Bool
  | 0 => false
  | k + 1 => largeB ln k || decide (8 < ln k)
theorem largeB_true {ln : Nat → Nat} {k m : Nat} (hk : k < m) (h : 8 < ln k) : largeB ln m = true := by
  induction m with
  | zero => omega
  | succ m ih =>
    show (largeB ln m || _) = true
    by_cases e : k = m
    · subst e; simp [h]
    · rw [ih (by omega)]; rfl
theorem largeB_false {ln : Nat → Nat} {m : Nat} (h : largeB ln m = false) (k : Nat) (hk : k < m) : ln k ≤ 8 := by
  rcases Nat.lt_or_ge 8 (ln k) with e | e
  · rw [largeB_true hk e] at h; cases h
  · exact e

set_option maxRecDepth 100000 in
set_option maxHeartbeats 4000000 in
theorem lawLarge_any (v : Bool) (T : Option Addr) (m c : Nat) (ln : Nat → Nat) (w : World) (h : NatLens w T m ln) (hm : m ≤ 8796093022208) (hv : Hid (largeB ln m = v)) :
    Calls Try.prog 30 #[.slice T m c] w fun e w' => e = .returned (.bool v) ∧ w = w' := by
  go_enter Try.func30, Try.ntmps30
  go_wp2
  go_loopg [3] m (fun gg iv wx => ∃ k : Nat, iv = .int .i64 (k : Nat) ∧ k ≤ m ∧ m ≤ k + gg ∧ largeB ln k = false ∧ w = wx)
  case atStart => exact ⟨0, rfl, by omega, by omega, rfl, rfl⟩
  case round =>
    obtain ⟨k, rfl, hk, hkg, hsh, rfl⟩ := hrel
    have hk0 : (0 : Int) ≤ (k : Int) := by omega
    have HSH := hid hsh
    clear hsh
    by_cases hlt : k < m
    · have hlt' : (k : Int) < (m : Int) := by omega
      obtain ⟨b, off, A, d, rfl, hb, t0, t1, t2⟩ := h k hlt
      obtain ⟨l, hl⟩ : ∃ l, l = ln k := ⟨_, rfl⟩
      rw [← hl] at t0 t1
      have HL := hid hl
      clear hl
      by_cases h8 : 8 < l
      · have h8' : (8 : Int) < (l : Int) := by omega
        have hvv : v = true := by rw [← hv.out]; exact largeB_true hlt (by rw [← HL.out]; exact h8)
        have HV := hid hvv
        clear hvv
        go_wp2
        go_ret
        exact ⟨by rw [HV.out]; rfl, rfl⟩
      · have h8' : ¬ (8 : Int) < (l : Int) := by omega
        have hnx : Hid (largeB ln (k + 1) = false) := by show (largeB ln k || decide (8 < ln k)) = false; rw [HSH.out, ← HL.out]; simp; omega
        go_wp2
        go_roundg (gk - 1)
        case measure => omega
        case rel => exact ⟨k + 1, by go_num, by omega, by omega, hnx.out, rfl⟩
    · obtain rfl : k = m := by omega
      have hlt' : ¬ (k : Int) < (k : Int) := by omega
      have hvv : v = false := by rw [← hv.out]; exact HSH.out
      have HV := hid hvv
      clear hvv hlt
      go_wp2
      go_ret
      exact ⟨by rw [HV.out]; rfl, rfl⟩

theorem order_bad (q : Int) (w : World) (h : q < 2 ∨ 256 < q) : Calls Try.prog 32 #[.int .i64 q] w fun e w' => e = .returned (.int .i64 6) ∧ w = w' := by
  rcases h with h | h
  · go_enter Try.func32, Try.ntmps32
    go_wp2
    go_ret
    exact ⟨rfl, rfl⟩
  · have h2 : ¬ q < 2 := by omega
    go_enter Try.func32, Try.ntmps32
    go_wp2
    go_ret
    exact ⟨rfl, rfl⟩
theorem order_ok (q : Int) (w : World) (h1 : 2 ≤ q) (h2 : q ≤ 256) : Calls Try.prog 32 #[.int .i64 q] w fun e w' => e = .returned (.int .i64 0) ∧ w = w' := by
  go_enter Try.func32, Try.ntmps32
  go_wp2
  go_ret
  exact ⟨rfl, rfl⟩
theorem shape_bad (q : Int) (w : World) (h : q < 1 ∨ 65 < q) : Calls Try.prog 33 #[.int .i64 q] w fun e w' => e = .returned (.int .i64 3) ∧ w = w' := by
  rcases h with h | h
  · go_enter Try.func33, Try.ntmps33
    go_wp2
    go_ret
    exact ⟨rfl, rfl⟩
  · have h2 : ¬ q < 1 := by omega
    go_enter Try.func33, Try.ntmps33
    go_wp2
    go_ret
    exact ⟨rfl, rfl⟩
theorem shape_ok (q : Int) (w : World) (h1 : 1 ≤ q) (h2 : q ≤ 65) : Calls Try.prog 33 #[.int .i64 q] w fun e w' => e = .returned (.int .i64 0) ∧ w = w' := by
  go_enter Try.func33, Try.ntmps33
  go_wp2
  go_ret
  exact ⟨rfl, rfl⟩
end Go.Proofs.Ytlfmnaepcndhiaa
