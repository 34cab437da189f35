/- Polynomials with natural coefficients: canonical lengths, and slices of numbers of one's own. -/
import Derived.Test.YtnocbkhnmdmfhaaRefForward
import Derived.Test.YtnocbkhnmdmfhaaTabL
namespace Go.Proofs.Ytnocbkhnmdmfhaa
open Go.RowKit

/-- One behind the last index below n with a nonzero entry. -/
def plen (x : Nat → Nat) : Nat → Nat
  | 0 => 0
  | n + 1 => if x n ≠ 0 then n + 1 else plen x n
theorem plen_le (x : Nat → Nat) (n : Nat) : plen x n ≤ n := by
  induction n with
  | zero => exact Nat.le_refl _
  | succ n ih =>
    show (if x n ≠ 0 then n + 1 else plen x n) ≤ n + 1
    split <;> omega
theorem plen_congr {x y : Nat → Nat} {n : Nat} (h : ∀ k, k < n → x k = y k) : plen x n = plen y n := by
  induction n with
  | zero => rfl
  | succ n ih =>
    show (if x n ≠ 0 then n + 1 else plen x n) = if y n ≠ 0 then n + 1 else plen y n
    rw [h n (by omega), ih fun k hk => h k (by omega)]
theorem plen_out {x : Nat → Nat} {n k : Nat} (h : plen x n ≤ k) (hk : k < n) : x k = 0 := by
  induction n with
  | zero => omega
  | succ n ih =>
    have e : plen x (n + 1) = if x n ≠ 0 then n + 1 else plen x n := rfl
    rw [e] at h
    by_cases h0 : x n = 0
    · rw [if_neg (by simpa using h0)] at h
      by_cases e2 : k = n
      · subst e2; exact h0
      · exact ih h (by omega)
    · rw [if_pos h0] at h
      omega
/-- Zeros behind do not count. -/
theorem plen_more {x : Nat → Nat} {n m : Nat} (hnm : n ≤ m) (h : ∀ k, n ≤ k → k < m → x k = 0) : plen x m = plen x n := by
  induction m with
  | zero => obtain rfl : n = 0 := by omega
            rfl
  | succ m ih =>
    by_cases e : n = m + 1
    · subst e; rfl
    · have e2 : plen x (m + 1) = if x m ≠ 0 then m + 1 else plen x m := rfl
      rw [e2, if_neg (by simpa using h m (by omega) (by omega))]
      exact ih (by omega) fun k h1 h2 => h k h1 (by omega)
theorem plen_same {x : Nat → Nat} {n m : Nat} (h1 : ∀ k, n ≤ k → x k = 0) (h2 : ∀ k, m ≤ k → x k = 0) : plen x n = plen x m := by
  rcases Nat.le_total n m with h | h
  · exact (plen_more h fun k a _ => h1 k a).symm
  · exact plen_more h fun k a _ => h2 k a
/-- One entry changed. -/
def updN (x : Nat → Nat) (i y : Nat) : Nat → Nat := fun k => if k = i then y else x k
section
variable {w w' : World} {base g o n c : Nat} {x : Nat → Nat}
/-- An entry that is read. -/
theorem NatOwn.rd (h : NatOwn w base (.slice (some ⟨g, o, none⟩) n c) n x) {i : Nat} (hi : i < n) :
    ∃ A d, w.cell? ⟨g, o + i, none⟩ = some (.slice A (dl (x i)) d) ∧ dl (x i) ≤ d ∧ d ≤ maxLen ∧ NatOk w w.heap.size A (x i) ∧ w.frozen? ⟨g, o + i, none⟩ = false := by
  obtain ⟨f, h1, h2, h3⟩ := h
  obtain ⟨A, d, e0, n1, n2, n3⟩ := h3 i hi
  obtain ⟨b9, o9, e9, _, hc⟩ := h1.rd rfl i hi
  injection e9 with e9
  injection e9 with e8 e9
  subst e8 e9
  have hc0 := hc 0 (by omega)
  rw [Nat.mul_one, Nat.add_zero, e0] at hc0
  exact ⟨A, d, hc0, n2, n3, n1, h1.frozen (o + i)⟩
/-- An entry that is written. -/
theorem NatOwn.set (h : NatOwn w base (.slice (some ⟨g, o, none⟩) n c) n x) {i : Nat} (hi : i < n) {A : Option Addr} {d y : Nat} (hy : NatOk w w.heap.size A y) (h1 : dl y ≤ d) (h2 : d ≤ maxLen) :
    NatOwn (w.setCell ⟨g, o + i, none⟩ (.slice A (dl y) d)) base (.slice (some ⟨g, o, none⟩) n c) n (updN x i y) := by
  obtain ⟨f, k1, k2, k3⟩ := h
  have hni : NoInt w g := k2 g rfl
  have hnu : ∀ u : Int, (Value.slice A (dl y) d) ≠ .int .u32 u := fun u e => by cases e
  have ks := k1.set (a := i) (b := 0) hi (by omega) (.slice A (dl y) d)
  rw [Nat.mul_one, Nat.add_zero] at ks
  refine ⟨_, ks, fun q hq => ?_, fun k hk => ?_⟩
  · obtain rfl : g = q := by simpa [Value.ownBlock] using hq
    exact noInt_setCell hni hnu
  · by_cases e : k = i
    · subst e
      exact ⟨A, d, by rw [if_pos ⟨rfl, rfl⟩]; unfold updN; rw [if_pos rfl], by unfold updN; rw [if_pos rfl]; exact natOk_setCell hy hni _, by unfold updN; rw [if_pos rfl]; exact h1, h2⟩
    · obtain ⟨A', c', e0, n1, n2, n3⟩ := k3 k hk
      exact ⟨A', c', by rw [if_neg fun hh => e hh.1]; unfold updN; rw [if_neg e]; exact e0, by unfold updN; rw [if_neg e]; exact natOk_setCell n1 hni _, by unfold updN; rw [if_neg e]; exact n2, n3⟩
/-- The first d entries, with no room behind. -/
theorem NatOwn.cut (h : NatOwn w base (.slice (some ⟨g, o, none⟩) n c) n x) {d : Nat} (hd : d ≤ n) : NatOwn w base (.slice (some ⟨g, o, none⟩) d d) d x := by
  obtain ⟨f, k1, k2, k3⟩ := h
  refine ⟨f, ?_, fun q hq => k2 q (by simpa [Value.ownBlock] using hq), fun i hi => k3 i (by omega)⟩
  rcases k1 with ⟨h, _⟩ | ⟨g', o', cap, cur, h1, h2, h3, h4, h5, h6, h7⟩
  · cases h
  · injection h1 with h1 _ h8
    injection h1 with h1
    injection h1 with h1 h9
    subst h1 h9 h8
    exact .inr ⟨g, o, d, cur, rfl, h2, h3, Nat.le_refl _, by omega, by omega, fun i hi j hj => h7 i (by omega) j hj⟩
theorem NatOwn.monoB {v : Value} {b' : Nat} (h : NatOwn w base v n x) (hb : b' ≤ base) : NatOwn w b' v n x := by
  obtain ⟨f, k1, k2, k3⟩ := h
  exact ⟨f, k1.mono hb, k2, k3⟩
/-- Behind a store into a block of another element type without limbs. -/
theorem NatOwn.setFar {v : Value} (h : NatOwn w base v n x) {b k : Nat} (hne : v.ownBlock ≠ some b) (hni : NoInt w b) {u : Value} (hu : ∀ z, u ≠ .int .u32 z) : NatOwn (w.setCell ⟨b, k, none⟩ u) base v n x := by
  obtain ⟨f, k1, k2, k3⟩ := h
  refine ⟨f, k1.setCell (a := ⟨b, k, none⟩) hne _, fun q hq => noInt_setCell (k2 q hq) hu, fun i hi => ?_⟩
  obtain ⟨A', c', e0, n1, n2, n3⟩ := k3 i hi
  exact ⟨A', c', e0, natOk_setCell n1 hni _, n2, n3⟩
end
theorem natAdd_two (tb : Nat) (x y : Nat) (A A2 : Option Addr) (c c2 : Nat) (w : World) (c0 : w.cell? ⟨tb, 0, none⟩ = some (.slice A (dl x) c)) (c1 : w.cell? ⟨tb, 1, none⟩ = some (.slice A2 (dl y) c2)) (h : NatOk w w.heap.size A x) (h2 : NatOk w w.heap.size A2 y) (hc : dl x ≤ c) (hm : c ≤ maxLen) (hc2 : dl y ≤ c2) (hm2 : c2 ≤ maxLen) (hs : dl x ≤ 1048576) (hs2 : dl y ≤ 1048576) (hs3 : dl (x + y) ≤ 1048576) :
    Calls Try.prog 156 #[.slice (some ⟨tb, 0, none⟩) 2 2] w (NatPost (x + y) w) := by
  have hl := World.block_lt_of_cell? _ _ c0
  have hT : NatTab w w.heap.size (some ⟨tb, 0, none⟩) 2 (fun i => if i = 0 then x else y) := fun i hi => by
    match i, hi with
    | 0, _ => exact ⟨tb, 0, A, c, rfl, hl, c0, hc, hm, h⟩
    | 1, _ => exact ⟨tb, 0, A2, c2, rfl, hl, c1, hc2, hm2, h2⟩
  have hsum : sumN (fun i => if i = 0 then x else y) 2 = x + y := by simp [sumN]
  have := natAdd_any (some ⟨tb, 0, none⟩) 2 2 (fun i => if i = 0 then x else y) w hT (by omega) (fun k hk => by
    match k, hk with
    | 0, _ => simp [sumN, dl_zero]
    | 1, _ => simp [sumN]; omega
    | 2, _ => simp [sumN]; omega) (fun k hk => by
    match k, hk with
    | 0, _ => simp; omega
    | 1, _ => simp; omega)
  rwa [hsum] at this
theorem natMul_two (tb : Nat) (x y : Nat) (A A2 : Option Addr) (c c2 : Nat) (w : World) (c0 : w.cell? ⟨tb, 0, none⟩ = some (.slice A (dl x) c)) (c1 : w.cell? ⟨tb, 1, none⟩ = some (.slice A2 (dl y) c2)) (h : NatOk w w.heap.size A x) (h2 : NatOk w w.heap.size A2 y) (hc : dl x ≤ c) (hm : c ≤ maxLen) (hc2 : dl y ≤ c2) (hm2 : c2 ≤ maxLen) (hs : dl x ≤ 1048576) (hs2 : dl y ≤ 1048576) (hs3 : dl (x * y) ≤ 1048576) :
    Calls Try.prog 158 #[.slice (some ⟨tb, 0, none⟩) 2 2] w (NatPost (x * y) w) := by
  have hl := World.block_lt_of_cell? _ _ c0
  have hT : NatTab w w.heap.size (some ⟨tb, 0, none⟩) 2 (fun i => if i = 0 then x else y) := fun i hi => by
    match i, hi with
    | 0, _ => exact ⟨tb, 0, A, c, rfl, hl, c0, hc, hm, h⟩
    | 1, _ => exact ⟨tb, 0, A2, c2, rfl, hl, c1, hc2, hm2, h2⟩
  have hsum : prodN (fun i => if i = 0 then x else y) 2 = x * y := by simp [prodN]
  have := natMul_any (some ⟨tb, 0, none⟩) 2 2 (fun i => if i = 0 then x else y) w hT (by omega) (fun k hk => by
    match k, hk with
    | 0, _ => show dl 1 ≤ _; rw [dl_small (by omega) (by omega)]; omega
    | 1, _ => simp [prodN]; omega
    | 2, _ => simp [prodN]; omega) (fun k hk => by
    match k, hk with
    | 0, _ => simp; omega
    | 1, _ => simp; omega)
  rwa [hsum] at this
/-- The canonical number, trimmed, is itself. -/
theorem natTrim_nat (A : Option Addr) (c x : Nat) (w : World) (h : NatOk w w.heap.size A x) (hc : dl x ≤ c) (hm : c ≤ maxLen) (hs : dl x ≤ 1048576) :
    Calls Try.prog 84 #[.slice A (dl x) c] w (NatPost x w) := by
  have := trim_any A (dl x) c (dg x) w h (dg_all x) hc hm (by omega)
  rwa [nv_dg] at this
end Go.Proofs.Ytnocbkhnmdmfhaa
