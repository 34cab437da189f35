/- codewrightref04: Mul. -/
import Derived.Test.YtgininddoalenaaFldC
namespace Go.Proofs.Ytgininddoalenaa
open Go.RowKit

/-- Row i of the product of two lists of digits. -/
def mIn (P : Nat) (a b : Nat → Nat) (i : Nat) (c : Nat → Nat) : Nat → Nat → Nat
  | 0 => c
  | j + 1 => fun t => if t = i + j then (mIn P a b i c j (i + j) + a i * b j) % P else mIn P a b i c j t
def mOut (P : Nat) (a b : Nat → Nat) (M : Nat) : Nat → Nat → Nat
  | 0 => fun _ => 0
  | i + 1 => mIn P a b i (mOut P a b M i) M
/-- One power taken away by the modulus. -/
def rIn (P M : Nat) (m : Nat → Nat) (i : Nat) (c : Nat → Nat) : Nat → Nat → Nat
  | 0 => c
  | j + 1 => fun t => if t = i - M + j then (rIn P M m i c j (i - M + j) + (P - rIn P M m i c j i) * m j) % P else rIn P M m i c j t
def rOut (P M : Nat) (m : Nat → Nat) (c : Nat → Nat) : Nat → Nat → Nat
  | 0 => c
  | s + 1 => rIn P M m (2 * M - 2 - s) (rOut P M m c s) M
/-- The product. -/
def mulF (P M : Nat) (m : Nat → Nat) (x y : Nat) : Nat := valN P (rOut P M m (mOut P (dig P x) (dig P y) M M) (M - 1)) M
theorem mIn_lt {P : Nat} (hP : 0 < P) {a b c : Nat → Nat} {i : Nat} (hc : ∀ t, c t < P) : ∀ j t, mIn P a b i c j t < P := by
  intro j
  induction j with
  | zero => exact hc
  | succ j ih =>
    intro t
    show (if t = i + j then _ else _) < P
    split
    · exact Nat.mod_lt _ hP
    · exact ih t
theorem mOut_lt {P : Nat} (hP : 0 < P) {a b : Nat → Nat} {M : Nat} : ∀ i t, mOut P a b M i t < P := by
  intro i
  induction i with
  | zero => exact fun _ => hP
  | succ i ih => exact mIn_lt hP ih M
theorem rIn_lt {P M : Nat} (hP : 0 < P) {m c : Nat → Nat} {i : Nat} (hc : ∀ t, c t < P) : ∀ j t, rIn P M m i c j t < P := by
  intro j
  induction j with
  | zero => exact hc
  | succ j ih =>
    intro t
    show (if t = i - M + j then _ else _) < P
    split
    · exact Nat.mod_lt _ hP
    · exact ih t
theorem rOut_lt {P M : Nat} (hP : 0 < P) {m c : Nat → Nat} (hc : ∀ t, c t < P) : ∀ s t, rOut P M m c s t < P := by
  intro s
  induction s with
  | zero => exact hc
  | succ s ih => exact rIn_lt hP ih M
/-- The modulus in memory. -/
def ModOk (w : World) (P M : Nat) (A : Option Addr) (m : Nat → Nat) : Prop := M = 1 ∨ (IntsR w w.heap.size A M (fun i => (m i : Nat)) ∧ ∀ i, i < M → m i < P)

set_option maxRecDepth 100000 in
set_option maxHeartbeats 16000000 in
theorem mul04_any (P M : Nat) (A : Option Addr) (k c : Nat) (m : Nat → Nat) (x y : Int) (w : World) (hf : FldOk P M) (hm : ModOk w P M A m) (hkM : M = 1 ∨ k = M) :
    Calls Try.prog 61 #[.agg #[.int .i64 (P : Nat), .int .i64 (M : Nat), .slice A k c], .int .i64 x, .int .i64 y] w fun e w' => e = .returned (.int .i64 (mulF P M m (inV (P ^ M) x) (inV (P ^ M) y) : Nat)) ∧ Below w.heap.size w w' := by
  have hP2 := hf.1
  have hP := hf.P_le
  have hM8 := hf.2.2.1
  have hM1 := hf.2.1
  have hq := hf.2.2.2
  have hB : Below w.heap.size w (w.alloc (.cells #[.int .i64 (P : Nat), .int .i64 (M : Nat), .slice A k c] 29)) := (Below.refl _ _).alloc (Nat.le_refl _) _
  have rf := fldBox_row (w := w) (a := .int .i64 (P : Nat)) (b := .int .i64 (M : Nat)) (c := .slice A k c) (T := 29)
  obtain ⟨w0, hw0⟩ : ∃ W, W = w.alloc (.cells #[.int .i64 (P : Nat), .int .i64 (M : Nat), .slice A k c] 29) := ⟨_, rfl⟩
  rw [← hw0] at hB rf
  go_enter Try.func61, Try.ntmps61
  go_upto_region 1 with fail
  rw [← hw0]
  clear hw0
  have hw0 := rf.lt
  have q0 : w0.cell? ⟨w.heap.size, 0, none⟩ = some (.int .i64 (P : Nat)) := rf.cell (i := 0) (by omega)
  have q1 : w0.cell? ⟨w.heap.size, 1, none⟩ = some (.int .i64 (M : Nat)) := rf.cell (i := 1) (by omega)
  have q2 : w0.cell? ⟨w.heap.size, 2, none⟩ = some (.slice A k c) := rf.cell (i := 2) (by omega)
  go_wp2_with fail
  refine (digits04_any P M A k c x _ hf).mono ?_
  rintro e w1 ⟨ga, rfl, hga, ra, kb⟩
  replace rf := rowIs_on rf kb
  have hga' := hB.size
  replace hB := onS hB kb
  clear kb q0 q1 q2
  have hal := ra.lt
  have q0 : w1.cell? ⟨w.heap.size, 0, none⟩ = some (.int .i64 (P : Nat)) := rf.cell (i := 0) (by omega)
  have q1 : w1.cell? ⟨w.heap.size, 1, none⟩ = some (.int .i64 (M : Nat)) := rf.cell (i := 1) (by omega)
  have q2 : w1.cell? ⟨w.heap.size, 2, none⟩ = some (.slice A k c) := rf.cell (i := 2) (by omega)
  go_wp2_with fail
  refine (digits04_any P M A k c y _ hf).mono ?_
  rintro e w2 ⟨gb, rfl, hgb, rb, kb⟩
  replace rf := rowIs_on rf kb
  replace ra := rowIs_on ra kb
  replace hB := onS hB kb
  clear kb q0 q1 q2
  have hbl := rb.lt
  obtain ⟨X, hX⟩ : ∃ X, X = inV (P ^ M) x := ⟨_, rfl⟩
  obtain ⟨Y, hY⟩ : ∃ X, X = inV (P ^ M) y := ⟨_, rfl⟩
  rw [← hX] at ra
  rw [← hY] at rb
  have HX := hid hX
  have HY := hid hY
  clear hX hY
  obtain ⟨N1, hN1⟩ : ∃ N, N = 2 * M - 1 := ⟨_, rfl⟩
  have hN1i : 2 * (M : Int) - 1 = (N1 : Int) := by omega
  have hN1a : 2 * M ≤ N1 + 1 := by omega
  have hN1b : N1 + 1 ≤ 2 * M := by omega
  clear hN1
  have hmk := fun W => run_makeI (P := Try.prog) 27 3 _ 8 Try.underlying27 Try.infoInt rfl (N1 : Int) (by omega) (by omega) (by omega) W
  simp only [Int.toNat_natCast] at hmk
  have rc := World.rowIs_made w2 (.int .i64 0) N1 3
  have kb : Below w2.heap.size w2 (w2.alloc (.cells (madeCells #[.int .i64 0] N1) 3)) := (Below.refl _ _).alloc (Nat.le_refl _) _
  have q0 : w2.cell? ⟨w.heap.size, 0, none⟩ = some (.int .i64 (P : Nat)) := rf.cell (i := 0) (by omega)
  have q1 : w2.cell? ⟨w.heap.size, 1, none⟩ = some (.int .i64 (M : Nat)) := rf.cell (i := 1) (by omega)
  have q2 : w2.cell? ⟨w.heap.size, 2, none⟩ = some (.slice A k c) := rf.cell (i := 2) (by omega)
  replace ra := rowIs_on ra kb
  replace rb := rowIs_on rb kb
  replace rf := rowIs_on rf kb
  replace hB := onS hB kb
  clear kb
  have hMi : (1 : Int) ≤ (M : Int) := by omega
  have hMi8 : (M : Int) ≤ 8 := by omega
  go_wp2
  clear q0 q1 q2 hmk
  obtain ⟨w3, hw3⟩ : ∃ W, W = w2.alloc (.cells (madeCells #[.int .i64 0] N1) 3) := ⟨_, rfl⟩
  obtain ⟨gc, hgc⟩ : ∃ g, g = w2.heap.size := ⟨_, rfl⟩
  rw [← hw3, ← hgc]
  rw [← hw3] at ra rb rf rc hB
  rw [← hgc] at rc hbl
  have hne1 : ga ≠ gc := by omega
  have hne2 : gb ≠ gc := by omega
  have hne3 : w.heap.size ≠ gc := by omega
  have hgcB : w.heap.size ≤ gc := by omega
  clear hw3 hgc hga hgb hal hga' hw0 hbl
  replace rc : w3.rowIs gc 3 N1 (fun t => .int .i64 (mOut P (dig P X) (dig P Y) M 0 t : Nat)) := rc
  go_loopg [10] M (fun gg iv wx => ∃ i : Nat, iv = .int .i64 (i : Nat) ∧ i ≤ M ∧ M ≤ i + gg ∧ wx.rowIs gc 3 N1 (fun t => .int .i64 (mOut P (dig P X) (dig P Y) M i t : Nat)) ∧ wx.rowIs ga 3 M (fun t => .int .i64 (dig P X t : Nat)) ∧ wx.rowIs gb 3 M (fun t => .int .i64 (dig P Y t : Nat)) ∧ wx.rowIs w.heap.size 29 3 (fldCell (.int .i64 (P : Nat)) (.int .i64 (M : Nat)) (.slice A k c)) ∧ Below w.heap.size w wx)
  case atStart => exact ⟨0, rfl, by omega, by omega, rc, ra, rb, rf, hB⟩
  case round =>
    clear ra rb rc rf hB
    obtain ⟨i, rfl, hi, hig, rc, ra, rb, rf, hB⟩ := hrel
    have hi0 : (0 : Int) ≤ (i : Int) := by omega
    have q0 : wr.cell? ⟨w.heap.size, 0, none⟩ = some (.int .i64 (P : Nat)) := rf.cell (i := 0) (by omega)
    have q1 : wr.cell? ⟨w.heap.size, 1, none⟩ = some (.int .i64 (M : Nat)) := rf.cell (i := 1) (by omega)
    have q2 : wr.cell? ⟨w.heap.size, 2, none⟩ = some (.slice A k c) := rf.cell (i := 2) (by omega)
    by_cases hlt : i < M
    · have hlt' : (i : Int) < (M : Int) := by omega
      go_wp2
      clear q0 q1 q2
      obtain ⟨gI, rfl⟩ : ∃ gK : Nat, gK = gk := ⟨_, rfl⟩
      obtain ⟨C0, hC0⟩ : ∃ C, C = mOut P (dig P X) (dig P Y) M i := ⟨_, rfl⟩
      have hCl : ∀ t, C0 t < P := by rw [hC0]; exact mOut_lt (by omega) i
      rw [← hC0] at rc
      have HC0 := hid hC0
      have HCL := hid hCl
      clear hC0 hCl
      go_loopg [11] M (fun gg jv wx => ∃ j : Nat, jv = .int .i64 (j : Nat) ∧ j ≤ M ∧ M ≤ j + gg ∧ wx.rowIs gc 3 N1 (fun t => .int .i64 (mIn P (dig P X) (dig P Y) i C0 j t : Nat)) ∧ wx.rowIs ga 3 M (fun t => .int .i64 (dig P X t : Nat)) ∧ wx.rowIs gb 3 M (fun t => .int .i64 (dig P Y t : Nat)) ∧ wx.rowIs w.heap.size 29 3 (fldCell (.int .i64 (P : Nat)) (.int .i64 (M : Nat)) (.slice A k c)) ∧ Below w.heap.size w wx)
      case atStart => exact ⟨0, rfl, by omega, by omega, rc, ra, rb, rf, hB⟩
      case round =>
        clear ra rb rc rf hB
        obtain ⟨j, rfl, hj, hjg, rc, ra, rb, rf, hB⟩ := hrel
        have hj0 : (0 : Int) ≤ (j : Int) := by omega
        have q0 : wr.cell? ⟨w.heap.size, 0, none⟩ = some (.int .i64 (P : Nat)) := rf.cell (i := 0) (by omega)
        have q1 : wr.cell? ⟨w.heap.size, 1, none⟩ = some (.int .i64 (M : Nat)) := rf.cell (i := 1) (by omega)
        have q2 : wr.cell? ⟨w.heap.size, 2, none⟩ = some (.slice A k c) := rf.cell (i := 2) (by omega)
        by_cases hlj : j < M
        · have hlj' : (j : Int) < (M : Int) := by omega
          have hcl := mIn_lt (P := P) (by omega) (a := dig P X) (b := dig P Y) (i := i) HCL.out j (i + j)
          have hda := dig_lt (p := P) (by omega) X i
          have hdb := dig_lt (p := P) (by omega) Y j
          obtain ⟨Q, hQ⟩ : ∃ Q, Q = i + j := ⟨_, rfl⟩
          have hQN : Q < N1 := by omega
          have cc := rc.cell (i := Q) hQN
          have zc := rc.frozen Q
          have ca := ra.cell (i := i) hlt
          have cb := rb.cell (i := j) hlj
          have hnx : ∀ t, mIn P (dig P X) (dig P Y) i C0 (j + 1) t = if t = Q then (mIn P (dig P X) (dig P Y) i C0 j Q + dig P X i * dig P Y j) % P else mIn P (dig P X) (dig P Y) i C0 j t := fun t => by rw [hQ]; rfl
          obtain ⟨R, hR⟩ : ∃ R, R = (mIn P (dig P X) (dig P Y) i C0 j Q + dig P X i * dig P Y j) % P := ⟨_, rfl⟩
          have hRP : R < P := by rw [hR]; exact Nat.mod_lt _ (by omega)
          rw [← hQ] at hcl
          have rc2 : (wr.setCell ⟨gc, Q, none⟩ (.int .i64 (R : Int))).rowIs gc 3 N1 (fun t => .int .i64 (mIn P (dig P X) (dig P Y) i C0 (j + 1) t : Nat)) := (rc.set Q _).congr fun t ht => by
            rw [hnx t, ← hR]
            by_cases e : t = Q
            · rw [if_pos e, if_pos e]
            · rw [if_neg e, if_neg e]
          have ra2 := ra.setOther (a := ⟨gc, Q, none⟩) (by simpa using hne1) (.int .i64 (R : Int))
          have rb2 := rb.setOther (a := ⟨gc, Q, none⟩) (by simpa using hne2) (.int .i64 (R : Int))
          have rf2 := rf.setOther (a := ⟨gc, Q, none⟩) (by simpa using hne3) (.int .i64 (R : Int))
          have hB2 : Below w.heap.size w (wr.setCell ⟨gc, Q, none⟩ (.int .i64 (R : Int))) := hB.setCell hgcB _
          have RC := hid rc2
          have RA := hid ra2
          have RB := hid rb2
          have RF := hid rf2
          have HB := hid hB2
          clear rc2 ra2 rb2 rf2 hB2
          obtain ⟨D, hD⟩ : ∃ D, D = mIn P (dig P X) (dig P Y) i C0 j Q := ⟨_, rfl⟩
          obtain ⟨E, hE⟩ : ∃ D, D = dig P X i := ⟨_, rfl⟩
          obtain ⟨G, hG⟩ : ∃ D, D = dig P Y j := ⟨_, rfl⟩
          rw [← hD] at cc hcl hR
          rw [← hE] at ca hda hR
          rw [← hG] at cb hdb hR
          have hEG : E * G ≤ 256 * 256 := Nat.mul_le_mul (by omega) (by omega)
          obtain ⟨Hh, hH⟩ : ∃ H, H = E * G := ⟨_, rfl⟩
          rw [← hH] at hR hEG
          have hij : (i : Int) + (j : Int) = (Q : Int) := by omega
          have hmul : (E : Int) * (G : Int) = (Hh : Int) := by rw [hH]; simp
          clear hD hE hG hH hnx ra rb rc rf hB hQ
          have hQ0 : (0 : Int) ≤ (Q : Int) := by omega
          have hQ1 : (Q : Int) < (N1 : Int) := by omega
          have hP0 : ¬ (P : Int) = 0 := by omega
          have hPp : (2 : Int) ≤ (P : Int) := by omega
          have hR0 : (0 : Int) ≤ (R : Int) := by omega
          have hR1 : (R : Int) ≤ 256 := by omega
          have hD0 : (0 : Int) ≤ (D : Int) := by omega
          have hH0 : (0 : Int) ≤ (Hh : Int) := by omega
          have hsum0 : (0 : Int) ≤ (D : Int) + (Hh : Int) := by omega
          have hPn : ¬ P = 0 := by omega
          have w1 : IntKind.i64.wrap (Q : Int) = (Q : Int) := IntWalk.i64_in _ (by omega)
          have w2 : IntKind.i64.wrap (Hh : Int) = (Hh : Int) := IntWalk.i64_in _ (by omega)
          have w3 : IntKind.i64.wrap ((D : Int) + (Hh : Int)) = (D : Int) + (Hh : Int) := IntWalk.i64_in _ (by omega)
          have w4 : IntKind.i64.wrap (R : Int) = (R : Int) := IntWalk.i64_in _ (by omega)
          have htm : ((D : Int) + (Hh : Int)).tmod (P : Int) = (R : Int) := by rw [Int.tmod_eq_emod_of_nonneg hsum0, hR]; simp
          have hem : ((D : Int) + (Hh : Int)) % (P : Int) = (R : Int) := by rw [hR]; simp
          clear hR
          go_wp2
          go_still_tail 23, (by kernel_rfl)
          change wpList _ _ _ _ _ wr.drew
          go_wp2
          clear w1 w2 w3 w4 htm hem hij hmul
          go_roundg (gk - 1)
          case measure => omega
          case rel => exact ⟨j + 1, by go_num, by omega, by omega, RC.out, RA.out, RB.out, RF.out, HB.out.drew⟩
        · obtain rfl : M = j := by omega
          have hlj' : ¬ (M : Int) < (M : Int) := by omega
          replace rc : wr.rowIs gc 3 N1 (fun t => .int .i64 (mOut P (dig P X) (dig P Y) M (i + 1) t : Nat)) := rc.congr fun t _ => by rw [HC0.out]; rfl
          go_wp2
          go_roundg (gI - 1)
          case measure => omega
          case rel => exact ⟨i + 1, by go_num, by omega, by omega, rc, ra, rb, rf, hB⟩
    · obtain rfl : M = i := by omega
      have hlt' : ¬ (M : Int) < (M : Int) := by omega
      have hM2 : (0 : Int) ≤ 2 * (M : Int) := by omega
      have hM16 : 2 * (M : Int) ≤ 16 := by omega
      go_wp2
      clear q0 q1 q2
      obtain ⟨C1, hC1⟩ : ∃ C, C = mOut P (dig P X) (dig P Y) M M := ⟨_, rfl⟩
      have hCl : ∀ t, C1 t < P := by rw [hC1]; exact mOut_lt (by omega) M
      rw [← hC1] at rc
      have HC1 := hid hC1
      have HCL := hid hCl
      clear hC1 hCl
      go_loopg [12] (M - 1) (fun gg iv wx => ∃ s : Nat, iv = .int .i64 (2 * (M : Int) - 2 - (s : Int)) ∧ s + 1 ≤ M ∧ M ≤ s + 1 + gg ∧ wx.rowIs gc 3 N1 (fun t => .int .i64 (rOut P M m C1 s t : Nat)) ∧ wx.rowIs w.heap.size 29 3 (fldCell (.int .i64 (P : Nat)) (.int .i64 (M : Nat)) (.slice A k c)) ∧ Below w.heap.size w wx)
      case atStart => exact ⟨0, by go_num, by omega, by omega, rc, rf, hB⟩
      case round =>
        clear ra rb rc rf hB
        obtain ⟨s, rfl, hs, hsg, rc, rf, hB⟩ := hrel
        have q0 : wr.cell? ⟨w.heap.size, 0, none⟩ = some (.int .i64 (P : Nat)) := rf.cell (i := 0) (by omega)
        have q1 : wr.cell? ⟨w.heap.size, 1, none⟩ = some (.int .i64 (M : Nat)) := rf.cell (i := 1) (by omega)
        have q2 : wr.cell? ⟨w.heap.size, 2, none⟩ = some (.slice A k c) := rf.cell (i := 2) (by omega)
        by_cases hlt2 : s + 1 < M
        · obtain ⟨I, hI⟩ : ∃ I, I = 2 * M - 2 - s := ⟨_, rfl⟩
          have hiv : 2 * (M : Int) - 2 - (s : Int) = (I : Int) := by omega
          rw [hiv]
          have hIM : M ≤ I := by omega
          have hIMi : (M : Int) ≤ (I : Int) := by omega
          have hI16 : (I : Int) ≤ 16 := by omega
          have hIN : I < N1 := by omega
          have hI0 : (0 : Int) ≤ (I : Int) := by omega
          have HI := hid hI
          clear hI hiv
          go_wp2
          clear q0 q1 q2
          obtain ⟨gI, rfl⟩ : ∃ gK : Nat, gK = gk := ⟨_, rfl⟩
          obtain ⟨C0, hC0⟩ : ∃ C, C = rOut P M m C1 s := ⟨_, rfl⟩
          have hCl : ∀ t, C0 t < P := by rw [hC0]; exact rOut_lt (by omega) HCL.out s
          rw [← hC0] at rc
          have HC0 := hid hC0
          have HCL2 := hid hCl
          clear hC0 hCl
          obtain ⟨hmr, hml⟩ : IntsR w w.heap.size A M (fun i => (m i : Nat)) ∧ ∀ i, i < M → m i < P := hm.resolve_left (by omega)
          obtain rfl : k = M := hkM.resolve_left (by omega)
          go_loopg [13] k (fun gg jv wx => ∃ j : Nat, jv = .int .i64 (j : Nat) ∧ j ≤ k ∧ k ≤ j + gg ∧ wx.rowIs gc 3 N1 (fun t => .int .i64 (rIn P k m I C0 j t : Nat)) ∧ wx.rowIs w.heap.size 29 3 (fldCell (.int .i64 (P : Nat)) (.int .i64 (k : Nat)) (.slice A k c)) ∧ Below w.heap.size w wx)
          case atStart => exact ⟨0, rfl, by omega, by omega, rc, rf, hB⟩
          case round =>
            clear rc rf hB
            obtain ⟨j, rfl, hj, hjg, rc, rf, hB⟩ := hrel
            have hj0 : (0 : Int) ≤ (j : Int) := by omega
            have q0 : wr.cell? ⟨w.heap.size, 0, none⟩ = some (.int .i64 (P : Nat)) := rf.cell (i := 0) (by omega)
            have q1 : wr.cell? ⟨w.heap.size, 1, none⟩ = some (.int .i64 (k : Nat)) := rf.cell (i := 1) (by omega)
            have q2 : wr.cell? ⟨w.heap.size, 2, none⟩ = some (.slice A k c) := rf.cell (i := 2) (by omega)
            by_cases hlj : j < k
            · have hlj' : (j : Int) < (k : Int) := by omega
              have hcl := rIn_lt (P := P) (M := k) (m := m) (i := I) (by omega) HCL2.out j (I - k + j)
              have hcl2 := rIn_lt (P := P) (M := k) (m := m) (i := I) (by omega) HCL2.out j I
              have hdm := hml j hlj
              obtain ⟨mb, mo, rfl, hmb, hmc⟩ := hmr.at hlj
              have cm := cellS hB hmc
              obtain ⟨Z, hZ⟩ : ∃ Q, Q = I - k := ⟨_, rfl⟩
              have hIz : (I : Int) - (k : Int) = (Z : Int) := by omega
              have hZ16 : Z ≤ 16 := by omega
              obtain ⟨Q, hQ⟩ : ∃ Q, Q = I - k + j := ⟨_, rfl⟩
              have hII := HI.out
              have hQN : Q < N1 := by omega
              have cc := rc.cell (i := Q) hQN
              have zc := rc.frozen Q
              have ci := rc.cell (i := I) hIN
              have hnx : ∀ t, rIn P k m I C0 (j + 1) t = if t = Q then (rIn P k m I C0 j Q + (P - rIn P k m I C0 j I) * m j) % P else rIn P k m I C0 j t := fun t => by rw [hQ]; rfl
              obtain ⟨R, hR⟩ : ∃ R, R = (rIn P k m I C0 j Q + (P - rIn P k m I C0 j I) * m j) % P := ⟨_, rfl⟩
              have hRP : R < P := by rw [hR]; exact Nat.mod_lt _ (by omega)
              rw [← hQ] at hcl
              have rc2 : (wr.setCell ⟨gc, Q, none⟩ (.int .i64 (R : Int))).rowIs gc 3 N1 (fun t => .int .i64 (rIn P k m I C0 (j + 1) t : Nat)) := (rc.set Q _).congr fun t ht => by
                rw [hnx t, ← hR]
                by_cases e : t = Q
                · rw [if_pos e, if_pos e]
                · rw [if_neg e, if_neg e]
              have rf2 := rf.setOther (a := ⟨gc, Q, none⟩) (by simpa using hne3) (.int .i64 (R : Int))
              have hB2 : Below w.heap.size w (wr.setCell ⟨gc, Q, none⟩ (.int .i64 (R : Int))) := hB.setCell hgcB _
              have RC := hid rc2
              have RF := hid rf2
              have HB := hid hB2
              clear rc2 rf2 hB2
              obtain ⟨D, hD⟩ : ∃ D, D = rIn P k m I C0 j Q := ⟨_, rfl⟩
              obtain ⟨D2, hD2⟩ : ∃ D, D = rIn P k m I C0 j I := ⟨_, rfl⟩
              obtain ⟨G, hG⟩ : ∃ D, D = m j := ⟨_, rfl⟩
              rw [← hD] at cc hcl hR
              rw [← hD2] at ci hcl2 hR
              rw [← hG] at cm hdm hR
              obtain ⟨E, hE⟩ : ∃ D, D = P - D2 := ⟨_, rfl⟩
              rw [← hE] at hR
              have hPD : (P : Int) - (D2 : Int) = (E : Int) := by omega
              have hEG : E * G ≤ 256 * 256 := Nat.mul_le_mul (by omega) (by omega)
              obtain ⟨Hh, hH⟩ : ∃ H, H = E * G := ⟨_, rfl⟩
              rw [← hH] at hR hEG
              have hij : (Z : Int) + (j : Int) = (Q : Int) := by omega
              have hmul : (E : Int) * (G : Int) = (Hh : Int) := by rw [hH]; simp
              have hE256 : E ≤ 256 := by omega
              clear hD hD2 hE hG hH hnx rc rf hB hQ hZ hII hmr hml hmc
              have hQ0 : (0 : Int) ≤ (Q : Int) := by omega
              have hQ1 : (Q : Int) < (N1 : Int) := by omega
              have hI1 : (I : Int) < (N1 : Int) := by omega
              have hP0 : ¬ (P : Int) = 0 := by omega
              have hPp : (2 : Int) ≤ (P : Int) := by omega
              have hR0 : (0 : Int) ≤ (R : Int) := by omega
              have hR1 : (R : Int) ≤ 256 := by omega
              have hD0 : (0 : Int) ≤ (D : Int) := by omega
              have hH0 : (0 : Int) ≤ (Hh : Int) := by omega
              have hsum0 : (0 : Int) ≤ (D : Int) + (Hh : Int) := by omega
              have hPn : ¬ P = 0 := by omega
              have w1 : IntKind.i64.wrap (Q : Int) = (Q : Int) := IntWalk.i64_in _ (by omega)
              have w2 : IntKind.i64.wrap (Hh : Int) = (Hh : Int) := IntWalk.i64_in _ (by omega)
              have w3 : IntKind.i64.wrap ((D : Int) + (Hh : Int)) = (D : Int) + (Hh : Int) := IntWalk.i64_in _ (by omega)
              have w4 : IntKind.i64.wrap (R : Int) = (R : Int) := IntWalk.i64_in _ (by omega)
              have w5 : IntKind.i64.wrap (Z : Int) = (Z : Int) := IntWalk.i64_in _ (by omega)
              have w6 : IntKind.i64.wrap (E : Int) = (E : Int) := IntWalk.i64_in _ (by omega)
              have htm : ((D : Int) + (Hh : Int)).tmod (P : Int) = (R : Int) := by rw [Int.tmod_eq_emod_of_nonneg hsum0, hR]; simp
              have hem : ((D : Int) + (Hh : Int)) % (P : Int) = (R : Int) := by rw [hR]; simp
              clear hR
              go_wp2
              go_still_tail 33, (by kernel_rfl)
              change wpList _ _ _ _ _ wr.drew
              go_wp2
              clear w1 w2 w3 w4 w5 w6 htm hem hij hmul
              go_roundg (gk - 1)
              case measure => omega
              case rel => exact ⟨j + 1, by go_num, by omega, by omega, RC.out, RF.out, HB.out.drew⟩
            · obtain rfl : k = j := by omega
              have hlj' : ¬ (k : Int) < (k : Int) := by omega
              replace rc : wr.rowIs gc 3 N1 (fun t => .int .i64 (rOut P k m C1 (s + 1) t : Nat)) := rc.congr fun t _ => by rw [HC0.out, HI.out]; rfl
              have hII := HI.out
              clear HI
              go_wp2
              go_roundg (gI - 1)
              case measure => omega
              case rel => exact ⟨s + 1, by go_num, by omega, by omega, rc, rf, hB⟩
        · obtain ⟨s2, hs2⟩ : ∃ t, t = M - 1 := ⟨_, rfl⟩
          obtain rfl : s = s2 := by omega
          obtain ⟨I, hI⟩ : ∃ I, I = M - 1 := ⟨_, rfl⟩
          have hiv : 2 * (M : Int) - 2 - (s : Int) = (I : Int) := by omega
          rw [hiv]
          have hIM : ¬ M ≤ I := by omega
          have hIMi : ¬ (M : Int) ≤ (I : Int) := by omega
          have hI16 : (I : Int) ≤ 16 := by omega
          have hI0 : (0 : Int) ≤ (I : Int) := by omega
          have hMN : M ≤ N1 := by omega
          have hMNi : (M : Int) ≤ (N1 : Int) := by omega
          have hint : IntsR wr.drew wr.drew.heap.size (some ⟨gc, 0, none⟩) M (fun t => (rOut P M m C1 s t : Nat)) := fun i hi => rowInts rc i (by omega)
          have hval : Hid (valN P (rOut P M m C1 s) M = mulF P M m (inV (P ^ M) x) (inV (P ^ M) y)) := by rw [HC1.out, HX.out, HY.out, hs2]; rfl
          have hlts : Hid (∀ t, t < M → rOut P M m C1 s t < P) := fun t _ => rOut_lt (by omega) HCL.out s t
          clear rc hs2 hI hiv hs hsg
          go_wp2
          go_still_tail 5, (by kernel_rfl)
          change wpList _ _ _ _ _ wr.drew
          go_wp2_with fail
          refine (value04_any P M A k c (some ⟨gc, 0, none⟩) M N1 _ _ hP2 hP hint hlts hq hM8).mono ?_
          rintro e w5 ⟨rfl, kb⟩
          replace hB := onS hB.drew kb
          clear kb q0 q1 q2 rf
          rw [hval.out]
          obtain ⟨R, hR⟩ : ∃ R, R = mulF P M m (inV (P ^ M) x) (inV (P ^ M) y) := ⟨_, rfl⟩
          rw [← hR]
          have HR := hid hR
          clear hR hint
          go_wp2
          go_ret
          exact ⟨by rw [HR.out]; rfl, hB⟩
end Go.Proofs.Ytgininddoalenaa
