/- codewrightref04: Add. -/
import Derived.Test.YtgininddoalenaaFldB
import Derived.StillTailTactics
namespace Go.Proofs.Ytgininddoalenaa
open Go.RowKit

/-- The sum. -/
def addF (P M x y : Nat) : Nat := valN P (fun i => (dig P x i + dig P y i) % P) M
theorem dig_lt {p : Nat} (hp : 0 < p) (x i : Nat) : dig p x i < p := Nat.mod_lt _ hp
theorem addF_lt {P M : Nat} (hP : 0 < P) (x y : Nat) : addF P M x y < P ^ M := valN_lt fun _ _ => Nat.mod_lt _ hP
theorem rowInts {w : World} {g n : Nat} {f : Nat → Nat} (h : w.rowIs g 3 n (fun i => .int .i64 (f i : Nat))) : IntsR w w.heap.size (some ⟨g, 0, none⟩) n (fun i => (f i : Nat)) := Rd_of_row h

set_option maxRecDepth 100000 in
set_option maxHeartbeats 8000000 in
theorem add04_any (P M : Nat) (A : Option Addr) (k c : Nat) (x y : Int) (w : World) (hf : FldOk P M) :
    Calls Try.prog 60 #[.agg #[.int .i64 (P : Nat), .int .i64 (M : Nat), .slice A k c], .int .i64 x, .int .i64 y] w fun e w' => e = .returned (.int .i64 (addF P M (inV (P ^ M) x) (inV (P ^ M) y) : Nat)) ∧ Below w.heap.size w w' := by
  have hP2 := hf.1
  have hP := hf.P_le
  have hM8 := hf.2.2.1
  have hq := hf.2.2.2
  have hB : Below w.heap.size w (w.alloc (.cells #[.int .i64 (P : Nat), .int .i64 (M : Nat), .slice A k c] 29)) := (Below.refl _ _).alloc (Nat.le_refl _) _
  have rf := fldBox_row (w := w) (a := .int .i64 (P : Nat)) (b := .int .i64 (M : Nat)) (c := .slice A k c) (T := 29)
  obtain ⟨w0, hw0⟩ : ∃ W, W = w.alloc (.cells #[.int .i64 (P : Nat), .int .i64 (M : Nat), .slice A k c] 29) := ⟨_, rfl⟩
  rw [← hw0] at hB rf
  go_enter Try.func60, Try.ntmps60
  go_upto_region 1 with fail
  rw [← hw0]
  clear hw0
  have hw0 := rf.lt
  have q0 : w0.cell? ⟨w.heap.size, 0, none⟩ = some (.int .i64 (P : Nat)) := rf.cell (i := 0) (by omega)
  have q1 : w0.cell? ⟨w.heap.size, 1, none⟩ = some (.int .i64 (M : Nat)) := rf.cell (i := 1) (by omega)
  have q2 : w0.cell? ⟨w.heap.size, 2, none⟩ = some (.slice A k c) := rf.cell (i := 2) (by omega)
  go_wp2_with fail
  refine (digits04_any P M A k c x _ hf).mono ?_
  rintro e w1 ⟨ga, rfl, hga, ra, kb⟩
  replace rf := rowIs_on rf kb
  have hga' := hB.size
  replace hB := onS hB kb
  clear kb q0 q1 q2
  have hal := ra.lt
  have q0 : w1.cell? ⟨w.heap.size, 0, none⟩ = some (.int .i64 (P : Nat)) := rf.cell (i := 0) (by omega)
  have q1 : w1.cell? ⟨w.heap.size, 1, none⟩ = some (.int .i64 (M : Nat)) := rf.cell (i := 1) (by omega)
  have q2 : w1.cell? ⟨w.heap.size, 2, none⟩ = some (.slice A k c) := rf.cell (i := 2) (by omega)
  go_wp2_with fail
  refine (digits04_any P M A k c y _ hf).mono ?_
  rintro e w2 ⟨gb, rfl, hgb, rb, kb⟩
  replace rf := rowIs_on rf kb
  replace ra := rowIs_on ra kb
  replace hB := onS hB kb
  clear kb q0 q1 q2
  obtain ⟨X, hX⟩ : ∃ X, X = inV (P ^ M) x := ⟨_, rfl⟩
  obtain ⟨Y, hY⟩ : ∃ X, X = inV (P ^ M) y := ⟨_, rfl⟩
  rw [← hX] at ra
  rw [← hY] at rb
  have HX := hid hX
  have HY := hid hY
  clear hX hY
  have hgab : ga ≠ gb := by omega
  have hgfa : w.heap.size ≠ ga := by omega
  have hgaB : w.heap.size ≤ ga := by omega
  clear hga hgb hal hga' hw0
  go_wp2
  go_loopg [9] M (fun gg iv wx => ∃ i : Nat, iv = .int .i64 (i : Nat) ∧ i ≤ M ∧ M ≤ i + gg ∧ wx.rowIs ga 3 M (fun t => .int .i64 (if t < i then ((dig P X t + dig P Y t) % P : Nat) else (dig P X t : Nat) : Nat)) ∧ wx.rowIs gb 3 M (fun t => .int .i64 (dig P Y t : Nat)) ∧ wx.rowIs w.heap.size 29 3 (fldCell (.int .i64 (P : Nat)) (.int .i64 (M : Nat)) (.slice A k c)) ∧ Below w.heap.size w wx)
  case atStart => exact ⟨0, rfl, by omega, by omega, ra.congr fun t _ => rfl, rb, rf, hB⟩
  case round =>
    clear ra rb rf hB
    obtain ⟨i, rfl, hi, hig, ra, rb, rf, hB⟩ := hrel
    have hi0 : (0 : Int) ≤ (i : Int) := by omega
    by_cases hlt : i < M
    · have hlt' : (i : Int) < (M : Int) := by omega
      have hda := dig_lt (p := P) (by omega) X i
      have hdb := dig_lt (p := P) (by omega) Y i
      have ca : wr.cell? ⟨ga, i, none⟩ = some (.int .i64 (dig P X i : Nat)) := by have := ra.cell hlt; simpa using this
      have cb : wr.cell? ⟨gb, i, none⟩ = some (.int .i64 (dig P Y i : Nat)) := rb.cell hlt
      have q0 : wr.cell? ⟨w.heap.size, 0, none⟩ = some (.int .i64 (P : Nat)) := rf.cell (i := 0) (by omega)
      have q1 : wr.cell? ⟨w.heap.size, 1, none⟩ = some (.int .i64 (M : Nat)) := rf.cell (i := 1) (by omega)
      have q2 : wr.cell? ⟨w.heap.size, 2, none⟩ = some (.slice A k c) := rf.cell (i := 2) (by omega)
      have za := ra.frozen i
      obtain ⟨R, hR⟩ : ∃ R, R = (dig P X i + dig P Y i) % P := ⟨_, rfl⟩
      have hRP : R < P := by rw [hR]; exact Nat.mod_lt _ (by omega)
      have ra2 : (wr.setCell ⟨ga, i, none⟩ (.int .i64 (R : Int))).rowIs ga 3 M (fun t => .int .i64 (if t < i + 1 then ((dig P X t + dig P Y t) % P : Nat) else (dig P X t : Nat) : Nat)) := (ra.set i _).congr fun t ht => by
        by_cases e : t = i
        · subst e
          rw [if_pos rfl, if_pos (by omega), hR]
        · rw [if_neg e]
          by_cases e2 : t < i
          · rw [if_pos e2, if_pos (by omega)]
          · rw [if_neg e2, if_neg (by omega)]
      have rb2 := rb.setOther (a := ⟨ga, i, none⟩) (by simpa using fun h => hgab h.symm) (.int .i64 (R : Int))
      have rf2 := rf.setOther (a := ⟨ga, i, none⟩) (by simpa using hgfa) (.int .i64 (R : Int))
      have hB2 : Below w.heap.size w (wr.setCell ⟨ga, i, none⟩ (.int .i64 (R : Int))) := hB.setCell hgaB _
      have RA := hid ra2
      have RB := hid rb2
      have RF := hid rf2
      have HB := hid hB2
      obtain ⟨D, hD⟩ : ∃ D, D = dig P X i := ⟨_, rfl⟩
      obtain ⟨E, hE⟩ : ∃ D, D = dig P Y i := ⟨_, rfl⟩
      rw [← hD] at ca hda hR
      rw [← hE] at cb hdb hR
      clear ra2 rb2 rf2 hB2 hD hE ra rb rf hB
      have hP0 : ¬ (P : Int) = 0 := by omega
      have hPp : (2 : Int) ≤ (P : Int) := by omega
      have hR0 : (0 : Int) ≤ (R : Int) := by omega
      have hR1 : (R : Int) ≤ 256 := by omega
      have hD0 : (0 : Int) ≤ (D : Int) := by omega
      have hE0 : (0 : Int) ≤ (E : Int) := by omega
      have hsum0 : (0 : Int) ≤ (D : Int) + (E : Int) := by omega
      have htm : ((D : Int) + (E : Int)).tmod (P : Int) = (R : Int) := by rw [Int.tmod_eq_emod_of_nonneg hsum0, hR]; simp
      have hws : IntKind.i64.wrap ((D : Int) + (E : Int)) = (D : Int) + (E : Int) := IntWalk.i64_in _ (by omega)
      have hwm : IntKind.i64.wrap (R : Int) = (R : Int) := IntWalk.i64_in _ (by omega)
      have hem : ((D : Int) + (E : Int)) % (P : Int) = (R : Int) := by rw [hR]; simp
      have hPn : ¬ P = 0 := by omega
      clear hR
      go_wp2
      go_still_tail 14, (by kernel_rfl)
      change wpList _ _ _ _ _ wr.drew
      go_wp2
      clear htm hws hwm hem
      go_roundg (gk - 1)
      case measure => omega
      case rel => exact ⟨i + 1, by go_num, by omega, by omega, RA.out, RB.out, RF.out, HB.out.drew⟩
    · obtain rfl : M = i := by omega
      have hlt' : ¬ (M : Int) < (M : Int) := by omega
      have hr : wr.rowIs ga 3 M (fun t => .int .i64 ((dig P X t + dig P Y t) % P : Nat)) := ra.congr fun t ht => by rw [if_pos ht]
      have hint := rowInts hr
      have hval : Hid (valN P (fun t => (dig P X t + dig P Y t) % P) M = addF P M (inV (P ^ M) x) (inV (P ^ M) y)) := by rw [HX.out, HY.out]; rfl
      have hlts : Hid (∀ t, t < M → (dig P X t + dig P Y t) % P < P) := fun t _ => Nat.mod_lt _ (by omega)
      clear ra rb hr
      have q0 : wr.cell? ⟨w.heap.size, 0, none⟩ = some (.int .i64 (P : Nat)) := rf.cell (i := 0) (by omega)
      have q1 : wr.cell? ⟨w.heap.size, 1, none⟩ = some (.int .i64 (M : Nat)) := rf.cell (i := 1) (by omega)
      have q2 : wr.cell? ⟨w.heap.size, 2, none⟩ = some (.slice A k c) := rf.cell (i := 2) (by omega)
      go_wp2_with fail
      refine (value04_any P M A k c (some ⟨ga, 0, none⟩) M M _ _ hP2 hP hint hlts hq hM8).mono ?_
      rintro e w3 ⟨rfl, kb⟩
      replace hB := onS hB kb
      clear kb q0 q1 q2 rf
      rw [hval.out]
      obtain ⟨R, hR⟩ : ∃ R, R = addF P M (inV (P ^ M) x) (inV (P ^ M) y) := ⟨_, rfl⟩
      rw [← hR]
      have HR := hid hR
      clear hR hint
      go_wp2
      go_ret
      exact ⟨by rw [HR.out]; rfl, hB⟩
end Go.Proofs.Ytgininddoalenaa
