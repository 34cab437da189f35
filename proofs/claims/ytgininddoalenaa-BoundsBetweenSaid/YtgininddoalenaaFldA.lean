/- codewrightref04: Order, prime, digits, Is, In. -/
import Derived.Test.YtgininddoalenaaIntRows
import Derived.Test.YtgininddoalenaaSized
namespace Go.Proofs.Ytgininddoalenaa
open Go.RowKit

/-- A description of a field of at most 256 elements, but for the modulus. -/
def FldOk (P M : Nat) : Prop := 2 ≤ P ∧ 1 ≤ M ∧ M ≤ 8 ∧ P ^ M ≤ 256
theorem FldOk.pow_le {P M i : Nat} (h : FldOk P M) (hi : i ≤ M) : P ^ i ≤ 256 := Nat.le_trans (Nat.pow_le_pow_right (by have := h.1; omega) hi) h.2.2.2
theorem FldOk.P_le {P M : Nat} (h : FldOk P M) : P ≤ 256 := by
  have := h.pow_le (i := 1) h.2.1
  simpa using this
theorem fieldBox {w : World} {P M : Int} {A : Option Addr} {k c : Nat} (T : TypeId) :
    (w.alloc (.cells #[.int .i64 P, .int .i64 M, .slice A k c] T)).cell? ⟨w.heap.size, 0, none⟩ = some (.int .i64 P) ∧ (w.alloc (.cells #[.int .i64 P, .int .i64 M, .slice A k c] T)).cell? ⟨w.heap.size, 1, none⟩ = some (.int .i64 M) ∧ (w.alloc (.cells #[.int .i64 P, .int .i64 M, .slice A k c] T)).cell? ⟨w.heap.size, 2, none⟩ = some (.slice A k c) := by
  have hg := heap_alloc_new w (.cells #[.int .i64 P, .int .i64 M, .slice A k c] T)
  exact ⟨by rw [cell_of_row _ _ _ _ T (0, 0) hg]; rfl, by rw [cell_of_row _ _ _ _ T (0, 0) hg]; rfl, by rw [cell_of_row _ _ _ _ T (0, 0) hg]; rfl⟩

/-- The order; 0 if it is out of range. -/
def ordV (P M : Int) : Int := if 2 ≤ P ∧ 1 ≤ M ∧ M ≤ 8 ∧ P.toNat ^ M.toNat ≤ 256 then ((P.toNat ^ M.toNat : Nat) : Int) else 0
theorem ordV_ok {P M : Nat} (h : FldOk P M) : ordV (P : Int) (M : Int) = ((P ^ M : Nat) : Int) := by
  obtain ⟨h1, h2, h3, h4⟩ := h
  unfold ordV
  rw [if_pos ⟨by omega, by omega, by omega, by simpa using h4⟩]
  simp
theorem ordV_ne {P M : Int} (h : ordV P M ≠ 0) : ∃ P' M' : Nat, P = P' ∧ M = M' ∧ FldOk P' M' := by
  unfold ordV at h
  by_cases e : 2 ≤ P ∧ 1 ≤ M ∧ M ≤ 8 ∧ P.toNat ^ M.toNat ≤ 256
  · exact ⟨P.toNat, M.toNat, by omega, by omega, by omega, by omega, by omega, e.2.2.2⟩
  · rw [if_neg e] at h; exact absurd rfl h
theorem ordV_no {P M : Int} (h : P < 2 ∨ M < 1 ∨ 8 < M) : ordV P M = 0 := by unfold ordV; rw [if_neg (by omega)]
def OrderPost (P M : Int) (w : World) (e : Ending) (w' : World) : Prop := e = .returned (.int .i64 (ordV P M)) ∧ Below w.heap.size w w'
theorem orderPost_no {P M : Int} {w w' : World} (h : ordV P M = 0) (hB : Below w.heap.size w w') : OrderPost P M w (.returned (.int .i64 0)) w' := ⟨by rw [h], hB⟩
set_option maxRecDepth 100000 in
set_option maxHeartbeats 4000000 in
theorem order_any (P M : Int) (A : Option Addr) (k c : Nat) (w : World) :
    Calls Try.prog 22 #[.agg #[.int .i64 P, .int .i64 M, .slice A k c]] w (OrderPost P M w) := by
  have hB : Below w.heap.size w (w.alloc (.cells #[.int .i64 P, .int .i64 M, .slice A k c] 29)) := (Below.refl _ _).alloc (Nat.le_refl _) _
  obtain ⟨f0, f1, f2⟩ := fieldBox (w := w) (P := P) (M := M) (A := A) (k := k) (c := c) 29
  obtain ⟨w0, hw0⟩ : ∃ W, W = w.alloc (.cells #[.int .i64 P, .int .i64 M, .slice A k c] 29) := ⟨_, rfl⟩
  rw [← hw0] at hB f0 f1 f2
  by_cases h1 : P < 2
  · go_enter Try.func22, Try.ntmps22
    go_upto_region 1 with fail
    rw [← hw0]
    clear hw0
    go_wp2
    go_ret
    exact orderPost_no (ordV_no (.inl h1)) hB
  by_cases h2 : M < 1
  · have h1' : ¬ P < 2 := h1
    go_enter Try.func22, Try.ntmps22
    go_upto_region 1 with fail
    rw [← hw0]
    clear hw0
    go_wp2
    go_ret
    exact orderPost_no (ordV_no (.inr (.inl h2))) hB
  by_cases h3 : 8 < M
  · have h1' : ¬ P < 2 := h1
    have h2' : ¬ M < 1 := h2
    go_enter Try.func22, Try.ntmps22
    go_upto_region 1 with fail
    rw [← hw0]
    clear hw0
    go_wp2
    go_ret
    exact orderPost_no (ordV_no (.inr (.inr h3))) hB
  obtain ⟨P, rfl⟩ := Int.eq_ofNat_of_zero_le (show 0 ≤ P by omega)
  obtain ⟨M, rfl⟩ := Int.eq_ofNat_of_zero_le (show 0 ≤ M by omega)
  have hP2 : (2 : Int) ≤ (P : Int) := by omega
  have hM1 : (1 : Int) ≤ (M : Int) := by omega
  have hM8 : (M : Int) ≤ 8 := by omega
  have hP0 : ¬ (P : Int) = 0 := by omega
  have d1 : decide ((P : Int) < 2) = false := by simp; omega
  have d2 : decide ((M : Int) < 1) = false := by simp; omega
  have d3 : decide ((8 : Int) < (M : Int)) = false := by simp; omega
  clear h1 h2 h3
  go_enter Try.func22, Try.ntmps22
  go_upto_region 1 with fail
  rw [← hw0]
  clear hw0
  go_wp2
  go_loop [3, 4] (fun qv iv => ∃ i : Nat, iv = .int .i64 (i : Nat) ∧ i ≤ M ∧ qv = .int .i64 (P ^ i : Nat) ∧ P ^ i ≤ 256) (fun _ iv => M - (intOf iv).toNat)
  case atStart => exact ⟨0, rfl, by omega, rfl, by simp⟩
  case round =>
    obtain ⟨i, rfl, hi, rfl, hq⟩ := hrel
    have hi0 : (0 : Int) ≤ (i : Int) := by omega
    obtain ⟨Q, hQ⟩ : ∃ Q, Q = P ^ i := ⟨_, rfl⟩
    rw [← hQ] at hq
    rw [← hQ]
    have HQ := hid hQ
    clear hQ
    by_cases hlt : i < M
    · have hlt' : (i : Int) < (M : Int) := by omega
      have hq0 : (0 : Int) ≤ (Q : Int) := by omega
      have hq1 : (Q : Int) ≤ 256 := by omega
      by_cases hbig : (256 : Int) / (P : Int) < (Q : Int)
      · have hno : ordV (P : Int) (M : Int) = 0 := by
          unfold ordV
          rw [if_neg]
          intro hc
          have h1 : (256 : Int) / (P : Int) = ((256 / P : Nat) : Int) := by simp
          rw [h1] at hbig
          have h2 : ¬ Q * P ≤ 256 := fun h => by
            have := (Nat.le_div_iff_mul_le (show 0 < P by omega)).2 h
            omega
          have h3 : P ^ (i + 1) ≤ P ^ M := Nat.pow_le_pow_right (by omega) (by omega)
          have h4 := hc.2.2.2
          simp only [Int.toNat_natCast] at h4
          rw [Nat.pow_succ, ← HQ.out] at h3
          omega
        have HNO := hid hno
        clear hno
        go_wp2
        go_ret
        exact orderPost_no HNO.out hB
      · have hnb : ¬ (256 : Int) / (P : Int) < (Q : Int) := hbig
        have hle : Q * P ≤ 256 := by
          have h1 : (256 : Int) / (P : Int) = ((256 / P : Nat) : Int) := by simp
          rw [h1] at hbig
          have h2 : Q ≤ 256 / P := by omega
          exact (Nat.le_div_iff_mul_le (by omega)).1 h2
        have hmul : (Q : Int) * (P : Int) = ((Q * P : Nat) : Int) := by simp
        obtain ⟨R, hR⟩ : ∃ R, R = Q * P := ⟨_, rfl⟩
        rw [← hR] at hle hmul
        have HR : Hid (R = P ^ (i + 1)) := by rw [hR, HQ.out, Nat.pow_succ]; rfl
        have hwr : IntKind.i64.wrap ((Q : Int) * (P : Int)) = (R : Int) := by rw [hmul]; exact IntWalk.i64_in _ (by omega)
        clear hR hbig
        go_wp2
        go_round
        case rel => exact ⟨i + 1, by go_num, by omega, by rw [← HR.out], by rw [← HR.out]; exact hle⟩
        case measure => simp [intOf]; omega
    · obtain rfl : i = M := by omega
      have hlt' : ¬ (i : Int) < (i : Int) := by omega
      go_wp2
      go_ret
      exact ⟨by rw [ordV_ok ⟨by omega, by omega, by omega, by rw [← HQ.out]; exact hq⟩, ← HQ.out]; rfl, hB⟩

/-- No divisor between 1 and P. -/
def PrimeB (P : Nat) : Prop := ∀ d, 2 ≤ d → d < P → P % d ≠ 0
def PrimePost (P : Nat) (w : World) (e : Ending) (w' : World) : Prop := ∃ v : Bool, e = .returned (.bool v) ∧ (v = true ↔ PrimeB P) ∧ w = w'
set_option maxRecDepth 100000 in
set_option maxHeartbeats 4000000 in
theorem prime_any (P : Nat) (w : World) (hP : P ≤ 256) :
    Calls Try.prog 63 #[.int .i64 (P : Nat)] w (PrimePost P w) := by
  go_enter Try.func63, Try.ntmps63
  go_wp2
  go_loop [3] (fun iv => ∃ d : Nat, iv = .int .i64 (d : Nat) ∧ 2 ≤ d ∧ d ≤ P + 2 ∧ ∀ d', 2 ≤ d' → d' < d → P % d' ≠ 0) (fun iv => P + 2 - (intOf iv).toNat)
  case atStart => exact ⟨2, rfl, by omega, by omega, fun d' h1 h2 => by omega⟩
  case round =>
    obtain ⟨d, rfl, h2, hd, hg⟩ := hrel
    have HG := hid hg
    clear hg
    have hd2 : (2 : Int) ≤ (d : Int) := by omega
    have hd0 : ¬ (d : Int) = 0 := by omega
    have hP0 : (0 : Int) ≤ (P : Int) := by omega
    by_cases hlt : d < P
    · have hlt' : (d : Int) < (P : Int) := by omega
      have hmod : (P : Int) % (d : Int) = ((P % d : Nat) : Int) := by simp
      obtain ⟨r, hr⟩ : ∃ r, r = P % d := ⟨_, rfl⟩
      rw [← hr] at hmod
      have HR := hid hr
      clear hr
      by_cases h0 : r = 0
      · subst h0
        go_wp2
        go_ret
        exact ⟨false, rfl, ⟨(fun h => by cases h), fun h => absurd HR.out.symm (h d h2 hlt)⟩, rfl⟩
      · have hb : ((r : Int) == 0) = false := by simp; omega
        have hnx : Hid (∀ d', 2 ≤ d' → d' < d + 1 → P % d' ≠ 0) := fun d' e1 e2 => by
          by_cases e : d' = d
          · rw [e, ← HR.out]; exact h0
          · exact HG.out d' e1 (by omega)
        go_wp2
        go_round
        case rel => exact ⟨d + 1, by go_num, by omega, by omega, hnx.out⟩
        case measure => simp [intOf]; omega
    · have hlt' : ¬ (d : Int) < (P : Int) := by omega
      go_wp2
      go_ret
      exact ⟨true, rfl, ⟨fun _ d' e1 e2 => HG.out d' e1 (by omega), fun _ => rfl⟩, rfl⟩

/-- The digit number i. -/
def dig (p x i : Nat) : Nat := x / p ^ i % p
set_option maxRecDepth 100000 in
set_option maxHeartbeats 4000000 in
theorem digits_any (x p n : Nat) (w : World) (hx : x ≤ 1048576) (hp : 1 ≤ p) (hp2 : p ≤ 256) (hn : n ≤ 64) :
    Calls Try.prog 104 #[.int .i64 (x : Nat), .int .i64 (p : Nat), .int .i64 (n : Nat)] w fun e w' => e = .returned (.slice (some ⟨w.heap.size, 0, none⟩) n n) ∧ w'.rowIs w.heap.size 3 n (fun i => .int .i64 (dig p x i : Nat)) ∧ Below w.heap.size w w' := by
  have hmk := fun W => run_makeI (P := Try.prog) 27 3 _ 8 Try.underlying27 Try.infoInt rfl (n : Int) (by omega) (by omega) (by omega) W
  simp only [Int.toNat_natCast] at hmk
  have row := World.rowIs_made w (.int .i64 0) n 3
  have hB : Below w.heap.size w (w.alloc (.cells (madeCells #[.int .i64 0] n) 3)) := (Below.refl _ _).alloc (Nat.le_refl _) _
  have hp1 : (1 : Int) ≤ (p : Int) := by omega
  have hp0 : ¬ (p : Int) = 0 := by omega
  have hpm : (p : Int) ≤ 256 := by omega
  go_enter Try.func104, Try.ntmps104
  go_wp2
  obtain ⟨w1, hw1⟩ : ∃ W, W = w.alloc (.cells (madeCells #[.int .i64 0] n) 3) := ⟨_, rfl⟩
  obtain ⟨g, hg⟩ : ∃ g, g = w.heap.size := ⟨_, rfl⟩
  rw [← hw1, ← hg]
  rw [← hw1] at hB row
  rw [← hg] at row
  have hgB : w.heap.size ≤ g := by omega
  have HGE := hid hg
  clear hw1 hg hmk
  go_loopg [0, 8] n (fun gg xv iv wx => ∃ i : Nat, iv = .int .i64 (i : Nat) ∧ xv = .int .i64 (x / p ^ i : Nat) ∧ i ≤ n ∧ n ≤ i + gg ∧ wx.rowIs g 3 n (fun j => .int .i64 (if j < i then (dig p x j : Nat) else 0 : Int)) ∧ Below w.heap.size w wx)
  case atStart => exact ⟨0, rfl, by simp, by omega, by omega, row.congr fun i _ => rfl, hB⟩
  case round =>
    clear row hB
    obtain ⟨i, rfl, rfl, hi, hig, row, hB⟩ := hrel
    have hi0 : (0 : Int) ≤ (i : Int) := by omega
    have hle : x / p ^ i ≤ x := Nat.div_le_self _ _
    have hst : x / p ^ (i + 1) = x / p ^ i / p := by rw [Nat.pow_succ, Nat.div_div_eq_div_mul]
    have hdg : dig p x i = x / p ^ i % p := rfl
    obtain ⟨y, hy⟩ : ∃ y, y = x / p ^ i := ⟨_, rfl⟩
    rw [← hy] at hle hst hdg
    rw [← hy]
    have HST := hid hst
    have HDG := hid hdg
    clear hy hst hdg
    by_cases hlt : i < n
    · have hlt' : (i : Int) < (n : Int) := by omega
      have hy0 : (0 : Int) ≤ (y : Int) := by omega
      have hy1 : (y : Int) ≤ 1048576 := by omega
      have hmod : (y : Int) % (p : Int) = ((y % p : Nat) : Int) := by simp
      have hdiv : (y : Int) / (p : Int) = ((y / p : Nat) : Int) := by simp
      obtain ⟨r, hr⟩ : ∃ r, r = y % p := ⟨_, rfl⟩
      obtain ⟨z, hz⟩ : ∃ r, r = y / p := ⟨_, rfl⟩
      rw [← hr] at hmod
      rw [← hz] at hdiv
      have hz0 : (0 : Int) ≤ (z : Int) := by omega
      have hz1 : (z : Int) ≤ 1048576 := by have : y / p ≤ y := Nat.div_le_self _ _; omega
      have HR := hid hr
      have HZ := hid hz
      clear hr hz
      have c0 := row.cell hlt
      have z0 := row.frozen i
      have row2 : (wr.setCell ⟨g, i, none⟩ (.int .i64 (r : Int))).rowIs g 3 n (fun j => .int .i64 (if j < i + 1 then (dig p x j : Nat) else 0 : Int)) := (row.set i _).congr fun j hj => by
        by_cases e : j = i
        · subst e
          rw [if_pos rfl, if_pos (by omega), HDG.out, HR.out]
        · rw [if_neg e]
          by_cases e2 : j < i
          · rw [if_pos e2, if_pos (by omega)]
          · rw [if_neg e2, if_neg (by omega)]
      have HB2 : Hid (Below w.heap.size w (wr.setCell ⟨g, i, none⟩ (.int .i64 (r : Int)))) := hB.setCell hgB _
      have HROW2 := hid row2
      clear row2
      go_wp2
      go_roundg (gk - 1)
      case measure => omega
      case rel => exact ⟨i + 1, by go_num, by rw [HST.out, HZ.out], by omega, by omega, HROW2.out, HB2.out⟩
    · obtain rfl : i = n := by omega
      have hlt' : ¬ (i : Int) < (i : Int) := by omega
      have hrow : Hid (wr.rowIs g 3 i (fun j => .int .i64 (dig p x j : Nat))) := row.congr fun j hj => by rw [if_pos hj]
      clear row
      go_wp2
      go_ret
      exact ⟨by rw [HGE.out]; rfl, by rw [← HGE.out]; exact hrow.out, hB⟩
end Go.Proofs.Ytgininddoalenaa
