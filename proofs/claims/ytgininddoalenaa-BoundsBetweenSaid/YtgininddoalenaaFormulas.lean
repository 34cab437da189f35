/- BoundsFormulas: Singleton, Hamming, Plotkin. -/
import Derived.Test.YtgininddoalenaaNatC
import Derived.Test.YtgininddoalenaaGilbert
namespace Go.Proofs.Ytgininddoalenaa
open Go.RowKit

theorem vol_pos (q n k : Nat) : 0 < vol q n (k + 1) := by
  induction k with
  | zero => simp [vol, chs_zero]
  | succ k ih => simp only [vol] at ih ⊢; omega

/-- The three formulas. -/
def hamN (q n d : Nat) : Nat := q ^ n / vol q n ((d - 1) / 2 + 1)
def plotN (q n d : Nat) : Nat := q * d / (q * d - (q - 1) * n)

set_option maxHeartbeats 2000000 in
theorem singErr_any (q n d : Int) (w : World) (h : rangeOk q n d = false) :
    Calls Try.prog 41 #[.int .i64 q, .int .i64 n, .int .i64 d] w fun e w' => e = .returned (.tuple #[.slice none 0 0, .int .i64 6]) ∧ w = w' := by
  have H := hid h
  clear h
  go_enter Try.func41, Try.ntmps41
  go_wp2_with fail
  refine (out_any q n d w).mono ?_
  rintro e w1 ⟨rfl, rfl⟩
  rw [H.out]
  go_wp2
  go_ret2
  exact ⟨rfl, rfl⟩
set_option maxHeartbeats 2000000 in
theorem hamErr_any (q n d : Int) (w : World) (h : rangeOk q n d = false) :
    Calls Try.prog 36 #[.int .i64 q, .int .i64 n, .int .i64 d] w fun e w' => e = .returned (.tuple #[.slice none 0 0, .int .i64 6]) ∧ w = w' := by
  have H := hid h
  clear h
  go_enter Try.func36, Try.ntmps36
  go_wp2_with fail
  refine (out_any q n d w).mono ?_
  rintro e w1 ⟨rfl, rfl⟩
  rw [H.out]
  go_wp2
  go_ret2
  exact ⟨rfl, rfl⟩
set_option maxHeartbeats 2000000 in
theorem plotErr_any (q n d : Int) (w : World) (h : rangeOk q n d = false) :
    Calls Try.prog 42 #[.int .i64 q, .int .i64 n, .int .i64 d] w fun e w' => e = .returned (.tuple #[.slice none 0 0, .int .i64 6]) ∧ w = w' := by
  have H := hid h
  clear h
  go_enter Try.func42, Try.ntmps42
  go_wp2_with fail
  refine (out_any q n d w).mono ?_
  rintro e w1 ⟨rfl, rfl⟩
  rw [H.out]
  go_wp2
  go_ret2
  exact ⟨rfl, rfl⟩

set_option maxHeartbeats 2000000 in
theorem singOk_any (q n d : Nat) (w : World) (h : rangeOk (q : Int) (n : Int) (d : Int) = true) (hq2 : q ≤ 256) (hn : n ≤ 64) (hd1 : 1 ≤ d) (hd : d ≤ n) :
    Calls Try.prog 41 #[.int .i64 (q : Nat), .int .i64 (n : Nat), .int .i64 (d : Nat)] w (SubPost (q ^ (n - d + 1)) w) := by
  have H := hid h
  have E1 := hid (show ((n : Int) - (d : Int) + 1) = ((n - d + 1 : Nat) : Int) by omega)
  clear h
  go_enter Try.func41, Try.ntmps41
  go_wp2_with fail
  refine (out_any q n d w).mono ?_
  rintro e w1 ⟨rfl, rfl⟩
  rw [H.out]
  go_wp2_with fail
  rw [E1.out]
  refine (power_any q (n - d + 1) w (by omega) (by omega)).mono ?_
  rintro e w1 ⟨A, c, rfl, h1, h2, h3, h4⟩
  go_wp2
  go_ret2
  exact ⟨A, c, rfl, h1, h2, h3, h4⟩
set_option maxHeartbeats 2000000 in
theorem refSing_any (q n d : Nat) (w : World) (hq2 : q ≤ 256) (hn : n ≤ 64) (hd1 : 1 ≤ d) (hd : d ≤ n) :
    Calls Try.prog 44 #[.int .i64 (q : Nat), .int .i64 (n : Nat), .int .i64 (d : Nat)] w (NatPost (q ^ (n - d + 1)) w) := by
  have E1 := hid (show ((n : Int) - (d : Int) + 1) = ((n - d + 1 : Nat) : Int) by omega)
  go_enter Try.func44, Try.ntmps44
  go_wp2_with fail
  rw [E1.out]
  refine (refPow34_any q (n - d + 1) w (by omega) (by omega)).mono ?_
  rintro e w1 ⟨A, c, rfl, h1, h2, h3, h4⟩
  go_wp2
  go_ret
  exact ⟨A, c, rfl, h1, h2, h3, h4⟩

set_option maxHeartbeats 2000000 in
theorem hamOk_any (q n d : Nat) (w : World) (h : rangeOk (q : Int) (n : Int) (d : Int) = true) (hq : 1 ≤ q) (hq2 : q ≤ 256) (hn : n ≤ 64) (hd1 : 1 ≤ d) (hd : d ≤ n) :
    Calls Try.prog 36 #[.int .i64 (q : Nat), .int .i64 (n : Nat), .int .i64 (d : Nat)] w (SubPost (hamN q n d) w) := by
  have H := hid h
  obtain ⟨t, ht⟩ : ∃ t, t = (d - 1) / 2 := ⟨_, rfl⟩
  have E1 := hid (show (((d : Int) - 1) / 2) = (t : Int) by omega)
  have htn : t ≤ n := by omega
  have hp := dl_power (q := q) (n := n) (by omega) (by omega)
  have hv := dl_vol (q := q) (n := n) (k := t + 1) (by omega) (by omega) (by omega)
  have hv0 := vol_pos q n t
  unfold hamN
  rw [← ht]
  clear h ht
  go_enter Try.func36, Try.ntmps36
  go_wp2_with fail
  refine (out_any q n d w).mono ?_
  rintro e w1 ⟨rfl, rfl⟩
  rw [H.out]
  go_wp2_with fail
  refine (power_any q n w (by omega) (by omega)).mono ?_
  rintro e w1 ⟨A, c, rfl, h1, h2, h3, h4⟩
  go_wp2_with fail
  rw [E1.out]
  refine (volume_any q n t w1 hq hq2 hn htn).mono ?_
  rintro e w2 ⟨A2, c2, rfl, f1, f2, f3, f4⟩
  have h5 := h3.on f4
  have hB := onS h4 f4
  clear h4 f4 h3
  go_wp2_with fail
  refine (over_any A A2 c c2 (q ^ n) (vol q n (t + 1)) w2 h5 f3 h1 h2 f1 f2 (by omega) (by omega) hv0).mono ?_
  rintro e w3 ⟨A3, c3, rfl, k1, k2, k3, k4⟩
  have hB3 := onS hB k4
  clear hB k4 h5 f3
  go_wp2
  go_ret2
  exact ⟨A3, c3, rfl, k1, k2, k3, hB3⟩
set_option maxHeartbeats 2000000 in
theorem refHam_any (q n d : Nat) (w : World) (hq : 1 ≤ q) (hq2 : q ≤ 256) (hn : n ≤ 64) (hd1 : 1 ≤ d) (hd : d ≤ n) :
    Calls Try.prog 45 #[.int .i64 (q : Nat), .int .i64 (n : Nat), .int .i64 (d : Nat)] w (NatPost (hamN q n d) w) := by
  obtain ⟨t, ht⟩ : ∃ t, t = (d - 1) / 2 := ⟨_, rfl⟩
  have E1 := hid (show (((d : Int) - 1) / 2) = (t : Int) by omega)
  have htn : t ≤ n := by omega
  have hp := dl_power (q := q) (n := n) (by omega) (by omega)
  have hv := dl_vol (q := q) (n := n) (k := t + 1) (by omega) (by omega) (by omega)
  have hv0 := vol_pos q n t
  unfold hamN
  rw [← ht]
  clear ht
  go_enter Try.func45, Try.ntmps45
  go_wp2_with fail
  refine (refPow34_any q n w (by omega) (by omega)).mono ?_
  rintro e w1 ⟨A, c, rfl, h1, h2, h3, h4⟩
  go_wp2_with fail
  rw [E1.out]
  refine (refVolume_any q n t w1 hq hq2 hn htn).mono ?_
  rintro e w2 ⟨A2, c2, rfl, f1, f2, f3, f4⟩
  have h5 := h3.on f4
  have hB := onS h4 f4
  clear h4 f4 h3
  go_wp2_with fail
  refine (floor_any A A2 c c2 (q ^ n) (vol q n (t + 1)) w2 h5 f3 h1 h2 f1 f2 (by omega) (by omega) hv0).mono ?_
  rintro e w3 ⟨A3, c3, rfl, k1, k2, k3, k4⟩
  have hB3 := onS hB k4
  clear hB k4 h5 f3
  go_wp2
  go_ret
  exact ⟨A3, c3, rfl, k1, k2, k3, hB3⟩

/-- The products of Plotkin's bound, as letters. -/
theorem plot_letters (q n d : Nat) (hq : 2 ≤ q) (hq2 : q ≤ 256) (hn : n ≤ 64) (hd : d ≤ 64) : ∃ a b : Nat, a = q * d ∧ b = (q - 1) * n ∧ (q : Int) * (d : Int) = (a : Int) ∧ ((q : Int) - 1) * (n : Int) = (b : Int) ∧ a ≤ 16384 ∧ b ≤ 16384 := by
  refine ⟨q * d, (q - 1) * n, rfl, rfl, by rw [Int.natCast_mul], ?_, ?_, ?_⟩
  · rw [Int.natCast_mul]; congr 1; omega
  · exact Nat.le_trans (Nat.mul_le_mul hq2 hd) (by omega)
  · exact Nat.le_trans (Nat.mul_le_mul (show q - 1 ≤ 256 by omega) hn) (by omega)

set_option maxHeartbeats 2000000 in
theorem whole34_any (n : Nat) (w : World) (hn : n < 9223372036854775808) :
    Calls Try.prog 82 #[.int .i64 (n : Nat)] w (NatPost n w) := by
  go_enter Try.func82, Try.ntmps82
  go_wp2_with fail
  refine (refOf_any n w (by omega)).mono ?_
  rintro e w1 ⟨A, c, rfl, h1, h2, h3, h4⟩
  go_wp2
  go_ret
  exact ⟨A, c, rfl, h1, h2, h3, h4⟩

set_option maxHeartbeats 2000000 in
theorem plotNo_any (q n d : Nat) (w : World) (h : rangeOk (q : Int) (n : Int) (d : Int) = true) (hq : 2 ≤ q) (hq2 : q ≤ 256) (hn : n ≤ 64) (hd : d ≤ n) (hno : q * d ≤ (q - 1) * n) :
    Calls Try.prog 42 #[.int .i64 (q : Nat), .int .i64 (n : Nat), .int .i64 (d : Nat)] w fun e w' => e = .returned (.tuple #[.slice none 0 0, .int .i64 11]) ∧ w = w' := by
  have H := hid h
  obtain ⟨a, b, ha, hb, e1, e2, h1, h2⟩ := plot_letters q n d hq hq2 hn (by omega)
  rw [← ha, ← hb] at hno
  have e3 : IntKind.i64.wrap (a : Int) = (a : Int) := IntWalk.i64_in _ (by omega)
  have e4 : IntKind.i64.wrap (b : Int) = (b : Int) := IntWalk.i64_in _ (by omega)
  clear h ha hb
  go_enter Try.func42, Try.ntmps42
  go_wp2_with fail
  refine (out_any q n d w).mono ?_
  rintro e w1 ⟨rfl, rfl⟩
  rw [H.out]
  go_wp2
  go_ret2
  exact ⟨rfl, rfl⟩
set_option maxHeartbeats 2000000 in
theorem plotOk_any (q n d : Nat) (w : World) (h : rangeOk (q : Int) (n : Int) (d : Int) = true) (hq : 2 ≤ q) (hq2 : q ≤ 256) (hn : n ≤ 64) (hd : d ≤ n) (hyes : (q - 1) * n < q * d) :
    Calls Try.prog 42 #[.int .i64 (q : Nat), .int .i64 (n : Nat), .int .i64 (d : Nat)] w (SubPost (plotN q n d) w) := by
  have H := hid h
  obtain ⟨a, b, ha, hb, e1, e2, h1, h2⟩ := plot_letters q n d hq hq2 hn (by omega)
  unfold plotN
  rw [← ha, ← hb] at hyes ⊢
  have e3 : IntKind.i64.wrap (a : Int) = (a : Int) := IntWalk.i64_in _ (by omega)
  have e4 : IntKind.i64.wrap (b : Int) = (b : Int) := IntWalk.i64_in _ (by omega)
  obtain ⟨m, hm⟩ : ∃ m, m = a - b := ⟨_, rfl⟩
  have e5 : (a : Int) - (b : Int) = (m : Int) := by omega
  rw [← hm]
  have hm0 : (1 : Int) ≤ (m : Int) := by omega
  have hm1 : ((m : Int) == 0) = false := by simp; omega
  obtain ⟨z, hz⟩ : ∃ z, z = a / m := ⟨_, rfl⟩
  have e6 : (a : Int) / (m : Int) = (z : Int) := by rw [hz]; rfl
  have hzb : z ≤ a := by rw [hz]; exact Nat.div_le_self _ _
  rw [← hz]
  clear h ha hb hm hz
  go_enter Try.func42, Try.ntmps42
  go_wp2_with fail
  refine (out_any q n d w).mono ?_
  rintro e w1 ⟨rfl, rfl⟩
  rw [H.out]
  go_wp2_with fail
  refine (whole_any z w (by omega)).mono ?_
  rintro e w1 ⟨A, c, rfl, h1, h2, h3, h4⟩
  go_wp2
  go_ret2
  exact ⟨A, c, rfl, h1, h2, h3, h4⟩
set_option maxHeartbeats 2000000 in
theorem refPlotNo_any (q n d : Nat) (w : World) (hq : 2 ≤ q) (hq2 : q ≤ 256) (hn : n ≤ 64) (hd : d ≤ n) (hno : q * d ≤ (q - 1) * n) :
    Calls Try.prog 43 #[.int .i64 (q : Nat), .int .i64 (n : Nat), .int .i64 (d : Nat)] w fun e w' => e = .returned (.tuple #[.slice none 0 0, .bool false]) ∧ w = w' := by
  obtain ⟨a, b, ha, hb, e1, e2, h1, h2⟩ := plot_letters q n d hq hq2 hn (by omega)
  rw [← ha, ← hb] at hno
  have e3 : IntKind.i64.wrap (a : Int) = (a : Int) := IntWalk.i64_in _ (by omega)
  have e4 : IntKind.i64.wrap (b : Int) = (b : Int) := IntWalk.i64_in _ (by omega)
  clear ha hb
  go_enter Try.func43, Try.ntmps43
  go_wp2
  go_ret2
  exact ⟨rfl, rfl⟩
/-- What the reference's Plotkin leaves where it applies. -/
def BoolPost (x : Nat) (w : World) (e : Ending) (w' : World) : Prop :=
  ∃ A c, e = .returned (.tuple #[.slice A (dl x) c, .bool true]) ∧ dl x ≤ c ∧ c ≤ maxLen ∧ NatOk w' w'.heap.size A x ∧ Below w.heap.size w w'
set_option maxHeartbeats 2000000 in
theorem refPlotOk_any (q n d : Nat) (w : World) (hq : 2 ≤ q) (hq2 : q ≤ 256) (hn : n ≤ 64) (hd : d ≤ n) (hyes : (q - 1) * n < q * d) :
    Calls Try.prog 43 #[.int .i64 (q : Nat), .int .i64 (n : Nat), .int .i64 (d : Nat)] w (BoolPost (plotN q n d) w) := by
  obtain ⟨a, b, ha, hb, e1, e2, h1, h2⟩ := plot_letters q n d hq hq2 hn (by omega)
  unfold plotN
  rw [← ha, ← hb] at hyes ⊢
  have e3 : IntKind.i64.wrap (a : Int) = (a : Int) := IntWalk.i64_in _ (by omega)
  have e4 : IntKind.i64.wrap (b : Int) = (b : Int) := IntWalk.i64_in _ (by omega)
  obtain ⟨m, hm⟩ : ∃ m, m = a - b := ⟨_, rfl⟩
  have e5 : (a : Int) - (b : Int) = (m : Int) := by omega
  rw [← hm]
  have hm0 : (1 : Int) ≤ (m : Int) := by omega
  have hm1 : ((m : Int) == 0) = false := by simp; omega
  obtain ⟨z, hz⟩ : ∃ z, z = a / m := ⟨_, rfl⟩
  have e6 : (a : Int) / (m : Int) = (z : Int) := by rw [hz]; rfl
  have hzb : z ≤ a := by rw [hz]; exact Nat.div_le_self _ _
  rw [← hz]
  clear ha hb hm hz
  go_enter Try.func43, Try.ntmps43
  go_wp2_with fail
  refine (whole34_any z w (by omega)).mono ?_
  rintro e w1 ⟨A, c, rfl, h1, h2, h3, h4⟩
  go_wp2
  go_ret2
  exact ⟨A, c, rfl, h1, h2, h3, h4⟩

set_option maxHeartbeats 2000000 in
theorem is_any (A A2 : Option Addr) (c c2 x : Nat) (o : Int) (w : World) (h : NatOk w w.heap.size A x) (h2 : NatOk w w.heap.size A2 x) (hn : dl x ≤ 1073741824) :
    Calls Try.prog 39 #[.slice A (dl x) c, .int .i64 0, .bool true, .slice A2 (dl x) c2, .int .i64 o] w fun e w' => e = .returned (.bool true) ∧ Below w.heap.size w w' := by
  go_enter Try.func39, Try.ntmps39
  go_wp2_with fail
  refine (refSame_any A A2 c c2 x w h h2 hn).mono ?_
  rintro e w1 ⟨rfl, hb⟩
  clear h h2
  go_wp2
  go_ret
  exact ⟨rfl, hb⟩
set_option maxHeartbeats 2000000 in
theorem isNot_any (o : Int) (w : World) :
    Calls Try.prog 39 #[.slice none 0 0, .int .i64 o, .bool false, .slice none 0 0, .int .i64 o] w fun e w' => e = .returned (.bool true) ∧ w = w' := by
  go_enter Try.func39, Try.ntmps39
  go_wp2
  go_ret
  exact ⟨rfl, rfl⟩
end Go.Proofs.Ytgininddoalenaa
