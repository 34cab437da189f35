/- codewrightref24: Weights, Least; codewrightref01: Zero. -/
import Derived.Test.YtgininddoalenaaAppCells
import Derived.Test.YtgininddoalenaaSpanC
namespace Go.Proofs.Ytgininddoalenaa
open Go.RowKit

/-- How many of the first words have each weight. -/
def wcnt (n : Nat) (W : Nat → Nat → Int) : Nat → Nat → Nat
  | 0, _ => 0
  | i + 1, t => wcnt n W i t + if disN (W i) (fun _ => 0) n = t then 1 else 0
theorem wcnt_le (n : Nat) (W : Nat → Nat → Int) (i t : Nat) : wcnt n W i t ≤ i := by
  induction i with
  | zero => exact Nat.le_refl _
  | succ i ih => unfold wcnt; split <;> omega
theorem wcnt_pos {n : Nat} {W : Nat → Nat → Int} {i t : Nat} : wcnt n W i t ≠ 0 ↔ ∃ v, v < i ∧ disN (W v) (fun _ => 0) n = t := by
  induction i with
  | zero => exact ⟨fun h => absurd rfl h, fun ⟨v, hv, _⟩ => by omega⟩
  | succ i ih =>
    show wcnt n W i t + (if disN (W i) (fun _ => 0) n = t then 1 else 0) ≠ 0 ↔ _
    constructor
    · intro h
      by_cases e : disN (W i) (fun _ => 0) n = t
      · exact ⟨i, by omega, e⟩
      · rw [if_neg e] at h
        obtain ⟨v, hv, he⟩ := ih.1 (by omega)
        exact ⟨v, by omega, he⟩
    · rintro ⟨v, hv, he⟩
      by_cases e : v = i
      · subst e; rw [if_pos he]; omega
      · have := ih.2 ⟨v, by omega, he⟩
        omega

set_option maxRecDepth 100000 in
set_option maxHeartbeats 8000000 in
theorem weights24_any (n : Nat) (T : Option Addr) (N c : Nat) (W : Nat → Nat → Int) (w : World) (h : IntRows w T N (fun _ => n) W) (hN : N ≤ 65536) (hn : n ≤ 64) :
    Calls Try.prog 24 #[.int .i64 (n : Nat), .slice T N c] w fun e w' => ∃ A cA, e = .returned (.slice A (n + 1) cA) ∧ n + 1 ≤ cA ∧ cA ≤ maxLen ∧ NatTab w' w'.heap.size A (n + 1) (wcnt n W N) ∧ Below w.heap.size w w' := by
  have hmk1 := fun X => run_makeI (P := Try.prog) 27 3 _ 8 Try.underlying27 Try.infoInt rfl ((n : Int) + 1) (by omega) (by omega) (by omega) X
  have hmk2 := fun X => run_makeI (P := Try.prog) 27 3 _ 8 Try.underlying27 Try.infoInt rfl (n : Int) (by omega) (by omega) (by omega) X
  simp only [show ((n : Int) + 1).toNat = n + 1 by omega, Int.toNat_natCast] at hmk1 hmk2
  have hn0 : (0 : Int) ≤ (n : Int) := by omega
  have hn1 : (n : Int) ≤ 64 := by omega
  have rc := World.rowIs_made w (.int .i64 0) (n + 1) 3
  have hB : Below w.heap.size w (w.alloc (.cells (madeCells #[.int .i64 0] (n + 1)) 3)) := (Below.refl _ _).alloc (Nat.le_refl _) _
  go_enter Try.func24, Try.ntmps24
  go_upto_region 2 with fail
  obtain ⟨w1, hw1⟩ : ∃ X, X = w.alloc (.cells (madeCells #[.int .i64 0] (n + 1)) 3) := ⟨_, rfl⟩
  obtain ⟨gc, hgc⟩ : ∃ g, g = w.heap.size := ⟨_, rfl⟩
  rw [← hw1, ← hgc]
  rw [← hw1] at rc hB
  rw [← hgc] at rc
  have hgcB : w.heap.size ≤ gc := by omega
  clear hw1 hmk1 hgc
  have rz := World.rowIs_made w1 (.int .i64 0) n 3
  have kb : Below w1.heap.size w1 (w1.alloc (.cells (madeCells #[.int .i64 0] n) 3)) := (Below.refl _ _).alloc (Nat.le_refl _) _
  have hlt1 := rc.lt
  go_wp2
  obtain ⟨w2, hw2⟩ : ∃ X, X = w1.alloc (.cells (madeCells #[.int .i64 0] n) 3) := ⟨_, rfl⟩
  obtain ⟨gz, hgz⟩ : ∃ g, g = w1.heap.size := ⟨_, rfl⟩
  rw [← hw2, ← hgz]
  rw [← hw2] at rz kb
  rw [← hgz] at rz
  have hne : gz ≠ gc := by omega
  replace rc := rowIs_on rc kb
  replace hB := onS hB kb
  clear hw2 hmk2 hgz kb hlt1
  go_loopg [7] N (fun gg iv wx => ∃ i : Nat, iv = .int .i64 (i : Nat) ∧ i ≤ N ∧ N ≤ i + gg ∧ wx.rowIs gc 3 (n + 1) (fun t => .int .i64 (wcnt n W i t : Nat)) ∧ wx.rowIs gz 3 n (fun _ => .int .i64 0) ∧ Below w.heap.size w wx)
  case atStart => exact ⟨0, rfl, by omega, by omega, rc.congr fun t _ => rfl, rz, hB⟩
  case round =>
    clear rc rz hB
    obtain ⟨i, rfl, hi, hig, rc, rz, hB⟩ := hrel
    have hi0 : (0 : Int) ≤ (i : Int) := by omega
    by_cases hlt : i < N
    · have hlt' : (i : Int) < (N : Int) := by omega
      obtain ⟨b, off, A, ca, rfl, hb, t1, k1, k2, hints, _⟩ := h i hlt
      have t1' := cellS hB t1
      go_wp2_with fail
      refine (distance_any A (some ⟨gz, 0, none⟩) n ca n (W i) (fun _ => 0) _ (hints.on hB) (Rd_of_row rz) (by omega)).mono ?_
      rintro e w2 ⟨rfl, kb⟩
      replace rc := rowIs_on rc kb
      replace rz := rowIs_on rz kb
      replace hB := onS hB kb
      clear kb t1 t1' hints
      have hdl := disN_le (W i) (fun _ => 0) n
      have hnx : ∀ t, wcnt n W (i + 1) t = wcnt n W i t + if disN (W i) (fun _ => 0) n = t then 1 else 0 := fun _ => rfl
      obtain ⟨D, hD⟩ : ∃ D, D = disN (W i) (fun _ => 0) n := ⟨_, rfl⟩
      rw [← hD] at hdl hnx
      rw [← hD]
      clear hD
      have hDn : D < n + 1 := by omega
      have c0 := rc.cell hDn
      have z0 := rc.frozen D
      have hcl := wcnt_le n W i D
      have hset := rc.set D (.int .i64 ((wcnt n W i D + 1 : Nat) : Int))
      obtain ⟨C, hC⟩ : ∃ C, C = wcnt n W i D := ⟨_, rfl⟩
      have rc2 : (w2.setCell ⟨gc, D, none⟩ (.int .i64 ((C : Int) + 1))).rowIs gc 3 (n + 1) (fun t => .int .i64 (wcnt n W (i + 1) t : Nat)) := by
        rw [hC, show ((wcnt n W i D : Nat) : Int) + 1 = ((wcnt n W i D + 1 : Nat) : Int) by omega]
        refine hset.congr fun t ht => ?_
        rw [hnx]
        by_cases e : t = D
        · rw [if_pos e, if_pos e.symm, e]
        · rw [if_neg e, if_neg (fun h => e h.symm), Nat.add_zero]
      rw [← hC] at c0 hcl
      have rz2 := rz.setOther (a := ⟨gc, D, none⟩) (by simpa using hne) (.int .i64 ((C : Int) + 1))
      have hB2 := hB.setCell (p := ⟨gc, D, none⟩) hgcB (.int .i64 ((C : Int) + 1))
      have RC := hid rc2
      have RZ := hid rz2
      have HB := hid hB2
      have hD0 : (0 : Int) ≤ (D : Int) := by omega
      have hD1 : (D : Int) < (n : Int) + 1 := by omega
      have hwC : IntKind.i64.wrap ((C : Int) + 1) = (C : Int) + 1 := IntWalk.i64_in _ (by omega)
      clear hset rc rz hB rc2 rz2 hB2 hnx hC
      go_wp2
      clear hwC
      go_roundg (gk - 1)
      case measure => omega
      case rel => exact ⟨i + 1, by go_num, by omega, by omega, RC.out, RZ.out, HB.out⟩
    · obtain rfl : i = N := by omega
      have hlt' : ¬ (i : Int) < (i : Int) := by omega
      have hcl := fun t => wcnt_le n W i t
      obtain ⟨X, hX⟩ : ∃ X, X = wcnt n W i := ⟨_, rfl⟩
      rw [← hX] at rc hcl
      have HX := hid hX
      have HCL := hid hcl
      clear hX hcl
      obtain ⟨w3, hw3⟩ : ∃ X, X = wr := ⟨_, rfl⟩
      rw [← hw3] at rc rz hB ⊢
      clear hw3
      have hO : NatOwn w3 w3.heap.size (.slice none 0 0) 0 X := NatOwn.nil _ _ _
      have hk0 : Below w3.heap.size w3 w3 := Below.refl _ _
      go_wp2
      go_loopg [8, 9] (n + 1) (fun gg ov iv wx => ∃ (t : Nat) (v : Value), v = ov ∧ iv = .int .i64 (t : Nat) ∧ t ≤ n + 1 ∧ n + 1 ≤ t + gg ∧ NatOwn wx w3.heap.size v t X ∧ Below w3.heap.size w3 wx)
      case atStart => exact ⟨0, _, rfl, rfl, by omega, by omega, hO, hk0⟩
      case round =>
        clear hO hk0
        obtain ⟨t, v, rfl, rfl, ht, htg, hO, hk⟩ := hrel
        have ht0 : (0 : Int) ≤ (t : Int) := by omega
        by_cases hltt : t < n + 1
        · have hltt' : (t : Int) ≤ (n : Int) := by omega
          have hltt2 : (t : Int) < (n : Int) + 1 := by omega
          have c0 := (rowIs_on rc hk).cell hltt
          have hcl := HCL.out t
          obtain ⟨C, hC⟩ : ∃ C, C = X t := ⟨_, rfl⟩
          rw [← hC] at c0 hcl
          have HC := hid hC
          clear hC
          have hC0 : (0 : Int) ≤ (C : Int) := by omega
          have hC1 : (C : Int) ≤ 65536 := by omega
          have hdC : dl C ≤ 1 := dl_le (by omega)
          go_wp2_with fail
          refine (refOf_any C _ (by omega)).mono ?_
          rintro e w4 ⟨A2, c2, rfl, m3, m4, m1, kb⟩
          replace hO := hO.on kb
          replace hk := onS hk kb
          clear kb c0
          have hsz := hk.size
          have kb2 := below_one w4 (.cells #[.slice A2 (dl C) c2] 39)
          have hO2 := hid (hO.on kb2)
          have hm1 := hid (m1.on kb2)
          have hk2 := hid (onS hk kb2)
          have hcell : Hid ((w4.alloc (.cells #[.slice A2 (dl C) c2] 39)).cell? ⟨w4.heap.size, 0, none⟩ = some (.slice A2 (dl C) c2)) := World.cell?_alloc_at _ _ _ _ rfl
          clear hO hk kb2 m1
          go_wp2_with (first | (at_builtin; (refine wpList_append_nat rfl (.tmp 37) (.tmp 44) rfl w3.heap.size v t X rfl hO2.out (by simp; omega) (by omega) w4.heap.size 1 rfl A2 c2 C HC.out.symm hcell.out hm1.out m3 m4 ?_); intro v' w6 hO6 hk6))
          have hk7 := hk2.out.trans hk6
          clear hk6 hO2 hk2 hcell hm1
          go_wp2
          go_roundg (gk - 1)
          case measure => omega
          case rel => exact ⟨t + 1, v', rfl, by go_num, by omega, by omega, hO6, hk7⟩
        · obtain ⟨n2, hn2⟩ : ∃ m, m = n + 1 := ⟨_, rfl⟩
          obtain rfl : t = n2 := by omega
          have hltt' : ¬ (t : Int) ≤ (n : Int) := by omega
          obtain ⟨A, cA, rfl, g1, g2, htab⟩ := hO.tab
          have HT := hid htab
          have hB3 := onS hB hk
          clear hO htab
          go_wp2
          go_ret
          exact ⟨A, cA, rfl, by omega, g2, by rw [← hn2, ← HX.out]; exact HT.out, hB3⟩

set_option maxHeartbeats 2000000 in
theorem zeroNat_any (A : Option Addr) (c x : Nat) (w : World) (h : NatOk w w.heap.size A x) (hc : dl x ≤ c) (hm : c ≤ maxLen) (hn : dl x ≤ 1073741824) :
    Calls Try.prog 66 #[.slice A (dl x) c] w (IffPost (x = 0) w) := by
  go_enter Try.func66, Try.ntmps66
  go_wp2_with fail
  refine (refTrim_nat A c x _ h hc hm hn).mono ?_
  rintro e w1 ⟨A2, c2, rfl, m3, m4, m1, kb⟩
  clear m1
  by_cases hx : x = 0
  · subst hx
    have hd : dl 0 = 0 := dl_zero
    rw [hd]
    go_wp2
    go_ret
    exact iffPost_t trivial kb
  · have hd : dl x ≠ 0 := fun h => hx (dl_eq_zero.1 h)
    have hb : ((dl x : Nat) : Int) ≠ 0 := by omega
    have hb2 : (((dl x : Nat) : Int) == 0) = false := by simpa using hb
    have HX := hid hx
    clear hx hd hb
    go_wp2
    go_ret
    exact iffPost_f HX.out kb

/-- The least index from 1 on whose number is not 0. -/
def LeastAt (x : Nat → Nat) (m d : Nat) : Prop := (d = 0 ∧ ∀ i, 1 ≤ i → i < m → x i = 0) ∨ (1 ≤ d ∧ d < m ∧ x d ≠ 0 ∧ ∀ i, 1 ≤ i → i < d → x i = 0)
set_option maxHeartbeats 4000000 in
theorem least24_any (T : Option Addr) (m c : Nat) (x : Nat → Nat) (w : World) (h : NatTab w w.heap.size T m x) (hm : m ≤ 1048576) (hx : Hid (∀ i, i < m → dl (x i) ≤ 1024)) :
    Calls Try.prog 23 #[.slice T m c] w fun e w' => ∃ d : Nat, e = .returned (.int .i64 (d : Nat)) ∧ LeastAt x m d ∧ Below w.heap.size w w' := by
  go_enter Try.func23, Try.ntmps23
  go_wp2
  go_loopg [3] m (fun gg iv wx => ∃ i : Nat, iv = .int .i64 (i : Nat) ∧ 1 ≤ i ∧ i ≤ m + 1 ∧ m + 1 ≤ i + gg ∧ (∀ j, 1 ≤ j → j < i → x j = 0) ∧ Below w.heap.size w wx)
  case atStart => exact ⟨1, rfl, by omega, by omega, by omega, fun j h1 h2 => by omega, Below.refl _ _⟩
  case round =>
    obtain ⟨i, rfl, hi1, hi, hig, hz, hB⟩ := hrel
    have HZ := hid hz
    clear hz
    have hi0 : (1 : Int) ≤ (i : Int) := by omega
    by_cases hlt : i < m
    · have hlt' : (i : Int) < (m : Int) := by omega
      obtain ⟨b, off, A, ca, rfl, hb, t1, k1, k2, hok⟩ := h i hlt
      have t1' := cellS hB t1
      have hdx := hx.out i hlt
      obtain ⟨y, hy⟩ : ∃ y, y = x i := ⟨_, rfl⟩
      rw [← hy] at t1 t1' k1 hok hdx
      have HY := hid hy
      clear hy
      go_wp2_with fail
      refine (zeroNat_any A ca y _ (hok.on hB) k1 k2 (by omega)).mono ?_
      rintro e w2 ⟨v, rfl, hv, kb⟩
      have hB2 := onS hB kb
      have HV := hid hv
      clear kb t1 t1' hok hv hB
      cases v
      · have hne : Hid (x i ≠ 0) := fun h0 => by
          have := HV.out.2 (HY.out.trans h0)
          cases this
        clear HV
        go_wp2
        go_ret
        exact ⟨i, rfl, .inr ⟨hi1, hlt, hne.out, HZ.out⟩, hB2⟩
      · have hnx : Hid (∀ j, 1 ≤ j → j < i + 1 → x j = 0) := fun j h1 h2 => by
          by_cases e : j = i
          · rw [e, ← HY.out]; exact HV.out.1 rfl
          · exact HZ.out j h1 (by omega)
        clear HV
        go_wp2
        go_roundg (gk - 1)
        case measure => omega
        case rel => exact ⟨i + 1, by go_num, by omega, by omega, by omega, hnx.out, hB2⟩
    · have hlt' : ¬ (i : Int) < (m : Int) := by omega
      go_wp2
      go_ret
      exact ⟨0, rfl, .inl ⟨rfl, fun j h1 h2 => HZ.out j h1 (by omega)⟩, hB⟩
end Go.Proofs.Ytgininddoalenaa
