/- flow.capacity, flow.Cut and codewrightref51.Cut add up the capacities of the arcs that leave a set. -/
import Derived.Test.YthdeldaeghhfgaaNet
namespace Go.Proofs.Ythdeldaeghhfgaa
open Go.RowKit

structure Net.Good (N : Net) : Prop where
  v1 : 1 ≤ N.V
  v2 : N.V ≤ 256
  n2 : N.n ≤ 1024
  arc : ∀ i, i < N.n → 0 ≤ N.fr i ∧ N.fr i < N.V ∧ 0 ≤ N.to i ∧ N.to i < N.V ∧ 0 ≤ N.cp i ∧ N.cp i ≤ 1099511627776

theorem Net.okTo_iff {N : Net} (m : Nat) : N.okTo m = true ↔ ∀ i, i < m → N.arcOk i = true := by
  induction m with
  | zero => simp [Net.okTo]
  | succ m ih =>
    simp only [Net.okTo, Bool.and_eq_true, ih]
    constructor
    · rintro ⟨h1, h2⟩ i hi
      by_cases e : i = m
      · subst e; exact h2
      · exact h1 i (by omega)
    · intro h
      exact ⟨fun i hi => h i (by omega), h m (by omega)⟩

theorem Net.good_of_chk {N : Net} (h : N.chk = 0) : N.Good := by
  unfold Net.chk at h
  split at h
  · omega
  · split at h
    · omega
    · split at h
      · rename_i h1 h2 h3
        refine ⟨by omega, by omega, by omega, fun i hi => ?_⟩
        have := (Net.okTo_iff N.n).1 h3 i hi
        simpa [Net.arcOk] using this
      · omega

theorem Net.chk_of_good {N : Net} (h : N.Good) : N.chk = 0 :=
  Net.chk_ok h.v1 h.v2 h.n2 ((Net.okTo_iff N.n).2 fun i hi => by simpa [Net.arcOk] using h.arc i hi)

theorem Net.chk_cases (N : Net) : N.chk = 0 ∨ N.chk = 6 ∨ N.chk = 8 := by
  unfold Net.chk
  repeat' split
  all_goals simp

/-- A list of m bools. -/
def Bools (w : World) (B : Nat) (A : Option Addr) (m : Nat) (g : Nat → Bool) : Prop := Rd w B A m 1 (fun i _ => .bool (g i))
/-- A list of m ints. -/
def Ints (w : World) (B : Nat) (A : Option Addr) (m : Nat) (g : Nat → Int) : Prop := Rd w B A m 1 (fun i _ => .int .i64 (g i))
section
variable {w w' : World} {B B' m i : Nat} {A : Option Addr}
theorem Bools.at {g : Nat → Bool} (h : Bools w B A m g) (hi : i < m) : ∃ b off, A = some ⟨b, off, none⟩ ∧ b < B ∧ w.cell? ⟨b, off + i, none⟩ = some (.bool (g i)) := Rd.at1 h hi
theorem Ints.at {g : Nat → Int} (h : Ints w B A m g) (hi : i < m) : ∃ b off, A = some ⟨b, off, none⟩ ∧ b < B ∧ w.cell? ⟨b, off + i, none⟩ = some (.int .i64 (g i)) := Rd.at1 h hi
theorem Bools.below {g : Nat → Bool} (h : Bools w B A m g) (hb : Below B' w w') (hB : B ≤ B') : Bools w' B A m g := Rd.below h hb hB
theorem Ints.below {g : Nat → Int} (h : Ints w B A m g) (hb : Below B' w w') (hB : B ≤ B') : Ints w' B A m g := Rd.below h hb hB
theorem Net.Reads.below {N : Net} (h : N.Reads w B A) (hb : Below B' w w') (hB : B ≤ B') : N.Reads w' B A := Rd.below h hb hB
theorem Bools.mono {g : Nat → Bool} (h : Bools w B A m g) (hB : B ≤ B') : Bools w B' A m g := Rd.mono h hB
theorem Ints.mono {g : Nat → Int} (h : Ints w B A m g) (hB : B ≤ B') : Ints w B' A m g := Rd.mono h hB
theorem Net.Reads.mono {N : Net} (h : N.Reads w B A) (hB : B ≤ B') : N.Reads w B' A := Rd.mono h hB
theorem Bools.cell {b off : Nat} {g : Nat → Bool} (h : Bools w B (some ⟨b, off, none⟩) m g) (hi : i < m) : b < B ∧ w.cell? ⟨b, off + i, none⟩ = some (.bool (g i)) := by
  obtain ⟨_, _, e, hb, hc⟩ := h.at hi
  injection e with e; injection e with e1 e2; subst e1 e2; exact ⟨hb, hc⟩
theorem Ints.cell {b off : Nat} {g : Nat → Int} (h : Ints w B (some ⟨b, off, none⟩) m g) (hi : i < m) : b < B ∧ w.cell? ⟨b, off + i, none⟩ = some (.int .i64 (g i)) := by
  obtain ⟨_, _, e, hb, hc⟩ := h.at hi
  injection e with e; injection e with e1 e2; subst e1 e2; exact ⟨hb, hc⟩
theorem Net.Reads.cell {b off : Nat} {N : Net} (h : N.Reads w B (some ⟨b, off, none⟩)) (hi : i < N.n) : b < B ∧ w.cell? ⟨b, off + i * 3, none⟩ = some (.int .i64 (N.fr i)) ∧ w.cell? ⟨b, off + i * 3 + 1, none⟩ = some (.int .i64 (N.to i)) ∧ w.cell? ⟨b, off + i * 3 + 2, none⟩ = some (.int .i64 (N.cp i)) := by
  obtain ⟨_, _, e, hb, hc⟩ := h.at hi
  injection e with e; injection e with e1 e2; subst e1 e2; exact ⟨hb, hc⟩
/-- What reads at the start of a call reads behind what leaves all that was there. -/
theorem Bools.on {g : Nat → Bool} (h : Bools w w.heap.size A m g) (hb : Below w.heap.size w w') : Bools w' w'.heap.size A m g := (h.below hb (Nat.le_refl _)).mono hb.size
theorem Ints.on {g : Nat → Int} (h : Ints w w.heap.size A m g) (hb : Below w.heap.size w w') : Ints w' w'.heap.size A m g := (h.below hb (Nat.le_refl _)).mono hb.size
theorem Net.Reads.on {N : Net} (h : N.Reads w w.heap.size A) (hb : Below w.heap.size w w') : N.Reads w' w'.heap.size A := (h.below hb (Nat.le_refl _)).mono hb.size
end

def Net.leaves (N : Net) (sd : Nat → Bool) (k : Nat) : Bool := sd (N.fr k).toNat && !sd (N.to k).toNat
def Net.capTo (N : Net) (sd : Nat → Bool) : Nat → Int
  | 0 => 0
  | k + 1 => N.capTo sd k + if N.leaves sd k then N.cp k else 0
def Net.cap (N : Net) (sd : Nat → Bool) : Int := N.capTo sd N.n

theorem Net.capTo_bd {N : Net} (hg : N.Good) (sd : Nat → Bool) (k : Nat) (hk : k ≤ N.n) : 0 ≤ N.capTo sd k ∧ N.capTo sd k ≤ k * 1099511627776 := by
  induction k with
  | zero => simp [Net.capTo]
  | succ k ih =>
    have := hg.arc k (by omega)
    have := ih (by omega)
    simp only [Net.capTo]
    split <;> omega

set_option maxHeartbeats 1000000 in
theorem capacity_any (N : Net) (A S : Option Addr) (c m d : Nat) (sd : Nat → Bool) (w : World) (h : N.Reads w w.heap.size A) (hs : Bools w w.heap.size S m sd) (hg : N.Good) (hm : Hid ((m : Int) = N.V)) :
    Calls Try.prog 34 #[.agg #[.int .i64 N.V, .slice A N.n c], .slice S m d] w fun e w' => e = .returned (.int .i64 (N.cap sd)) ∧ Below w.heap.size w w' := by
  have hn := hg.n2
  go_enter Try.func34, Try.ntmps34
  go_wp2
  go_loopw [5, 11] (fun t i wr => ∃ k : Nat, k ≤ N.n ∧ i = .int .i64 k ∧ t = .int .i64 (N.capTo sd k) ∧ Below (w.heap.size + 1) (w.alloc (Obj.cells #[Value.int IntKind.i64 N.V, Value.slice A N.n c] 24)) wr) (fun _ i wr => N.n - (intOf i).toNat)
  case atStart => exact ⟨0, by omega, rfl, rfl, Below.refl _ _⟩
  case round =>
    obtain ⟨k, hk, rfl, rfl, hB⟩ := hrel
    have hz : w.heap.size < wr.heap.size := by have := hB.size; simp at this; omega
    have hB' : Below w.heap.size w wr := ((Below.refl _ _).alloc (Nat.le_refl _) _).trans (hB.mono (by omega))
    by_cases hlt : k < N.n
    · obtain ⟨g0, g1, g2, g3, g4, g5⟩ := hg.arc k hlt
      obtain ⟨b, off, rfl, hb, e0, e1, e2⟩ := (h.on hB').at hlt
      have hf1 : N.fr k < (m : Int) := by rw [hm.out]; exact g1
      have ht1 : N.to k < (m : Int) := by rw [hm.out]; exact g3
      obtain ⟨b', off', rfl, hb', e3⟩ := (hs.on hB').at (i := (N.fr k).toNat) (by omega)
      obtain ⟨_, _, h5, _, e4⟩ := (hs.on hB').at (i := (N.to k).toNat) (by omega)
      injection h5 with h5; injection h5 with h5 h6; subst h5 h6
      obtain ⟨q0, q1⟩ := N.capTo_bd hg sd k hk
      have hnx : Hid (N.capTo sd (k + 1) = N.capTo sd k + if N.leaves sd k then N.cp k else 0) := rfl
      clear hg hs h
      by_cases s1 : sd (N.fr k).toNat = true
      · by_cases s2 : sd (N.to k).toNat = true
        · have hl : Hid (N.leaves sd k = false) := by show _ = _; simp [Net.leaves, s1, s2]
          go_wp2
          go_roundw
          case rel => exact ⟨k + 1, by omega, by go_num, by rw [hnx.out, hl.out]; simp, hB.alloc (by omega) _⟩
          case measure => simp [intOf]; omega
        · have hl : Hid (N.leaves sd k = true) := by show _ = _; simp [Net.leaves, s1, s2]
          go_wp2
          go_roundw
          case rel => exact ⟨k + 1, by omega, by go_num, by rw [hnx.out, hl.out]; simp, hB.alloc (by omega) _⟩
          case measure => simp [intOf]; omega
      · have hl : Hid (N.leaves sd k = false) := by show _ = _; simp [Net.leaves, s1]
        go_wp2
        go_roundw
        case rel => exact ⟨k + 1, by omega, by go_num, by rw [hnx.out, hl.out]; simp, hB.alloc (by omega) _⟩
        case measure => simp [intOf]; omega
    · obtain rfl : k = N.n := by omega
      go_wp2
      go_ret
      exact ⟨rfl, hB'⟩

def Net.cutE (N : Net) (m : Nat) : Int := if N.chk = 0 then (if (m : Int) = N.V then 0 else 3) else N.chk
def Net.cutV (N : Net) (m : Nat) (sd : Nat → Bool) : Int := if N.cutE m = 0 then N.cap sd else 0

theorem ret2_int {a b c d : Int} (h : a = b) (h' : c = d) : Ending.returned (.tuple #[.int .i64 a, .int .i64 c]) = .returned (.tuple #[.int .i64 b, .int .i64 d]) := by rw [h, h']

set_option maxHeartbeats 1000000 in
theorem cut_any (N : Net) (A S : Option Addr) (c m d : Nat) (sd : Nat → Bool) (w : World) (h : N.Reads w w.heap.size A) (hs : Bools w w.heap.size S m sd) :
    Calls Try.prog 16 #[.agg #[.int .i64 N.V, .slice A N.n c], .slice S m d] w fun e w' => e = .returned (.tuple #[.int .i64 (N.cutV m sd), .int .i64 (N.cutE m)]) ∧ Below w.heap.size w w' := by
  by_cases hc : N.chk = 0
  · have hg := Net.good_of_chk hc
    by_cases hm : (m : Int) = N.V
    · have e1 : N.cutE m = 0 := by simp [Net.cutE, hc, hm]
      have e2 : N.cutV m sd = N.cap sd := by simp [Net.cutV, e1]
      have E1 := hid e1; have E2 := hid e2
      have HM := hid hm
      have hne : ((m : Int) != N.V) = false := by simp [hm]
      have hc' : (N.chk != 0) = false := by simp [hc]
      clear e1 e2 hm hc
      go_enter Try.func16, Try.ntmps16
      go_wp2_with fail
      refine (checkNetwork_any N A c _ ((h.alloc (Nat.le_refl _) _).mono (by simp))).mono ?_
      rintro e w1 ⟨rfl, hb⟩
      have hB : Below w.heap.size w w1 := onS ((Below.refl _ _).alloc (Nat.le_refl _) _) hb
      have c0 : w1.cell? ⟨w.heap.size, 0, none⟩ = some (.int .i64 N.V) := cellS hb (by simp)
      have c1 : w1.cell? ⟨w.heap.size, 1, none⟩ = some (.slice A N.n c) := cellS hb (by simp)
      go_wp2_with fail
      refine (capacity_any N A S c m d sd _ (h.on hB) (hs.on hB) hg HM).mono ?_
      rintro e w2 ⟨rfl, hb2⟩
      go_wp2
      go_ret2
      exact ⟨ret2_int E2.out.symm E1.out.symm, onS hB hb2⟩
    · have e1 : N.cutE m = 3 := by simp [Net.cutE, hc, hm]
      have e2 : N.cutV m sd = 0 := by simp [Net.cutV, e1]
      have E1 := hid e1; have E2 := hid e2
      have hne : ((m : Int) != N.V) = true := by simpa using hm
      have hc' : (N.chk != 0) = false := by simp [hc]
      clear e1 e2 hm hc
      go_enter Try.func16, Try.ntmps16
      go_wp2_with fail
      refine (checkNetwork_any N A c _ ((h.alloc (Nat.le_refl _) _).mono (by simp))).mono ?_
      rintro e w1 ⟨rfl, hb⟩
      have hB : Below w.heap.size w w1 := onS ((Below.refl _ _).alloc (Nat.le_refl _) _) hb
      have c0 : w1.cell? ⟨w.heap.size, 0, none⟩ = some (.int .i64 N.V) := cellS hb (by simp)
      go_wp2
      go_ret2
      exact ⟨ret2_int E2.out.symm E1.out.symm, hB⟩
  · have e1 : N.cutE m = N.chk := by simp [Net.cutE, hc]
    have e2 : N.cutV m sd = 0 := by unfold Net.cutV; rw [e1, if_neg hc]
    have E1 := hid e1; have E2 := hid e2
    have hc' : (N.chk != 0) = true := by simpa using hc
    clear e1 e2 hc
    go_enter Try.func16, Try.ntmps16
    go_wp2_with fail
    refine (checkNetwork_any N A c _ ((h.alloc (Nat.le_refl _) _).mono (by simp))).mono ?_
    rintro e w1 ⟨rfl, hb⟩
    have hB : Below w.heap.size w w1 := onS ((Below.refl _ _).alloc (Nat.le_refl _) _) hb
    go_wp2
    go_ret2
    exact ⟨ret2_int E2.out.symm E1.out.symm, hB⟩

set_option maxHeartbeats 1000000 in
theorem refCut_any (N : Net) (A S : Option Addr) (c m d : Nat) (sd : Nat → Bool) (w : World) (h : N.Reads w w.heap.size A) (hs : Bools w w.heap.size S m sd) :
    Calls Try.prog 17 #[.agg #[.int .i64 N.V, .slice A N.n c], .slice S m d] w fun e w' => e = .returned (.tuple #[.int .i64 (N.cutV m sd), .int .i64 (N.cutE m)]) ∧ Below w.heap.size w w' := by
  by_cases hc : N.chk = 0
  · have hg := Net.good_of_chk hc
    by_cases hm : (m : Int) = N.V
    · have e1 : N.cutE m = 0 := by simp [Net.cutE, hc, hm]
      have e2 : N.cutV m sd = N.cap sd := by simp [Net.cutV, e1]
      have E1 := hid e1; have E2 := hid e2
      have HM := hid hm
      have hne : ((m : Int) != N.V) = false := by simp [hm]
      have hc' : (N.chk != 0) = false := by simp [hc]
      have hn := hg.n2
      clear e1 e2 hm hc
      go_enter Try.func17, Try.ntmps17
      go_wp2_with fail
      refine (check_any N A c _ ((h.alloc (Nat.le_refl _) _).mono (by simp))).mono ?_
      rintro e w1 ⟨rfl, hb⟩
      have hB : Below w.heap.size w w1 := onS ((Below.refl _ _).alloc (Nat.le_refl _) _) hb
      have c0 : w1.cell? ⟨w.heap.size, 0, none⟩ = some (.int .i64 N.V) := cellS hb (by simp)
      have c1 : w1.cell? ⟨w.heap.size, 1, none⟩ = some (.slice A N.n c) := cellS hb (by simp)
      go_wp2
      go_loop [7, 8] (fun t i => ∃ k : Nat, k ≤ N.n ∧ i = .int .i64 k ∧ t = .int .i64 (N.capTo sd k)) (fun _ i => N.n - (intOf i).toNat)
      case atStart => exact ⟨0, by omega, rfl, rfl⟩
      case round =>
        obtain ⟨k, hk, rfl, rfl⟩ := hrel
        by_cases hlt : k < N.n
        · obtain ⟨g0, g1, g2, g3, g4, g5⟩ := hg.arc k hlt
          obtain ⟨b, off, rfl, _, e0, e1, e2⟩ := (h.on hB).at hlt
          have hf1 : N.fr k < (m : Int) := by rw [HM.out]; exact g1
          have ht1 : N.to k < (m : Int) := by rw [HM.out]; exact g3
          obtain ⟨b', off', rfl, hb', e3⟩ := (hs.on hB).at (i := (N.fr k).toNat) (by omega)
          obtain ⟨_, _, h5, _, e4⟩ := (hs.on hB).at (i := (N.to k).toNat) (by omega)
          injection h5 with h5; injection h5 with h5 h6; subst h5 h6
          obtain ⟨q0, q1⟩ := N.capTo_bd hg sd k hk
          have hnx : Hid (N.capTo sd (k + 1) = N.capTo sd k + if N.leaves sd k then N.cp k else 0) := rfl
          clear hg hs h
          by_cases s1 : sd (N.fr k).toNat = true
          · by_cases s2 : sd (N.to k).toNat = true
            · have hl : Hid (N.leaves sd k = false) := by show _ = _; simp [Net.leaves, s1, s2]
              go_wp2
              go_round
              case rel => exact ⟨k + 1, by omega, by go_num, by rw [hnx.out, hl.out]; simp⟩
              case measure => simp [intOf]; omega
            · have hl : Hid (N.leaves sd k = true) := by show _ = _; simp [Net.leaves, s1, s2]
              go_wp2
              go_round
              case rel => exact ⟨k + 1, by omega, by go_num, by rw [hnx.out, hl.out]; simp⟩
              case measure => simp [intOf]; omega
          · have hl : Hid (N.leaves sd k = false) := by show _ = _; simp [Net.leaves, s1]
            go_wp2
            go_round
            case rel => exact ⟨k + 1, by omega, by go_num, by rw [hnx.out, hl.out]; simp⟩
            case measure => simp [intOf]; omega
        · obtain rfl : k = N.n := by omega
          go_wp2
          go_ret2
          exact ⟨ret2_int E2.out.symm E1.out.symm, hB⟩
    · have e1 : N.cutE m = 3 := by simp [Net.cutE, hc, hm]
      have e2 : N.cutV m sd = 0 := by simp [Net.cutV, e1]
      have E1 := hid e1; have E2 := hid e2
      have hne : ((m : Int) != N.V) = true := by simpa using hm
      have hc' : (N.chk != 0) = false := by simp [hc]
      clear e1 e2 hm hc
      go_enter Try.func17, Try.ntmps17
      go_wp2_with fail
      refine (check_any N A c _ ((h.alloc (Nat.le_refl _) _).mono (by simp))).mono ?_
      rintro e w1 ⟨rfl, hb⟩
      have hB : Below w.heap.size w w1 := onS ((Below.refl _ _).alloc (Nat.le_refl _) _) hb
      have c0 : w1.cell? ⟨w.heap.size, 0, none⟩ = some (.int .i64 N.V) := cellS hb (by simp)
      go_wp2
      go_ret2
      exact ⟨ret2_int E2.out.symm E1.out.symm, hB⟩
  · have e1 : N.cutE m = N.chk := by simp [Net.cutE, hc]
    have e2 : N.cutV m sd = 0 := by unfold Net.cutV; rw [e1, if_neg hc]
    have E1 := hid e1; have E2 := hid e2
    have hc' : (N.chk != 0) = true := by simpa using hc
    clear e1 e2 hc
    go_enter Try.func17, Try.ntmps17
    go_wp2_with fail
    refine (check_any N A c _ ((h.alloc (Nat.le_refl _) _).mono (by simp))).mono ?_
    rintro e w1 ⟨rfl, hb⟩
    have hB : Below w.heap.size w w1 := onS ((Below.refl _ _).alloc (Nat.le_refl _) _) hb
    go_wp2
    go_ret2
    exact ⟨ret2_int E2.out.symm E1.out.symm, hB⟩

def netOne : Net := ⟨2, 1, fun _ => 0, fun _ => 1, fun _ => 7⟩
def sideOne (i : Nat) : Bool := decide (i = 0)

theorem cut_one (A S : Option Addr) (c d : Nat) (w : World) (h : netOne.Reads w w.heap.size A) (hs : Bools w w.heap.size S 2 sideOne) :
    Calls Try.prog 16 #[.agg #[.int .i64 2, .slice A 1 c], .slice S 2 d] w fun e w' => e = .returned (.tuple #[.int .i64 7, .int .i64 0]) ∧ Below w.heap.size w w' :=
  (cut_any netOne A S c 2 d sideOne w h hs).mono fun _ _ ⟨he, hb⟩ => ⟨he.trans (ret2_int (by decide +kernel) (by decide +kernel)), hb⟩

/-- The law's own check that the program answers: a network of one arc. -/
theorem alive_any (w : World) : Calls Try.prog 18 #[] w fun e w' => e = .returned (.bool true) ∧ Below w.heap.size w w' := by
  go_enter Try.func18, Try.ntmps18
  go_wp2_with fail
  refine (cut_one _ _ _ _ _ ?_ ?_).mono ?_
  · intro i hi
    obtain rfl : i = 0 := by have : i < 1 := hi; omega
    refine ⟨w.heap.size, 0, rfl, by simp; omega, fun j hj => ?_⟩
    match j, hj with
    | 0, _ => simp [arcCell, netOne]
    | 1, _ => simp [arcCell, netOne]
    | 2, _ => simp [arcCell, netOne]
  · intro i hi
    refine ⟨w.heap.size + 1, 0, rfl, by simp, fun j hj => ?_⟩
    obtain rfl : j = 0 := by omega
    match i, hi with
    | 0, _ => simp [sideOne]
    | 1, _ => simp [sideOne]
  rintro e w1 ⟨rfl, hb⟩
  go_wp2
  go_ret
  exact ⟨rfl, onS (((Below.refl _ _).alloc (Nat.le_refl _) _).alloc (by simp) _) hb⟩
end Go.Proofs.Ythdeldaeghhfgaa
