/- flow.CheckNetwork and codewrightref51.Check return the first error of a network. -/
import Derived.Test.YthdeldaeghhfgaaBase
namespace Go.Proofs.Ythdeldaeghhfgaa
open Go.RowKit

/-- The data of a network: its vertices, the number of its arcs, their ends and capacities. -/
structure Net where
  V : Int
  n : Nat
  fr : Nat → Int
  to : Nat → Int
  cp : Nat → Int

def arcCell (N : Net) (i j : Nat) : Value := match j with
  | 0 => .int .i64 (N.fr i)
  | 1 => .int .i64 (N.to i)
  | _ => .int .i64 (N.cp i)

def Net.Reads (N : Net) (w : World) (B : Nat) (A : Option Addr) : Prop := Rd w B A N.n 3 (arcCell N)

theorem Net.Reads.at {N : Net} {w : World} {B : Nat} {A : Option Addr} {k : Nat} (h : N.Reads w B A) (hk : k < N.n) :
    ∃ b off, A = some ⟨b, off, none⟩ ∧ b < B ∧ w.cell? ⟨b, off + k * 3, none⟩ = some (.int .i64 (N.fr k)) ∧ w.cell? ⟨b, off + k * 3 + 1, none⟩ = some (.int .i64 (N.to k)) ∧ w.cell? ⟨b, off + k * 3 + 2, none⟩ = some (.int .i64 (N.cp k)) := Rd.at3 h hk

def Net.arcOk (N : Net) (k : Nat) : Bool := decide (0 ≤ N.fr k ∧ N.fr k < N.V ∧ 0 ≤ N.to k ∧ N.to k < N.V ∧ 0 ≤ N.cp k ∧ N.cp k ≤ 1099511627776)

def Net.okTo (N : Net) : Nat → Bool
  | 0 => true
  | k + 1 => N.okTo k && N.arcOk k

def Net.chk (N : Net) : Int := if N.V < 1 ∨ 256 < N.V then 6 else if 1024 < N.n then 8 else if N.okTo N.n then 0 else 6

theorem Net.okTo_false {N : Net} {k m : Nat} (h : N.arcOk k = false) (hm : k < m) : N.okTo m = false := by
  induction m with
  | zero => omega
  | succ m ih =>
    by_cases e : k = m
    · subst e; simp [Net.okTo, h]
    · simp [Net.okTo, ih (by omega)]

theorem Net.chk_range {N : Net} (h : N.V < 1 ∨ 256 < N.V) : N.chk = 6 := by simp [Net.chk, h]
theorem Net.chk_big {N : Net} (h : 1 ≤ N.V) (h' : N.V ≤ 256) (hn : 1024 < N.n) : N.chk = 8 := by
  unfold Net.chk; rw [if_neg (by omega), if_pos hn]
theorem Net.chk_bad {N : Net} {k : Nat} (h : 1 ≤ N.V) (h' : N.V ≤ 256) (hn : N.n ≤ 1024) (hk : k < N.n) (hb : N.arcOk k = false) : N.chk = 6 := by
  unfold Net.chk; rw [if_neg (by omega), if_neg (by omega), Net.okTo_false hb hk]; simp
theorem Net.chk_ok {N : Net} (h : 1 ≤ N.V) (h' : N.V ≤ 256) (hn : N.n ≤ 1024) (hk : N.okTo N.n = true) : N.chk = 0 := by
  unfold Net.chk; rw [if_neg (by omega), if_neg (by omega), hk]; simp

set_option maxHeartbeats 1000000 in
theorem checkNetwork_any (N : Net) (A : Option Addr) (c : Nat) (w : World) (h : N.Reads w w.heap.size A) :
    Calls Try.prog 14 #[.agg #[.int .i64 N.V, .slice A N.n c]] w fun e w' => e = .returned (.int .i64 N.chk) ∧ Below w.heap.size w w' := by
  by_cases hV : N.V < 1 ∨ 256 < N.V
  · have hc := hid (Net.chk_range hV)
    rcases hV with hV | hV
    · go_enter Try.func14, Try.ntmps14
      go_wp2
      go_ret
      exact ⟨ret_int hc.out.symm, (Below.refl _ _).alloc (Nat.le_refl _) _⟩
    · have : ¬ N.V < 1 := by omega
      go_enter Try.func14, Try.ntmps14
      go_wp2
      go_ret
      exact ⟨ret_int hc.out.symm, (Below.refl _ _).alloc (Nat.le_refl _) _⟩
  · have hV1 : 1 ≤ N.V := by omega
    have hV2 : N.V ≤ 256 := by omega
    clear hV
    by_cases hn : 1024 < N.n
    · have hc := hid (Net.chk_big hV1 hV2 hn)
      go_enter Try.func14, Try.ntmps14
      go_wp2
      go_ret
      exact ⟨ret_int hc.out.symm, (Below.refl _ _).alloc (Nat.le_refl _) _⟩
    · have hn' : N.n ≤ 1024 := by omega
      clear hn
      go_enter Try.func14, Try.ntmps14
      go_wp2
      go_loopw [20] (fun i wr => ∃ k : Nat, k ≤ N.n ∧ i = .int .i64 k ∧ N.okTo k = true ∧ Below (w.heap.size + 1) (w.alloc (Obj.cells #[Value.int IntKind.i64 N.V, Value.slice A N.n c] 24)) wr) (fun i wr => N.n - (intOf i).toNat)
      case atStart => exact ⟨0, by omega, rfl, rfl, Below.refl _ _⟩
      case round =>
        obtain ⟨k, hk, rfl, hok, hB⟩ := hrel
        have hz : w.heap.size < wr.heap.size := by have := hB.size; simp at this; omega
        have ev : wr.cell? ⟨w.heap.size, 0, none⟩ = some (.int .i64 N.V) := by rw [hB.cell (by simp)]; simp
        have hB' : Below w.heap.size w wr := ((Below.refl _ _).alloc (Nat.le_refl _) _).trans (hB.mono (by omega))
        by_cases hlt : k < N.n
        · have hr : N.Reads wr w.heap.size A := Rd.below h hB' (Nat.le_refl _)
          obtain ⟨b, off, rfl, hb, e0, e1, e2⟩ := hr.at hlt
          have hok' := hid hok
          clear hok
          by_cases hg : N.arcOk k = true
          · have hs : Hid (N.okTo (k + 1) = true) := by show _ = _; simp [Net.okTo, hok'.out, hg]
            have hg' : 0 ≤ N.fr k ∧ N.fr k < N.V ∧ 0 ≤ N.to k ∧ N.to k < N.V ∧ 0 ≤ N.cp k ∧ N.cp k ≤ 1099511627776 := by simpa [Net.arcOk] using hg
            obtain ⟨g0, g1, g2, g3, g4, g5⟩ := hg'
            clear hg
            go_wp2
            go_roundw
            case rel => exact ⟨k + 1, by omega, by go_num, hs.out, hB.alloc (by omega) _⟩
            case measure => simp [intOf]; omega
          · have hg0 : N.arcOk k = false := by simpa using hg
            have hc := hid (Net.chk_bad hV1 hV2 hn' hlt hg0)
            have hg' : ¬ (0 ≤ N.fr k ∧ N.fr k < N.V ∧ 0 ≤ N.to k ∧ N.to k < N.V ∧ 0 ≤ N.cp k ∧ N.cp k ≤ 1099511627776) := by simpa [Net.arcOk] using hg
            have hg2 := hid hg'
            clear hg hg' hg0
            go_wp2
            all_goals first | (exfalso; have := hg2.out; omega) | (go_ret; exact ⟨ret_int hc.out.symm, hB'.alloc (by omega) _⟩)
        · obtain rfl : k = N.n := by omega
          have hc := hid (Net.chk_ok hV1 hV2 hn' hok)
          clear hok
          go_wp2
          go_ret
          exact ⟨ret_int hc.out.symm, hB'⟩
set_option maxHeartbeats 1000000 in
theorem check_any (N : Net) (A : Option Addr) (c : Nat) (w : World) (h : N.Reads w w.heap.size A) :
    Calls Try.prog 15 #[.agg #[.int .i64 N.V, .slice A N.n c]] w fun e w' => e = .returned (.int .i64 N.chk) ∧ Below w.heap.size w w' := by
  by_cases hV : N.V < 1 ∨ 256 < N.V
  · have hc := hid (Net.chk_range hV)
    rcases hV with hV | hV
    · go_enter Try.func15, Try.ntmps15
      go_wp2
      go_ret
      exact ⟨ret_int hc.out.symm, (Below.refl _ _).alloc (Nat.le_refl _) _⟩
    · have : ¬ N.V < 1 := by omega
      go_enter Try.func15, Try.ntmps15
      go_wp2
      go_ret
      exact ⟨ret_int hc.out.symm, (Below.refl _ _).alloc (Nat.le_refl _) _⟩
  · have hV1 : 1 ≤ N.V := by omega
    have hV2 : N.V ≤ 256 := by omega
    clear hV
    by_cases hn : 1024 < N.n
    · have hc := hid (Net.chk_big hV1 hV2 hn)
      go_enter Try.func15, Try.ntmps15
      go_wp2
      go_ret
      exact ⟨ret_int hc.out.symm, (Below.refl _ _).alloc (Nat.le_refl _) _⟩
    · have hn' : N.n ≤ 1024 := by omega
      clear hn
      go_enter Try.func15, Try.ntmps15
      go_wp2
      go_loopw [3] (fun i wr => ∃ k : Nat, k ≤ N.n ∧ i = .int .i64 k ∧ N.okTo k = true ∧ Below (w.heap.size + 1) (w.alloc (Obj.cells #[Value.int IntKind.i64 N.V, Value.slice A N.n c] 24)) wr) (fun i wr => N.n - (intOf i).toNat)
      case atStart => exact ⟨0, by omega, rfl, rfl, Below.refl _ _⟩
      case round =>
        obtain ⟨k, hk, rfl, hok, hB⟩ := hrel
        have hz : w.heap.size < wr.heap.size := by have := hB.size; simp at this; omega
        have ev : wr.cell? ⟨w.heap.size, 0, none⟩ = some (.int .i64 N.V) := by rw [hB.cell (by simp)]; simp
        have es : wr.cell? ⟨w.heap.size, 1, none⟩ = some (.slice A N.n c) := by rw [hB.cell (by simp)]; simp
        have hB' : Below w.heap.size w wr := ((Below.refl _ _).alloc (Nat.le_refl _) _).trans (hB.mono (by omega))
        by_cases hlt : k < N.n
        · have hr : N.Reads wr w.heap.size A := Rd.below h hB' (Nat.le_refl _)
          obtain ⟨b, off, rfl, hb, e0, e1, e2⟩ := hr.at hlt
          have hok' := hid hok
          clear hok
          by_cases hg : N.arcOk k = true
          · have hs : Hid (N.okTo (k + 1) = true) := by show _ = _; simp [Net.okTo, hok'.out, hg]
            have hg' : 0 ≤ N.fr k ∧ N.fr k < N.V ∧ 0 ≤ N.to k ∧ N.to k < N.V ∧ 0 ≤ N.cp k ∧ N.cp k ≤ 1099511627776 := by simpa [Net.arcOk] using hg
            obtain ⟨g0, g1, g2, g3, g4, g5⟩ := hg'
            clear hg
            go_wp2
            go_roundw
            case rel => exact ⟨k + 1, by omega, by go_num, hs.out, hB.alloc (by omega) _⟩
            case measure => simp [intOf]; omega
          · have hg0 : N.arcOk k = false := by simpa using hg
            have hc := hid (Net.chk_bad hV1 hV2 hn' hlt hg0)
            have hg' : ¬ (0 ≤ N.fr k ∧ N.fr k < N.V ∧ 0 ≤ N.to k ∧ N.to k < N.V ∧ 0 ≤ N.cp k ∧ N.cp k ≤ 1099511627776) := by simpa [Net.arcOk] using hg
            have hg2 := hid hg'
            clear hg hg' hg0
            go_wp2
            all_goals first | (exfalso; have := hg2.out; omega) | (go_ret; exact ⟨ret_int hc.out.symm, hB'.alloc (by omega) _⟩)
        · obtain rfl : k = N.n := by omega
          have hc := hid (Net.chk_ok hV1 hV2 hn' hok)
          clear hok
          go_wp2
          go_ret
          exact ⟨ret_int hc.out.symm, hB'⟩
end Go.Proofs.Ythdeldaeghhfgaa
