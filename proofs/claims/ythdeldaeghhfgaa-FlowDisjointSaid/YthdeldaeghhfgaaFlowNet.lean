/- flow.net returns, for each vertex, what flows out of it less what flows into it. -/
import Derived.Test.YthdeldaeghhfgaaCut
namespace Go.Proofs.Ythdeldaeghhfgaa
open Go.RowKit

def Net.netAt (N : Net) (f : Nat → Int) (v : Int) : Nat → Int
  | 0 => 0
  | k + 1 => N.netAt f v k + (if N.fr k = v then f k else 0) - (if N.to k = v then f k else 0)

theorem Net.netAt_bd {N : Net} (f : Nat → Int) (hf : ∀ i, i < N.n → -1099511627776 ≤ f i ∧ f i ≤ 1099511627776) (v : Int) (k : Nat) (hk : k ≤ N.n) : -(k * 2199023255552) ≤ N.netAt f v k ∧ N.netAt f v k ≤ k * 2199023255552 := by
  induction k with
  | zero => simp [Net.netAt]
  | succ k ih =>
    have := hf k (by omega)
    have := ih (by omega)
    simp only [Net.netAt]
    split <;> split <;> omega

def Net.midAt (N : Net) (f : Nat → Int) (v : Int) (k : Nat) : Int := N.netAt f v k + (if N.fr k = v then f k else 0)
theorem Net.netAt_succ (N : Net) (f : Nat → Int) (v : Int) (k : Nat) : N.netAt f v (k + 1) = N.midAt f v k - (if N.to k = v then f k else 0) := rfl

set_option maxHeartbeats 1000000 in
theorem net_any (N : Net) (A F : Option Addr) (c d : Nat) (f : Nat → Int) (w : World) (h : N.Reads w w.heap.size A) (hf : Ints w w.heap.size F N.n f) (hg : N.Good) (hbd : ∀ i, i < N.n → -1099511627776 ≤ f i ∧ f i ≤ 1099511627776) :
    Calls Try.prog 37 #[.agg #[.int .i64 N.V, .slice A N.n c], .slice F N.n d] w fun e w' => e = .returned (.slice (some ⟨w.heap.size + 1, 0, none⟩) N.V.toNat N.V.toNat) ∧ Below w.heap.size w w' ∧ w'.rowIs (w.heap.size + 1) 3 N.V.toNat (fun v => .int .i64 (N.netAt f v N.n)) := by
  have hn := hg.n2
  have v1 := hg.v1
  have v2 := hg.v2
  have hmk := fun W => run_makeI (P := Try.prog) 33 3 _ 8 Try.underlying33 Try.infoInt rfl N.V (by omega) (by omega) (by omega) W
  go_enter Try.func37, Try.ntmps37
  go_wp2
  go_loopw [14] (fun i wr => ∃ k : Nat, k ≤ N.n ∧ i = .int .i64 k ∧ Below (w.heap.size + 1) (w.alloc (Obj.cells #[Value.int IntKind.i64 N.V, Value.slice A N.n c] 24)) wr ∧ wr.rowIs (w.heap.size + 1) 3 N.V.toNat (fun v => .int .i64 (N.netAt f v k))) (fun i wr => N.n - (intOf i).toNat)
  case atStart =>
    refine ⟨0, by omega, rfl, (Below.refl _ _).alloc (by simp) _, ?_⟩
    have := World.rowIs_made (w.alloc (Obj.cells #[Value.int IntKind.i64 N.V, Value.slice A N.n c] 24)) (.int .i64 0) N.V.toNat 3
    simpa [Net.netAt] using this
  case round =>
    obtain ⟨k, hk, rfl, hB, hrow⟩ := hrel
    clear hmk
    have hz : w.heap.size + 1 < wr.heap.size := hrow.lt
    have hz' : w.heap.size < wr.heap.size := by omega
    have hB' : Below w.heap.size w wr := ((Below.refl _ _).alloc (Nat.le_refl _) _).trans (hB.mono (by omega))
    by_cases hlt : k < N.n
    · obtain ⟨g0, g1, g2, g3, g4, g5⟩ := hg.arc k hlt
      obtain ⟨b, off, rfl, hb, e0, e1, e2⟩ := (h.on hB').at hlt
      obtain ⟨b', off', rfl, hb', e3⟩ := (hf.on hB').at hlt
      have b0 := hbd k hlt
      have b1 := Net.netAt_bd f hbd (N.fr k) k hk
      have b2 := Net.netAt_bd f hbd (N.to k) k hk
      have b3 : -3377699720527872 ≤ N.midAt f (N.to k) k ∧ N.midAt f (N.to k) k ≤ 3377699720527872 := by unfold Net.midAt; split <;> omega
      have t0 : Hid (((N.fr k).toNat : Int) = N.fr k) := by show _ = _; omega
      have t1 : Hid (((N.to k).toNat : Int) = N.to k) := by show _ = _; omega
      have c1 : wr.cell? ⟨w.heap.size + 1, (N.fr k).toNat, none⟩ = some (.int .i64 (N.netAt f (N.fr k) k)) := by rw [hrow.cell (by omega), t0.out]
      have z1 := hrow.frozen (N.fr k).toNat
      clear hbd
      go_wp2
      go_region
      generalize hw2 : World.drew _ = w2
      have hrow2 : w2.rowIs (w.heap.size + 1) 3 N.V.toNat (fun v => .int .i64 (N.midAt f v k)) := by
        rw [← hw2]
        refine (((hrow.set _ _).alloc _).drew).congr fun v hv => ?_
        by_cases e : v = (N.fr k).toNat
        · subst e
          simp only [if_true, Net.midAt, t0.out]
        · have : ¬ N.fr k = (v : Int) := by omega
          simp [e, Net.midAt, this]
      have hB2 : Below (w.heap.size + 1) (w.alloc (Obj.cells #[Value.int IntKind.i64 N.V, Value.slice (some ⟨b, off, none⟩) N.n c] 24)) w2 := by
        rw [← hw2]
        exact ((hB.setCell (by simp) _).alloc (by simp [World.setCell]; omega) _).drew
      have hB2' : Below w.heap.size w w2 := ((Below.refl _ _).alloc (Nat.le_refl _) _).trans (hB2.mono (by omega))
      have a1 : w2.cell? ⟨wr.heap.size, 1, none⟩ = some (.int .i64 (N.to k)) := by rw [← hw2]; clear hw2; go_simp
      have a3 : w2.cell? ⟨b', off' + k, none⟩ = some (.int .i64 (f k)) := ((hf.on hB2').cell hlt).2
      have c2 : w2.cell? ⟨w.heap.size + 1, (N.to k).toNat, none⟩ = some (.int .i64 (N.midAt f (N.to k) k)) := by rw [hrow2.cell (by omega), t1.out]
      have z2 := hrow2.frozen (N.to k).toNat
      clear hw2 c1 z1 e0 e1 e2 e3
      go_wp2
      go_region
      generalize hw3 : World.drew _ = w3
      have hrow3 : w3.rowIs (w.heap.size + 1) 3 N.V.toNat (fun v => .int .i64 (N.netAt f v (k + 1))) := by
        rw [← hw3]
        refine (hrow2.set _ _).drew.congr fun v hv => ?_
        by_cases e : v = (N.to k).toNat
        · subst e
          simp only [if_true, Net.netAt_succ, t1.out]
        · have : ¬ N.to k = (v : Int) := by omega
          simp [e, Net.netAt_succ, this]
      have hB3 : Below (w.heap.size + 1) (w.alloc (Obj.cells #[Value.int IntKind.i64 N.V, Value.slice (some ⟨b, off, none⟩) N.n c] 24)) w3 := by
        rw [← hw3]
        exact (hB2.setCell (by simp) _).drew
      clear hw3 c2 z2 a1 a3
      go_wp2
      go_roundw
      case rel => exact ⟨k + 1, by omega, by go_num, hB3, hrow3⟩
      case measure => simp [intOf]; omega
    · obtain rfl : k = N.n := by omega
      go_wp2
      go_ret
      exact ⟨rfl, hB', hrow⟩
end Go.Proofs.Ythdeldaeghhfgaa
