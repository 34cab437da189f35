/- FlowCuts returns true. -/
import Derived.Test.YthdeldaeghhfgaaCut
import Derived.Test.YthdeldaeghhfgaaNetOpen
namespace Go.Proofs.Ythdeldaeghhfgaa
open Go.RowKit

set_option maxHeartbeats 1000000 in
theorem flowCuts_any (N : Net) (A S : Option Addr) (c m d : Nat) (sd : Nat → Bool) (w : World) (h : N.Reads w w.heap.size A) (hs : Bools w w.heap.size S m sd) :
    Calls Try.prog 4 #[.agg #[.int .i64 N.V, .slice A N.n c], .slice S m d] w fun e w' => e = .returned (.bool true) ∧ Below w.heap.size w w' := by
  go_enter Try.func4, Try.ntmps4
  go_wp2_with fail
  refine (cut_any N A S c m d sd _ ((h.alloc (Nat.le_refl _) _).mono (by simp)) ((hs.alloc (Nat.le_refl _) _).mono (by simp))).mono ?_
  rintro e w1 ⟨rfl, hb⟩
  have hB : Below w.heap.size w w1 := onS ((Below.refl _ _).alloc (Nat.le_refl _) _) hb
  have c0 : w1.cell? ⟨w.heap.size, 0, none⟩ = some (.int .i64 N.V) := cellS hb (by simp)
  have c1 : w1.cell? ⟨w.heap.size, 1, none⟩ = some (.slice A N.n c) := cellS hb (by simp)
  clear hb
  go_wp2_with fail
  refine (refCut_any N A S c m d sd _ (h.on hB) (hs.on hB)).mono ?_
  rintro e w2 ⟨rfl, hb⟩
  have hB2 := onS hB hb
  clear hb c0 c1
  go_wp2_with fail
  refine (alive_any _).mono ?_
  rintro e w3 ⟨rfl, hb⟩
  have hB3 := onS hB2 hb
  clear hb
  go_wp2
  go_ret
  exact ⟨rfl, hB3⟩

theorem flowCuts_law {H : Type} {enc : TypeId × Value → H} {w : World} {cs : Array Value} {a : Option Addr} {m d : Nat}
    (h : Sees enc Try.prog w 0 (fun _ => true) true 24 cs.toList) (h' : Sees enc Try.prog w 0 (fun _ => true) true 28 [.slice a m d]) :
    Calls Try.prog 4 #[.agg cs, .slice a m d] w fun e w' => e = .returned (.bool true) ∧ Below w.heap.size w w' := by
  obtain ⟨cs⟩ := cs
  obtain ⟨N, A, c, rfl, _, hN, _⟩ := sees_network h
  obtain ⟨S, m', d', sd, e, _, _, hs⟩ := sees_bools Try.underlying28 Try.underlying4 (by kernel_rfl) h'
  simp only [List.cons.injEq, Value.slice.injEq, and_true] at e
  obtain ⟨rfl, rfl, rfl⟩ := e
  exact flowCuts_any N A a c m d sd w hN hs
end Go.Proofs.Ythdeldaeghhfgaa
