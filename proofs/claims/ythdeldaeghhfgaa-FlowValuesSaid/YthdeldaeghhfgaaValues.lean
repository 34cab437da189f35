/- FlowValues returns true. -/
import Derived.Test.YthdeldaeghhfgaaValue
import Derived.Test.YthdeldaeghhfgaaNetOpen
namespace Go.Proofs.Ythdeldaeghhfgaa
open Go.RowKit

theorem value_one (A F : Option Addr) (c d : Nat) (w : World) (h : netOne.Reads w w.heap.size A) (hf : Ints w w.heap.size F 1 (fun _ => 3)) :
    Calls Try.prog 19 #[.agg #[.int .i64 2, .slice A 1 c], .slice F 1 d, .int .i64 1] w fun e w' => e = .returned (.tuple #[.int .i64 (-3), .int .i64 0]) ∧ Below w.heap.size w w' :=
  (value_any netOne A F c 1 d (fun _ => 3) 1 w h hf).mono fun _ _ ⟨he, hb⟩ => ⟨he.trans (ret2_int (by decide +kernel) (by decide +kernel)), hb⟩

theorem netOne_reads (w : World) (x : Array Value) (hx : x = #[.int .i64 0, .int .i64 1, .int .i64 7]) : netOne.Reads (w.alloc (.cells x 36)) (w.heap.size + 1) (some ⟨w.heap.size, 0, none⟩) := by
  subst hx
  intro i hi
  obtain rfl : i = 0 := by have : i < 1 := hi; omega
  refine ⟨w.heap.size, 0, rfl, by omega, fun j hj => ?_⟩
  match j, hj with
  | 0, _ => simp [arcCell, netOne]
  | 1, _ => simp [arcCell, netOne]
  | 2, _ => simp [arcCell, netOne]

set_option maxHeartbeats 1000000 in
theorem flowValues_any (N : Net) (A F : Option Addr) (c m d : Nat) (f : Nat → Int) (v : Int) (w : World) (h : N.Reads w w.heap.size A) (hf : Ints w w.heap.size F m f) :
    Calls Try.prog 5 #[.agg #[.int .i64 N.V, .slice A N.n c], .slice F m d, .int .i64 v] w fun e w' => e = .returned (.bool true) ∧ Below w.heap.size w w' := by
  go_enter Try.func5, Try.ntmps5
  go_wp2_with fail
  refine (value_any N A F c m d f v _ ((h.alloc (Nat.le_refl _) _).mono (by simp)) ((hf.alloc (Nat.le_refl _) _).mono (by simp))).mono ?_
  rintro e w1 ⟨rfl, hb⟩
  have hB : Below w.heap.size w w1 := onS ((Below.refl _ _).alloc (Nat.le_refl _) _) hb
  have c0 : w1.cell? ⟨w.heap.size, 0, none⟩ = some (.int .i64 N.V) := cellS hb (by simp)
  have c1 : w1.cell? ⟨w.heap.size, 1, none⟩ = some (.slice A N.n c) := cellS hb (by simp)
  clear hb
  go_wp2_with fail
  refine (refValue_any N A F c m d f v _ (h.on hB) (hf.on hB)).mono ?_
  rintro e w2 ⟨rfl, hb⟩
  have hB2 := onS hB hb
  clear hb c0 c1
  go_wp2_with fail
  refine (value_one _ _ _ _ _ ?_ ?_).mono ?_
  · exact ((netOne_reads w2 _ rfl).alloc (by simp) _).mono (by simp)
  · intro i hi
    obtain rfl : i = 0 := by omega
    exact ⟨w2.heap.size + 1, 0, rfl, by simp, fun j hj => by obtain rfl : j = 0 := by omega
                                                             simp⟩
  rintro e w3 ⟨rfl, hb⟩
  have hB3 := onS ((hB2.alloc hB2.size _).alloc (by have := hB2.size; simp; omega) _) hb
  clear hb
  go_wp2
  go_ret
  exact ⟨rfl, hB3⟩

theorem flowValues_law {H : Type} {enc : TypeId × Value → H} {w : World} {cs : Array Value} {a : Option Addr} {m d : Nat} {v : Int}
    (h : Sees enc Try.prog w 0 (fun _ => true) true 24 cs.toList) (h' : Sees enc Try.prog w 0 (fun _ => true) true 33 [.slice a m d]) (_hv : (Lit.int .i64 v).wf = true) :
    Calls Try.prog 5 #[.agg cs, .slice a m d, .int .i64 v] w fun e w' => e = .returned (.bool true) ∧ Below w.heap.size w w' := by
  obtain ⟨cs⟩ := cs
  obtain ⟨N, A, c, rfl, _, hN, _⟩ := sees_network h
  obtain ⟨S, m', d', f, e, _, _, hs, _⟩ := sees_ints Try.underlying33 Try.underlying3 (by kernel_rfl) h'
  simp only [List.cons.injEq, Value.slice.injEq, and_true] at e
  obtain ⟨rfl, rfl, rfl⟩ := e
  exact flowValues_any N A a c m d f v w hN hs
end Go.Proofs.Ythdeldaeghhfgaa
