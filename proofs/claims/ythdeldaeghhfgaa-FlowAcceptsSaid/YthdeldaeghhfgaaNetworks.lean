/- FlowNetworks returns true. -/
import Derived.Test.YthdeldaeghhfgaaNet
import Derived.Test.YthdeldaeghhfgaaNetOpen
import Derived.Deep.RegionHeld3
namespace Go.Proofs.Ythdeldaeghhfgaa
open Go.RowKit

theorem checkNetwork_zero (w : World) :
    Calls Try.prog 14 #[.agg #[.int .i64 0, .slice none 0 0]] w fun e w' => e = .returned (.int .i64 6) ∧ Below w.heap.size w w' :=
  (checkNetwork_any ⟨0, 0, fun _ => 0, fun _ => 0, fun _ => 0⟩ none 0 w (fun i hi => by cases hi)).mono fun _ _ ⟨h1, h2⟩ => ⟨h1, h2⟩

set_option maxHeartbeats 1000000 in
theorem flowNetworks_any (N : Net) (A : Option Addr) (c : Nat) (w : World) (h : N.Reads w w.heap.size A) :
    Calls Try.prog 3 #[.agg #[.int .i64 N.V, .slice A N.n c]] w fun e w' => e = .returned (.bool true) ∧ Below w.heap.size w w' := by
  go_enter Try.func3, Try.ntmps3
  go_wp2_with fail
  go_region_held3 (fun w' => w'.cell? ⟨w.heap.size, 0, none⟩ = some (.int .i64 N.V) ∧ w'.cell? ⟨w.heap.size, 1, none⟩ = some (.slice A N.n c) ∧ Below w.heap.size w w' ∧ w.heap.size < w'.heap.size)
    (first
      | (go_split_ands; exact ⟨cellS hb (by assumption), cellS hb (by assumption), onS (by assumption) hb, gtS hb (by assumption)⟩)
      | exact ⟨by simp, by simp, ((Below.refl _ _).alloc (Nat.le_refl _) _).drew, by simp⟩)
    (first
      | (go_at_call 15; (with_reducible refine (check_any N A c _ ?_).mono ?_); (go_split_ands; exact (Rd.below h (by assumption) (Nat.le_refl _)).mono (by omega)); rintro e w1 ⟨rfl, hb⟩)
      | (go_at_call 14; (with_reducible refine (checkNetwork_zero _).mono ?_); rintro e w1 ⟨rfl, hb⟩)
      | (go_at_call 14; (with_reducible refine (checkNetwork_any N A c _ ?_).mono ?_); (first | exact ((h.alloc (Nat.le_refl _) _).mono (by simp)) | (go_split_ands; exact (Rd.below h (by assumption) (Nat.le_refl _)).mono (by omega))); rintro e w1 ⟨rfl, hb⟩))
  go_wp2
  go_ret
  exact ⟨rfl, by go_split_ands; assumption⟩

theorem flowNetworks_law {H : Type} {enc : TypeId × Value → H} {w : World} {cs : Array Value} (h : Sees enc Try.prog w 0 (fun _ => true) true 24 cs.toList) :
    Calls Try.prog 3 #[.agg cs] w fun e w' => e = .returned (.bool true) ∧ Below w.heap.size w w' := by
  obtain ⟨cs⟩ := cs
  obtain ⟨N, A, c, rfl, _, hN, _⟩ := sees_network h
  exact flowNetworks_any N A c w hN
end Go.Proofs.Ythdeldaeghhfgaa
