/- FlowAccepts returns true. -/
import Derived.Test.YthdeldaeghhfgaaAccept
import Derived.Test.YthdeldaeghhfgaaNetworks
import Derived.Test.YthdeldaeghhfgaaRawOpen
namespace Go.Proofs.Ythdeldaeghhfgaa
open Go.RowKit

/-- The cells of a box that holds a Raw. -/
def RawBox (w w' : World) (N : Net) (A : Option Addr) (c : Nat) (s t val : Int) (F : Option Addr) (m d : Nat) (S : Option Addr) (ms ds : Nat) : Prop :=
  w'.cell? ⟨w.heap.size, 0, none⟩ = some (.int .i64 N.V) ∧ w'.cell? ⟨w.heap.size, 1, none⟩ = some (.slice A N.n c) ∧ w'.cell? ⟨w.heap.size, 2, none⟩ = some (.int .i64 s) ∧ w'.cell? ⟨w.heap.size, 3, none⟩ = some (.int .i64 t) ∧
  w'.cell? ⟨w.heap.size, 4, none⟩ = some (.int .i64 val) ∧ w'.cell? ⟨w.heap.size, 5, none⟩ = some (.slice F m d) ∧ w'.cell? ⟨w.heap.size, 6, none⟩ = some (.slice S ms ds)

set_option maxHeartbeats 4000000 in
theorem flowAccepts_any (N : Net) (A F S : Option Addr) (c m d ms ds : Nat) (s t val : Int) (f : Nat → Int) (sd : Nat → Bool) (y z : Value) (w : World) (h : N.Reads w w.heap.size A) (hf : Ints w w.heap.size F m f) (hs : Bools w w.heap.size S ms sd) :
    Calls Try.prog 7 #[.agg #[.int .i64 N.V, .slice A N.n c, .int .i64 s, .int .i64 t, .int .i64 val, .slice F m d, .slice S ms ds, y, z]] w fun e w' => e = .returned (.bool true) ∧ Below w.heap.size w w' := by
  have hb0 : ∀ o, Below w.heap.size w (w.alloc o).drew := fun o => ((Below.refl _ _).alloc (Nat.le_refl _) o).drew
  have HB0 := hid hb0
  clear hb0
  go_enter Try.func7, Try.ntmps7
  go_wp2_with fail
  go_region_held3 (fun w' => (w'.cell? ⟨w.heap.size, 0, none⟩ = some (.int .i64 N.V) ∧ w'.cell? ⟨w.heap.size, 1, none⟩ = some (.slice A N.n c) ∧ w'.cell? ⟨w.heap.size, 2, none⟩ = some (.int .i64 s) ∧ w'.cell? ⟨w.heap.size, 3, none⟩ = some (.int .i64 t) ∧
      w'.cell? ⟨w.heap.size, 4, none⟩ = some (.int .i64 val) ∧ w'.cell? ⟨w.heap.size, 5, none⟩ = some (.slice F m d) ∧ w'.cell? ⟨w.heap.size, 6, none⟩ = some (.slice S ms ds)) ∧ Below w.heap.size w w')
    (first
      | (go_split_ands; exact ⟨⟨cellS hb (by assumption), cellS hb (by assumption), cellS hb (by assumption), cellS hb (by assumption), cellS hb (by assumption), cellS hb (by assumption), cellS hb (by assumption)⟩, onS (by assumption) hb⟩)
      | exact ⟨⟨by simp, by simp, by simp, by simp, by simp, by simp, by simp⟩, HB0.out _⟩)
    (first
      | (go_at_call 24; (with_reducible refine (flowCheck_any N A F S c m d ms ds s t val f sd _ ?_ ?_ ?_).mono ?_); (first | exact h.on (HB0.out _) | (go_split_ands; exact h.on (by assumption))); (first | exact hf.on (HB0.out _) | (go_split_ands; exact hf.on (by assumption))); (first | exact hs.on (HB0.out _) | (go_split_ands; exact hs.on (by assumption))); rintro e w1 ⟨⟨x, hx, rfl⟩, hb⟩)
      | (go_at_call 25; (with_reducible refine (accept_any N A F S c m d ms ds s t val f sd _ ?_ ?_ ?_).mono ?_); (go_split_ands; exact h.on (by assumption)); (go_split_ands; exact hf.on (by assumption)); (go_split_ands; exact hs.on (by assumption)); rintro e w1 ⟨⟨x', hx', rfl⟩, hb⟩; obtain rfl := hx.same hx')
      | (go_at_call 14; (with_reducible refine (checkNetwork_zero _).mono ?_); rintro e w1 ⟨rfl, hb⟩))
  go_wp2
  go_ret
  exact ⟨rfl, by go_split_ands; assumption⟩

theorem flowAccepts_law {H : Type} {enc : TypeId × Value → H} {w : World} {cs : Array Value} (h : Sees enc Try.prog w 0 (fun _ => true) true 41 cs.toList) :
    Calls Try.prog 7 #[.agg cs] w fun e w' => e = .returned (.bool true) ∧ Below w.heap.size w w' := by
  obtain ⟨cs⟩ := cs
  obtain ⟨N, A, c, s, t, val, F, m, d, f, S, ms, ds, sd, F', m', d', f', S', ms', ds', sd', rfl, hN, hf, hs, _⟩ := sees_raw h
  exact flowAccepts_any N A F S c m d ms ds s t val f sd _ _ w hN hf hs
end Go.Proofs.Ythdeldaeghhfgaa
