/- semiring.valued of costs. -/
import Derived.Test.YtnocbkhnmdmfhaaIRows
import Derived.Test.YtnocbkhnmdmfhaaBwd
import Derived.Test.YtnocbkhnmdmfhaaValued
namespace Go.Proofs.Ytnocbkhnmdmfhaa
open Go.RowKit

set_option maxRecDepth 100000 in
set_option maxHeartbeats 4000000 in
theorem valuedI_any (T : Trel) (A B V : Option Addr) (c d vc : Nat) (y : Nat → Nat → Int) (w : World) (h : T.Reads w A B) (hs : T.shapeE = 0) (hv : IntRows w V T.n T.el y) :
    Calls Try.prog 101 #[.agg #[.slice A T.nw c, .slice B T.n d], .slice V T.n vc] w fun e w' => e = .returned (.int .i64 0) ∧ Below w.heap.size w w' := by
  obtain ⟨RB, hRB⟩ : ∃ o, o = (Obj.cells #[.slice A T.nw c, .slice B T.n d] 25) := ⟨_, rfl⟩
  have hB0 : Below (w.heap.size + 1) (w.alloc RB) (w.alloc RB) := Below.refl _ _
  have HS : Hid (∀ w', Below (w.heap.size + 1) (w.alloc RB) w' → (w'.cell? ⟨w.heap.size, 0, none⟩ = some (.slice A T.nw c) ∧ w'.cell? ⟨w.heap.size, 1, none⟩ = some (.slice B T.n d)) ∧ Below w.heap.size w w') := fun w' hB => by
    have hB' := tbox_below hB
    subst hRB
    exact ⟨⟨tbox hB rfl, tbox hB rfl⟩, hB'⟩
  obtain ⟨⟨p0, p1⟩, hW⟩ := HS.out _ hB0
  go_enter Try.func101, Try.ntmps101
  go_wp2_with fail
  rw [← hRB]
  refine (shape_any T A B c d _ (h.on hW)).mono ?_
  rintro e w1 ⟨rfl, hb⟩
  have hB1 := tbox_on hB0 hb
  rw [hs]
  have HR := hid h
  have HV := hid hv
  have hn64 := (Trel.shape_of hs).n64
  clear hW p0 p1 hb hB0 hRB h hv hs
  obtain ⟨⟨p0, p1⟩, hW⟩ := HS.out _ hB1
  go_wp2
  go_loopg [22] T.n (fun gg iv wx => ∃ k : Nat, iv = .int .i64 (k : Nat) ∧ k ≤ T.n ∧ T.n ≤ k + gg ∧ Below w1.heap.size w1 wx)
  case atStart => exact ⟨0, rfl, by omega, by omega, Below.refl _ _⟩
  case round =>
    obtain ⟨k, rfl, hk, hkg, hb⟩ := hrel
    have hk0 : (0 : Int) ≤ (k : Int) := by omega
    replace p0 := cellS hb p0
    replace p1 := cellS hb p1
    have hWr := onS hW hb
    clear hW
    by_cases hlt : k < T.n
    · have hlt' : (k : Int) < (T.n : Int) := by omega
      obtain ⟨b, o, E, ec, rfl, _, x0, _, _, _, _⟩ := (HR.out.on hWr).sec hlt
      obtain ⟨vb, vo, R, rc, rfl, _, x1, _, _, _, _⟩ := (HV.out.on hWr) k hlt
      have hne : ((T.el k : Int) != (T.el k : Int)) = false := by simp
      go_wp2
      go_roundg (gk - 1)
      case measure => omega
      case rel => exact ⟨k + 1, by go_num, by omega, by omega, hb⟩
    · have hlt' : ¬ (k : Int) < (T.n : Int) := by omega
      go_wp2
      go_ret
      exact ⟨rfl, hWr⟩
end Go.Proofs.Ytnocbkhnmdmfhaa
