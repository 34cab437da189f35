/- codewrightlaw49.alive. -/
import Derived.Test.YtnocbkhnmdmfhaaViterbi
import Derived.Test.YtnocbkhnmdmfhaaSame11
namespace Go.Proofs.Ytnocbkhnmdmfhaa
open Go.RowKit

/-- Two parallel edges, with the labels 0 and 1. -/
def parT : Trel := ⟨2, fun _ => 1, 1, fun _ => 2, fun _ _ => 0, fun _ j => if j = 0 then 0 else 1, fun _ _ => 0⟩
def parC : Nat → Nat → Int := fun _ a => if a = 0 then 5 else 3
theorem par_alongE : parT.alongE 1 (fun _ => 2) parC = 0 := of_decide_eq_true (by kernel_rfl)
theorem par_bw : parT.bw (parT.yOf parC) parT.n 0 = 3 := of_decide_eq_true (by kernel_rfl)
theorem par_wd : parT.wd (parT.yOf parC) 0 = 1 := of_decide_eq_true (by kernel_rfl)
theorem par_reads {w : World} {b1 b2 b3 : Nat} (h1 : b1 < w.heap.size) (h2 : b2 < w.heap.size) (h3 : b3 < w.heap.size) (c0 : w.cell? ⟨b1, 0, none⟩ = some (.int .i64 1)) (c1 : w.cell? ⟨b1, 1, none⟩ = some (.int .i64 1))
    (e : ∀ j, j < 2 → ∀ k, k < 3 → w.cell? ⟨b2, j * 3 + k, none⟩ = some (parT.edge 0 j k)) (s : w.cell? ⟨b3, 0, none⟩ = some (.slice (some ⟨b2, 0, none⟩) 2 2)) : parT.Reads w (some ⟨b1, 0, none⟩) (some ⟨b3, 0, none⟩) := by
  refine ⟨fun i hi => ⟨b1, 0, rfl, h1, fun j hj => ?_⟩, fun i _ => ⟨by show (-9223372036854775808 : Int) ≤ 1; omega, by show (1 : Int) ≤ _; omega⟩, fun i hi => ?_, by show (2 : Nat) ≤ _; omega, by show (1 : Nat) ≤ _; omega, fun i _ => by show (2 : Nat) ≤ _; omega⟩
  · obtain rfl : j = 0 := by omega
    have hi : i < 2 := hi
    match i, hi with
    | 0, _ => exact c0
    | 1, _ => exact c1
  · have hi : i < 1 := hi
    obtain rfl : i = 0 := by omega
    refine ⟨b3, 0, some ⟨b2, 0, none⟩, 2, rfl, h3, s, Nat.le_refl _, by unfold maxLen; omega, fun j hj => ⟨b2, 0, rfl, h2, fun k hk => ?_⟩, fun j hj => ?_⟩
    · have := e j hj k hk
      rwa [Nat.zero_add]
    · unfold InI64
      refine ⟨⟨by show (-9223372036854775808 : Int) ≤ 0; omega, by show (0 : Int) ≤ _; omega⟩, ?_, ⟨by show (-9223372036854775808 : Int) ≤ 0; omega, by show (0 : Int) ≤ _; omega⟩⟩
      have e : parT.lb 0 j = if j = 0 then (0 : Int) else 1 := rfl
      rw [e]
      split <;> omega
theorem par_rows {w : World} {b4 b5 : Nat} (h4 : b4 < w.heap.size) (h5 : b5 < w.heap.size) (c0 : w.cell? ⟨b4, 0, none⟩ = some (.int .i64 5)) (c1 : w.cell? ⟨b4, 1, none⟩ = some (.int .i64 3)) (s : w.cell? ⟨b5, 0, none⟩ = some (.slice (some ⟨b4, 0, none⟩) 2 2)) :
    IntRows w (some ⟨b5, 0, none⟩) 1 (fun _ => 2) parC := fun i hi => by
  obtain rfl : i = 0 := by omega
  refine ⟨b5, 0, some ⟨b4, 0, none⟩, 2, rfl, h5, s, Nat.le_refl _, by unfold maxLen; omega, fun j hj => ⟨b4, 0, rfl, h4, fun k hk => ?_⟩, fun j hj => ?_⟩
  · obtain rfl : k = 0 := by omega
    match j, hj with
    | 0, _ => exact c0
    | 1, _ => exact c1
  · unfold parC
    split <;> omega
set_option maxRecDepth 100000 in
set_option maxHeartbeats 4000000 in
theorem alive49_any (w : World) : Calls Try.prog 11 #[] w fun e w' => e = .returned (.bool true) ∧ Below w.heap.size w w' := by
  go_enter Try.func11, Try.ntmps11
  go_wp2_with fail
  obtain ⟨O1, hO1⟩ : ∃ o, o = (Obj.cells #[Value.int .i64 1, Value.int .i64 1] 3) := ⟨_, rfl⟩
  obtain ⟨O2, hO2⟩ : ∃ o, o = (Obj.cells #[Value.int .i64 0, Value.int .i64 0, Value.int .i64 0, Value.int .i64 0, Value.int .i64 1, Value.int .i64 0] 72) := ⟨_, rfl⟩
  obtain ⟨O3, hO3⟩ : ∃ o, o = (Obj.cells #[Value.slice (some ⟨w.heap.size + 1, 0, none⟩) 2 2] 70) := ⟨_, rfl⟩
  obtain ⟨O4, hO4⟩ : ∃ o, o = (Obj.cells #[Value.int .i64 5, Value.int .i64 3] 3) := ⟨_, rfl⟩
  obtain ⟨O5, hO5⟩ : ∃ o, o = (Obj.cells #[Value.slice (some ⟨w.heap.size + 1 + 1 + 1, 0, none⟩) 2 2] 22) := ⟨_, rfl⟩
  rw [← hO1, ← hO2, ← hO3, ← hO4, ← hO5]
  have s1 : (w.alloc O1).heap.size = w.heap.size + 1 := by simp
  have s2 : ((w.alloc O1).alloc O2).heap.size = w.heap.size + 1 + 1 := by simp
  have s3 : (((w.alloc O1).alloc O2).alloc O3).heap.size = w.heap.size + 1 + 1 + 1 := by simp
  have s4 : ((((w.alloc O1).alloc O2).alloc O3).alloc O4).heap.size = w.heap.size + 1 + 1 + 1 + 1 := by simp
  have k1 : Below w.heap.size w (w.alloc O1) := (Below.refl _ _).alloc (Nat.le_refl _) _
  have k2 : Below (w.alloc O1).heap.size (w.alloc O1) ((w.alloc O1).alloc O2) := (Below.refl _ _).alloc (Nat.le_refl _) _
  have k3 : Below ((w.alloc O1).alloc O2).heap.size ((w.alloc O1).alloc O2) (((w.alloc O1).alloc O2).alloc O3) := (Below.refl _ _).alloc (Nat.le_refl _) _
  have k4 : Below (((w.alloc O1).alloc O2).alloc O3).heap.size (((w.alloc O1).alloc O2).alloc O3) ((((w.alloc O1).alloc O2).alloc O3).alloc O4) := (Below.refl _ _).alloc (Nat.le_refl _) _
  have k5 : Below ((((w.alloc O1).alloc O2).alloc O3).alloc O4).heap.size ((((w.alloc O1).alloc O2).alloc O3).alloc O4) (((((w.alloc O1).alloc O2).alloc O3).alloc O4).alloc O5) := (Below.refl _ _).alloc (Nat.le_refl _) _
  have k45 := onS k4 k5
  have k345 := onS k3 k45
  have k2345 := onS k2 k345
  have hW := onS k1 k2345
  have a1 : ∀ i v, (#[Value.int .i64 1, Value.int .i64 1] : Array Value)[i]? = some v → (w.alloc O1).cell? ⟨w.heap.size, i, none⟩ = some v := fun i v hv => by rw [hO1]; rw [World.cell?_alloc_at _ _ _ _ rfl]; exact hv
  have a2 : ∀ i v, (#[Value.int .i64 0, Value.int .i64 0, Value.int .i64 0, Value.int .i64 0, Value.int .i64 1, Value.int .i64 0] : Array Value)[i]? = some v → ((w.alloc O1).alloc O2).cell? ⟨w.heap.size + 1, i, none⟩ = some v := fun i v hv => by rw [hO2]; rw [World.cell?_alloc_at _ _ _ _ (by simp)]; exact hv
  have a3 : (((w.alloc O1).alloc O2).alloc O3).cell? ⟨w.heap.size + 1 + 1, 0, none⟩ = some (.slice (some ⟨w.heap.size + 1, 0, none⟩) 2 2) := by rw [hO3]; rw [World.cell?_alloc_at _ _ _ _ (by simp)]; rfl
  have a4 : ∀ i v, (#[Value.int .i64 5, Value.int .i64 3] : Array Value)[i]? = some v → ((((w.alloc O1).alloc O2).alloc O3).alloc O4).cell? ⟨w.heap.size + 1 + 1 + 1, i, none⟩ = some v := fun i v hv => by rw [hO4]; rw [World.cell?_alloc_at _ _ _ _ (by simp)]; exact hv
  have a5 : (((((w.alloc O1).alloc O2).alloc O3).alloc O4).alloc O5).cell? ⟨w.heap.size + 1 + 1 + 1 + 1, 0, none⟩ = some (.slice (some ⟨w.heap.size + 1 + 1 + 1, 0, none⟩) 2 2) := by rw [hO5]; rw [World.cell?_alloc_at _ _ _ _ (by simp)]; rfl
  obtain ⟨w5, hw5⟩ : ∃ W, W = ((((w.alloc O1).alloc O2).alloc O3).alloc O4).alloc O5 := ⟨_, rfl⟩
  have s5 : w5.heap.size = w.heap.size + 1 + 1 + 1 + 1 + 1 := by rw [hw5]; simp
  rw [← hw5] at k5 k45 k345 k2345 hW a5 ⊢
  have hreads : parT.Reads w5 (some ⟨w.heap.size, 0, none⟩) (some ⟨w.heap.size + 1 + 1, 0, none⟩) := by
    refine par_reads (by omega) (b2 := w.heap.size + 1) (by omega) (by omega) (cellS k2345 (a1 0 _ rfl)) (cellS k2345 (a1 1 _ rfl)) (fun j hj k hk => ?_) (cellS k45 a3)
    refine cellS k345 (a2 (j * 3 + k) _ ?_)
    match j, hj, k, hk with
    | 0, _, 0, _ => rfl
    | 0, _, 1, _ => rfl
    | 0, _, 2, _ => rfl
    | 1, _, 0, _ => rfl
    | 1, _, 1, _ => rfl
    | 1, _, 2, _ => rfl
  have hcosts : IntRows w5 (some ⟨w.heap.size + 1 + 1 + 1 + 1, 0, none⟩) 1 (fun _ => 2) parC := par_rows (b4 := w.heap.size + 1 + 1 + 1) (by omega) (by omega) (cellS k5 (a4 0 _ rfl)) (cellS k5 (a4 1 _ rfl)) a5
  have HW := hid hW
  clear a1 a2 a3 a4 a5 k1 k2 k3 k4 k5 k45 k345 k2345 s1 s2 s3 s4 s5 hw5 hO1 hO2 hO3 hO4 hO5 hW
  refine (viterbiAlong_any parT _ _ _ 2 1 1 1 (fun _ => 2) parC w5 hreads hcosts).mono ?_
  rintro e w6 ⟨kb, hpost⟩
  have hW6 := onS HW.out kb
  rcases hpost with ⟨h0, _⟩ | ⟨_, gw, rfl, hrow⟩
  · exact absurd par_alongE h0
  have q0 := hrow.cell (i := 0) (by show 0 < 1; omega)
  rw [par_wd] at q0
  rw [par_bw]
  change w6.cell? ⟨gw, 0, none⟩ = some (.int .i64 1) at q0
  have HW6 := hid hW6
  clear hrow hreads hcosts kb HW hW6
  have en : parT.n = 1 := rfl
  rw [en]
  go_wp2
  go_ret
  exact ⟨rfl, HW6.out⟩
end Go.Proofs.Ytnocbkhnmdmfhaa
