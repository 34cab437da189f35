/- The law's few, and codewrightref51.Given: a network with new capacities. -/
import Derived.Test.YthdeldaeghhfgaaIsFlow
import Derived.Test.YthdeldaeghhfgaaFlowMath
import Derived.Test.YthdeldaeghhfgaaGreatest
namespace Go.Proofs.Ythdeldaeghhfgaa
open Go.RowKit

/-- A store into another block. -/
theorem Rd.setFar {w : World} {A : Option Addr} {n s : Nat} {f : Nat → Nat → Value} (h : Rd w w.heap.size A n s f) {p : Addr} (hp : ∀ a, A = some a → a.block ≠ p.block) (u : Value) : Rd (w.setCell p u) (w.setCell p u).heap.size A n s f := fun i hi => by
  obtain ⟨b, o, rfl, hb, hc⟩ := h i hi
  exact ⟨b, o, rfl, by simpa [World.setCell] using hb, fun j hj => cell_setCell_far (hc j hj) (hp ⟨b, o, none⟩ rfl)⟩
theorem Ints.setFar {w : World} {A : Option Addr} {n : Nat} {f : Nat → Int} (h : Ints w w.heap.size A n f) {p : Addr} (hp : ∀ a, A = some a → a.block ≠ p.block) (u : Value) : Ints (w.setCell p u) (w.setCell p u).heap.size A n f := Rd.setFar h hp u
theorem Bools.setFar {w : World} {A : Option Addr} {n : Nat} {f : Nat → Bool} (h : Bools w w.heap.size A n f) {p : Addr} (hp : ∀ a, A = some a → a.block ≠ p.block) (u : Value) : Bools (w.setCell p u) (w.setCell p u).heap.size A n f := Rd.setFar h hp u

set_option maxHeartbeats 2000000 in
theorem few_any (N : Net) (A : Option Addr) (c : Nat) (w : World) (h : N.Reads w w.heap.size A) :
    Calls Try.prog 26 #[.agg #[.int .i64 N.V, .slice A N.n c]] w fun e w' => Tells ((N.V ≤ 40 ∧ N.n ≤ 120) ∨ N.chk ≠ 0) e ∧ Below w.heap.size w w' := by
  have hb0 : Below (w.heap.size + 1) (w.alloc (.cells #[.int .i64 N.V, .slice A N.n c] 24)) (w.alloc (.cells #[.int .i64 N.V, .slice A N.n c] 24)) := Below.refl _ _
  have hb1 := box_below hb0
  by_cases hV : N.V ≤ 40
  · by_cases hn : N.n ≤ 120
    · go_enter Try.func26, Try.ntmps26
      go_wp2_with fail
      go_ret
      refine ⟨⟨_, ?_, rfl⟩, hb1⟩
      simp
    · have hn' : ¬ (N.n : Int) ≤ 120 := by omega
      go_enter Try.func26, Try.ntmps26
      go_wp2_with fail
      refine (check_any N A c _ (h.on hb1)).mono ?_
      rintro e w1 ⟨rfl, hb⟩
      have hB := box_below (box_on hb0 hb)
      clear hb
      go_wp2
      go_ret
      refine ⟨⟨_, ?_, rfl⟩, hB⟩
      simp; omega
  · go_enter Try.func26, Try.ntmps26
    go_wp2_with fail
    refine (check_any N A c _ (h.on hb1)).mono ?_
    rintro e w1 ⟨rfl, hb⟩
    have hB := box_below (box_on hb0 hb)
    clear hb
    go_wp2
    go_ret
    refine ⟨⟨_, ?_, rfl⟩, hB⟩
    simp; omega

set_option maxHeartbeats 2000000 in
theorem max_err (N : Net) (A : Option Addr) (c : Nat) (s t : Int) (w : World) (h : N.Reads w w.heap.size A) (he : N.endsE s t ≠ 0) :
    Calls Try.prog 27 #[.agg #[.int .i64 N.V, .slice A N.n c], .int .i64 s, .int .i64 t] w fun e w' => e = .returned (.tuple #[.agg #[.int .i64 0, .slice none 0 0, .slice none 0 0], .int .i64 (N.endsE s t)]) ∧ Below w.heap.size w w' := by
  have he' : (N.endsE s t != 0) = true := by simpa using he
  clear he
  have hb0 := fun (o2 : Obj) => ((Below.refl (w.heap.size + 2) ((w.alloc (.cells #[.int .i64 N.V, .slice A N.n c] 24)).alloc o2)))
  have hb1 := fun o2 => box_below (box2_one (hb0 o2))
  go_enter Try.func27, Try.ntmps27
  go_wp2_with fail
  refine (ends_any N A c s t _ (h.on (hb1 _))).mono ?_
  rintro e w1 ⟨rfl, hb⟩
  have hB : Below (w.heap.size + 2) ((w.alloc (.cells #[.int .i64 N.V, .slice A N.n c] 24)).alloc (.cells #[.int .i64 0, .slice none 0 0, .slice none 0 0] 39)) w1 := (hb0 _).trans (hb.mono (by simp))
  have hB' := box_below (box2_one hB)
  have hres := box2_two hB
  have r0 := hres.frozen 0
  have r1 := hres.frozen 1
  have r2 := hres.frozen 2
  have s0 : w1.cell? ⟨w.heap.size + 1, 0, none⟩ = some _ := hres.cell (i := 0) (by simp)
  have s1 : w1.cell? ⟨w.heap.size + 1, 1, none⟩ = some _ := hres.cell (i := 1) (by simp)
  have s2 : w1.cell? ⟨w.heap.size + 1, 2, none⟩ = some _ := hres.cell (i := 2) (by simp)
  clear hb
  go_wp2
  generalize hw3 : World.setCell _ _ _ = w3
  have hres3 : w3.rowIs (w.heap.size + 1) 39 3 (flowCell 0 (.slice none 0 0) (.slice none 0 0)) := by
    rw [← hw3]
    refine (((hres.set 0 _).set 1 _).set 2 _).congr fun j hj => ?_
    match j, hj with
    | 0, _ => rfl
    | 1, _ => rfl
    | 2, _ => rfl
  have e0 : w3.cell? ⟨w.heap.size + 1, 0, none⟩ = some (.int .i64 0) := hres3.cell (i := 0) (by omega)
  have e1 : w3.cell? ⟨w.heap.size + 1, 1, none⟩ = some (.slice none 0 0) := hres3.cell (i := 1) (by omega)
  have e2 : w3.cell? ⟨w.heap.size + 1, 2, none⟩ = some (.slice none 0 0) := hres3.cell (i := 2) (by omega)
  have hBw3 : Below w.heap.size w w3 := by
    rw [← hw3]
    exact ((hB'.setCell (by simp) _).setCell (by simp) _).setCell (by simp) _
  clear hw3
  refine bodyPost_ret (v := .tuple #[.agg #[.int .i64 0, .slice none 0 0, .slice none 0 0], .int .i64 (N.endsE s t)]) (by simp [results, Try.results27, go_sem, e0, e1, e2]) rfl ⟨rfl, hBw3⟩

/-- What flow.Max returns where the ends are right. -/
def MaxDone (N : Net) (s t : Int) (w : World) (e : Ending) (w' : World) : Prop :=
  ∃ val f seen arc back rk cnt A1 A2, Flowing N s t val f ∧ Reached N f s.toNat seen arc back rk cnt ∧ seen t.toNat = false ∧
    e = .returned (.tuple #[.agg #[.int .i64 val, .slice A1 N.n N.n, .slice A2 N.V.toNat N.V.toNat], .int .i64 0]) ∧ Below w.heap.size w w' ∧ Ints w' w'.heap.size A1 N.n f ∧ Bools w' w'.heap.size A2 N.V.toNat seen ∧
    (∀ a, A1 = some a → w.heap.size ≤ a.block) ∧ (∀ a, A2 = some a → w.heap.size ≤ a.block)

set_option maxHeartbeats 2000000 in
theorem max_ok (N : Net) (A : Option Addr) (c : Nat) (s t : Int) (w : World) (h : N.Reads w w.heap.size A) (he : N.endsE s t = 0) :
    Calls Try.prog 27 #[.agg #[.int .i64 N.V, .slice A N.n c], .int .i64 s, .int .i64 t] w (MaxDone N s t w) := by
  have hE := ends_of he
  have he' : (N.endsE s t != 0) = false := by simp [he]
  clear he
  have hb0 := fun (o2 : Obj) => ((Below.refl (w.heap.size + 2) ((w.alloc (.cells #[.int .i64 N.V, .slice A N.n c] 24)).alloc o2)))
  have hb1 := fun o2 => box_below (box2_one (hb0 o2))
  go_enter Try.func27, Try.ntmps27
  go_wp2_with fail
  refine (ends_any N A c s t _ (h.on (hb1 _))).mono ?_
  rintro e w1 ⟨rfl, hb⟩
  have hB : Below (w.heap.size + 2) ((w.alloc (.cells #[.int .i64 N.V, .slice A N.n c] 24)).alloc (.cells #[.int .i64 0, .slice none 0 0, .slice none 0 0] 39)) w1 := (hb0 _).trans (hb.mono (by simp))
  have hB' := box_below (box2_one hB)
  have p0 := box_cell (box2_one hB) 0 rfl
  have p1 := box_cell (box2_one hB) 1 rfl
  clear hb
  go_wp2_with fail
  refine (greatest_any N A c s t w1 (h.on hB') hE).mono ?_
  rintro e w2 ⟨val, f, seen, arc, back, rk, cnt, A1, A2, hF, hR, hst, rfl, hb, k1, k2, k3, k4⟩
  have hB2 := hB.trans (hb.mono (by have := hB.size; simp at this; omega))
  have hlt := box2_lt hB
  have hB2' := box_below (box2_one hB2)
  have hres := box2_two hB2
  have r0 := hres.frozen 0
  have r1 := hres.frozen 1
  have r2 := hres.frozen 2
  have s0 : w2.cell? ⟨w.heap.size + 1, 0, none⟩ = some _ := hres.cell (i := 0) (by simp)
  have s1 : w2.cell? ⟨w.heap.size + 1, 1, none⟩ = some _ := hres.cell (i := 1) (by simp)
  have s2 : w2.cell? ⟨w.heap.size + 1, 2, none⟩ = some _ := hres.cell (i := 2) (by simp)
  have HST := hid hst
  clear hb p0 p1 hst hB
  go_wp2
  generalize hw3 : World.setCell _ _ _ = w3
  have hres3 : w3.rowIs (w.heap.size + 1) 39 3 (flowCell val (.slice A1 N.n N.n) (.slice A2 N.V.toNat N.V.toNat)) := by
    rw [← hw3]
    refine (((hres.set 0 _).set 1 _).set 2 _).congr fun j hj => ?_
    match j, hj with
    | 0, _ => rfl
    | 1, _ => rfl
    | 2, _ => rfl
  have e0 : w3.cell? ⟨w.heap.size + 1, 0, none⟩ = some (.int .i64 val) := hres3.cell (i := 0) (by omega)
  have e1 : w3.cell? ⟨w.heap.size + 1, 1, none⟩ = some (.slice A1 N.n N.n) := hres3.cell (i := 1) (by omega)
  have e2 : w3.cell? ⟨w.heap.size + 1, 2, none⟩ = some (.slice A2 N.V.toNat N.V.toNat) := hres3.cell (i := 2) (by omega)
  have hBw3 : Below w.heap.size w w3 := by
    rw [← hw3]
    exact ((hB2'.setCell (by simp) _).setCell (by simp) _).setCell (by simp) _
  have k1' : Ints w3 w3.heap.size A1 N.n f := by
    rw [← hw3]
    exact ((k1.setFar (fun a e => by have := k3 a e; simp; omega) _).setFar (fun a e => by have := k3 a e; simp; omega) _).setFar (fun a e => by have := k3 a e; simp; omega) _
  have k2' : Bools w3 w3.heap.size A2 N.V.toNat seen := by
    rw [← hw3]
    exact ((k2.setFar (fun a e => by have := k4 a e; simp; omega) _).setFar (fun a e => by have := k4 a e; simp; omega) _).setFar (fun a e => by have := k4 a e; simp; omega) _
  clear hw3
  refine bodyPost_ret (v := .tuple #[.agg #[.int .i64 val, .slice A1 N.n N.n, .slice A2 N.V.toNat N.V.toNat], .int .i64 0]) (by simp [results, Try.results27, go_sem, e0, e1, e2]) rfl ⟨val, f, seen, arc, back, rk, cnt, A1, A2, hF, hR, HST.out, rfl, hBw3, k1', k2', fun a e => by have := k3 a e; omega, fun a e => by have := k4 a e; omega⟩
end Go.Proofs.Ythdeldaeghhfgaa
