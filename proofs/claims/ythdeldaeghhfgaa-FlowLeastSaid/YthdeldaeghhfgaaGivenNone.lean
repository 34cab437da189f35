/- codewrightref51.Given of a network without arcs, and of any network. -/
import Derived.Test.YthdeldaeghhfgaaGiven
namespace Go.Proofs.Ythdeldaeghhfgaa
open Go.RowKit

theorem cellAl2 {X : World} {p : Addr} {v : Value} {o : Obj} (h : X.cell? p = some v) : (X.alloc o).cell? p = some v := (World.cell?_alloc_lt X o p (World.block_lt_of_cell? X p h)).trans h

/-- Two cells of a network's box, of whatever number of arcs. -/
def Boxed (base : Nat) (S : World) (V : Int) (b0 o0 : Nat) (W : World) (b : Nat) : Prop :=
  Below base S W ∧ W.rowIs b 24 2 (pairCell (.int .i64 V) (.slice (some ⟨b0, o0, none⟩) 0 0)) ∧ base ≤ b

theorem below2 (W : World) (o1 o2 : Obj) : Below W.heap.size W ((W.alloc o1).alloc o2) := ((Below.refl _ _).alloc (Nat.le_refl _) _).alloc (by simp) _
theorem h2_0 {W : World} {o1 o2 : Obj} {k : Nat} (hk : k = W.heap.size) : ((W.alloc o1).alloc o2).heap[k]? = some o1 := by
  subst hk; rw [Below.heap_alloc _ _ _ (by simp), heap_alloc_new]
theorem h2_1 {W : World} {o1 o2 : Obj} {k : Nat} (hk : k = W.heap.size + 1) : ((W.alloc o1).alloc o2).heap[k]? = some o2 := by
  subst hk
  exact heap_new_at (by simp)
theorem row_two {w : World} {b : Nat} {x y : Value} {t : TypeId} (h : w.heap[b]? = some (.cells #[x, y] t)) : w.rowIs b t 2 (pairCell x y) :=
  ⟨_, h, rfl, fun i hi => by
    match i, hi with
    | 0, _ => rfl
    | 1, _ => rfl⟩

set_option maxHeartbeats 4000000 in
theorem given_none (V : Int) (A F : Option Addr) (c d : Nat) (x : Int) (w : World) :
    Calls Try.prog 29 #[.agg #[.int .i64 V, .slice A 0 c], .slice F 0 d, .int .i64 x] w fun e w' => (∃ A' c', e = .returned (.agg #[.int .i64 V, .slice A' 0 c'])) ∧ Below w.heap.size w w' := by
  obtain ⟨i0, qi0, qz0, qz1, qz2⟩ := info_parts Try.infoArc
  have hB0 : Below (w.heap.size + 2) ((w.alloc (Obj.cells #[Value.int IntKind.i64 V, Value.slice A 0 c] 24)).alloc (Obj.cells #[Value.int IntKind.i64 0, Value.slice none 0 0] 24)) ((w.alloc (Obj.cells #[Value.int IntKind.i64 V, Value.slice A 0 c] 24)).alloc (Obj.cells #[Value.int IntKind.i64 0, Value.slice none 0 0] 24)) := Below.refl _ _
  have k0 : ((w.alloc (Obj.cells #[Value.int IntKind.i64 V, Value.slice A 0 c] 24)).alloc (Obj.cells #[Value.int IntKind.i64 0, Value.slice none 0 0] 24)).cell? ⟨w.heap.size, 0, none⟩ = some (.int .i64 V) := box_cell (box2_one hB0) 0 rfl
  have k1 : ((w.alloc (Obj.cells #[Value.int IntKind.i64 V, Value.slice A 0 c] 24)).alloc (Obj.cells #[Value.int IntKind.i64 0, Value.slice none 0 0] 24)).cell? ⟨w.heap.size, 1, none⟩ = some (.slice A 0 c) := box_cell (box2_one hB0) 1 rfl
  go_enter Try.func29, Try.ntmps29
  go_upto_region 1 with fail
  go_cut [7] (fun v7 wx => ∃ b b0, v7 = .pointer (some ⟨b, 0, none⟩) ∧ Boxed (w.heap.size + 1 + 1) ((w.alloc (Obj.cells #[Value.int IntKind.i64 V, Value.slice A 0 c] 24)).alloc (Obj.cells #[Value.int IntKind.i64 0, Value.slice none 0 0] 24)) V b0 0 wx b)
  case first =>
    go_region_held_law (fun w' => w'.cell? ⟨w.heap.size, 0, none⟩ = some (.int .i64 V) ∧ w'.cell? ⟨w.heap.size, 1, none⟩ = some (.slice A 0 c))
      (first | exact ⟨k0, k1⟩ | exact ⟨cellAl2 k0, cellAl2 k1⟩ | exact ⟨cellAl2 (cellAl2 k0), cellAl2 (cellAl2 k1)⟩ | assumption)
      (first | (refine step_append_copy_none _ (by rfl) (.tmp 11) (.tmp 13) _ (by rfl) 36 i0 Try.underlying22 qi0 _ 0 (by rfl) A c (by rfl) ?_))
    all_goals
      go_wp2_with fail
      go_meet
      refine ⟨_, _, rfl, ((below2 ((w.alloc (Obj.cells #[Value.int IntKind.i64 V, Value.slice A 0 c] 24)).alloc (Obj.cells #[Value.int IntKind.i64 0, Value.slice none 0 0] 24)) _ _).mono (by simp)).drew, row_two (by first | exact h2_0 (W := ((w.alloc (Obj.cells #[Value.int IntKind.i64 V, Value.slice A 0 c] 24)).alloc (Obj.cells #[Value.int IntKind.i64 0, Value.slice none 0 0] 24))) (by simp) | exact h2_1 (W := ((w.alloc (Obj.cells #[Value.int IntKind.i64 V, Value.slice A 0 c] 24)).alloc (Obj.cells #[Value.int IntKind.i64 0, Value.slice none 0 0] 24))) (by simp)), by omega⟩
  case rest =>
    obtain ⟨b, b0, rfl, hB⟩ := hcut
    clear hB0 k0 k1
    go_wp2
    go_loopg [8] 0 (fun n iv wx => iv = .int .i64 0 ∧ Boxed (w.heap.size + 1 + 1) ((w.alloc (Obj.cells #[Value.int IntKind.i64 V, Value.slice A 0 c] 24)).alloc (Obj.cells #[Value.int IntKind.i64 0, Value.slice none 0 0] 24)) V b0 0 wx b)
    case atStart => exact ⟨rfl, hB⟩
    case round =>
      clear hB
      obtain ⟨rfl, hB, hrow, hb⟩ := hrel
      have hB' : Below w.heap.size w wr := box_below (box2_one hB)
      have p0 : wr.cell? ⟨b, 0, none⟩ = some (.int .i64 V) := hrow.cell (i := 0) (by omega)
      have p1 : wr.cell? ⟨b, 1, none⟩ = some (.slice (some ⟨b0, 0, none⟩) 0 0) := hrow.cell (i := 1) (by omega)
      have hres := box2_two hB
      have z0 := hres.frozen 0
      have z1 := hres.frozen 1
      have s0 : wr.cell? ⟨w.heap.size + 1, 0, none⟩ = some _ := hres.cell (i := 0) (by simp)
      have s1 : wr.cell? ⟨w.heap.size + 1, 1, none⟩ = some _ := hres.cell (i := 1) (by simp)
      go_wp2
      generalize hw3 : World.setCell _ _ _ = w3
      have hres3 : w3.rowIs (w.heap.size + 1) 24 2 (pairCell (.int .i64 V) (.slice (some ⟨b0, 0, none⟩) 0 0)) := by
        rw [← hw3]
        refine ((hres.set 0 _).set 1 _).congr fun j hj => ?_
        match j, hj with
        | 0, _ => rfl
        | 1, _ => rfl
      have e0 : w3.cell? ⟨w.heap.size + 1, 0, none⟩ = some (.int .i64 V) := hres3.cell (i := 0) (by omega)
      have e1 : w3.cell? ⟨w.heap.size + 1, 1, none⟩ = some (.slice (some ⟨b0, 0, none⟩) 0 0) := hres3.cell (i := 1) (by omega)
      have hBw3 : Below w.heap.size w w3 := by
        rw [← hw3]
        exact (hB'.setCell (by simp) _).setCell (by simp) _
      clear hw3
      exact bodyPost_ret (v := .agg #[.int .i64 V, .slice (some ⟨b0, 0, none⟩) 0 0]) (by simp [results, Try.results29, go_sem, e0, e1]) rfl ⟨⟨_, _, rfl⟩, hBw3⟩

/-- Given, of any network. -/
theorem given_all (N : Net) (A F : Option Addr) (c m d : Nat) (x : Int) (f : Nat → Int) (w : World) (h : N.Reads w w.heap.size A) (hf : Ints w w.heap.size F m f) (hn : N.n ≤ 1024) (hr : ∀ i, i < m → 0 ≤ f i ∧ f i < N.n) (hm : m ≤ maxLen) :
    Calls Try.prog 29 #[.agg #[.int .i64 N.V, .slice A N.n c], .slice F m d, .int .i64 x] w fun e w' => (∃ A' c', e = .returned (.agg #[.int .i64 N.V, .slice A' N.n c']) ∧ (N.given f x m).Reads w' w'.heap.size A') ∧ Below w.heap.size w w' := by
  rcases Nat.eq_zero_or_pos N.n with h0 | h0
  · have hm0 : m = 0 := by
      rcases Nat.eq_zero_or_pos m with h1 | h1
      · exact h1
      · have := hr 0 h1; omega
    subst hm0
    have hz : N = { N with n := 0 } := by cases N; simp at h0; simp [h0]
    rw [hz]
    refine (given_none N.V A F c d x w).mono ?_
    rintro e w' ⟨⟨A', c', he⟩, hb⟩
    exact ⟨⟨A', c', he, fun i hi => absurd hi (by show ¬ i < 0; omega)⟩, hb⟩
  · refine (given_any N A F c m d x f w h hf hn hr hm h0).mono ?_
    rintro e w' ⟨⟨A', c', he, h1, _⟩, hb⟩
    exact ⟨⟨A', c', he, h1⟩, hb⟩
end Go.Proofs.Ythdeldaeghhfgaa
