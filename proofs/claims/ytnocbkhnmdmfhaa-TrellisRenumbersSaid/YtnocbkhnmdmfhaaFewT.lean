/- codewrightref47.Few; the law's own check that the program counts paths. -/
import Derived.Test.YtnocbkhnmdmfhaaPaths
namespace Go.Proofs.Ytnocbkhnmdmfhaa
open Go.RowKit

/-- A bool is returned. -/
def AnyBool (e : Ending) : Prop := ∃ r : Bool, e = .returned (.bool r)
set_option maxHeartbeats 4000000 in
theorem fewT_any (T : Trel) (A B : Option Addr) (c d : Nat) (most : Nat) (hm : most ≤ 1000000) (w : World) (h : T.Reads w A B) :
    Calls Try.prog 10 #[.agg #[.slice A T.nw c, .slice B T.n d], .int .i64 (most : Nat)] w fun e w' => AnyBool e ∧ Below w.heap.size w w' := by
  obtain ⟨RB, hRB⟩ : ∃ o, o = (Obj.cells #[.slice A T.nw c, .slice B T.n d] 25) := ⟨_, rfl⟩
  have hB0 : Below (w.heap.size + 1) (w.alloc RB) (w.alloc RB) := Below.refl _ _
  have HS : Hid (∀ w', Below (w.heap.size + 1) (w.alloc RB) w' → (w'.cell? ⟨w.heap.size, 0, none⟩ = some (.slice A T.nw c) ∧ w'.cell? ⟨w.heap.size, 1, none⟩ = some (.slice B T.n d)) ∧ Below w.heap.size w w') := fun w' hB => by
    have hB' := tbox_below hB
    subst hRB
    exact ⟨⟨tbox hB rfl, tbox hB rfl⟩, hB'⟩
  obtain ⟨⟨p0, p1⟩, hW⟩ := HS.out _ hB0
  have hn47 := h.2.2.2.2.1
  go_enter Try.func10, Try.ntmps10
  go_wp2_with fail
  rw [← hRB]
  go_wp2
  go_loopg [5, 6] T.n (fun gg nv iv wx => ∃ k m : Nat, iv = .int .i64 (k : Nat) ∧ nv = .int .i64 (m : Nat) ∧ k ≤ T.n ∧ T.n ≤ k + gg ∧ m ≤ 2 * most + 1 ∧ Below (w.heap.size + 1) (w.alloc RB) wx)
  case atStart => exact ⟨0, 0, rfl, rfl, by omega, by omega, by omega, hB0⟩
  case round =>
    obtain ⟨k, m, rfl, rfl, hk, hkg, hm2, hB⟩ := hrel
    clear hW p0 p1
    obtain ⟨⟨p0, p1⟩, hW⟩ := HS.out _ hB
    have hk0 : (0 : Int) ≤ (k : Int) := by omega
    by_cases hlt : k < T.n
    · have hlt' : (k : Int) < (T.n : Int) := by omega
      by_cases hle : (m : Int) ≤ (most : Int)
      · obtain ⟨eb, eo, E, ec, hE, heb, x0, _, _, _, _⟩ := (h.on hW).sec hlt
        have hel := h.2.2.2.2.2 k hlt
        obtain ⟨el, hele⟩ : ∃ n, n = T.el k := ⟨_, rfl⟩
        rw [← hele] at x0 hel
        subst hE
        clear hele
        by_cases hmin : (el : Int) ≤ (most : Int) + 1
        · go_wp2
          go_roundg (gk - 1)
          case measure => omega
          case rel => exact ⟨k + 1, m + el, by go_num, by go_num, by omega, by omega, by omega, hB⟩
        · go_wp2
          go_roundg (gk - 1)
          case measure => omega
          case rel => exact ⟨k + 1, m + (most + 1), by go_num, by go_num, by omega, by omega, by omega, hB⟩
      · go_wp2
        go_ret
        exact ⟨⟨_, rfl⟩, hW⟩
    · have hlt' : ¬ (k : Int) < (T.n : Int) := by omega
      by_cases hle : (m : Int) ≤ (most : Int)
      · go_wp2
        go_ret
        exact ⟨⟨_, rfl⟩, hW⟩
      · go_wp2
        go_ret
        exact ⟨⟨_, rfl⟩, hW⟩

/-- One section, two edges. -/
def twoT : Trel := ⟨2, fun _ => 1, 1, fun _ => 2, fun _ _ => 0, fun _ j => (j : Nat), fun _ _ => 0⟩
theorem twoT_proper : twoT.properE = 0 := by decide +kernel
theorem twoT_fwd : twoT.fwd (fun _ _ => 1) twoT.n 0 = 2 := by decide +kernel
theorem twoT_reads {w : World} {c d : Nat} {b1 b2 b3 : Nat} (h1 : w.cell? ⟨b1, 0, none⟩ = some (.int .i64 1)) (h2 : w.cell? ⟨b1, 1, none⟩ = some (.int .i64 1))
    (h3 : w.cell? ⟨b3, 0, none⟩ = some (.slice (some ⟨b2, 0, none⟩) 2 c)) (hc : 2 ≤ c) (hc2 : c ≤ maxLen)
    (h4 : ∀ j, j < 2 → w.cell? ⟨b2, j * 3, none⟩ = some (.int .i64 0) ∧ w.cell? ⟨b2, j * 3 + 1, none⟩ = some (.int .i64 (j : Nat)) ∧ w.cell? ⟨b2, j * 3 + 2, none⟩ = some (.int .i64 0)) (_ : d = 1) :
    twoT.Reads w (some ⟨b1, 0, none⟩) (some ⟨b3, 0, none⟩) := by
  refine ⟨fun i hi => ⟨b1, 0, rfl, World.block_lt_of_cell? _ _ h1, fun j hj => ?_⟩, fun i _ => ⟨by show (-9223372036854775808 : Int) ≤ 1; omega, by show (1 : Int) ≤ 9223372036854775807; omega⟩, fun i hi => ?_, by show 2 ≤ _; omega, by show 1 ≤ _; omega, fun i _ => by show 2 ≤ _; omega⟩
  · obtain rfl : j = 0 := by omega
    match i, hi with
    | 0, _ => exact h1
    | 1, _ => exact h2
  · obtain rfl : i = 0 := by have : i < 1 := hi; omega
    refine ⟨b3, 0, some ⟨b2, 0, none⟩, c, rfl, World.block_lt_of_cell? _ _ h3, h3, hc, hc2, fun j hj => ⟨b2, 0, rfl, World.block_lt_of_cell? _ _ (h4 0 (by omega)).1, fun q hq => ?_⟩, fun j hj => ⟨⟨by show (-9223372036854775808 : Int) ≤ 0; omega, by show (0 : Int) ≤ 9223372036854775807; omega⟩, ⟨by show (-9223372036854775808 : Int) ≤ (j : Nat); omega, by have : j < 2 := hj; show ((j : Nat) : Int) ≤ 9223372036854775807; omega⟩, ⟨by show (-9223372036854775808 : Int) ≤ 0; omega, by show (0 : Int) ≤ 9223372036854775807; omega⟩⟩⟩
    obtain ⟨k0, k1, k2⟩ := h4 j hj
    rw [Nat.zero_add]
    match q, hq with
    | 0, _ => exact k0
    | 1, _ => exact k1
    | 2, _ => exact k2
section
variable {w : World} {c1 c2 c3 : Array Value} {t1 t2 t3 : TypeId} {i : Nat} {v : Value}
theorem three_one (h : c1[i]? = some v) : (((w.alloc (.cells c1 t1)).alloc (.cells c2 t2)).alloc (.cells c3 t3)).cell? ⟨w.heap.size, i, none⟩ = some v := by
  rw [World.cell?_alloc_lt _ _ _ (by simp; omega), World.cell?_alloc_lt _ _ _ (by simp), World.cell?_alloc_at _ _ _ _ rfl]
  exact h
theorem three_two (h : c2[i]? = some v) : (((w.alloc (.cells c1 t1)).alloc (.cells c2 t2)).alloc (.cells c3 t3)).cell? ⟨w.heap.size + 1, i, none⟩ = some v := by
  rw [World.cell?_alloc_lt _ _ _ (by simp), World.cell?_alloc_at _ _ _ _ (by simp)]
  exact h
theorem three_three (h : c3[i]? = some v) : (((w.alloc (.cells c1 t1)).alloc (.cells c2 t2)).alloc (.cells c3 t3)).cell? ⟨w.heap.size + 1 + 1, i, none⟩ = some v := by
  rw [World.cell?_alloc_at _ _ _ _ (by simp)]
  exact h
end
set_option maxRecDepth 100000 in
set_option maxHeartbeats 4000000 in
theorem alive47_any (w : World) : Calls Try.prog 17 #[] w fun e w' => e = .returned (.bool true) ∧ Below w.heap.size w w' := by
  go_enter Try.func17, Try.ntmps17
  go_wp2_with fail
  refine (paths_any twoT (some ⟨w.heap.size, 0, none⟩) (some ⟨w.heap.size + 1 + 1, 0, none⟩) 2 1 _ ?_).mono ?_
  · exact twoT_reads (d := 1) (b2 := w.heap.size + 1) (c := 2) (three_one rfl) (three_one rfl) (three_three rfl) (by omega) (by unfold maxLen; omega) (fun j hj => by
      match j, hj with
      | 0, _ => exact ⟨three_two rfl, three_two rfl, three_two rfl⟩
      | 1, _ => exact ⟨three_two rfl, three_two rfl, three_two rfl⟩) rfl
  rintro e w1 (⟨h0, _⟩ | ⟨_, A, c, rfl, h1, h2, h3, hb⟩)
  · exact absurd twoT_proper h0
  have hW : Below w.heap.size w w1 := onS ((((Below.refl _ _).alloc (Nat.le_refl _) _).alloc (by simp) _).alloc (by simp; omega) _) hb
  rw [twoT_fwd] at h1 h3 ⊢
  clear hb
  have hd : dl 2 = 1 := dl_small (by omega) (by omega)
  have kb2 : Below w1.heap.size w1 (w1.alloc (Obj.cells #[Value.int .u32 2] 77)) := (Below.refl _ _).alloc (Nat.le_refl _) _
  have key := refSame_any A (some ⟨w1.heap.size, 0, none⟩) c 1 2 (w1.alloc (Obj.cells #[Value.int .u32 2] 77)) (h3.on kb2) (natOk_one (w := w1) 77 (x := 2) (by omega) (by omega)) (by omega)
  rw [hd] at key ⊢
  have HK := hid key
  have hW2 := onS hW kb2
  clear hd h1 h2 h3 key kb2
  go_wp2_with fail
  refine HK.out.mono ?_
  rintro e w2 ⟨rfl, kb⟩
  have hW3 := onS hW2 kb
  clear kb hW2 HK
  go_wp2
  go_ret
  exact ⟨rfl, hW3⟩
end Go.Proofs.Ytnocbkhnmdmfhaa
