/- slices.Repeat of one number's slice. -/
import Derived.Test.YtnocbkhnmdmfhaaLess
import Derived.Test.YtnocbkhnmdmfhaaRefLow
import Derived.Test.YtnocbkhnmdmfhaaAppCells
import Derived.Laws.CopyOwn
namespace Go.Proofs.Ytnocbkhnmdmfhaa
open Go.RowKit

theorem and_low (n : Nat) (h : n < 4294967296) : bits .and .u64 (n : Int) 4294967295 = (n : Int) := by
  have h1 : (BitVec.ofInt 64 4294967295).toNat = 2 ^ 32 - 1 := by decide
  have key : (BitVec.ofInt 64 (n : Int) &&& BitVec.ofInt 64 4294967295).toNat = ((n : Int) % ((2 ^ 64 : Nat) : Int)).toNat % 2 ^ 32 := by
    rw [BitVec.toNat_and, BitVec.toNat_ofInt, h1, Nat.and_two_pow_sub_one_eq_mod]
  show IntKind.u64.wrap ((BitVec.ofInt 64 (n : Int) &&& BitVec.ofInt 64 4294967295).toNat : Nat) = (n : Int)
  rw [key, IntKind.wrap_u64]
  omega
theorem mul64_any (n : Nat) (h : n < 4294967296) (w : World) : Calls Try.prog 106 #[.int .u64 1, .int .u64 (n : Nat)] w fun e w' => e = .returned (.tuple #[.int .u64 0, .int .u64 (n : Nat)]) ∧ w' = w := by
  have h1 : bits .and .u64 1 4294967295 = 1 := and_low 1 (by omega)
  have h0 : bits .and .u64 0 4294967295 = 0 := and_low 0 (by omega)
  have hn := and_low n h
  have hd : (n : Int) / 4294967296 = 0 := by omega
  have hw : IntKind.u64.wrap (n : Int) = (n : Int) := IntWalk.u64_in _ (by omega)
  go_enter Try.func106, Try.ntmps106
  go_wp2
  go_ret2
  exact ⟨rfl, rfl⟩
theorem mul_any (n : Nat) (h : n < 4294967296) (w : World) : Calls Try.prog 92 #[.int .u64 1, .int .u64 (n : Nat)] w fun e w' => e = .returned (.tuple #[.int .u64 0, .int .u64 (n : Nat)]) ∧ w' = w := by
  have hw : IntKind.u64.wrap (n : Int) = (n : Int) := IntWalk.u64_in _ (by omega)
  go_enter Try.func92, Try.ntmps92
  go_wp2_with fail
  refine (mul64_any n h w).mono ?_
  rintro e w1 ⟨rfl, rfl⟩
  go_wp2
  go_ret2
  exact ⟨rfl, rfl⟩
/-- k cells U, the rest Z. -/
def filled (U Z : Value) (k n : Nat) : List Value := List.replicate k U ++ List.replicate (n - k) Z
theorem filled_length (U Z : Value) {k n : Nat} (h : k ≤ n) : (filled U Z k n).length = n := by simp [filled]; omega
theorem filled_get {U Z : Value} {k n j : Nat} (hj : j < k) : (filled U Z k n)[j]? = some U := by
  unfold filled
  rw [List.getElem?_append_left (by simpa using hj)]
  simp [hj]
theorem splice_filled (U Z : Value) (k m n : Nat) : splice (filled U Z k n) k (List.replicate m U) = filled U Z (k + m) n := by
  unfold splice filled
  rw [List.take_append_of_le_length (by simp), List.take_of_length_le (by simp), List.length_replicate, List.drop_append, List.drop_of_length_le (by simp), List.nil_append, List.length_replicate, List.drop_replicate, show k + m - k = m by omega, show n - k - m = n - (k + m) by omega, ← List.append_assoc, List.replicate_append_replicate]
theorem madeCells_filled (U Z : Value) (n : Nat) : (madeCells #[Z] n).toList = filled U Z 0 n := by
  apply List.ext_getElem?
  intro i
  simp only [filled, List.replicate_zero, List.nil_append, Nat.sub_zero, List.getElem?_replicate, Array.getElem?_toList]
  by_cases h : i < n
  · rw [if_pos h]
    simp [madeCells, h]
    have : i % 1 = 0 := Nat.mod_one i
    simp [this]
  · rw [if_neg h]
    simp [madeCells]
    omega
set_option maxRecDepth 100000 in
set_option maxHeartbeats 4000000 in
theorem repeat_any (b : Nat) (U : Value) (n c : Nat) (w : World) (hcell : w.cell? ⟨b, 0, none⟩ = some U) (hU : U.oneCell' = true) (h1 : 1 ≤ n) (hn : n ≤ 1048576) :
    Calls Try.prog 62 #[.slice (some ⟨b, 0, none⟩) 1 c, .int .i64 (n : Nat)] w fun e w' =>
      ∃ g, e = .returned (.slice (some ⟨g, 0, none⟩) n n) ∧ w.heap.size ≤ g ∧ w'.rowIs g 43 n (fun _ => U) ∧ Below w.heap.size w w' := by
  have hn0 : ¬ (n : Int) < 0 := by omega
  have hwn : IntKind.u64.wrap (n : Int) = (n : Int) := IntWalk.u64_in _ (by omega)
  have hwi : IntKind.i64.wrap (n : Int) = (n : Int) := IntWalk.i64_in _ (by omega)
  go_enter Try.func62, Try.ntmps62
  go_wp2_with fail
  refine (mul_any n (by omega) w).mono ?_
  rintro e w1 ⟨rfl, rfl⟩
  have hng : ¬ (n : Int) > 9223372036854775807 := by omega
  have hng2 : decide ((n : Int) > 9223372036854775807) = false := by simp; omega
  have hng3 : decide (9223372036854775807 < (n : Int)) = false := by simp; omega
  have hmk := fun W => run_makeI (P := Try.prog) 39 43 _ 24 Try.underlying39 Try.infoNat rfl (n : Int) (by omega) (by omega) (by omega) W
  simp only [Int.toNat_natCast] at hmk
  go_upto_region 7 with fail
  obtain ⟨i0, hi0⟩ : ∃ i, Try.prog.info? 43 = some i := by cases h : Try.prog.info? 43 with | none => have := Try.infoNat; simp [h] at this | some i => exact ⟨i, rfl⟩
  have hsz : (Try.prog.info? 43).map (·.size) = some 1 := by
    have := Try.infoNat
    rw [hi0] at this ⊢
    simp only [Option.map_some, Option.some.injEq, Prod.mk.injEq] at this ⊢
    exact this.2.1
  have hm0 : (w1.alloc (Obj.cells (madeCells #[Value.slice none 0 0] n) 43)).heap[w1.heap.size]? = some (.cells (filled U (.slice none 0 0) 0 n).toArray 43 (0, 0)) := by
    rw [← madeCells_filled, Array.toArray_toList]
    exact heap_alloc_new _ _
  have hb0 : Below w1.heap.size w1 (w1.alloc (Obj.cells (madeCells #[Value.slice none 0 0] n) 43)) := (Below.refl _ _).alloc (Nat.le_refl _) _
  have hc0 := cellS hb0 hcell
  obtain ⟨wm, hwm⟩ : ∃ W, W = w1.alloc (Obj.cells (madeCells #[Value.slice none 0 0] n) 43) := ⟨_, rfl⟩
  rw [← hwm] at hm0 hb0 hc0 ⊢
  obtain ⟨g, hg⟩ : ∃ g, g = w1.heap.size := ⟨_, rfl⟩
  have hgle : w1.heap.size ≤ g := by omega
  rw [← hg] at hm0 ⊢
  have HC0 := hid hc0
  clear hwm hmk hc0 hg hcell
  have HSRC : Hid (∀ j v, (List.replicate 1 U)[j]? = some v → wm.cell? ((⟨b, 0, none⟩ : Addr).add j) = some v) := fun j v hv => by
    have hj : j = 0 := by
      have := (List.getElem?_eq_some_iff.1 hv).1
      simp at this; omega
    subst hj
    have : U = v := by simpa using hv
    rw [← this]
    exact HC0.out
  have HONE : Hid (∀ m, ∀ v ∈ List.replicate m U, v.oneCell' = true) := fun m v hv => by rw [List.eq_of_mem_replicate hv]; exact hU
  have HFIT : Hid (0 + (List.replicate 1 U).length ≤ (filled U (.slice none 0 0) 0 n).length) := by
    show _ ≤ _
    rw [filled_length _ _ (by omega)]; simp; omega
  have HLEN : Hid ((List.replicate 1 U).length = Nat.min 1 n) := by show 1 = min 1 n; omega
  go_wp2_with (first | (refine wpList_copy_splice (cur := filled U (.slice none 0 0) 0 n) (cs := List.replicate 1 U) (B := w1.heap.size) (w0 := w1) rfl (.tmp 31) (.tmp 32) 39 39 rfl 43 Try.underlying39 hsz (some ⟨g, 0, none⟩) (some ⟨b, 0, none⟩) n n 1 c rfl rfl g 0 43 hm0 HLEN.out (fun _ => ⟨rfl, _, rfl, HSRC.out⟩) HFIT.out (HONE.out 1) hb0 hgle ?_; intro w2 hm2 hb2))
  have HM2 : Hid (w2.heap[g]? = some (.cells (filled U (.slice none 0 0) 1 n).toArray 43 (0, 0))) := by
    have := hm2.out
    rwa [splice_filled] at this
  clear hm0 hb0 hm2 hU HLEN HFIT HSRC
  go_wp2
  go_loopg [8] n (fun gg iv wx => ∃ k : Nat, iv = .int .i64 (k : Nat) ∧ 1 ≤ k ∧ k ≤ n ∧ n ≤ k + gg ∧ Hid (wx.heap[g]? = some (.cells (filled U (.slice none 0 0) k n).toArray 43 (0, 0))) ∧ Below w1.heap.size w1 wx)
  case atStart => exact ⟨1, rfl, by omega, by omega, by omega, HM2, hb2⟩
  case round =>
    clear HM2 hb2
    obtain ⟨k, rfl, hk1, hk, hkg, HM, hb⟩ := hrel
    have hk0 : (0 : Int) ≤ (k : Int) := by omega
    by_cases hlt : k < n
    · have hlt' : (k : Int) < (n : Int) := by omega
      obtain ⟨m, hm⟩ : ∃ m, m = min k (n - k) := ⟨_, rfl⟩
      have hm1 : 1 ≤ m := by omega
      have hmk : m ≤ k := by omega
      have hkm : k + m ≤ n := by omega
      have hle1 : (k : Int) ≤ (n : Int) := by omega
      have hkn : k ≠ n := by omega
      have hnk : ¬ n = k := by omega
      have HSRC : Hid (∀ j v, (List.replicate m U)[j]? = some v → (World.drew wr).cell? ((⟨g, 0, none⟩ : Addr).add j) = some v) := fun j v hv => by
        have hj : j < m := by
          have := (List.getElem?_eq_some_iff.1 hv).1
          simpa using this
        have hv' : U = v := by
          rw [List.getElem?_replicate, if_pos hj] at hv
          simpa using hv
        rw [add_lit, Nat.zero_add, ← hv']
        show wr.cell? ⟨g, j, none⟩ = some U
        rw [cell_of_row wr g j _ _ _ HM.out, List.getElem?_toArray, filled_get (by omega)]
      have HFIT : Hid (k + (List.replicate m U).length ≤ (filled U (.slice none 0 0) k n).length) := by
        show _ ≤ _
        rw [filled_length _ _ hk]; simp; omega
      have HLEN : Hid ((List.replicate m U).length = Nat.min k (n - k)) := by show _ = _; rw [List.length_replicate]; exact hm
      clear hm
      have hwkm : IntKind.i64.wrap ((k : Int) + (m : Int)) = (k : Int) + (m : Int) := IntWalk.i64_in _ (by omega)
      go_upto_region 9 with fail
      refine wp_region_held_drew (S := fun w' => Below w1.heap.size w1 w') (by kernel_rfl) hb.drew (fun hHeld => ?_)
      refine wpAnyH_take (i := 0) (v := ?_) (by simp only [List.getElem?_toArray, List.getElem?_cons_zero]; rfl) (by kernel_rfl) (by kernel_rfl) (by kernel_rfl) (by exact fun _ _ _ h => h) (Or.inl ⟨by rfl, ?_⟩) (by assumption) ?_
      rotate_left
      · (intro w hSw; (try dsimp only at hSw); go_simp); first | done | with_reducible rfl
      try simp only [Act.put, List.setIfInBounds_toArray, List.set_cons_zero, List.set_cons_succ]
      refine wpAnyH_take (i := 1) (v := ?_) (by simp only [List.getElem?_toArray, List.getElem?_cons_succ, List.getElem?_cons_zero]; rfl) (by kernel_rfl) (by kernel_rfl) (by kernel_rfl) (by exact fun _ _ _ h => h) (Or.inl ⟨by rfl, ?_⟩) (by assumption) ?_
      rotate_left
      · (intro w hSw; (try dsimp only at hSw); go_simp); first | done | with_reducible rfl
      try simp only [Act.put, List.setIfInBounds_toArray, List.set_cons_zero, List.set_cons_succ]
      refine wpAnyH_take (i := 2) (v := ?_) (by simp only [List.getElem?_toArray, List.getElem?_cons_succ, List.getElem?_cons_zero]; rfl) (by kernel_rfl) (by kernel_rfl) (by kernel_rfl) (by exact fun _ _ _ h => h) (Or.inl ⟨by rfl, ?_⟩) (by assumption) ?_
      rotate_left
      · (intro w hSw; (try dsimp only at hSw); go_simp); first | done | with_reducible rfl
      try simp only [Act.put, List.setIfInBounds_toArray, List.set_cons_zero, List.set_cons_succ]
      refine wpAnyH_take (i := 3) (v := ?_) (by simp only [List.getElem?_toArray, List.getElem?_cons_succ, List.getElem?_cons_zero]; rfl) (by kernel_rfl) (by kernel_rfl) (by kernel_rfl) (by exact fun _ _ _ h => h) (Or.inl ⟨by rfl, ?_⟩) (by assumption) ?_
      rotate_left
      · (intro w hSw; (try dsimp only at hSw); go_simp); first | done | with_reducible rfl
      try simp only [Act.put, List.setIfInBounds_toArray, List.set_cons_zero, List.set_cons_succ]
      refine wpAnyH_take (i := 4) (v := ?_) (by simp only [List.getElem?_toArray, List.getElem?_cons_succ, List.getElem?_cons_zero]; rfl) (by kernel_rfl) (by kernel_rfl) (by kernel_rfl) (by exact fun _ _ _ h => h) (Or.inl ⟨by rfl, ?_⟩) (by assumption) ?_
      rotate_left
      · (intro w hSw; (try dsimp only at hSw); go_simp); first | done | with_reducible rfl
      try simp only [Act.put, List.setIfInBounds_toArray, List.set_cons_zero, List.set_cons_succ]
      refine wpAnyH_take (i := 5) (v := ?_) (by simp only [List.getElem?_toArray, List.getElem?_cons_succ, List.getElem?_cons_zero]; rfl) (by kernel_rfl) (by kernel_rfl) (by kernel_rfl) (by exact fun _ _ _ h => h) (Or.inl ⟨by rfl, ?_⟩) (by assumption) ?_
      rotate_left
      · (intro w hSw; (try dsimp only at hSw); go_simp); first | done | with_reducible rfl
      try simp only [Act.put, List.setIfInBounds_toArray, List.set_cons_zero, List.set_cons_succ]
      refine wpAnyH_take (i := 6) (v := ?_) (by simp only [List.getElem?_toArray, List.getElem?_cons_succ, List.getElem?_cons_zero]; rfl) (by kernel_rfl) (by kernel_rfl) (by kernel_rfl) (by exact fun _ _ _ h => h) (Or.inl ⟨by rfl, ?_⟩) (by assumption) ?_
      rotate_left
      · (intro w hSw; (try dsimp only at hSw); go_simp); first | done | with_reducible rfl
      try simp only [Act.put, List.setIfInBounds_toArray, List.set_cons_zero, List.set_cons_succ]
      refine wpAnyH_ready (rs := [7]) (by kernel_rfl) (by simp) ?_
      refine AllReadyH.cons (by simp only [List.getElem?_toArray, List.getElem?_cons_succ, List.getElem?_cons_zero]; rfl) (fun K hK => ?_) AllReadyH.nil
      refine step_copy_splice (cur := filled U (.slice none 0 0) k n) (cs := List.replicate m U) (B := w1.heap.size) (w0 := w1) (by rfl) (.tmp 41) (.tmp 44) 39 39 (by rfl) 43 Try.underlying39 hsz (some ⟨g, k, none⟩) (some ⟨g, 0, none⟩) (n - k) (n - k) k n (by rfl) (by rfl) g k 43 HM.out HLEN.out (fun _ => ⟨rfl, _, rfl, HSRC.out⟩) HFIT.out (HONE.out m) hb.drew hgle ?_
      intro w3 hm3 hb3
      refine hK.out _ _ hb3 (fun hHeld => ?_)
      clear hK K
      try simp only [Act.put, List.setIfInBounds_toArray, List.set_cons_zero, List.set_cons_succ]
      refine wpAnyH_take (i := 8) (v := ?_) (by simp only [List.getElem?_toArray, List.getElem?_cons_succ, List.getElem?_cons_zero]; rfl) (by kernel_rfl) (by kernel_rfl) (by kernel_rfl) (by exact fun _ _ _ h => h) (Or.inl ⟨by rfl, ?_⟩) (by assumption) ?_
      rotate_left
      · (intro w hSw; (try dsimp only at hSw); go_simp); first | done | with_reducible rfl
      try simp only [Act.put, List.setIfInBounds_toArray, List.set_cons_zero, List.set_cons_succ]
      refine wpAnyH_take (i := 9) (v := ?_) (by simp only [List.getElem?_toArray, List.getElem?_cons_succ, List.getElem?_cons_zero]; rfl) (by kernel_rfl) (by kernel_rfl) (by kernel_rfl) (by exact fun _ _ _ h => h) (Or.inl ⟨by rfl, ?_⟩) (by assumption) ?_
      rotate_left
      · (intro w hSw; (try dsimp only at hSw); go_simp); first | done | with_reducible rfl
      try simp only [Act.put, List.setIfInBounds_toArray, List.set_cons_zero, List.set_cons_succ]
      refine wpAnyH_done (by kernel_rfl) ?_ _
      clear hHeld
      have HM3 : Hid (w3.heap[g]? = some (.cells (filled U (.slice none 0 0) (k + m) n).toArray 43 (0, 0))) := by
        have := hm3.out
        rwa [splice_filled] at this
      clear hm3
      go_wp2
      go_roundg (gk - 1)
      case measure => omega
      case rel => exact ⟨k + m, by go_num, by omega, by omega, by omega, HM3, hb3⟩
    · obtain rfl : k = n := by omega
      have hfin : wr.rowIs g 43 k (fun _ => U) := ⟨_, HM.out, by simp [filled], fun i hi => by
        rw [List.getElem?_toArray, filled_get hi]⟩
      go_wp2
      go_ret
      exact ⟨g, rfl, hgle, hfin, hb⟩
end Go.Proofs.Ytnocbkhnmdmfhaa
