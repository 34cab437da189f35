/- ref34 Apart; law34 holds. -/
import Derived.Test.YtgininddoalenaaIntRows
import Derived.Deep.RegionHeld3
namespace Go.Proofs.Ytgininddoalenaa
open Go.RowKit

/-- All pairs are d apart. -/
def FarAll (d : Int) (M n : Nat) (W : Nat → Nat → Int) : Prop := ∀ i, i < M → ∀ j, j < i → d ≤ (disN (W i) (W j) n : Int)
def ApartPost (d : Int) (M n : Nat) (W : Nat → Nat → Int) (w : World) (e : Ending) (w' : World) : Prop := ∃ v : Bool, e = .returned (.bool v) ∧ (v = true → FarAll d M n W) ∧ Below w.heap.size w w'
theorem apartPost_no {d : Int} {M n : Nat} {W : Nat → Nat → Int} {w w' : World} (hB : Below w.heap.size w w') : ApartPost d M n W w (.returned (.bool false)) w' := ⟨false, rfl, (fun h => by cases h), hB⟩

set_option maxRecDepth 100000 in
set_option maxHeartbeats 8000000 in
theorem refApart_any (d : Int) (T : Option Addr) (M c n : Nat) (ln : Nat → Nat) (W : Nat → Nat → Int) (w : World) (h : IntRows w T M ln W) (hM : M ≤ 300) (hn : n ≤ 64) (hl : Hid (∀ i, i < M → ln i = n)) :
    Calls Try.prog 47 #[.slice T M c, .int .i64 d] w (ApartPost d M n W w) := by
  go_enter Try.func47, Try.ntmps47
  go_wp2
  go_loopg [5] M (fun gg iv wx => ∃ i : Nat, iv = .int .i64 (i : Nat) ∧ i ≤ M ∧ M ≤ i + gg ∧ (∀ i', i' < i → ∀ j, j < i' → d ≤ (disN (W i') (W j) n : Int)) ∧ Below w.heap.size w wx)
  case atStart => exact ⟨0, rfl, by omega, by omega, fun i' hi' => by omega, Below.refl _ _⟩
  case round =>
    obtain ⟨i, rfl, hi, hig, hgood, hB⟩ := hrel
    have hi0 : (0 : Int) ≤ (i : Int) := by omega
    have HG := hid hgood
    clear hgood
    by_cases hlt : i < M
    · have hlt' : (i : Int) < (M : Int) := by omega
      go_wp2
      obtain ⟨gI, rfl⟩ : ∃ gK : Nat, gK = gk := ⟨_, rfl⟩
      go_loopg [6] i (fun gg jv wx => ∃ j : Nat, jv = .int .i64 (j : Nat) ∧ j ≤ i ∧ i ≤ j + gg ∧ (∀ j', j' < j → d ≤ (disN (W i) (W j') n : Int)) ∧ Below w.heap.size w wx)
      case atStart => exact ⟨0, rfl, by omega, by omega, fun j' hj' => by omega, hB⟩
      case round =>
        clear hB
        obtain ⟨j, rfl, hj, hjg, hgj, hB⟩ := hrel
        have hj0 : (0 : Int) ≤ (j : Int) := by omega
        have HJ := hid hgj
        clear hgj
        by_cases hlj : j < i
        · have hlj' : (j : Int) < (i : Int) := by omega
          have hjM : (j : Int) < (M : Int) := by omega
          obtain ⟨b, off, A, ca, rfl, hb, t1, k1, k2, hints, _⟩ := h i hlt
          obtain ⟨b2, off2, A2, ca2, e, _, t2, k3, k4, hints2, _⟩ := h j (by omega)
          injection e with e
          injection e with e1 e2
          subst e1 e2
          rw [hl.out i hlt] at t1 hints
          rw [hl.out j (by omega)] at t2 hints2
          have HS : Hid (∀ w' : World, Below w.heap.size w w' → w'.cell? ⟨b, off + i, none⟩ = some (.slice A n ca) ∧ w'.cell? ⟨b, off + j, none⟩ = some (.slice A2 n ca2)) := fun w' kb => ⟨cellS kb t1, cellS kb t2⟩
          clear t1 t2
          obtain ⟨D, hD⟩ : ∃ D, D = disN (W i) (W j) n := ⟨_, rfl⟩
          have HD := hid hD
          clear hD
          have hgI := hig
          obtain ⟨w0, hw0⟩ : ∃ W, W = wr := ⟨_, rfl⟩
          rw [← hw0] at hB ⊢
          clear hw0
          by_cases hdd : d ≤ (D : Int)
          · have hdn : ¬ (D : Int) < d := by omega
            go_upto_region 7 with fail
            refine wp_region_held_drew (S := fun w' => w'.cell? ⟨b, off + i, none⟩ = some (.slice A n ca) ∧ w'.cell? ⟨b, off + j, none⟩ = some (.slice A2 n ca2)) (by kernel_rfl) (HS.out _ hB.drew) (fun hHeld => ?_)
            obtain ⟨w1, hw⟩ : ∃ W, W = World.drew w0 := ⟨_, rfl⟩
            have kb : Below w0.heap.size w0 w1 := by rw [hw]; exact (Below.refl _ _).drew
            rw [← hw] at hHeld ⊢
            clear hw
            replace hB := onS hB kb
            clear kb
            refine wpAnyH_take (i := 0) (v := ?_) (by simp only [List.getElem?_toArray, List.getElem?_cons_zero]; rfl) (by kernel_rfl) (by kernel_rfl) (by kernel_rfl) (by exact fun _ _ _ h => h) (Or.inl ⟨by rfl, ?_⟩) (by assumption) ?_
            rotate_left
            · (intro w hSw; (try dsimp only at hSw); go_simp); first | done | with_reducible rfl
            try simp only [Act.put, List.setIfInBounds_toArray, List.set_cons_zero, List.set_cons_succ]
            refine wpAnyH_take (i := 1) (v := ?_) (by simp only [List.getElem?_toArray, List.getElem?_cons_succ, List.getElem?_cons_zero]; rfl) (by kernel_rfl) (by kernel_rfl) (by kernel_rfl) (by exact fun _ _ _ h => h) (Or.inl ⟨by rfl, ?_⟩) (by assumption) ?_
            rotate_left
            · (intro w hSw; (try dsimp only at hSw); go_simp); first | done | with_reducible rfl
            try simp only [Act.put, List.setIfInBounds_toArray, List.set_cons_zero, List.set_cons_succ]
            refine wpAnyH_take (i := 2) (v := ?_) (by simp only [List.getElem?_toArray, List.getElem?_cons_succ, List.getElem?_cons_zero]; rfl) (by kernel_rfl) (by kernel_rfl) (by kernel_rfl) (by exact fun _ _ _ h => h) (Or.inl ⟨by rfl, ?_⟩) (by assumption) ?_
            rotate_left
            · (intro w hSw; (try dsimp only at hSw); go_simp); first | done | with_reducible rfl
            try simp only [Act.put, List.setIfInBounds_toArray, List.set_cons_zero, List.set_cons_succ]
            refine wpAnyH_take (i := 3) (v := ?_) (by simp only [List.getElem?_toArray, List.getElem?_cons_succ, List.getElem?_cons_zero]; rfl) (by kernel_rfl) (by kernel_rfl) (by kernel_rfl) (by exact fun _ _ _ h => h) (Or.inl ⟨by rfl, ?_⟩) (by assumption) ?_
            rotate_left
            · (intro w hSw; (try dsimp only at hSw); go_simp); first | done | with_reducible rfl
            try simp only [Act.put, List.setIfInBounds_toArray, List.set_cons_zero, List.set_cons_succ]
            refine wpAnyH_take (i := 4) (v := ?_) (by simp only [List.getElem?_toArray, List.getElem?_cons_succ, List.getElem?_cons_zero]; rfl) (by kernel_rfl) (by kernel_rfl) (by kernel_rfl) (by exact fun _ _ _ h => h) (Or.inl ⟨by rfl, ?_⟩) (by assumption) ?_
            rotate_left
            · (intro w hSw; (try dsimp only at hSw); go_simp); first | done | with_reducible rfl
            try simp only [Act.put, List.setIfInBounds_toArray, List.set_cons_zero, List.set_cons_succ]
            refine wpAnyH_take (i := 5) (v := ?_) (by simp only [List.getElem?_toArray, List.getElem?_cons_succ, List.getElem?_cons_zero]; rfl) (by kernel_rfl) (by kernel_rfl) (by kernel_rfl) (by exact fun _ _ _ h => h) (Or.inl ⟨by rfl, ?_⟩) (by assumption) ?_
            rotate_left
            · (intro w hSw; (try dsimp only at hSw); go_simp); first | done | with_reducible rfl
            try simp only [Act.put, List.setIfInBounds_toArray, List.set_cons_zero, List.set_cons_succ]
            refine wpAnyH_take (i := 6) (v := ?_) (by simp only [List.getElem?_toArray, List.getElem?_cons_succ, List.getElem?_cons_zero]; rfl) (by kernel_rfl) (by kernel_rfl) (by kernel_rfl) (by exact fun _ _ _ h => h) (Or.inl ⟨by rfl, ?_⟩) (by assumption) ?_
            rotate_left
            · (intro w hSw; (try dsimp only at hSw); go_simp); first | done | with_reducible rfl
            try simp only [Act.put, List.setIfInBounds_toArray, List.set_cons_zero, List.set_cons_succ]
            refine wpAnyH_take (i := 7) (v := ?_) (by simp only [List.getElem?_toArray, List.getElem?_cons_succ, List.getElem?_cons_zero]; rfl) (by kernel_rfl) (by kernel_rfl) (by kernel_rfl) (by exact fun _ _ _ h => h) (Or.inl ⟨by rfl, ?_⟩) (by assumption) ?_
            rotate_left
            · (intro w hSw; (try dsimp only at hSw); go_simp); first | done | with_reducible rfl
            try simp only [Act.put, List.setIfInBounds_toArray, List.set_cons_zero, List.set_cons_succ]
            refine wpAnyH_take (i := 9) (v := ?_) (by simp only [List.getElem?_toArray, List.getElem?_cons_succ, List.getElem?_cons_zero]; rfl) (by kernel_rfl) (by kernel_rfl) (by kernel_rfl) (by exact fun _ _ _ h => h) (Or.inl ⟨by rfl, ?_⟩) (by assumption) ?_
            rotate_left
            · (intro w hSw; (try dsimp only at hSw); go_simp); first | done | with_reducible rfl
            try simp only [Act.put, List.setIfInBounds_toArray, List.set_cons_zero, List.set_cons_succ]
            refine wpAnyH_ready (rs := [8]) (by kernel_rfl) (by simp) ?_
            refine AllReadyH.cons (by simp only [List.getElem?_toArray, List.getElem?_cons_succ, List.getElem?_cons_zero]; rfl) (fun K hK => ?_) AllReadyH.nil
            go_simp
            go_wp2_with fail
            refine (distance_any A A2 n ca ca2 (W i) (W j) _ (hints.on hB) (hints2.on hB) (by omega)).mono ?_
            rintro e w2 ⟨rfl, kb⟩
            replace hB := onS hB kb
            clear kb
            rw [← HD.out]
            refine hK.out _ _ (HS.out _ hB) (fun hHeld => ?_)
            clear hK K
            try simp only [Act.put, List.setIfInBounds_toArray, List.set_cons_zero, List.set_cons_succ]
            refine wpAnyH_take (i := 10) (v := ?_) (by simp only [List.getElem?_toArray, List.getElem?_cons_succ, List.getElem?_cons_zero]; rfl) (by kernel_rfl) (by kernel_rfl) (by kernel_rfl) (by exact fun _ _ _ h => h) (Or.inl ⟨by rfl, ?_⟩) (by assumption) ?_
            rotate_left
            · (intro w hSw; (try dsimp only at hSw); go_simp); first | done | with_reducible rfl
            try simp only [Act.put, List.setIfInBounds_toArray, List.set_cons_zero, List.set_cons_succ]
            refine wpAnyH_done (by kernel_rfl) ?_ _
            clear hHeld
            clear HS
            have hnx : Hid (∀ j', j' < j + 1 → d ≤ (disN (W i) (W j') n : Int)) := fun j' hj' => by
              by_cases ej : j' = j
              · rw [ej, ← HD.out]; exact hdd
              · exact HJ.out j' (by omega)
            go_wp2
            go_roundg (gk - 1)
            case measure => omega
            case rel => exact ⟨j + 1, by go_num, by omega, by omega, hnx.out, hB⟩
          · have hdn : (D : Int) < d := by omega
            go_upto_region 7 with fail
            refine wp_region_held_drew (S := fun w' => w'.cell? ⟨b, off + i, none⟩ = some (.slice A n ca) ∧ w'.cell? ⟨b, off + j, none⟩ = some (.slice A2 n ca2)) (by kernel_rfl) (HS.out _ hB.drew) (fun hHeld => ?_)
            obtain ⟨w1, hw⟩ : ∃ W, W = World.drew w0 := ⟨_, rfl⟩
            have kb : Below w0.heap.size w0 w1 := by rw [hw]; exact (Below.refl _ _).drew
            rw [← hw] at hHeld ⊢
            clear hw
            replace hB := onS hB kb
            clear kb
            refine wpAnyH_take (i := 0) (v := ?_) (by simp only [List.getElem?_toArray, List.getElem?_cons_zero]; rfl) (by kernel_rfl) (by kernel_rfl) (by kernel_rfl) (by exact fun _ _ _ h => h) (Or.inl ⟨by rfl, ?_⟩) (by assumption) ?_
            rotate_left
            · (intro w hSw; (try dsimp only at hSw); go_simp); first | done | with_reducible rfl
            try simp only [Act.put, List.setIfInBounds_toArray, List.set_cons_zero, List.set_cons_succ]
            refine wpAnyH_take (i := 1) (v := ?_) (by simp only [List.getElem?_toArray, List.getElem?_cons_succ, List.getElem?_cons_zero]; rfl) (by kernel_rfl) (by kernel_rfl) (by kernel_rfl) (by exact fun _ _ _ h => h) (Or.inl ⟨by rfl, ?_⟩) (by assumption) ?_
            rotate_left
            · (intro w hSw; (try dsimp only at hSw); go_simp); first | done | with_reducible rfl
            try simp only [Act.put, List.setIfInBounds_toArray, List.set_cons_zero, List.set_cons_succ]
            refine wpAnyH_take (i := 2) (v := ?_) (by simp only [List.getElem?_toArray, List.getElem?_cons_succ, List.getElem?_cons_zero]; rfl) (by kernel_rfl) (by kernel_rfl) (by kernel_rfl) (by exact fun _ _ _ h => h) (Or.inl ⟨by rfl, ?_⟩) (by assumption) ?_
            rotate_left
            · (intro w hSw; (try dsimp only at hSw); go_simp); first | done | with_reducible rfl
            try simp only [Act.put, List.setIfInBounds_toArray, List.set_cons_zero, List.set_cons_succ]
            refine wpAnyH_take (i := 3) (v := ?_) (by simp only [List.getElem?_toArray, List.getElem?_cons_succ, List.getElem?_cons_zero]; rfl) (by kernel_rfl) (by kernel_rfl) (by kernel_rfl) (by exact fun _ _ _ h => h) (Or.inl ⟨by rfl, ?_⟩) (by assumption) ?_
            rotate_left
            · (intro w hSw; (try dsimp only at hSw); go_simp); first | done | with_reducible rfl
            try simp only [Act.put, List.setIfInBounds_toArray, List.set_cons_zero, List.set_cons_succ]
            refine wpAnyH_take (i := 4) (v := ?_) (by simp only [List.getElem?_toArray, List.getElem?_cons_succ, List.getElem?_cons_zero]; rfl) (by kernel_rfl) (by kernel_rfl) (by kernel_rfl) (by exact fun _ _ _ h => h) (Or.inl ⟨by rfl, ?_⟩) (by assumption) ?_
            rotate_left
            · (intro w hSw; (try dsimp only at hSw); go_simp); first | done | with_reducible rfl
            try simp only [Act.put, List.setIfInBounds_toArray, List.set_cons_zero, List.set_cons_succ]
            refine wpAnyH_take (i := 5) (v := ?_) (by simp only [List.getElem?_toArray, List.getElem?_cons_succ, List.getElem?_cons_zero]; rfl) (by kernel_rfl) (by kernel_rfl) (by kernel_rfl) (by exact fun _ _ _ h => h) (Or.inl ⟨by rfl, ?_⟩) (by assumption) ?_
            rotate_left
            · (intro w hSw; (try dsimp only at hSw); go_simp); first | done | with_reducible rfl
            try simp only [Act.put, List.setIfInBounds_toArray, List.set_cons_zero, List.set_cons_succ]
            refine wpAnyH_take (i := 6) (v := ?_) (by simp only [List.getElem?_toArray, List.getElem?_cons_succ, List.getElem?_cons_zero]; rfl) (by kernel_rfl) (by kernel_rfl) (by kernel_rfl) (by exact fun _ _ _ h => h) (Or.inl ⟨by rfl, ?_⟩) (by assumption) ?_
            rotate_left
            · (intro w hSw; (try dsimp only at hSw); go_simp); first | done | with_reducible rfl
            try simp only [Act.put, List.setIfInBounds_toArray, List.set_cons_zero, List.set_cons_succ]
            refine wpAnyH_take (i := 7) (v := ?_) (by simp only [List.getElem?_toArray, List.getElem?_cons_succ, List.getElem?_cons_zero]; rfl) (by kernel_rfl) (by kernel_rfl) (by kernel_rfl) (by exact fun _ _ _ h => h) (Or.inl ⟨by rfl, ?_⟩) (by assumption) ?_
            rotate_left
            · (intro w hSw; (try dsimp only at hSw); go_simp); first | done | with_reducible rfl
            try simp only [Act.put, List.setIfInBounds_toArray, List.set_cons_zero, List.set_cons_succ]
            refine wpAnyH_take (i := 9) (v := ?_) (by simp only [List.getElem?_toArray, List.getElem?_cons_succ, List.getElem?_cons_zero]; rfl) (by kernel_rfl) (by kernel_rfl) (by kernel_rfl) (by exact fun _ _ _ h => h) (Or.inl ⟨by rfl, ?_⟩) (by assumption) ?_
            rotate_left
            · (intro w hSw; (try dsimp only at hSw); go_simp); first | done | with_reducible rfl
            try simp only [Act.put, List.setIfInBounds_toArray, List.set_cons_zero, List.set_cons_succ]
            refine wpAnyH_ready (rs := [8]) (by kernel_rfl) (by simp) ?_
            refine AllReadyH.cons (by simp only [List.getElem?_toArray, List.getElem?_cons_succ, List.getElem?_cons_zero]; rfl) (fun K hK => ?_) AllReadyH.nil
            go_simp
            go_wp2_with fail
            refine (distance_any A A2 n ca ca2 (W i) (W j) _ (hints.on hB) (hints2.on hB) (by omega)).mono ?_
            rintro e w2 ⟨rfl, kb⟩
            replace hB := onS hB kb
            clear kb
            rw [← HD.out]
            refine hK.out _ _ (HS.out _ hB) (fun hHeld => ?_)
            clear hK K
            try simp only [Act.put, List.setIfInBounds_toArray, List.set_cons_zero, List.set_cons_succ]
            refine wpAnyH_take (i := 10) (v := ?_) (by simp only [List.getElem?_toArray, List.getElem?_cons_succ, List.getElem?_cons_zero]; rfl) (by kernel_rfl) (by kernel_rfl) (by kernel_rfl) (by exact fun _ _ _ h => h) (Or.inl ⟨by rfl, ?_⟩) (by assumption) ?_
            rotate_left
            · (intro w hSw; (try dsimp only at hSw); go_simp); first | done | with_reducible rfl
            try simp only [Act.put, List.setIfInBounds_toArray, List.set_cons_zero, List.set_cons_succ]
            refine wpAnyH_done (by kernel_rfl) ?_ _
            clear hHeld
            clear HS
            go_wp2
            go_ret
            exact apartPost_no hB
        · obtain rfl : j = i := by omega
          have hlj' : ¬ (j : Int) < (j : Int) := by omega
          have hnx : Hid (∀ i', i' < j + 1 → ∀ j', j' < i' → d ≤ (disN (W i') (W j') n : Int)) := fun i' hi' => by
            by_cases ei : i' = j
            · rw [ei]; exact HJ.out
            · exact HG.out i' (by omega)
          go_wp2
          go_roundg (gI - 1)
          case measure => omega
          case rel => exact ⟨j + 1, by go_num, by omega, by omega, hnx.out, hB⟩
    · obtain rfl : i = M := by omega
      have hlt' : ¬ (i : Int) < (i : Int) := by omega
      go_wp2
      go_ret
      exact ⟨true, rfl, fun _ => HG.out, hB⟩

set_option maxHeartbeats 4000000 in
theorem holds_any (A : Option Addr) (c x n : Nat) (w : World) (h : NatOk w w.heap.size A x) (hx : dl x ≤ 1000) (hn : n ≤ 1048576) (hle : n ≤ x) :
    Calls Try.prog 48 #[.int .i64 (n : Nat), .slice A (dl x) c, .int .i64 0] w fun e w' => e = .returned (.bool true) ∧ Below w.heap.size w w' := by
  have hcmp : Hid (cmpN n x ≤ 0) := by
    show cmpN n x ≤ 0
    unfold cmpN
    split
    · omega
    · split <;> omega
  have hdn : dl n ≤ 1 := dl_le (by omega)
  have hn0 : (0 : Int) ≤ (n : Int) := by omega
  have hn1 : (n : Int) ≤ 1048576 := by omega
  go_enter Try.func48, Try.ntmps48
  go_wp2_with fail
  refine (refOf_any n _ (by omega)).mono ?_
  rintro e w1 ⟨B, b, rfl, e1, e2, e3, kb⟩
  have hB := kb
  go_wp2_with fail
  refine (refCmp_any B A b c n x _ e3 (h.on kb) (by omega) (by omega)).mono ?_
  rintro e w2 ⟨rfl, rfl⟩
  obtain ⟨v, hv⟩ : ∃ v, v = cmpN n x := ⟨_, rfl⟩
  have hv0 : v ≤ 0 := by rw [hv]; exact hcmp.out
  rw [← hv]
  clear hv kb e1 e2 e3
  go_wp2
  go_ret
  exact ⟨rfl, hB⟩
end Go.Proofs.Ytgininddoalenaa
