/- The law TrellisIsomorphic. -/
import Derived.Test.YtnocbkhnmdmfhaaIsoRef
import Derived.Test.YtnocbkhnmdmfhaaFewT
namespace Go.Proofs.Ytnocbkhnmdmfhaa
open Go.RowKit

set_option maxRecDepth 100000 in
set_option maxHeartbeats 8000000 in
theorem trellisIso_any (T U : Trel) (A B A' B' : Option Addr) (c d c' d' : Nat) (w : World) (hT : T.Reads w A B) (hU : U.Reads w A' B') (hc : T.nw ≤ c) (hc' : U.nw ≤ c') :
    Calls Try.prog 9 #[.agg #[.slice A T.nw c, .slice B T.n d], .agg #[.slice A' U.nw c', .slice B' U.n d']] w fun e w' => e = .returned (.bool true) ∧ Below w.heap.size w w' := by
  obtain ⟨R1, hR1⟩ : ∃ o, o = (Obj.cells #[.slice A T.nw c, .slice B T.n d] 25) := ⟨_, rfl⟩
  obtain ⟨R2, hR2⟩ : ∃ o, o = (Obj.cells #[.slice A' U.nw c', .slice B' U.n d'] 25) := ⟨_, rfl⟩
  have hB : Below (w.heap.size + 2) ((w.alloc R1).alloc R2) ((w.alloc R1).alloc R2) := Below.refl _ _
  have HS : Hid (∀ w', Below (w.heap.size + 2) ((w.alloc R1).alloc R2) w' → (w'.cell? ⟨w.heap.size, 0, none⟩ = some (.slice A T.nw c) ∧ w'.cell? ⟨w.heap.size, 1, none⟩ = some (.slice B T.n d) ∧ w'.cell? ⟨w.heap.size + 1, 0, none⟩ = some (.slice A' U.nw c') ∧ w'.cell? ⟨w.heap.size + 1, 1, none⟩ = some (.slice B' U.n d')) ∧ Below w.heap.size w w') := fun w' hB => by
    have k1 := box2_one hB
    have k2 : w'.rowIs (w.heap.size + 1) 25 2 (fun i => (#[Value.slice A' U.nw c', .slice B' U.n d'] : Array Value).getD i undef) := by subst hR2; exact box2_two hB
    have hB' := tbox_below k1
    subst hR1
    exact ⟨⟨tbox k1 rfl, tbox k1 rfl, k2.cell (i := 0) (by omega), k2.cell (i := 1) (by omega)⟩, hB'⟩
  have HT := hid hT
  have HU := hid hU
  clear hT hU
  go_enter Try.func9, Try.ntmps9
  go_upto_region 1 with fail
  rw [← hR1, ← hR2]
  clear hR1 hR2
  obtain ⟨w1, hw1⟩ : ∃ W, W = (w.alloc R1).alloc R2 := ⟨_, rfl⟩
  have hz : w.heap.size + 2 ≤ w1.heap.size := by rw [hw1]; simp
  replace hB : Below (w.heap.size + 2) ((w.alloc R1).alloc R2) w1 := by rw [hw1]; exact hB
  rw [← hw1]
  clear hw1
  obtain ⟨⟨p0, p1, p2, p3⟩, hW⟩ := HS.out _ hB
  go_wp2_with fail
  refine (fewT_any T A B c d 3000 (by omega) w1 (HT.out.on hW)).mono ?_
  rintro e w2 ⟨⟨f1, rfl⟩, kb⟩
  replace hB := hB.trans (kb.mono hz)
  replace hz := Nat.le_trans hz kb.size
  clear kb p0 p1 p2 p3 hW
  obtain ⟨⟨p0, p1, p2, p3⟩, hW⟩ := HS.out _ hB
  cases f1
  · go_wp2_with fail
    refine (alive47_any _).mono ?_
    rintro e w3 ⟨rfl, kb⟩
    have hWf := onS hW kb
    clear kb
    go_wp2
    go_ret
    exact ⟨rfl, hWf⟩
  · go_wp2_with fail
    refine (fewT_any U A' B' c' d' 3000 (by omega) w2 (HU.out.on hW)).mono ?_
    rintro e w3 ⟨⟨f2, rfl⟩, kb⟩
    replace hB := hB.trans (kb.mono hz)
    replace hz := Nat.le_trans hz kb.size
    clear kb p0 p1 p2 p3 hW
    obtain ⟨⟨p0, p1, p2, p3⟩, hW⟩ := HS.out _ hB
    cases f2
    · go_wp2_with fail
      refine (alive47_any _).mono ?_
      rintro e w4 ⟨rfl, kb⟩
      have hWf := onS hW kb
      clear kb
      go_wp2
      go_ret
      exact ⟨rfl, hWf⟩
    · obtain ⟨wr1, hwr⟩ : ∃ W, W = w3 := ⟨_, rfl⟩
      subst hwr
      go_wp2
      clear p0 p1 p2 p3 hW
      refine wp_region_held_drew (S := fun w' => w'.cell? ⟨w.heap.size, 0, none⟩ = some (.slice A T.nw c) ∧ w'.cell? ⟨w.heap.size, 1, none⟩ = some (.slice B T.n d) ∧ w'.cell? ⟨w.heap.size + 1, 0, none⟩ = some (.slice A' U.nw c') ∧ w'.cell? ⟨w.heap.size + 1, 1, none⟩ = some (.slice B' U.n d')) (by kernel_rfl) (HS.out _ hB.drew).1 (fun hHeld => ?_)
      obtain ⟨wd, hw⟩ : ∃ W, W = World.drew wr1 := ⟨_, rfl⟩
      replace hB : Below (w.heap.size + 2) ((w.alloc R1).alloc R2) wd := by rw [hw]; exact hB.drew
      replace hz : w.heap.size + 2 ≤ wd.heap.size := by rw [hw]; exact hz
      rw [← hw] at hHeld ⊢
      clear hw
      obtain ⟨w3, hw3⟩ : ∃ W, W = wd := ⟨_, rfl⟩
      subst hw3
      refine wpAnyH_take (i := 0) (v := ?_) (by simp only [List.getElem?_toArray, List.getElem?_cons_zero]; rfl) (by kernel_rfl) (by kernel_rfl) (by kernel_rfl) (by exact fun _ _ _ h => h) (Or.inl ⟨by rfl, ?_⟩) (by assumption) ?_
      rotate_left
      · (intro w hSw; (try dsimp only at hSw); go_simp); first | done | with_reducible rfl
      try simp only [Act.put, List.setIfInBounds_toArray, List.set_cons_zero, List.set_cons_succ]
      refine wpAnyH_take (i := 1) (v := ?_) (by simp only [List.getElem?_toArray, List.getElem?_cons_succ, List.getElem?_cons_zero]; rfl) (by kernel_rfl) (by kernel_rfl) (by kernel_rfl) (by exact fun _ _ _ h => h) (Or.inl ⟨by rfl, ?_⟩) (by assumption) ?_
      rotate_left
      · (intro w hSw; (try dsimp only at hSw); go_simp); first | done | with_reducible rfl
      try simp only [Act.put, List.setIfInBounds_toArray, List.set_cons_zero, List.set_cons_succ]
      refine wpAnyH_take (i := 3) (v := ?_) (by simp only [List.getElem?_toArray, List.getElem?_cons_succ, List.getElem?_cons_zero]; rfl) (by kernel_rfl) (by kernel_rfl) (by kernel_rfl) (by exact fun _ _ _ h => h) (Or.inl ⟨by rfl, ?_⟩) (by assumption) ?_
      rotate_left
      · (intro w hSw; (try dsimp only at hSw); go_simp); first | done | with_reducible rfl
      try simp only [Act.put, List.setIfInBounds_toArray, List.set_cons_zero, List.set_cons_succ]
      refine wpAnyH_take (i := 4) (v := ?_) (by simp only [List.getElem?_toArray, List.getElem?_cons_succ, List.getElem?_cons_zero]; rfl) (by kernel_rfl) (by kernel_rfl) (by kernel_rfl) (by exact fun _ _ _ h => h) (Or.inl ⟨by rfl, ?_⟩) (by assumption) ?_
      rotate_left
      · (intro w hSw; (try dsimp only at hSw); go_simp); first | done | with_reducible rfl
      try simp only [Act.put, List.setIfInBounds_toArray, List.set_cons_zero, List.set_cons_succ]
      refine wpAnyH_ready (rs := [2]) (by kernel_rfl) (by simp) ?_
      refine AllReadyH.cons (by simp only [List.getElem?_toArray, List.getElem?_cons_succ, List.getElem?_cons_zero]; rfl) (fun K hK => ?_) AllReadyH.nil
      go_simp
      go_wp2_with fail
      refine (iso_any T U A B A' B' c d c' d' w3 (HT.out.on (HS.out _ hB).2) (HU.out.on (HS.out _ hB).2) hc hc').mono ?_
      rintro e w4 ⟨r, rfl, hr, kb⟩
      replace hB := hB.trans (kb.mono hz)
      replace hz := Nat.le_trans hz kb.size
      clear kb
      refine hK.out _ _ (HS.out _ hB).1 (fun hHeld => ?_)
      clear hK K
      try simp only [Act.put, List.setIfInBounds_toArray, List.set_cons_zero, List.set_cons_succ]
      refine wpAnyH_ready (rs := [5]) (by kernel_rfl) (by simp) ?_
      refine AllReadyH.cons (by simp only [List.getElem?_toArray, List.getElem?_cons_succ, List.getElem?_cons_zero]; rfl) (fun K hK => ?_) AllReadyH.nil
      go_simp
      go_wp2_with fail
      refine (refIso_any T U A B A' B' c d c' d' w4 (HT.out.on (HS.out _ hB).2) (HU.out.on (HS.out _ hB).2)).mono ?_
      rintro e w5 ⟨s, rfl, hs, kb⟩
      replace hB := hB.trans (kb.mono hz)
      replace hz := Nat.le_trans hz kb.size
      clear kb
      obtain rfl : r = s := by
        cases r <;> cases s
        · rfl
        · exact hr.2 (hs.1 rfl)
        · exact (hs.2 (hr.1 rfl)).symm
        · rfl
      have hrr : (r == r) = true := by simp
      clear hr hs
      refine hK.out _ _ (HS.out _ hB).1 (fun hHeld => ?_)
      clear hK K
      try simp only [Act.put, List.setIfInBounds_toArray, List.set_cons_zero, List.set_cons_succ]
      refine wpAnyH_take (i := 6) (v := ?_) (by simp only [List.getElem?_toArray, List.getElem?_cons_succ, List.getElem?_cons_zero]; rfl) (by kernel_rfl) (by kernel_rfl) (by kernel_rfl) (by exact fun _ _ _ h => h) (Or.inl ⟨by rfl, ?_⟩) (by assumption) ?_
      rotate_left
      · (intro w hSw; (try dsimp only at hSw); go_simp); first | done | with_reducible rfl
      try simp only [Act.put, List.setIfInBounds_toArray, List.set_cons_zero, List.set_cons_succ]
      refine wpAnyH_take (i := 7) (v := ?_) (by simp only [List.getElem?_toArray, List.getElem?_cons_succ, List.getElem?_cons_zero]; rfl) (by kernel_rfl) (by kernel_rfl) (by kernel_rfl) (by exact fun _ _ _ h => h) (Or.inl ⟨by rfl, ?_⟩) (by assumption) ?_
      rotate_left
      · (intro w hSw; (try dsimp only at hSw); go_simp); first | done | with_reducible rfl
      try simp only [Act.put, List.setIfInBounds_toArray, List.set_cons_zero, List.set_cons_succ]
      refine wpAnyH_ready (rs := [8]) (by kernel_rfl) (by simp) ?_
      refine AllReadyH.cons (by simp only [List.getElem?_toArray, List.getElem?_cons_succ, List.getElem?_cons_zero]; rfl) (fun K hK => ?_) AllReadyH.nil
      go_simp
      go_wp2_with fail
      refine (alive47_any w5).mono ?_
      rintro e w6 ⟨rfl, kb⟩
      replace hB := hB.trans (kb.mono hz)
      replace hz := Nat.le_trans hz kb.size
      clear kb
      refine hK.out _ _ (HS.out _ hB).1 (fun hHeld => ?_)
      clear hK K
      try simp only [Act.put, List.setIfInBounds_toArray, List.set_cons_zero, List.set_cons_succ]
      refine wpAnyH_take (i := 9) (v := ?_) (by simp only [List.getElem?_toArray, List.getElem?_cons_succ, List.getElem?_cons_zero]; rfl) (by kernel_rfl) (by kernel_rfl) (by kernel_rfl) (by exact fun _ _ _ h => h) (Or.inl ⟨by rfl, ?_⟩) (by assumption) ?_
      rotate_left
      · (intro w hSw; (try dsimp only at hSw); go_simp); first | done | with_reducible rfl
      try simp only [Act.put, List.setIfInBounds_toArray, List.set_cons_zero, List.set_cons_succ]
      refine wpAnyH_take (i := 10) (v := ?_) (by simp only [List.getElem?_toArray, List.getElem?_cons_succ, List.getElem?_cons_zero]; rfl) (by kernel_rfl) (by kernel_rfl) (by kernel_rfl) (by exact fun _ _ _ h => h) (Or.inl ⟨by rfl, ?_⟩) (by assumption) ?_
      rotate_left
      · (intro w hSw; (try dsimp only at hSw); go_simp); first | done | with_reducible rfl
      try simp only [Act.put, List.setIfInBounds_toArray, List.set_cons_zero, List.set_cons_succ]
      refine wpAnyH_done (by kernel_rfl) ?_ _
      clear hHeld
      have hWf := (HS.out _ hB).2
      go_wp2
      go_ret
      exact ⟨rfl, hWf⟩
theorem trellisIso_law {H : Type} {enc : TypeId × Value → H} {w : World} {cs cs2 : Array Value} (h : SeesW enc Try.prog w 0 (fun _ => true) true 25 cs.toList)
    (h2 : SeesW enc Try.prog w 0 (fun _ => true) true 25 cs2.toList) :
    Calls Try.prog 9 #[.agg cs, .agg cs2] w fun e w' => e = .returned (.bool true) ∧ Below w.heap.size w w' := by
  obtain ⟨cs⟩ := cs
  obtain ⟨cs2⟩ := cs2
  obtain ⟨T, A, B, c, d, rfl, hT, hc, _⟩ := sees_trel h
  obtain ⟨U, A', B', c', d', rfl, hU, hc', _⟩ := sees_trel h2
  exact trellisIso_any T U A B A' B' c d c' d' w hT hU hc hc'
end Go.Proofs.Ytnocbkhnmdmfhaa
