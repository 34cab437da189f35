/- codewrightref11: Compare, Same and SameLists at lists that are the same. -/
import Derived.Test.YtnocbkhnmdmfhaaTabL
namespace Go.Proofs.Ytnocbkhnmdmfhaa
open Go.RowKit

set_option maxHeartbeats 4000000 in
theorem compare_same (A B : Option Addr) (n c d : Nat) (f : Nat → Int) (w : World) (ha : IntsR w w.heap.size A n f) (hb : IntsR w w.heap.size B n f) (hn : n ≤ 1048576) :
    Calls Try.prog 46 #[.slice A n c, .slice B n d] w fun e w' => e = .returned (.int .i64 0) ∧ Below w.heap.size w w' := by
  have HA := hid ha
  have HB := hid hb
  clear ha hb
  go_enter Try.func46, Try.ntmps46
  go_wp2
  go_loopg [5] n (fun g iv wx => ∃ k : Nat, iv = .int .i64 (k : Nat) ∧ k ≤ n ∧ n ≤ k + g ∧ Below w.heap.size w wx)
  case atStart => exact ⟨0, rfl, by omega, by omega, Below.refl _ _⟩
  case round =>
    obtain ⟨k, rfl, hk, hkg, hW⟩ := hrel
    have hk0 : (0 : Int) ≤ (k : Int) := by omega
    by_cases hlt : k < n
    · have hlt' : (k : Int) < (n : Int) := by omega
      have hd : decide ((k : Int) < (n : Int)) = true := by simp; omega
      obtain ⟨ab, ao, rfl, hab, x0⟩ := (HA.out.on hW).at hlt
      obtain ⟨bb, bo, rfl, hbb, y0⟩ := (HB.out.on hW).at hlt
      obtain ⟨x, hx⟩ : ∃ x, x = f k := ⟨_, rfl⟩
      rw [← hx] at x0 y0
      clear hx
      have h1 : ¬ x < x := by omega
      have h2 : ¬ x > x := by omega
      go_wp2
      go_quiet (fail)
      go_wp2
      go_quiet (fail)
      go_wp2
      go_roundg (gk - 1)
      case measure => omega
      case rel => exact ⟨k + 1, by go_num, by omega, by omega, below_drewN hW _⟩
    · have hlt' : ¬ (k : Int) < (n : Int) := by omega
      have hd : decide ((k : Int) < (n : Int)) = false := by simp; omega
      have hnn : ¬ (n : Int) < (n : Int) := by omega
      obtain rfl : k = n := by omega
      go_wp2
      go_ret
      exact ⟨rfl, hW⟩
theorem TabL.read {w : World} {b N c : Nat} {A : Option Addr} {L : List (List Int)} (h : TabL w b (.slice A N c) L) {k : Nat} (hk : k < L.length) :
    ∃ wb wo RA rc, A = some ⟨wb, wo, none⟩ ∧ wb < w.heap.size ∧ w.cell? ⟨wb, wo + k, none⟩ = some (.slice RA (L.getD k []).length rc) ∧ OwnL w b (.slice RA (L.getD k []).length rc) (L.getD k []) := by
  obtain ⟨R, hA, hB⟩ := h
  obtain ⟨A1, c1, e1⟩ := hA.shape
  injection e1 with e1 e2 e3
  subst e1 e2 e3
  obtain ⟨wb, wo, e, hb1, hc1⟩ := hA.rd rfl k hk
  have g1 := hc1 0 (by omega)
  rw [Nat.mul_one, Nat.add_zero] at g1
  have hr := hB k hk
  obtain ⟨RA, rc, hR⟩ := Own.shape hr
  rw [hR] at hr
  exact ⟨wb, wo, RA, rc, e, hb1, by rw [g1, ← hR], hr⟩
set_option maxHeartbeats 4000000 in
theorem sameLists_any (b1 b2 : Nat) (v1 v2 : Value) (L : List (List Int)) (w0 : World) (h1 : TabL w0 b1 v1 L) (h2 : TabL w0 b2 v2 L) (hl : ∀ l, l ∈ L → l.length ≤ 1048576) :
    Calls Try.prog 33 #[v1, v2] w0 fun e w' => e = .returned (.bool true) ∧ Below w0.heap.size w0 w' := by
  obtain ⟨A1, c1, rfl⟩ := h1.shape
  obtain ⟨A2, c2, rfl⟩ := h2.shape
  have H1 := hid h1
  have H2 := hid h2
  have HL := hid hl
  obtain ⟨n, hn⟩ : ∃ n, n = L.length := ⟨_, rfl⟩
  have HN := hid hn
  rw [← hn] at H1 H2 ⊢
  have hnb : n ≤ 9223372036854775807 := by
    obtain ⟨R, hA, _⟩ := h1
    have := hA.len_le
    unfold maxLen at this
    omega
  clear h1 h2 hl hn
  have hnn : ((n : Int) != (n : Int)) = false := by simp
  go_enter Try.func33, Try.ntmps33
  go_wp2
  go_loopg [5] n (fun g iv wx => ∃ k : Nat, iv = .int .i64 (k : Nat) ∧ k ≤ n ∧ n ≤ k + g ∧ Below w0.heap.size w0 wx)
  case atStart => exact ⟨0, rfl, by omega, by omega, Below.refl _ _⟩
  case round =>
    obtain ⟨k, rfl, hk, hkg, hW⟩ := hrel
    have hk0 : (0 : Int) ≤ (k : Int) := by omega
    by_cases hlt : k < n
    · have hlt' : (k : Int) < (n : Int) := by omega
      obtain ⟨ab, ao, RA, ra, rfl, hab, x0, hx⟩ := (H1.out.on hW).read (k := k) (by rw [← HN.out]; exact hlt)
      obtain ⟨bb, bo, RB, rb, rfl, hbb, y0, hy⟩ := (H2.out.on hW).read (k := k) (by rw [← HN.out]; exact hlt)
      have hm := HL.out (L.getD k []) (by rw [List.getD_eq_getElem?_getD, List.getElem?_eq_getElem (by rw [← HN.out]; exact hlt)]; exact List.getElem_mem _)
      obtain ⟨l, hle⟩ : ∃ l, l = L.getD k [] := ⟨_, rfl⟩
      rw [← hle] at x0 y0 hx hy hm
      have hxr : IntsR wr wr.heap.size RA l.length (fun j => l.getD j 0) := Own.rd hx rfl
      have hyr : IntsR wr wr.heap.size RB l.length (fun j => l.getD j 0) := Own.rd hy rfl
      obtain ⟨m, hmm⟩ : ∃ m, m = l.length := ⟨_, rfl⟩
      rw [← hmm] at x0 y0 hxr hyr hm
      clear hle hx hy hmm
      obtain ⟨w1, hw1⟩ : ∃ W, W = wr := ⟨_, rfl⟩
      subst hw1
      go_upto_region 6 with fail
      refine wp_region_held_drew (S := fun w' => w'.cell? ⟨ab, ao + k, none⟩ = some (.slice RA m ra) ∧ w'.cell? ⟨bb, bo + k, none⟩ = some (.slice RB m rb)) (by kernel_rfl) ⟨cellS (Below.refl _ _).drew x0, cellS (Below.refl _ _).drew y0⟩ (fun hHeld => ?_)
      obtain ⟨w2, hw⟩ : ∃ W, W = World.drew w1 := ⟨_, rfl⟩
      have kb : Below w1.heap.size w1 w2 := by rw [hw]; exact (Below.refl _ _).drew
      rw [← hw] at hHeld ⊢
      clear hw
      replace hW := onS hW kb
      replace hxr := hxr.on kb
      replace hyr := hyr.on kb
      replace x0 := cellS kb x0
      replace y0 := cellS kb y0
      clear kb
      refine wpAnyH_take (i := 0) (v := ?_) (by simp only [List.getElem?_toArray, List.getElem?_cons_zero]; rfl) (by kernel_rfl) (by kernel_rfl) (by kernel_rfl) (by exact fun _ _ _ h => h) (Or.inl ⟨by rfl, ?_⟩) (by assumption) ?_
      rotate_left
      · (intro w hSw; (try dsimp only at hSw); go_simp); first | done | with_reducible rfl
      try simp only [Act.put, List.setIfInBounds_toArray, List.set_cons_zero, List.set_cons_succ]
      refine wpAnyH_take (i := 1) (v := ?_) (by simp only [List.getElem?_toArray, List.getElem?_cons_succ, List.getElem?_cons_zero]; rfl) (by kernel_rfl) (by kernel_rfl) (by kernel_rfl) (by exact fun _ _ _ h => h) (Or.inl ⟨by rfl, ?_⟩) (by assumption) ?_
      rotate_left
      · (intro w hSw; (try dsimp only at hSw); go_simp); first | done | with_reducible rfl
      try simp only [Act.put, List.setIfInBounds_toArray, List.set_cons_zero, List.set_cons_succ]
      refine wpAnyH_take (i := 2) (v := ?_) (by simp only [List.getElem?_toArray, List.getElem?_cons_succ, List.getElem?_cons_zero]; rfl) (by kernel_rfl) (by kernel_rfl) (by kernel_rfl) (by exact fun _ _ _ h => h) (Or.inl ⟨by rfl, ?_⟩) (by assumption) ?_
      rotate_left
      · (intro w hSw; (try dsimp only at hSw); go_simp); first | done | with_reducible rfl
      try simp only [Act.put, List.setIfInBounds_toArray, List.set_cons_zero, List.set_cons_succ]
      refine wpAnyH_take (i := 3) (v := ?_) (by simp only [List.getElem?_toArray, List.getElem?_cons_succ, List.getElem?_cons_zero]; rfl) (by kernel_rfl) (by kernel_rfl) (by kernel_rfl) (by exact fun _ _ _ h => h) (Or.inl ⟨by rfl, ?_⟩) (by assumption) ?_
      rotate_left
      · (intro w hSw; (try dsimp only at hSw); go_simp); first | done | with_reducible rfl
      try simp only [Act.put, List.setIfInBounds_toArray, List.set_cons_zero, List.set_cons_succ]
      refine wpAnyH_take (i := 4) (v := ?_) (by simp only [List.getElem?_toArray, List.getElem?_cons_succ, List.getElem?_cons_zero]; rfl) (by kernel_rfl) (by kernel_rfl) (by kernel_rfl) (by exact fun _ _ _ h => h) (Or.inl ⟨by rfl, ?_⟩) (by assumption) ?_
      rotate_left
      · (intro w hSw; (try dsimp only at hSw); go_simp); first | done | with_reducible rfl
      try simp only [Act.put, List.setIfInBounds_toArray, List.set_cons_zero, List.set_cons_succ]
      refine wpAnyH_take (i := 5) (v := ?_) (by simp only [List.getElem?_toArray, List.getElem?_cons_succ, List.getElem?_cons_zero]; rfl) (by kernel_rfl) (by kernel_rfl) (by kernel_rfl) (by exact fun _ _ _ h => h) (Or.inl ⟨by rfl, ?_⟩) (by assumption) ?_
      rotate_left
      · (intro w hSw; (try dsimp only at hSw); go_simp); first | done | with_reducible rfl
      try simp only [Act.put, List.setIfInBounds_toArray, List.set_cons_zero, List.set_cons_succ]
      refine wpAnyH_take (i := 6) (v := ?_) (by simp only [List.getElem?_toArray, List.getElem?_cons_succ, List.getElem?_cons_zero]; rfl) (by kernel_rfl) (by kernel_rfl) (by kernel_rfl) (by exact fun _ _ _ h => h) (Or.inl ⟨by rfl, ?_⟩) (by assumption) ?_
      rotate_left
      · (intro w hSw; (try dsimp only at hSw); go_simp); first | done | with_reducible rfl
      try simp only [Act.put, List.setIfInBounds_toArray, List.set_cons_zero, List.set_cons_succ]
      refine wpAnyH_take (i := 7) (v := ?_) (by simp only [List.getElem?_toArray, List.getElem?_cons_succ, List.getElem?_cons_zero]; rfl) (by kernel_rfl) (by kernel_rfl) (by kernel_rfl) (by exact fun _ _ _ h => h) (Or.inl ⟨by rfl, ?_⟩) (by assumption) ?_
      rotate_left
      · (intro w hSw; (try dsimp only at hSw); go_simp); first | done | with_reducible rfl
      try simp only [Act.put, List.setIfInBounds_toArray, List.set_cons_zero, List.set_cons_succ]
      refine wpAnyH_ready (rs := [8]) (by kernel_rfl) (by simp) ?_
      refine AllReadyH.cons (by simp only [List.getElem?_toArray, List.getElem?_cons_succ, List.getElem?_cons_zero]; rfl) (fun K hK => ?_) AllReadyH.nil
      go_simp
      go_wp2_with fail
      refine (compare_same RA RB m ra rb (fun j => l.getD j 0) w2 hxr hyr hm).mono ?_
      rintro e w3 ⟨rfl, kb⟩
      replace hW := onS hW kb
      replace hxr := hxr.on kb
      replace hyr := hyr.on kb
      replace x0 := cellS kb x0
      replace y0 := cellS kb y0
      clear kb
      refine hK.out _ _ ⟨x0, y0⟩ (fun hHeld => ?_)
      clear hK K
      try simp only [Act.put, List.setIfInBounds_toArray, List.set_cons_zero, List.set_cons_succ]
      refine wpAnyH_take (i := 9) (v := ?_) (by simp only [List.getElem?_toArray, List.getElem?_cons_succ, List.getElem?_cons_zero]; rfl) (by kernel_rfl) (by kernel_rfl) (by kernel_rfl) (by exact fun _ _ _ h => h) (Or.inl ⟨by rfl, ?_⟩) (by assumption) ?_
      rotate_left
      · (intro w hSw; (try dsimp only at hSw); go_simp); first | done | with_reducible rfl
      try simp only [Act.put, List.setIfInBounds_toArray, List.set_cons_zero, List.set_cons_succ]
      refine wpAnyH_done (by kernel_rfl) ?_ _
      clear hHeld
      clear x0 y0 hxr hyr
      go_wp2
      go_roundg (gk - 1)
      case measure => omega
      case rel => exact ⟨k + 1, by go_num, by omega, by omega, hW⟩
    · have hlt' : ¬ (k : Int) < (n : Int) := by omega
      obtain rfl : k = n := by omega
      go_wp2
      go_ret
      exact ⟨rfl, hW⟩
end Go.Proofs.Ytnocbkhnmdmfhaa
