/- Edges compared, the world's growth said as an equation: what the sort asks of its closure. -/
import Derived.Test.YtnocbkhnmdmfhaaSortLay
namespace Go.Proofs.Ytnocbkhnmdmfhaa
open Go.RowKit

/-- w' is w with some draws and some blocks behind it. -/
def GG (w w' : World) : Prop := ∃ q os, w' = Go.Sort.grow (w.drewN q) os
theorem GG.refl (w : World) : GG w w := ⟨0, #[], by rw [Go.Sort.grow_empty]; rfl⟩
theorem GG.trans {a b c : World} (h : GG a b) (k : GG b c) : GG a c := by
  obtain ⟨q, os, rfl⟩ := h
  obtain ⟨q', os', rfl⟩ := k
  refine ⟨q + q', os ++ os', ?_⟩
  show Go.Sort.grow (Go.Sort.grow ((a.drewN q).drewN q') os) os' = _
  rw [Go.Sort.grow_grow, World.drewN_drewN]
theorem GG.alloc {a b : World} (h : GG a b) {o : Obj} : GG a (b.alloc o) := h.trans ⟨0, #[o], by rw [Go.Sort.alloc_eq_grow]; rfl⟩
theorem GG.drew {a b : World} (h : GG a b) : GG a b.drew := h.trans ⟨1, #[], by rw [Go.Sort.grow_empty]; rfl⟩
theorem GG.below {a b : World} (h : GG a b) : Below a.heap.size a b := by
  obtain ⟨q, os, rfl⟩ := h
  exact ⟨rfl, rfl, rfl, by simp [Go.Sort.grow, World.drewN], fun k hk => Go.Sort.heap_grow_old (a.drewN q) os hk⟩
theorem cmpI_eq (a b : Int) : Go.Lib.compareInt a b = cmpI a b := rfl
theorem cmp_gg (a b : Int) (w : World) : Calls Try.prog 82 #[.int .i64 a, .int .i64 b] w fun e w' => e = .returned (.int .i64 (cmpI a b)) ∧ Below w.heap.size w w' ∧ GG w w' :=
  (show Calls Try.prog 82 _ _ _ from AnyG.cmp_Compare_int Try.cmpInt a b w).mono fun _ _ ⟨he, hw⟩ => ⟨by rw [he, cmpI_eq], by rw [hw]; exact Below.refl _ _, by rw [hw]; exact GG.refl _⟩
theorem cmpOr_gg (A : Option Addr) (c : Nat) (f : Nat → Int) (w : World) (h : IntsR w w.heap.size A 2 f) :
    Calls Try.prog 81 #[.slice A 2 c] w fun e w' => e = .returned (.int .i64 (orV (f 0) (f 1))) ∧ w' = w := by
  obtain ⟨b, o, rfl, hb, x0⟩ := h.at (i := 0) (by omega)
  obtain ⟨_, _, e1, _, x1⟩ := h.at (i := 1) (by omega)
  injection e1 with e1; injection e1 with e1 e2; subst e1 e2
  obtain ⟨x, hx⟩ : ∃ x, x = f 0 := ⟨_, rfl⟩
  obtain ⟨y, hy⟩ : ∃ x, x = f 1 := ⟨_, rfl⟩
  rw [← hx] at x0 ⊢
  rw [← hy] at x1 ⊢
  clear hx hy h
  go_enter Try.func81, Try.ntmps81
  go_wp2
  go_loopg [5, 8] 2 (fun gg ev iv wx => ∃ k : Nat, iv = .int .i64 (k : Nat) ∧ k ≤ 2 ∧ 2 ≤ k + gg ∧ (1 ≤ k → x = 0) ∧ (2 ≤ k → y = 0) ∧ wx = w)
  case atStart => exact ⟨0, rfl, by omega, by omega, fun h => absurd h (by omega), fun h => absurd h (by omega), rfl⟩
  case round =>
    obtain ⟨k, rfl, hk, hkg, h1, h2, rfl⟩ := hrel
    have H1 := hid h1
    have H2 := hid h2
    clear h1 h2
    by_cases hk2 : k = 2
    · have hlt : ¬ (k : Int) < 2 := by omega
      have hE : Hid (orV x y = 0) := by
        show _ = _
        unfold orV
        rw [if_pos (H1.out (by omega)), H2.out (by omega)]
      clear hk2
      go_wp2
      go_ret
      exact ⟨ret_int hE.out.symm, rfl⟩
    · have hlt : (k : Int) < 2 := by omega
      have hk0 : (0 : Int) ≤ (k : Int) := by omega
      by_cases hk1 : k = 0
      · have xk : wr.cell? ⟨b, o + k, none⟩ = some (.int .i64 x) := by rw [hk1]; exact x0
        by_cases hx : x = 0
        · have hxb : (x != 0) = false := by simp [hx]
          have hxb2 : (x == 0) = true := by simp [hx]
          have HX := hid hx
          have HK := hid hk1
          clear hx x0 x1 hk1 hk2
          go_wp2
          go_roundg (gk - 1)
          case measure => omega
          case rel => exact ⟨k + 1, by go_num, by omega, by omega, fun _ => HX.out, fun h => absurd h (by have := HK.out; omega), rfl⟩
        · have hxb : (x != 0) = true := by simp [hx]
          have hxb2 : (x == 0) = false := by simp [hx]
          have hE : Hid (orV x y = x) := if_neg hx
          clear hx x0 x1 hk1 hk2
          go_wp2
          go_ret
          exact ⟨ret_int hE.out.symm, rfl⟩
      · have xk : wr.cell? ⟨b, o + k, none⟩ = some (.int .i64 y) := by rw [show k = 1 by omega]; exact x1
        have hx : x = 0 := H1.out (by omega)
        by_cases hy : y = 0
        · have hxb : (y != 0) = false := by simp [hy]
          have hxb2 : (y == 0) = true := by simp [hy]
          have HX := hid hx
          have HY := hid hy
          clear hx hy x0 x1 hk1 hk2
          go_wp2
          go_roundg (gk - 1)
          case measure => omega
          case rel => exact ⟨k + 1, by go_num, by omega, by omega, fun _ => HX.out, fun _ => HY.out, rfl⟩
        · have hxb : (y != 0) = true := by simp [hy]
          have hxb2 : (y == 0) = false := by simp [hy]
          have hE : Hid (orV x y = y) := if_pos hx
          clear hx hy x0 x1 hk1 hk2
          go_wp2
          go_ret
          exact ⟨ret_int hE.out.symm, rfl⟩

theorem cmpOr_gg2 (A : Option Addr) (c : Nat) (f : Nat → Int) (w : World) (h : IntsR w w.heap.size A 2 f) :
    Calls Try.prog 81 #[.slice A 2 c] w fun e w' => e = .returned (.int .i64 (orV (f 0) (f 1))) ∧ Below w.heap.size w w' ∧ GG w w' :=
  (cmpOr_gg A c f w h).mono fun _ _ ⟨he, hw⟩ => ⟨he, by rw [hw]; exact Below.refl _ _, by rw [hw]; exact GG.refl _⟩
set_option maxRecDepth 100000 in
set_option maxHeartbeats 4000000 in
theorem less_gg (f l t f' l' t' : Int) (w : World) :
    Calls Try.prog 48 #[.agg #[.int .i64 f, .int .i64 l, .int .i64 t], .agg #[.int .i64 f', .int .i64 l', .int .i64 t']] w fun e w' => e = .returned (.int .i64 (lessV f l f' l')) ∧ Below w.heap.size w w' ∧ GG w w' := by
  go_enter Try.func48, Try.ntmps48
  go_upto_region 1 with fail
  obtain ⟨B1, hB1⟩ : ∃ o, o = (Obj.cells #[.int .i64 f, .int .i64 l, .int .i64 t] 72) := ⟨_, rfl⟩
  obtain ⟨B2, hB2⟩ : ∃ o, o = (Obj.cells #[.int .i64 f', .int .i64 l', .int .i64 t'] 72) := ⟨_, rfl⟩
  rw [← hB1, ← hB2]
  have hb1 : Below (w.heap.size + 1) (w.alloc B1) ((w.alloc B1).alloc B2) := (Below.refl _ _).alloc (by simp) _
  have hW := tbox_below hb1
  have hG : GG w ((w.alloc B1).alloc B2) := (GG.refl w).alloc.alloc
  have p0 : ((w.alloc B1).alloc B2).cell? ⟨w.heap.size, 0, none⟩ = some (.int .i64 f) := by subst hB1; exact tbox hb1 rfl
  have p1 : ((w.alloc B1).alloc B2).cell? ⟨w.heap.size, 1, none⟩ = some (.int .i64 l) := by subst hB1; exact tbox hb1 rfl
  have p2 : ((w.alloc B1).alloc B2).cell? ⟨w.heap.size + 1, 0, none⟩ = some (.int .i64 f') := by subst hB2; simp
  have p3 : ((w.alloc B1).alloc B2).cell? ⟨w.heap.size + 1, 1, none⟩ = some (.int .i64 l') := by subst hB2; simp
  obtain ⟨w1, hw1⟩ : ∃ W, W = (w.alloc B1).alloc B2 := ⟨_, rfl⟩
  rw [← hw1] at hW hG p0 p1 p2 p3 ⊢
  clear hb1 hw1 hB1 hB2
  refine wp_region_held_drew (S := fun w' => w'.cell? ⟨w.heap.size, 0, none⟩ = some (.int .i64 f) ∧ w'.cell? ⟨w.heap.size, 1, none⟩ = some (.int .i64 l) ∧ w'.cell? ⟨w.heap.size + 1, 0, none⟩ = some (.int .i64 f') ∧ w'.cell? ⟨w.heap.size + 1, 1, none⟩ = some (.int .i64 l')) (by kernel_rfl) ⟨cellS (Below.refl _ _).drew p0, cellS (Below.refl _ _).drew p1, cellS (Below.refl _ _).drew p2, cellS (Below.refl _ _).drew p3⟩ (fun hHeld => ?_)
  obtain ⟨w2, hw⟩ : ∃ W, W = World.drew w1 := ⟨_, rfl⟩
  have kb : Below w1.heap.size w1 w2 := by rw [hw]; exact (Below.refl _ _).drew
  have kg : GG w1 w2 := by rw [hw]; exact (GG.refl _).drew
  rw [← hw] at hHeld ⊢
  clear hw
  replace hW := onS hW kb
  replace p0 := cellS kb p0
  replace p1 := cellS kb p1
  replace p2 := cellS kb p2
  replace p3 := cellS kb p3
  clear kb
  replace hG := hG.trans kg
  clear kg
  refine wpAnyH_take (i := 0) (v := ?_) (by simp only [List.getElem?_toArray, List.getElem?_cons_zero]; rfl) (by kernel_rfl) (by kernel_rfl) (by kernel_rfl) (by exact fun _ _ _ h => h) (Or.inl ⟨by rfl, ?_⟩) (by assumption) ?_
  rotate_left
  · (intro w hSw; (try dsimp only at hSw); go_simp); first | done | with_reducible rfl
  try simp only [Act.put, List.setIfInBounds_toArray, List.set_cons_zero, List.set_cons_succ]
  refine wpAnyH_take (i := 1) (v := ?_) (by simp only [List.getElem?_toArray, List.getElem?_cons_succ, List.getElem?_cons_zero]; rfl) (by kernel_rfl) (by kernel_rfl) (by kernel_rfl) (by exact fun _ _ _ h => h) (Or.inl ⟨by rfl, ?_⟩) (by assumption) ?_
  rotate_left
  · (intro w hSw; (try dsimp only at hSw); go_simp); first | done | with_reducible rfl
  try simp only [Act.put, List.setIfInBounds_toArray, List.set_cons_zero, List.set_cons_succ]
  refine wpAnyH_take (i := 2) (v := ?_) (by simp only [List.getElem?_toArray, List.getElem?_cons_succ, List.getElem?_cons_zero]; rfl) (by kernel_rfl) (by kernel_rfl) (by kernel_rfl) (by exact fun _ _ _ h => h) (Or.inl ⟨by rfl, ?_⟩) (by assumption) ?_
  rotate_left
  · (intro w hSw; (try dsimp only at hSw); go_simp); first | done | with_reducible rfl
  try simp only [Act.put, List.setIfInBounds_toArray, List.set_cons_zero, List.set_cons_succ]
  refine wpAnyH_take (i := 3) (v := ?_) (by simp only [List.getElem?_toArray, List.getElem?_cons_succ, List.getElem?_cons_zero]; rfl) (by kernel_rfl) (by kernel_rfl) (by kernel_rfl) (by exact fun _ _ _ h => h) (Or.inl ⟨by rfl, ?_⟩) (by assumption) ?_
  rotate_left
  · (intro w hSw; (try dsimp only at hSw); go_simp); first | done | with_reducible rfl
  try simp only [Act.put, List.setIfInBounds_toArray, List.set_cons_zero, List.set_cons_succ]
  refine wpAnyH_take (i := 5) (v := ?_) (by simp only [List.getElem?_toArray, List.getElem?_cons_succ, List.getElem?_cons_zero]; rfl) (by kernel_rfl) (by kernel_rfl) (by kernel_rfl) (by exact fun _ _ _ h => h) (Or.inl ⟨by rfl, ?_⟩) (by assumption) ?_
  rotate_left
  · (intro w hSw; (try dsimp only at hSw); go_simp); first | done | with_reducible rfl
  try simp only [Act.put, List.setIfInBounds_toArray, List.set_cons_zero, List.set_cons_succ]
  refine wpAnyH_take (i := 6) (v := ?_) (by simp only [List.getElem?_toArray, List.getElem?_cons_succ, List.getElem?_cons_zero]; rfl) (by kernel_rfl) (by kernel_rfl) (by kernel_rfl) (by exact fun _ _ _ h => h) (Or.inl ⟨by rfl, ?_⟩) (by assumption) ?_
  rotate_left
  · (intro w hSw; (try dsimp only at hSw); go_simp); first | done | with_reducible rfl
  try simp only [Act.put, List.setIfInBounds_toArray, List.set_cons_zero, List.set_cons_succ]
  refine wpAnyH_take (i := 7) (v := ?_) (by simp only [List.getElem?_toArray, List.getElem?_cons_succ, List.getElem?_cons_zero]; rfl) (by kernel_rfl) (by kernel_rfl) (by kernel_rfl) (by exact fun _ _ _ h => h) (Or.inl ⟨by rfl, ?_⟩) (by assumption) ?_
  rotate_left
  · (intro w hSw; (try dsimp only at hSw); go_simp); first | done | with_reducible rfl
  try simp only [Act.put, List.setIfInBounds_toArray, List.set_cons_zero, List.set_cons_succ]
  refine wpAnyH_take (i := 8) (v := ?_) (by simp only [List.getElem?_toArray, List.getElem?_cons_succ, List.getElem?_cons_zero]; rfl) (by kernel_rfl) (by kernel_rfl) (by kernel_rfl) (by exact fun _ _ _ h => h) (Or.inl ⟨by rfl, ?_⟩) (by assumption) ?_
  rotate_left
  · (intro w hSw; (try dsimp only at hSw); go_simp); first | done | with_reducible rfl
  try simp only [Act.put, List.setIfInBounds_toArray, List.set_cons_zero, List.set_cons_succ]
  refine wpAnyH_ready (rs := [4]) (by kernel_rfl) (by simp) ?_
  refine AllReadyH.cons (by simp only [List.getElem?_toArray, List.getElem?_cons_succ, List.getElem?_cons_zero]; rfl) (fun K hK => ?_) AllReadyH.nil
  go_simp
  go_wp2_with fail
  refine (cmp_gg f f' w2).mono ?_
  rintro e w3 ⟨rfl, kb, kg⟩
  replace hW := onS hW kb
  replace p0 := cellS kb p0
  replace p1 := cellS kb p1
  replace p2 := cellS kb p2
  replace p3 := cellS kb p3
  clear kb
  replace hG := hG.trans kg
  clear kg
  refine hK.out _ _ ⟨p0, p1, p2, p3⟩ (fun hHeld => ?_)
  clear hK K
  try simp only [Act.put, List.setIfInBounds_toArray, List.set_cons_zero, List.set_cons_succ]
  refine wpAnyH_ready (rs := [9]) (by kernel_rfl) (by simp) ?_
  refine AllReadyH.cons (by simp only [List.getElem?_toArray, List.getElem?_cons_succ, List.getElem?_cons_zero]; rfl) (fun K hK => ?_) AllReadyH.nil
  go_simp
  go_wp2_with fail
  refine (cmp_gg l l' w3).mono ?_
  rintro e w4 ⟨rfl, kb, kg⟩
  replace hW := onS hW kb
  replace p0 := cellS kb p0
  replace p1 := cellS kb p1
  replace p2 := cellS kb p2
  replace p3 := cellS kb p3
  clear kb
  replace hG := hG.trans kg
  clear kg
  refine hK.out _ _ ⟨p0, p1, p2, p3⟩ (fun hHeld => ?_)
  clear hK K
  try simp only [Act.put, List.setIfInBounds_toArray, List.set_cons_zero, List.set_cons_succ]
  refine wpAnyH_ready (rs := [10]) (by kernel_rfl) (by simp) ?_
  refine AllReadyH.cons (by simp only [List.getElem?_toArray, List.getElem?_cons_succ, List.getElem?_cons_zero]; rfl) (fun K hK => ?_) AllReadyH.nil
  go_simp
  obtain ⟨w5, hw⟩ : ∃ W, W = World.alloc w4 (Obj.cells #[.int .i64 (cmpI f f'), .int .i64 (cmpI l l')] 3) := ⟨_, rfl⟩
  have kb : Below w4.heap.size w4 w5 := by rw [hw]; exact (Below.refl _ _).alloc (Nat.le_refl _) _
  have kg : GG w4 w5 := by rw [hw]; exact (GG.refl _).alloc
  have hi : IntsR w5 w5.heap.size (some ⟨w4.heap.size, 0, none⟩) 2 (fun i => if i = 0 then cmpI f f' else cmpI l l') := by
    rw [hw]
    intro i hi
    refine ⟨_, 0, rfl, by simp, fun j hj => ?_⟩
    obtain rfl : j = 0 := by omega
    match i, hi with
    | 0, _ => simp
    | 1, _ => simp
  rw [← hw]
  clear hw
  obtain ⟨nb, hnb⟩ : ∃ b, b = w4.heap.size := ⟨_, rfl⟩
  rw [← hnb] at hi ⊢
  clear hnb
  replace hW := onS hW kb
  replace p0 := cellS kb p0
  replace p1 := cellS kb p1
  replace p2 := cellS kb p2
  replace p3 := cellS kb p3
  clear kb
  replace hG := hG.trans kg
  clear kg
  refine hK.out _ _ ⟨p0, p1, p2, p3⟩ (fun hHeld => ?_)
  clear hK K
  try simp only [Act.put, List.setIfInBounds_toArray, List.set_cons_zero, List.set_cons_succ]
  refine wpAnyH_ready (rs := [11]) (by kernel_rfl) (by simp) ?_
  refine AllReadyH.cons (by simp only [List.getElem?_toArray, List.getElem?_cons_succ, List.getElem?_cons_zero]; rfl) (fun K hK => ?_) AllReadyH.nil
  go_simp
  go_wp2_with fail
  refine ((show Calls _ _ _ _ (fun e w' => e = .returned (.int .i64 (lessV f l f' l')) ∧ Below w5.heap.size w5 w' ∧ GG w5 w') from cmpOr_gg2 (some ⟨nb, 0, none⟩) 2 _ w5 hi)).mono ?_
  rintro e w6 ⟨rfl, kb, kg⟩
  replace hW := onS hW kb
  replace p0 := cellS kb p0
  replace p1 := cellS kb p1
  replace p2 := cellS kb p2
  replace p3 := cellS kb p3
  replace hi := hi.on kb
  clear kb
  replace hG := hG.trans kg
  clear kg
  refine hK.out _ _ ⟨p0, p1, p2, p3⟩ (fun hHeld => ?_)
  clear hK K
  try simp only [Act.put, List.setIfInBounds_toArray, List.set_cons_zero, List.set_cons_succ]
  refine wpAnyH_take (i := 12) (v := ?_) (by simp only [List.getElem?_toArray, List.getElem?_cons_succ, List.getElem?_cons_zero]; rfl) (by kernel_rfl) (by kernel_rfl) (by kernel_rfl) (by exact fun _ _ _ h => h) (Or.inl ⟨by rfl, ?_⟩) (by assumption) ?_
  rotate_left
  · (intro w hSw; (try dsimp only at hSw); go_simp); first | done | with_reducible rfl
  try simp only [Act.put, List.setIfInBounds_toArray, List.set_cons_zero, List.set_cons_succ]
  refine wpAnyH_done (by kernel_rfl) ?_ _
  clear hHeld
  go_wp2_with fail
  go_ret
  exact ⟨rfl, hW, hG⟩
end Go.Proofs.Ytnocbkhnmdmfhaa
