/- codewrightref24: Row, has. -/
import Derived.Test.YtgininddoalenaaFldH
import Derived.Test.YtgininddoalenaaApart
namespace Go.Proofs.Ytgininddoalenaa
open Go.RowKit

/-- The entries of a list that are elements, 0 beyond its end. -/
def rowN (q k : Nat) (L : Nat → Int) (i : Nat) : Nat := if i < k then inV q (L i) else 0
theorem rowN_lt {q k : Nat} (hq : 0 < q) (L : Nat → Int) (i : Nat) : rowN q k L i < q := by unfold rowN; split; exact inV_lt hq _; exact hq
theorem cast_ite (p : Prop) [Decidable p] (a : Nat) : (if p then (a : Int) else 0) = ((if p then a else 0 : Nat) : Int) := by split <;> rfl

set_option maxRecDepth 100000 in
set_option maxHeartbeats 8000000 in
theorem row24_any (P M : Nat) (A : Option Addr) (k c : Nat) (n : Nat) (LA : Option Addr) (kl cl : Nat) (L : Nat → Int) (w : World) (hf : FldOk P M) (hn : n ≤ 64) (hl : IntsR w w.heap.size LA kl L) :
    Calls Try.prog 30 #[.agg #[.int .i64 (P : Nat), .int .i64 (M : Nat), .slice A k c], .int .i64 (n : Nat), .slice LA kl cl] w (RowPost n (fun i => .int .i64 (rowN (P ^ M) kl L i : Nat)) w) := by
  have hB : Below w.heap.size w (w.alloc (.cells #[.int .i64 (P : Nat), .int .i64 (M : Nat), .slice A k c] 29)) := (Below.refl _ _).alloc (Nat.le_refl _) _
  have rf := fldBox_row (w := w) (a := .int .i64 (P : Nat)) (b := .int .i64 (M : Nat)) (c := .slice A k c) (T := 29)
  obtain ⟨w0, hw0⟩ : ∃ W, W = w.alloc (.cells #[.int .i64 (P : Nat), .int .i64 (M : Nat), .slice A k c] 29) := ⟨_, rfl⟩
  rw [← hw0] at hB rf
  go_enter Try.func30, Try.ntmps30
  go_upto_region 1 with fail
  rw [← hw0]
  clear hw0
  have hw0 := rf.lt
  have hmk := fun W => run_makeI (P := Try.prog) 27 3 _ 8 Try.underlying27 Try.infoInt rfl (n : Int) (by omega) (by omega) (by omega) W
  simp only [Int.toNat_natCast] at hmk
  have row := World.rowIs_made w0 (.int .i64 0) n 3
  have kb : Below w0.heap.size w0 (w0.alloc (.cells (madeCells #[.int .i64 0] n) 3)) := (Below.refl _ _).alloc (Nat.le_refl _) _
  go_wp2
  obtain ⟨w1, hw1⟩ : ∃ W, W = w0.alloc (.cells (madeCells #[.int .i64 0] n) 3) := ⟨_, rfl⟩
  obtain ⟨g, hg⟩ : ∃ g, g = w0.heap.size := ⟨_, rfl⟩
  rw [← hw1, ← hg]
  rw [← hw1] at kb row
  rw [← hg] at row
  replace rf := rowIs_on rf kb
  replace hB := onS hB kb
  have hgB : w.heap.size ≤ g := by omega
  have hne : w.heap.size ≠ g := by omega
  clear hw1 hg hmk kb hw0
  go_loopg [8] n (fun gg iv wx => ∃ i : Nat, iv = .int .i64 (i : Nat) ∧ i ≤ n ∧ n ≤ i + gg ∧ wx.rowIs g 3 n (fun t => .int .i64 (if t < i then (rowN (P ^ M) kl L t : Nat) else 0 : Int)) ∧ wx.rowIs w.heap.size 29 3 (fldCell (.int .i64 (P : Nat)) (.int .i64 (M : Nat)) (.slice A k c)) ∧ Below w.heap.size w wx)
  case atStart => exact ⟨0, rfl, by omega, by omega, row.congr fun t _ => rfl, rf, hB⟩
  case round =>
    clear row rf hB
    obtain ⟨i, rfl, hi, hig, row, rf, hB⟩ := hrel
    have hi0 : (0 : Int) ≤ (i : Int) := by omega
    have hend : Hid (n ≤ i ∨ kl ≤ i → wr.rowIs g 3 n (fun t => .int .i64 (rowN (P ^ M) kl L t : Nat))) := fun h => row.congr fun t ht => by
      by_cases e : t < i
      · rw [if_pos e]
      · rw [if_neg e]
        unfold rowN
        rw [if_neg (by omega)]; rfl
    by_cases hlt : i < n
    · by_cases hlk : i < kl
      · have hlt' : (i : Int) < (n : Int) := by omega
        have hlk' : (i : Int) < (kl : Int) := by omega
        clear hend
        obtain ⟨w1, hw1⟩ : ∃ W, W = wr := ⟨_, rfl⟩
        rw [← hw1] at row rf hB ⊢
        clear hw1
        go_upto_region 5 with fail
        obtain ⟨lb, lo, rfl, hlb, hlc⟩ := hl.at hlk
        have row2 := row.set i (.int .i64 (inV (P ^ M) (L i) : Nat))
        obtain ⟨x, hx⟩ : ∃ x, x = L i := ⟨_, rfl⟩
        rw [← hx] at hlc
        have HX := hid hx
        clear hx row2
        have HS : Hid (∀ w' : World, w'.rowIs w.heap.size 29 3 (fldCell (.int .i64 (P : Nat)) (.int .i64 (M : Nat)) (.slice A k c)) → Below w.heap.size w w' → w'.cell? ⟨w.heap.size, 0, none⟩ = some (.int .i64 (P : Nat)) ∧ w'.cell? ⟨w.heap.size, 1, none⟩ = some (.int .i64 (M : Nat)) ∧ w'.cell? ⟨w.heap.size, 2, none⟩ = some (.slice A k c) ∧ w'.cell? ⟨lb, lo + i, none⟩ = some (.int .i64 x)) := fun w' hf h0 => ⟨hf.cell (i := 0) (by omega), hf.cell (i := 1) (by omega), hf.cell (i := 2) (by omega), cellS h0 hlc⟩
        refine wp_region_held_drew (S := fun w' => w'.cell? ⟨w.heap.size, 0, none⟩ = some (.int .i64 (P : Nat)) ∧ w'.cell? ⟨w.heap.size, 1, none⟩ = some (.int .i64 (M : Nat)) ∧ w'.cell? ⟨w.heap.size, 2, none⟩ = some (.slice A k c) ∧ w'.cell? ⟨lb, lo + i, none⟩ = some (.int .i64 x)) (by kernel_rfl) (HS.out _ (show World.rowIs (World.drew _) _ _ _ _ from rf) (hB.drew)) (fun hHeld => ?_)
        obtain ⟨w2, hw⟩ : ∃ W, W = World.drew w1 := ⟨_, rfl⟩
        have kb : Below w1.heap.size w1 w2 := by rw [hw]; exact (Below.refl _ _).drew
        rw [← hw] at hHeld ⊢
        clear hw
        replace rf := rowIs_on rf kb
        replace hB := onS hB kb
        replace row := rowIs_on row kb
        clear kb
        refine wpAnyH_take (i := 0) (v := ?_) (by simp only [List.getElem?_toArray, List.getElem?_cons_zero]; rfl) (by kernel_rfl) (by kernel_rfl) (by kernel_rfl) (by exact fun _ _ _ h => h) (Or.inl ⟨by rfl, ?_⟩) (by assumption) ?_
        rotate_left
        · (intro w hSw; (try dsimp only at hSw); go_simp); first | done | with_reducible rfl
        try simp only [Act.put, List.setIfInBounds_toArray, List.set_cons_zero, List.set_cons_succ]
        refine wpAnyH_take (i := 1) (v := ?_) (by simp only [List.getElem?_toArray, List.getElem?_cons_succ, List.getElem?_cons_zero]; rfl) (by kernel_rfl) (by kernel_rfl) (by kernel_rfl) (by exact fun _ _ _ h => h) (Or.inl ⟨by rfl, ?_⟩) (by assumption) ?_
        rotate_left
        · (intro w hSw; (try dsimp only at hSw); go_simp); first | done | with_reducible rfl
        try simp only [Act.put, List.setIfInBounds_toArray, List.set_cons_zero, List.set_cons_succ]
        refine wpAnyH_take (i := 2) (v := ?_) (by simp only [List.getElem?_toArray, List.getElem?_cons_succ, List.getElem?_cons_zero]; rfl) (by kernel_rfl) (by kernel_rfl) (by kernel_rfl) (by exact fun _ _ _ h => h) (Or.inl ⟨by rfl, ?_⟩) (by assumption) ?_
        rotate_left
        · (intro w hSw; (try dsimp only at hSw); go_simp); first | done | with_reducible rfl
        try simp only [Act.put, List.setIfInBounds_toArray, List.set_cons_zero, List.set_cons_succ]
        refine wpAnyH_take (i := 3) (v := ?_) (by simp only [List.getElem?_toArray, List.getElem?_cons_succ, List.getElem?_cons_zero]; rfl) (by kernel_rfl) (by kernel_rfl) (by kernel_rfl) (by exact fun _ _ _ h => h) (Or.inl ⟨by rfl, ?_⟩) (by assumption) ?_
        rotate_left
        · (intro w hSw; (try dsimp only at hSw); go_simp); first | done | with_reducible rfl
        try simp only [Act.put, List.setIfInBounds_toArray, List.set_cons_zero, List.set_cons_succ]
        refine wpAnyH_take (i := 4) (v := ?_) (by simp only [List.getElem?_toArray, List.getElem?_cons_succ, List.getElem?_cons_zero]; rfl) (by kernel_rfl) (by kernel_rfl) (by kernel_rfl) (by exact fun _ _ _ h => h) (Or.inl ⟨by rfl, ?_⟩) (by assumption) ?_
        rotate_left
        · (intro w hSw; (try dsimp only at hSw); go_simp); first | done | with_reducible rfl
        try simp only [Act.put, List.setIfInBounds_toArray, List.set_cons_zero, List.set_cons_succ]
        refine wpAnyH_take (i := 5) (v := ?_) (by simp only [List.getElem?_toArray, List.getElem?_cons_succ, List.getElem?_cons_zero]; rfl) (by kernel_rfl) (by kernel_rfl) (by kernel_rfl) (by exact fun _ _ _ h => h) (Or.inl ⟨by rfl, ?_⟩) (by assumption) ?_
        rotate_left
        · (intro w hSw; (try dsimp only at hSw); go_simp); first | done | with_reducible rfl
        try simp only [Act.put, List.setIfInBounds_toArray, List.set_cons_zero, List.set_cons_succ]
        refine wpAnyH_take (i := 6) (v := ?_) (by simp only [List.getElem?_toArray, List.getElem?_cons_succ, List.getElem?_cons_zero]; rfl) (by kernel_rfl) (by kernel_rfl) (by kernel_rfl) (by exact fun _ _ _ h => h) (Or.inl ⟨by rfl, ?_⟩) (by assumption) ?_
        rotate_left
        · (intro w hSw; (try dsimp only at hSw); go_simp); first | done | with_reducible rfl
        try simp only [Act.put, List.setIfInBounds_toArray, List.set_cons_zero, List.set_cons_succ]
        refine wpAnyH_ready (rs := [7]) (by kernel_rfl) (by simp) ?_
        refine AllReadyH.cons (by simp only [List.getElem?_toArray, List.getElem?_cons_succ, List.getElem?_cons_zero]; rfl) (fun K hK => ?_) AllReadyH.nil
        go_simp
        go_wp2_with fail
        refine (in04_any P M A k c x _ hf).mono ?_
        rintro e w3 ⟨rfl, kb⟩
        replace rf := rowIs_on rf kb
        replace hB := onS hB kb
        replace row := rowIs_on row kb
        clear kb
        refine hK.out _ _ (HS.out _ rf hB) (fun hHeld => ?_)
        clear hK K
        try simp only [Act.put, List.setIfInBounds_toArray, List.set_cons_zero, List.set_cons_succ]
        refine wpAnyH_take (i := 8) (v := ?_) (by simp only [List.getElem?_toArray, List.getElem?_cons_succ, List.getElem?_cons_zero]; rfl) (by kernel_rfl) (by kernel_rfl) (by kernel_rfl) (by exact fun _ _ _ h => h) (Or.inl ⟨by rfl, ?_⟩) (by assumption) ?_
        rotate_left
        · (intro w hSw; (try dsimp only at hSw); go_simp); first | done | with_reducible rfl
        try simp only [Act.put, List.setIfInBounds_toArray, List.set_cons_zero, List.set_cons_succ]
        refine wpAnyH_ready (rs := [9]) (by kernel_rfl) (by simp) ?_
        refine AllReadyH.cons (by simp only [List.getElem?_toArray, List.getElem?_cons_succ, List.getElem?_cons_zero]; rfl) (fun K hK => ?_) AllReadyH.nil
        have z0 := row.frozen i
        have c0 := row.cell hlt
        go_simp
        generalize hw3 : World.setCell _ _ _ = w4
        have row' : w4.rowIs g 3 n (fun t => .int .i64 (if t < i + 1 then (rowN (P ^ M) kl L t : Nat) else 0 : Int)) := by
          rw [← hw3]
          refine (row.set i _).congr fun t ht => ?_
          by_cases e : t = i
          · rw [if_pos e, if_pos (by omega), e]
            unfold rowN
            rw [if_pos hlk, ← HX.out]
          · rw [if_neg e]
            by_cases e2 : t < i
            · rw [if_pos e2, if_pos (by omega)]
            · rw [if_neg e2, if_neg (by omega)]
        have rf' : w4.rowIs w.heap.size 29 3 (fldCell (.int .i64 (P : Nat)) (.int .i64 (M : Nat)) (.slice A k c)) := by rw [← hw3]; exact rf.setOther (by simpa using hne) _
        have hB' : Below w.heap.size w w4 := by rw [← hw3]; exact hB.setCell hgB _
        clear hw3 row rf hB z0 c0
        have row := row'
        have rf := rf'
        have hB := hB'
        clear row' rf' hB'
        refine hK.out _ _ (HS.out _ rf hB) (fun hHeld => ?_)
        clear hK K
        try simp only [Act.put, List.setIfInBounds_toArray, List.set_cons_zero, List.set_cons_succ]
        refine wpAnyH_done (by kernel_rfl) ?_ _
        clear hHeld
        clear HS
        go_wp2
        go_roundg (gk - 1)
        case measure => omega
        case rel => exact ⟨i + 1, by go_num, by omega, by omega, row, rf, hB⟩
      · have hlt' : (i : Int) < (n : Int) := by omega
        have hlk' : ¬ (i : Int) < (kl : Int) := by omega
        clear row
        go_wp2
        go_ret
        exact ⟨g, rfl, hgB, hend.out (.inr (by omega)), hB⟩
    · have hlt' : ¬ (i : Int) < (n : Int) := by omega
      clear row
      go_wp2
      go_ret
      exact ⟨g, rfl, hgB, hend.out (.inl (by omega)), hB⟩
set_option maxRecDepth 100000 in
set_option maxHeartbeats 8000000 in
theorem has24_any (T : Option Addr) (N c n : Nat) (W : Nat → Nat → Int) (B : Option Addr) (cb : Nat) (R : Nat → Int) (w : World) (h : IntRows w T N (fun _ => n) W) (hR : IntsR w w.heap.size B n R) (hN : N ≤ 1048576) (hn : n ≤ 1048576) :
    Calls Try.prog 65 #[.slice T N c, .slice B n cb] w (IffPost (∃ j, j < N ∧ disN (W j) R n = 0) w) := by
  go_enter Try.func65, Try.ntmps65
  go_wp2
  go_loopg [5] N (fun gg iv wx => ∃ i : Nat, iv = .int .i64 (i : Nat) ∧ i ≤ N ∧ N ≤ i + gg ∧ (∀ j, j < i → disN (W j) R n ≠ 0) ∧ Below w.heap.size w wx)
  case atStart => exact ⟨0, rfl, by omega, by omega, fun j hj => by omega, Below.refl _ _⟩
  case round =>
    obtain ⟨i, rfl, hi, hig, hno, hB⟩ := hrel
    have HN := hid hno
    clear hno
    have hi0 : (0 : Int) ≤ (i : Int) := by omega
    by_cases hlt : i < N
    · have hlt' : (i : Int) < (N : Int) := by omega
      obtain ⟨b, off, A, ca, rfl, hb, t1, k1, k2, hints, _⟩ := h i hlt
      have t1' := cellS hB t1
      go_wp2_with fail
      refine (distance_any A B n ca cb (W i) R _ (hints.on hB) (hR.on hB) hn).mono ?_
      rintro e w2 ⟨rfl, kb⟩
      replace hB := onS hB kb
      clear kb t1 t1' hints
      obtain ⟨D, hD⟩ : ∃ D, D = disN (W i) R n := ⟨_, rfl⟩
      rw [← hD]
      have HD := hid hD
      clear hD
      by_cases h0 : D = 0
      · subst h0
        go_wp2
        go_ret
        exact iffPost_t ⟨i, hlt, HD.out.symm⟩ hB
      · have hb0 : ((D : Int) == 0) = false := by simp; omega
        have hnx : Hid (∀ j, j < i + 1 → disN (W j) R n ≠ 0) := fun j hj => by
          by_cases e : j = i
          · rw [e, ← HD.out]; exact h0
          · exact HN.out j (by omega)
        go_wp2
        go_roundg (gk - 1)
        case measure => omega
        case rel => exact ⟨i + 1, by go_num, by omega, by omega, hnx.out, hB⟩
    · have hlt' : ¬ (i : Int) < (N : Int) := by omega
      go_wp2
      go_ret
      exact iffPost_f (fun ⟨j, hj, hd⟩ => HN.out j (by omega) hd) hB
end Go.Proofs.Ytgininddoalenaa
