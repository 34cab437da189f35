/- FlowDisjoint returns true where the arcs have no more bytes than memory has room. -/
import Derived.Test.YthdeldaeghhfgaaDisMath
import Derived.Test.YthdeldaeghhfgaaRoutesLaw
import Derived.Test.YthdeldaeghhfgaaIsRoute
import Derived.Test.YthdeldaeghhfgaaFew
import Derived.Test.YthdeldaeghhfgaaRawOpen
import Derived.StillTailTactics
namespace Go.Proofs.Ythdeldaeghhfgaa
open Go.RowKit

theorem arc_one {N : Net} {i j : Nat} : (arcCell N i j).oneCell' = true := by
  unfold arcCell
  split <;> rfl

set_option maxRecDepth 100000 in
set_option maxHeartbeats 16000000 in
theorem flowDisjoint_any (N : Net) (A : Option Addr) (c : Nat) (s t : Int) (w : World) (h : N.Reads w w.heap.size A) (hby : N.n * 24 ≤ 140737488355328) :
    Calls Try.prog 13 #[.agg #[.int .i64 N.V, .slice A N.n c, .int .i64 s, .int .i64 t]] w fun e w' => e = .returned (.bool true) ∧ Below w.heap.size w w' := by
  obtain ⟨i0, qi0, qz0, qz1, qz2⟩ := info_parts Try.infoArc
  obtain ⟨RB, hRB⟩ : ∃ o, o = (Obj.cells #[.int .i64 N.V, .slice A N.n c, .int .i64 s, .int .i64 t] 48) := ⟨_, rfl⟩
  have hB0 : Below (w.heap.size + 1) (w.alloc RB) (w.alloc RB) := Below.refl _ _
  have HS : Hid (∀ w', Below (w.heap.size + 1) (w.alloc RB) w' → (w'.cell? ⟨w.heap.size, 0, none⟩ = some (.int .i64 N.V) ∧ w'.cell? ⟨w.heap.size, 1, none⟩ = some (.slice A N.n c) ∧ w'.cell? ⟨w.heap.size, 2, none⟩ = some (.int .i64 s) ∧ w'.cell? ⟨w.heap.size, 3, none⟩ = some (.int .i64 t)) ∧ Below w.heap.size w w') := fun w' hB => by
    have hB' := box_below hB
    subst hRB
    exact ⟨⟨box_cell hB 0 rfl, box_cell hB 1 rfl, box_cell hB 2 rfl, box_cell hB 3 rfl⟩, hB'⟩
  go_enter Try.func13, Try.ntmps13
  go_wp2_with fail
  rw [← hRB]
  refine (alive_any _).mono ?_
  rintro e w1 ⟨rfl, hb⟩
  have hB1 := box_on hB0 hb
  clear hb hB0 hRB
  obtain ⟨⟨p0, p1, p2, p3⟩, hW1⟩ := HS.out _ hB1
  go_wp2_with fail
  refine (few_any N A c w1 (h.on hW1)).mono ?_
  rintro e w2 ⟨⟨b, hbb, rfl⟩, hb⟩
  have hB2 := box_on hB1 hb
  clear hb hB1 hbb p0 p1 p2 p3 hW1
  obtain ⟨⟨p0, p1, p2, p3⟩, hW2⟩ := HS.out _ hB2
  cases b
  · go_wp2
    go_ret
    exact ⟨rfl, hW2⟩
  · have HB2 := hid hB2
    have hz2 : w.heap.size < w2.heap.size := box_lt hB2
    clear hB2
    go_upto_region 5 with fail
    go_cut [3] (fun v3 wx => ∃ bn A3 c3, v3 = .pointer (some ⟨bn, 0, none⟩) ∧ wx.rowIs bn 24 2 (fun i => if i = 0 then .int .i64 N.V else .slice A3 N.n c3) ∧ Own wx w2.heap.size 36 3 (.slice A3 N.n c3) N.n (arcCell N) ∧ Below w2.heap.size w2 wx ∧ w2.heap.size ≤ bn ∧ (∀ q, (Value.slice A3 N.n c3).ownBlock = some q → q ≠ bn))
    case first =>
      rcases Nat.eq_zero_or_pos N.n with h0 | h0
      · have H0 := hid h0
        rw [h0] at p1
        clear h0
        obtain ⟨w39, hw39⟩ : ∃ W, W = w2 := ⟨_, rfl⟩
        have hb : Below w2.heap.size w2 w39 := by rw [hw39]; exact Below.refl _ _
        have hW := hW2
        rw [← hw39] at hW p0 p1 ⊢
        have hQ : w2.heap.size ≤ w39.heap.size := by rw [hw39]; exact Nat.le_refl _
        clear hw39
        refine wp_region_held_drew (S := fun w' => w'.cell? ⟨w.heap.size, 0, none⟩ = some (.int .i64 N.V) ∧ w'.cell? ⟨w.heap.size, 1, none⟩ = some (.slice A 0 c)) (by kernel_rfl) ⟨cellS (Below.refl _ _).drew p0, cellS (Below.refl _ _).drew p1⟩ (fun hHeld => ?_)
        obtain ⟨w40, hw⟩ : ∃ W, W = World.drew w39 := ⟨_, rfl⟩
        have kb : Below w39.heap.size w39 w40 := by rw [hw]; exact (Below.refl _ _).drew
        rw [← hw] at hHeld ⊢
        clear hw
        replace hb := onS hb kb
        replace hW := onS hW kb
        replace p0 := cellS kb p0
        replace p1 := cellS kb p1
        replace hQ := Nat.le_trans hQ kb.size
        clear kb
        refine wpAnyH_take (i := 0) (v := ?_) (by simp only [List.getElem?_toArray, List.getElem?_cons_zero]; rfl) (by kernel_rfl) (by kernel_rfl) (by kernel_rfl) (by exact fun _ _ _ h => h) (Or.inl ⟨by rfl, ?_⟩) (by assumption) ?_
        rotate_left
        · (intro w hSw; (try dsimp only at hSw); go_simp); first | done | with_reducible rfl
        try simp only [Act.put, List.setIfInBounds_toArray, List.set_cons_zero, List.set_cons_succ]
        refine wpAnyH_take (i := 1) (v := ?_) (by simp only [List.getElem?_toArray, List.getElem?_cons_succ, List.getElem?_cons_zero]; rfl) (by kernel_rfl) (by kernel_rfl) (by kernel_rfl) (by exact fun _ _ _ h => h) (Or.inl ⟨by rfl, ?_⟩) (by assumption) ?_
        rotate_left
        · (intro w hSw; (try dsimp only at hSw); go_simp); first | done | with_reducible rfl
        try simp only [Act.put, List.setIfInBounds_toArray, List.set_cons_zero, List.set_cons_succ]
        refine wpAnyH_take (i := 2) (v := ?_) (by simp only [List.getElem?_toArray, List.getElem?_cons_succ, List.getElem?_cons_zero]; rfl) (by kernel_rfl) (by kernel_rfl) (by kernel_rfl) (by exact fun _ _ _ h => h) (Or.inl ⟨by rfl, ?_⟩) (by assumption) ?_
        rotate_left
        · (intro w hSw; (try dsimp only at hSw); go_simp); first | done | with_reducible rfl
        try simp only [Act.put, List.setIfInBounds_toArray, List.set_cons_zero, List.set_cons_succ]
        refine wpAnyH_take (i := 4) (v := ?_) (by simp only [List.getElem?_toArray, List.getElem?_cons_succ, List.getElem?_cons_zero]; rfl) (by kernel_rfl) (by kernel_rfl) (by kernel_rfl) (by exact fun _ _ _ h => h) (Or.inl ⟨by rfl, ?_⟩) (by assumption) ?_
        rotate_left
        · (intro w hSw; (try dsimp only at hSw); go_simp); first | done | with_reducible rfl
        try simp only [Act.put, List.setIfInBounds_toArray, List.set_cons_zero, List.set_cons_succ]
        refine wpAnyH_take (i := 5) (v := ?_) (by simp only [List.getElem?_toArray, List.getElem?_cons_succ, List.getElem?_cons_zero]; rfl) (by kernel_rfl) (by kernel_rfl) (by kernel_rfl) (by exact fun _ _ _ h => h) (Or.inl ⟨by rfl, ?_⟩) (by assumption) ?_
        rotate_left
        · (intro w hSw; (try dsimp only at hSw); go_simp); first | done | with_reducible rfl
        try simp only [Act.put, List.setIfInBounds_toArray, List.set_cons_zero, List.set_cons_succ]
        refine wpAnyH_take (i := 6) (v := ?_) (by simp only [List.getElem?_toArray, List.getElem?_cons_succ, List.getElem?_cons_zero]; rfl) (by kernel_rfl) (by kernel_rfl) (by kernel_rfl) (by exact fun _ _ _ h => h) (Or.inl ⟨by rfl, ?_⟩) (by assumption) ?_
        rotate_left
        · (intro w hSw; (try dsimp only at hSw); go_simp); first | done | with_reducible rfl
        try simp only [Act.put, List.setIfInBounds_toArray, List.set_cons_zero, List.set_cons_succ]
        refine wpAnyH_ready (rs := [3, 9]) (by kernel_rfl) (by simp) ?_
        refine AllReadyH.cons (by simp only [List.getElem?_toArray, List.getElem?_cons_succ, List.getElem?_cons_zero]; rfl) (fun K hK => ?_) (AllReadyH.cons (by simp only [List.getElem?_toArray, List.getElem?_cons_succ, List.getElem?_cons_zero]; rfl) (fun K hK => ?_) AllReadyH.nil)
        · go_simp
          obtain ⟨w41, hw⟩ : ∃ W, W = World.alloc w40 (Obj.cells #[] 36) := ⟨_, rfl⟩
          have kb : Below w40.heap.size w40 w41 := by rw [hw]; exact (Below.refl _ _).alloc (Nat.le_refl _) _
          have o1 : Own w41 w2.heap.size 36 3 (.slice (some ⟨w40.heap.size, 0, none⟩) 0 0) 0 (arcCell N) := by rw [hw]; exact .inr ⟨_, 0, 0, #[], rfl, hQ, heap_new_at rfl, Nat.le_refl _, by unfold maxLen; omega, by simp, fun i hi => absurd hi (by omega)⟩
          rw [← hw]
          clear hw
          obtain ⟨nb, hnb⟩ : ∃ b, b = w40.heap.size := ⟨_, rfl⟩
          rw [← hnb] at o1 ⊢
          clear hnb
          replace hb := onS hb kb
          replace hW := onS hW kb
          replace p0 := cellS kb p0
          replace p1 := cellS kb p1
          replace hQ := Nat.le_trans hQ kb.size
          clear kb
          refine hK.out _ _ ⟨p0, p1⟩ (fun hHeld => ?_)
          clear hK K
          try simp only [Act.put, List.setIfInBounds_toArray, List.set_cons_zero, List.set_cons_succ]
          refine wpAnyH_ready (rs := [7, 9]) (by kernel_rfl) (by simp) ?_
          refine AllReadyH.cons (by simp only [List.getElem?_toArray, List.getElem?_cons_succ, List.getElem?_cons_zero]; rfl) (fun K hK => ?_) (AllReadyH.cons (by simp only [List.getElem?_toArray, List.getElem?_cons_succ, List.getElem?_cons_zero]; rfl) (fun K hK => ?_) AllReadyH.nil)
          · refine step_append_copy_none _ (by rfl) (.tmp 27) (.tmp 30) _ (by rfl) 36 i0 Try.underlying22 qi0 nb 0 (by rfl) A c (by rfl) ?_
            refine hK.out _ _ ⟨p0, p1⟩ (fun hHeld => ?_)
            clear hK K
            try simp only [Act.put, List.setIfInBounds_toArray, List.set_cons_zero, List.set_cons_succ]
            refine wpAnyH_take (i := 8) (v := ?_) (by simp only [List.getElem?_toArray, List.getElem?_cons_succ, List.getElem?_cons_zero]; rfl) (by kernel_rfl) (by kernel_rfl) (by kernel_rfl) (by exact fun _ _ _ h => h) (Or.inl ⟨by rfl, ?_⟩) (by assumption) ?_
            rotate_left
            · (intro w hSw; (try dsimp only at hSw); go_simp); first | done | with_reducible rfl
            try simp only [Act.put, List.setIfInBounds_toArray, List.set_cons_zero, List.set_cons_succ]
            refine wpAnyH_ready (rs := [9]) (by kernel_rfl) (by simp) ?_
            refine AllReadyH.cons (by simp only [List.getElem?_toArray, List.getElem?_cons_succ, List.getElem?_cons_zero]; rfl) (fun K hK => ?_) AllReadyH.nil
            go_simp
            obtain ⟨w42, hw⟩ : ∃ W, W = World.alloc w41 (Obj.cells #[.int .i64 0, .slice none 0 0] 24) := ⟨_, rfl⟩
            have kb : Below w41.heap.size w41 w42 := by rw [hw]; exact (Below.refl _ _).alloc (Nat.le_refl _) _
            have rb : w42.rowIs w41.heap.size 24 2 (fun i => (#[.int .i64 0, .slice none 0 0] : Array Value).getD i undef) := by rw [hw]; exact World.rowIs_alloc _ _ _ _ (fun i hi => by simp at hi; simp [hi])
            rw [← hw]
            clear hw
            obtain ⟨bn, hbn⟩ : ∃ b, b = w41.heap.size := ⟨_, rfl⟩
            rw [← hbn] at rb ⊢
            have hbq : w2.heap.size ≤ bn := by omega
            have hne : nb ≠ bn := by have := (o1.lt nb rfl).2; omega
            clear hbn
            replace hb := onS hb kb
            replace hW := onS hW kb
            replace p0 := cellS kb p0
            replace p1 := cellS kb p1
            replace hQ := Nat.le_trans hQ kb.size
            replace o1 := o1.on kb
            clear kb
            refine hK.out _ _ ⟨p0, p1⟩ (fun hHeld => ?_)
            clear hK K
            try simp only [Act.put, List.setIfInBounds_toArray, List.set_cons_zero, List.set_cons_succ]
            refine wpAnyH_ready (rs := [10]) (by kernel_rfl) (by simp) ?_
            refine AllReadyH.cons (by simp only [List.getElem?_toArray, List.getElem?_cons_succ, List.getElem?_cons_zero]; rfl) (fun K hK => ?_) AllReadyH.nil
            have hlx := rb.lt
            have c0 : w42.cell? ⟨bn, 0, none⟩ = some _ := rb.cell (i := 0) (by omega)
            have c1 : w42.cell? ⟨bn, 1, none⟩ = some _ := rb.cell (i := 1) (by omega)
            have z0 := rb.frozen 0
            have z1 := rb.frozen 1
            go_simp
            replace p0 := cell_setCell_far (p := ⟨bn, 1, none⟩) (u := (Value.slice (some ⟨nb, 0, none⟩) 0 0)) (cell_setCell_far (p := ⟨bn, 0, none⟩) (u := (Value.int .i64 N.V)) p0 (by show w.heap.size ≠ bn; omega)) (by show w.heap.size ≠ bn; omega)
            replace p1 := cell_setCell_far (p := ⟨bn, 1, none⟩) (u := (Value.slice (some ⟨nb, 0, none⟩) 0 0)) (cell_setCell_far (p := ⟨bn, 0, none⟩) (u := (Value.int .i64 N.V)) p1 (by show w.heap.size ≠ bn; omega)) (by show w.heap.size ≠ bn; omega)
            replace hb := (hb.setCell (p := ⟨bn, 0, none⟩) hbq (Value.int .i64 N.V)).setCell (p := ⟨bn, 1, none⟩) hbq (Value.slice (some ⟨nb, 0, none⟩) 0 0)
            have rb9 := ((rb.set 0 (Value.int .i64 N.V)).set 1 (Value.slice (some ⟨nb, 0, none⟩) 0 0)).congr (g := fun i => if i = 0 then (Value.int .i64 N.V) else (Value.slice (some ⟨nb, 0, none⟩) 0 0)) fun i hi => by
              match i, hi with
              | 0, _ => rfl
              | 1, _ => rfl
            have o9 := (o1.setCell (a := ⟨bn, 0, none⟩) (fun e => hne (by simpa [Value.ownBlock] using e)) (Value.int .i64 N.V)).setCell (a := ⟨bn, 1, none⟩) (fun e => hne (by simpa [Value.ownBlock] using e)) (Value.slice (some ⟨nb, 0, none⟩) 0 0)
            clear rb o1 hW hQ c0 c1 z0 z1
            refine hK.out _ _ ⟨p0, p1⟩ (fun hHeld => ?_)
            clear hK K
            try simp only [Act.put, List.setIfInBounds_toArray, List.set_cons_zero, List.set_cons_succ]
            refine wpAnyH_done (by kernel_rfl) ?_ _
            clear hHeld
            go_wp2_with fail
            go_meet
            have hq : ∀ q, (Value.slice (some ⟨nb, 0, none⟩) 0 0).ownBlock = some q → q ≠ bn := fun q e => by
              have e2 : nb = q := by simpa [Value.ownBlock] using e
              rw [← e2]; exact hne
            exact ⟨bn, some ⟨nb, 0, none⟩, 0, rfl, by rw [H0.out]; exact rb9, by rw [H0.out]; exact o9, hb, hbq, by rw [H0.out]; exact hq⟩
          · go_simp
            obtain ⟨w42, hw⟩ : ∃ W, W = World.alloc w41 (Obj.cells #[.int .i64 0, .slice none 0 0] 24) := ⟨_, rfl⟩
            have kb : Below w41.heap.size w41 w42 := by rw [hw]; exact (Below.refl _ _).alloc (Nat.le_refl _) _
            have rb : w42.rowIs w41.heap.size 24 2 (fun i => (#[.int .i64 0, .slice none 0 0] : Array Value).getD i undef) := by rw [hw]; exact World.rowIs_alloc _ _ _ _ (fun i hi => by simp at hi; simp [hi])
            rw [← hw]
            clear hw
            obtain ⟨bn, hbn⟩ : ∃ b, b = w41.heap.size := ⟨_, rfl⟩
            rw [← hbn] at rb ⊢
            have hbq : w2.heap.size ≤ bn := by omega
            have hne : nb ≠ bn := by have := (o1.lt nb rfl).2; omega
            clear hbn
            replace hb := onS hb kb
            replace hW := onS hW kb
            replace p0 := cellS kb p0
            replace p1 := cellS kb p1
            replace hQ := Nat.le_trans hQ kb.size
            replace o1 := o1.on kb
            clear kb
            refine hK.out _ _ ⟨p0, p1⟩ (fun hHeld => ?_)
            clear hK K
            try simp only [Act.put, List.setIfInBounds_toArray, List.set_cons_zero, List.set_cons_succ]
            refine wpAnyH_ready (rs := [7]) (by kernel_rfl) (by simp) ?_
            refine AllReadyH.cons (by simp only [List.getElem?_toArray, List.getElem?_cons_succ, List.getElem?_cons_zero]; rfl) (fun K hK => ?_) AllReadyH.nil
            refine step_append_copy_none _ (by rfl) (.tmp 27) (.tmp 30) _ (by rfl) 36 i0 Try.underlying22 qi0 nb 0 (by rfl) A c (by rfl) ?_
            refine hK.out _ _ ⟨p0, p1⟩ (fun hHeld => ?_)
            clear hK K
            try simp only [Act.put, List.setIfInBounds_toArray, List.set_cons_zero, List.set_cons_succ]
            refine wpAnyH_take (i := 8) (v := ?_) (by simp only [List.getElem?_toArray, List.getElem?_cons_succ, List.getElem?_cons_zero]; rfl) (by kernel_rfl) (by kernel_rfl) (by kernel_rfl) (by exact fun _ _ _ h => h) (Or.inl ⟨by rfl, ?_⟩) (by assumption) ?_
            rotate_left
            · (intro w hSw; (try dsimp only at hSw); go_simp); first | done | with_reducible rfl
            try simp only [Act.put, List.setIfInBounds_toArray, List.set_cons_zero, List.set_cons_succ]
            refine wpAnyH_ready (rs := [10]) (by kernel_rfl) (by simp) ?_
            refine AllReadyH.cons (by simp only [List.getElem?_toArray, List.getElem?_cons_succ, List.getElem?_cons_zero]; rfl) (fun K hK => ?_) AllReadyH.nil
            have hlx := rb.lt
            have c0 : w42.cell? ⟨bn, 0, none⟩ = some _ := rb.cell (i := 0) (by omega)
            have c1 : w42.cell? ⟨bn, 1, none⟩ = some _ := rb.cell (i := 1) (by omega)
            have z0 := rb.frozen 0
            have z1 := rb.frozen 1
            go_simp
            replace p0 := cell_setCell_far (p := ⟨bn, 1, none⟩) (u := (Value.slice (some ⟨nb, 0, none⟩) 0 0)) (cell_setCell_far (p := ⟨bn, 0, none⟩) (u := (Value.int .i64 N.V)) p0 (by show w.heap.size ≠ bn; omega)) (by show w.heap.size ≠ bn; omega)
            replace p1 := cell_setCell_far (p := ⟨bn, 1, none⟩) (u := (Value.slice (some ⟨nb, 0, none⟩) 0 0)) (cell_setCell_far (p := ⟨bn, 0, none⟩) (u := (Value.int .i64 N.V)) p1 (by show w.heap.size ≠ bn; omega)) (by show w.heap.size ≠ bn; omega)
            replace hb := (hb.setCell (p := ⟨bn, 0, none⟩) hbq (Value.int .i64 N.V)).setCell (p := ⟨bn, 1, none⟩) hbq (Value.slice (some ⟨nb, 0, none⟩) 0 0)
            have rb9 := ((rb.set 0 (Value.int .i64 N.V)).set 1 (Value.slice (some ⟨nb, 0, none⟩) 0 0)).congr (g := fun i => if i = 0 then (Value.int .i64 N.V) else (Value.slice (some ⟨nb, 0, none⟩) 0 0)) fun i hi => by
              match i, hi with
              | 0, _ => rfl
              | 1, _ => rfl
            have o9 := (o1.setCell (a := ⟨bn, 0, none⟩) (fun e => hne (by simpa [Value.ownBlock] using e)) (Value.int .i64 N.V)).setCell (a := ⟨bn, 1, none⟩) (fun e => hne (by simpa [Value.ownBlock] using e)) (Value.slice (some ⟨nb, 0, none⟩) 0 0)
            clear rb o1 hW hQ c0 c1 z0 z1
            refine hK.out _ _ ⟨p0, p1⟩ (fun hHeld => ?_)
            clear hK K
            try simp only [Act.put, List.setIfInBounds_toArray, List.set_cons_zero, List.set_cons_succ]
            refine wpAnyH_done (by kernel_rfl) ?_ _
            clear hHeld
            go_wp2_with fail
            go_meet
            have hq : ∀ q, (Value.slice (some ⟨nb, 0, none⟩) 0 0).ownBlock = some q → q ≠ bn := fun q e => by
              have e2 : nb = q := by simpa [Value.ownBlock] using e
              rw [← e2]; exact hne
            exact ⟨bn, some ⟨nb, 0, none⟩, 0, rfl, by rw [H0.out]; exact rb9, by rw [H0.out]; exact o9, hb, hbq, by rw [H0.out]; exact hq⟩
        · go_simp
          obtain ⟨w41, hw⟩ : ∃ W, W = World.alloc w40 (Obj.cells #[.int .i64 0, .slice none 0 0] 24) := ⟨_, rfl⟩
          have kb : Below w40.heap.size w40 w41 := by rw [hw]; exact (Below.refl _ _).alloc (Nat.le_refl _) _
          have rb : w41.rowIs w40.heap.size 24 2 (fun i => (#[.int .i64 0, .slice none 0 0] : Array Value).getD i undef) := by rw [hw]; exact World.rowIs_alloc _ _ _ _ (fun i hi => by simp at hi; simp [hi])
          rw [← hw]
          clear hw
          obtain ⟨bn, hbn⟩ : ∃ b, b = w40.heap.size := ⟨_, rfl⟩
          rw [← hbn] at rb ⊢
          have hbq : w2.heap.size ≤ bn := by omega
          clear hbn
          replace hb := onS hb kb
          replace hW := onS hW kb
          replace p0 := cellS kb p0
          replace p1 := cellS kb p1
          replace hQ := Nat.le_trans hQ kb.size
          clear kb
          refine hK.out _ _ ⟨p0, p1⟩ (fun hHeld => ?_)
          clear hK K
          try simp only [Act.put, List.setIfInBounds_toArray, List.set_cons_zero, List.set_cons_succ]
          refine wpAnyH_ready (rs := [3]) (by kernel_rfl) (by simp) ?_
          refine AllReadyH.cons (by simp only [List.getElem?_toArray, List.getElem?_cons_succ, List.getElem?_cons_zero]; rfl) (fun K hK => ?_) AllReadyH.nil
          go_simp
          obtain ⟨w42, hw⟩ : ∃ W, W = World.alloc w41 (Obj.cells #[] 36) := ⟨_, rfl⟩
          have kb : Below w41.heap.size w41 w42 := by rw [hw]; exact (Below.refl _ _).alloc (Nat.le_refl _) _
          have o1 : Own w42 w2.heap.size 36 3 (.slice (some ⟨w41.heap.size, 0, none⟩) 0 0) 0 (arcCell N) := by rw [hw]; exact .inr ⟨_, 0, 0, #[], rfl, hQ, heap_new_at rfl, Nat.le_refl _, by unfold maxLen; omega, by simp, fun i hi => absurd hi (by omega)⟩
          rw [← hw]
          clear hw
          obtain ⟨nb, hnb⟩ : ∃ b, b = w41.heap.size := ⟨_, rfl⟩
          rw [← hnb] at o1 ⊢
          have hne : nb ≠ bn := by have := rb.lt; omega
          clear hnb
          replace rb := rowIs_on rb kb
          replace hb := onS hb kb
          replace hW := onS hW kb
          replace p0 := cellS kb p0
          replace p1 := cellS kb p1
          replace hQ := Nat.le_trans hQ kb.size
          clear kb
          refine hK.out _ _ ⟨p0, p1⟩ (fun hHeld => ?_)
          clear hK K
          try simp only [Act.put, List.setIfInBounds_toArray, List.set_cons_zero, List.set_cons_succ]
          refine wpAnyH_ready (rs := [7]) (by kernel_rfl) (by simp) ?_
          refine AllReadyH.cons (by simp only [List.getElem?_toArray, List.getElem?_cons_succ, List.getElem?_cons_zero]; rfl) (fun K hK => ?_) AllReadyH.nil
          refine step_append_copy_none _ (by rfl) (.tmp 27) (.tmp 30) _ (by rfl) 36 i0 Try.underlying22 qi0 nb 0 (by rfl) A c (by rfl) ?_
          refine hK.out _ _ ⟨p0, p1⟩ (fun hHeld => ?_)
          clear hK K
          try simp only [Act.put, List.setIfInBounds_toArray, List.set_cons_zero, List.set_cons_succ]
          refine wpAnyH_take (i := 8) (v := ?_) (by simp only [List.getElem?_toArray, List.getElem?_cons_succ, List.getElem?_cons_zero]; rfl) (by kernel_rfl) (by kernel_rfl) (by kernel_rfl) (by exact fun _ _ _ h => h) (Or.inl ⟨by rfl, ?_⟩) (by assumption) ?_
          rotate_left
          · (intro w hSw; (try dsimp only at hSw); go_simp); first | done | with_reducible rfl
          try simp only [Act.put, List.setIfInBounds_toArray, List.set_cons_zero, List.set_cons_succ]
          refine wpAnyH_ready (rs := [10]) (by kernel_rfl) (by simp) ?_
          refine AllReadyH.cons (by simp only [List.getElem?_toArray, List.getElem?_cons_succ, List.getElem?_cons_zero]; rfl) (fun K hK => ?_) AllReadyH.nil
          have hlx := rb.lt
          have c0 : w42.cell? ⟨bn, 0, none⟩ = some _ := rb.cell (i := 0) (by omega)
          have c1 : w42.cell? ⟨bn, 1, none⟩ = some _ := rb.cell (i := 1) (by omega)
          have z0 := rb.frozen 0
          have z1 := rb.frozen 1
          go_simp
          replace p0 := cell_setCell_far (p := ⟨bn, 1, none⟩) (u := (Value.slice (some ⟨nb, 0, none⟩) 0 0)) (cell_setCell_far (p := ⟨bn, 0, none⟩) (u := (Value.int .i64 N.V)) p0 (by show w.heap.size ≠ bn; omega)) (by show w.heap.size ≠ bn; omega)
          replace p1 := cell_setCell_far (p := ⟨bn, 1, none⟩) (u := (Value.slice (some ⟨nb, 0, none⟩) 0 0)) (cell_setCell_far (p := ⟨bn, 0, none⟩) (u := (Value.int .i64 N.V)) p1 (by show w.heap.size ≠ bn; omega)) (by show w.heap.size ≠ bn; omega)
          replace hb := (hb.setCell (p := ⟨bn, 0, none⟩) hbq (Value.int .i64 N.V)).setCell (p := ⟨bn, 1, none⟩) hbq (Value.slice (some ⟨nb, 0, none⟩) 0 0)
          have rb9 := ((rb.set 0 (Value.int .i64 N.V)).set 1 (Value.slice (some ⟨nb, 0, none⟩) 0 0)).congr (g := fun i => if i = 0 then (Value.int .i64 N.V) else (Value.slice (some ⟨nb, 0, none⟩) 0 0)) fun i hi => by
            match i, hi with
            | 0, _ => rfl
            | 1, _ => rfl
          have o9 := (o1.setCell (a := ⟨bn, 0, none⟩) (fun e => hne (by simpa [Value.ownBlock] using e)) (Value.int .i64 N.V)).setCell (a := ⟨bn, 1, none⟩) (fun e => hne (by simpa [Value.ownBlock] using e)) (Value.slice (some ⟨nb, 0, none⟩) 0 0)
          clear rb o1 hW hQ c0 c1 z0 z1
          refine hK.out _ _ ⟨p0, p1⟩ (fun hHeld => ?_)
          clear hK K
          try simp only [Act.put, List.setIfInBounds_toArray, List.set_cons_zero, List.set_cons_succ]
          refine wpAnyH_done (by kernel_rfl) ?_ _
          clear hHeld
          go_wp2_with fail
          go_meet
          have hq : ∀ q, (Value.slice (some ⟨nb, 0, none⟩) 0 0).ownBlock = some q → q ≠ bn := fun q e => by
            have e2 : nb = q := by simpa [Value.ownBlock] using e
            rw [← e2]; exact hne
          exact ⟨bn, some ⟨nb, 0, none⟩, 0, rfl, by rw [H0.out]; exact rb9, by rw [H0.out]; exact o9, hb, hbq, by rw [H0.out]; exact hq⟩
      · have n3 : N.n ≤ maxLen := by unfold maxLen; omega
        obtain ⟨w39, hw39⟩ : ∃ W, W = w2 := ⟨_, rfl⟩
        have hb : Below w2.heap.size w2 w39 := by rw [hw39]; exact Below.refl _ _
        have hW := hW2
        rw [← hw39] at hW p0 p1 ⊢
        have hQ : w2.heap.size ≤ w39.heap.size := by rw [hw39]; exact Nat.le_refl _
        clear hw39
        refine wp_region_held_drew (S := fun w' => w'.cell? ⟨w.heap.size, 0, none⟩ = some (.int .i64 N.V) ∧ w'.cell? ⟨w.heap.size, 1, none⟩ = some (.slice A N.n c)) (by kernel_rfl) ⟨cellS (Below.refl _ _).drew p0, cellS (Below.refl _ _).drew p1⟩ (fun hHeld => ?_)
        obtain ⟨w40, hw⟩ : ∃ W, W = World.drew w39 := ⟨_, rfl⟩
        have kb : Below w39.heap.size w39 w40 := by rw [hw]; exact (Below.refl _ _).drew
        rw [← hw] at hHeld ⊢
        clear hw
        replace hb := onS hb kb
        replace hW := onS hW kb
        replace p0 := cellS kb p0
        replace p1 := cellS kb p1
        replace hQ := Nat.le_trans hQ kb.size
        clear kb
        refine wpAnyH_take (i := 0) (v := ?_) (by simp only [List.getElem?_toArray, List.getElem?_cons_zero]; rfl) (by kernel_rfl) (by kernel_rfl) (by kernel_rfl) (by exact fun _ _ _ h => h) (Or.inl ⟨by rfl, ?_⟩) (by assumption) ?_
        rotate_left
        · (intro w hSw; (try dsimp only at hSw); go_simp); first | done | with_reducible rfl
        try simp only [Act.put, List.setIfInBounds_toArray, List.set_cons_zero, List.set_cons_succ]
        refine wpAnyH_take (i := 1) (v := ?_) (by simp only [List.getElem?_toArray, List.getElem?_cons_succ, List.getElem?_cons_zero]; rfl) (by kernel_rfl) (by kernel_rfl) (by kernel_rfl) (by exact fun _ _ _ h => h) (Or.inl ⟨by rfl, ?_⟩) (by assumption) ?_
        rotate_left
        · (intro w hSw; (try dsimp only at hSw); go_simp); first | done | with_reducible rfl
        try simp only [Act.put, List.setIfInBounds_toArray, List.set_cons_zero, List.set_cons_succ]
        refine wpAnyH_take (i := 2) (v := ?_) (by simp only [List.getElem?_toArray, List.getElem?_cons_succ, List.getElem?_cons_zero]; rfl) (by kernel_rfl) (by kernel_rfl) (by kernel_rfl) (by exact fun _ _ _ h => h) (Or.inl ⟨by rfl, ?_⟩) (by assumption) ?_
        rotate_left
        · (intro w hSw; (try dsimp only at hSw); go_simp); first | done | with_reducible rfl
        try simp only [Act.put, List.setIfInBounds_toArray, List.set_cons_zero, List.set_cons_succ]
        refine wpAnyH_take (i := 4) (v := ?_) (by simp only [List.getElem?_toArray, List.getElem?_cons_succ, List.getElem?_cons_zero]; rfl) (by kernel_rfl) (by kernel_rfl) (by kernel_rfl) (by exact fun _ _ _ h => h) (Or.inl ⟨by rfl, ?_⟩) (by assumption) ?_
        rotate_left
        · (intro w hSw; (try dsimp only at hSw); go_simp); first | done | with_reducible rfl
        try simp only [Act.put, List.setIfInBounds_toArray, List.set_cons_zero, List.set_cons_succ]
        refine wpAnyH_take (i := 5) (v := ?_) (by simp only [List.getElem?_toArray, List.getElem?_cons_succ, List.getElem?_cons_zero]; rfl) (by kernel_rfl) (by kernel_rfl) (by kernel_rfl) (by exact fun _ _ _ h => h) (Or.inl ⟨by rfl, ?_⟩) (by assumption) ?_
        rotate_left
        · (intro w hSw; (try dsimp only at hSw); go_simp); first | done | with_reducible rfl
        try simp only [Act.put, List.setIfInBounds_toArray, List.set_cons_zero, List.set_cons_succ]
        refine wpAnyH_take (i := 6) (v := ?_) (by simp only [List.getElem?_toArray, List.getElem?_cons_succ, List.getElem?_cons_zero]; rfl) (by kernel_rfl) (by kernel_rfl) (by kernel_rfl) (by exact fun _ _ _ h => h) (Or.inl ⟨by rfl, ?_⟩) (by assumption) ?_
        rotate_left
        · (intro w hSw; (try dsimp only at hSw); go_simp); first | done | with_reducible rfl
        try simp only [Act.put, List.setIfInBounds_toArray, List.set_cons_zero, List.set_cons_succ]
        refine wpAnyH_ready (rs := [3, 9]) (by kernel_rfl) (by simp) ?_
        refine AllReadyH.cons (by simp only [List.getElem?_toArray, List.getElem?_cons_succ, List.getElem?_cons_zero]; rfl) (fun K hK => ?_) (AllReadyH.cons (by simp only [List.getElem?_toArray, List.getElem?_cons_succ, List.getElem?_cons_zero]; rfl) (fun K hK => ?_) AllReadyH.nil)
        · go_simp
          obtain ⟨w41, hw⟩ : ∃ W, W = World.alloc w40 (Obj.cells #[] 36) := ⟨_, rfl⟩
          have kb : Below w40.heap.size w40 w41 := by rw [hw]; exact (Below.refl _ _).alloc (Nat.le_refl _) _
          have o1 : Own w41 w2.heap.size 36 3 (.slice (some ⟨w40.heap.size, 0, none⟩) 0 0) 0 (arcCell N) := by rw [hw]; exact .inr ⟨_, 0, 0, #[], rfl, hQ, heap_new_at rfl, Nat.le_refl _, by unfold maxLen; omega, by simp, fun i hi => absurd hi (by omega)⟩
          rw [← hw]
          clear hw
          obtain ⟨nb, hnb⟩ : ∃ b, b = w40.heap.size := ⟨_, rfl⟩
          rw [← hnb] at o1 ⊢
          clear hnb
          replace hb := onS hb kb
          replace hW := onS hW kb
          replace p0 := cellS kb p0
          replace p1 := cellS kb p1
          replace hQ := Nat.le_trans hQ kb.size
          clear kb
          refine hK.out _ _ ⟨p0, p1⟩ (fun hHeld => ?_)
          clear hK K
          try simp only [Act.put, List.setIfInBounds_toArray, List.set_cons_zero, List.set_cons_succ]
          refine wpAnyH_ready (rs := [7, 9]) (by kernel_rfl) (by simp) ?_
          refine AllReadyH.cons (by simp only [List.getElem?_toArray, List.getElem?_cons_succ, List.getElem?_cons_zero]; rfl) (fun K hK => ?_) (AllReadyH.cons (by simp only [List.getElem?_toArray, List.getElem?_cons_succ, List.getElem?_cons_zero]; rfl) (fun K hK => ?_) AllReadyH.nil)
          · have hR := h.on hW
            refine step_append_copy_some _ (by rfl) (.tmp 27) (.tmp 30) _ (by rfl) 36 i0 _ 3 24 Try.underlying22 qi0 qz0 qz1 qz2 rfl (by omega) _ (by rfl) A N.n c (arcCell N) (by rfl) hR h0 (fun _ _ _ _ => arc_one) n3 hby ?_
            intro cap cur k1 k2 k3 k4
            obtain ⟨w42, hw⟩ : ∃ W, W = (World.drew w41).alloc (.cells cur 36) := ⟨_, rfl⟩
            have kb : Below w41.heap.size w41 w42 := by rw [hw]; exact ((Below.refl _ _).drew).alloc (Nat.le_refl _) _
            have o2 : Own w42 w2.heap.size 36 3 (.slice (some ⟨w41.heap.size, 0, none⟩) N.n cap) N.n (arcCell N) := by rw [hw]; exact Own.new (w := World.drew w41) hQ k1 k2 k3 k4
            rw [← hw]
            clear hw hR
            obtain ⟨ab, hab⟩ : ∃ b, b = w41.heap.size := ⟨_, rfl⟩
            rw [← hab] at o2 ⊢
            clear hab
            replace hb := onS hb kb
            replace hW := onS hW kb
            replace p0 := cellS kb p0
            replace p1 := cellS kb p1
            replace hQ := Nat.le_trans hQ kb.size
            replace o1 := o1.on kb
            clear kb
            refine hK.out _ _ ⟨p0, p1⟩ (fun hHeld => ?_)
            clear hK K
            try simp only [Act.put, List.setIfInBounds_toArray, List.set_cons_zero, List.set_cons_succ]
            refine wpAnyH_take (i := 8) (v := ?_) (by simp only [List.getElem?_toArray, List.getElem?_cons_succ, List.getElem?_cons_zero]; rfl) (by kernel_rfl) (by kernel_rfl) (by kernel_rfl) (by exact fun _ _ _ h => h) (Or.inl ⟨by rfl, ?_⟩) (by assumption) ?_
            rotate_left
            · (intro w hSw; (try dsimp only at hSw); go_simp); first | done | with_reducible rfl
            try simp only [Act.put, List.setIfInBounds_toArray, List.set_cons_zero, List.set_cons_succ]
            refine wpAnyH_ready (rs := [9]) (by kernel_rfl) (by simp) ?_
            refine AllReadyH.cons (by simp only [List.getElem?_toArray, List.getElem?_cons_succ, List.getElem?_cons_zero]; rfl) (fun K hK => ?_) AllReadyH.nil
            go_simp
            obtain ⟨w43, hw⟩ : ∃ W, W = World.alloc w42 (Obj.cells #[.int .i64 0, .slice none 0 0] 24) := ⟨_, rfl⟩
            have kb : Below w42.heap.size w42 w43 := by rw [hw]; exact (Below.refl _ _).alloc (Nat.le_refl _) _
            have rb : w43.rowIs w42.heap.size 24 2 (fun i => (#[.int .i64 0, .slice none 0 0] : Array Value).getD i undef) := by rw [hw]; exact World.rowIs_alloc _ _ _ _ (fun i hi => by simp at hi; simp [hi])
            rw [← hw]
            clear hw
            obtain ⟨bn, hbn⟩ : ∃ b, b = w42.heap.size := ⟨_, rfl⟩
            rw [← hbn] at rb ⊢
            have hbq : w2.heap.size ≤ bn := by omega
            have hne : ab ≠ bn := by have := (o2.lt ab rfl).2; omega
            clear hbn
            replace hb := onS hb kb
            replace hW := onS hW kb
            replace p0 := cellS kb p0
            replace p1 := cellS kb p1
            replace hQ := Nat.le_trans hQ kb.size
            replace o1 := o1.on kb
            replace o2 := o2.on kb
            clear kb
            refine hK.out _ _ ⟨p0, p1⟩ (fun hHeld => ?_)
            clear hK K
            try simp only [Act.put, List.setIfInBounds_toArray, List.set_cons_zero, List.set_cons_succ]
            refine wpAnyH_ready (rs := [10]) (by kernel_rfl) (by simp) ?_
            refine AllReadyH.cons (by simp only [List.getElem?_toArray, List.getElem?_cons_succ, List.getElem?_cons_zero]; rfl) (fun K hK => ?_) AllReadyH.nil
            have hlx := rb.lt
            have c0 : w43.cell? ⟨bn, 0, none⟩ = some _ := rb.cell (i := 0) (by omega)
            have c1 : w43.cell? ⟨bn, 1, none⟩ = some _ := rb.cell (i := 1) (by omega)
            have z0 := rb.frozen 0
            have z1 := rb.frozen 1
            go_simp
            replace p0 := cell_setCell_far (p := ⟨bn, 1, none⟩) (u := (Value.slice (some ⟨ab, 0, none⟩) N.n cap)) (cell_setCell_far (p := ⟨bn, 0, none⟩) (u := (Value.int .i64 N.V)) p0 (by show w.heap.size ≠ bn; omega)) (by show w.heap.size ≠ bn; omega)
            replace p1 := cell_setCell_far (p := ⟨bn, 1, none⟩) (u := (Value.slice (some ⟨ab, 0, none⟩) N.n cap)) (cell_setCell_far (p := ⟨bn, 0, none⟩) (u := (Value.int .i64 N.V)) p1 (by show w.heap.size ≠ bn; omega)) (by show w.heap.size ≠ bn; omega)
            replace hb := (hb.setCell (p := ⟨bn, 0, none⟩) hbq (Value.int .i64 N.V)).setCell (p := ⟨bn, 1, none⟩) hbq (Value.slice (some ⟨ab, 0, none⟩) N.n cap)
            have rb9 := ((rb.set 0 (Value.int .i64 N.V)).set 1 (Value.slice (some ⟨ab, 0, none⟩) N.n cap)).congr (g := fun i => if i = 0 then (Value.int .i64 N.V) else (Value.slice (some ⟨ab, 0, none⟩) N.n cap)) fun i hi => by
              match i, hi with
              | 0, _ => rfl
              | 1, _ => rfl
            have o9 := (o2.setCell (a := ⟨bn, 0, none⟩) (fun e => hne (by simpa [Value.ownBlock] using e)) (Value.int .i64 N.V)).setCell (a := ⟨bn, 1, none⟩) (fun e => hne (by simpa [Value.ownBlock] using e)) (Value.slice (some ⟨ab, 0, none⟩) N.n cap)
            clear rb o1 o2 hW hQ c0 c1 z0 z1
            refine hK.out _ _ ⟨p0, p1⟩ (fun hHeld => ?_)
            clear hK K
            try simp only [Act.put, List.setIfInBounds_toArray, List.set_cons_zero, List.set_cons_succ]
            refine wpAnyH_done (by kernel_rfl) ?_ _
            clear hHeld
            go_wp2_with fail
            go_meet
            have hq : ∀ q, (Value.slice (some ⟨ab, 0, none⟩) N.n cap).ownBlock = some q → q ≠ bn := fun q e => by
              have e2 : ab = q := by simpa [Value.ownBlock] using e
              rw [← e2]; exact hne
            exact ⟨bn, some ⟨ab, 0, none⟩, cap, rfl, rb9, o9, hb, hbq, hq⟩
          · go_simp
            obtain ⟨w42, hw⟩ : ∃ W, W = World.alloc w41 (Obj.cells #[.int .i64 0, .slice none 0 0] 24) := ⟨_, rfl⟩
            have kb : Below w41.heap.size w41 w42 := by rw [hw]; exact (Below.refl _ _).alloc (Nat.le_refl _) _
            have rb : w42.rowIs w41.heap.size 24 2 (fun i => (#[.int .i64 0, .slice none 0 0] : Array Value).getD i undef) := by rw [hw]; exact World.rowIs_alloc _ _ _ _ (fun i hi => by simp at hi; simp [hi])
            rw [← hw]
            clear hw
            obtain ⟨bn, hbn⟩ : ∃ b, b = w41.heap.size := ⟨_, rfl⟩
            rw [← hbn] at rb ⊢
            have hbq : w2.heap.size ≤ bn := by omega
            clear hbn
            replace hb := onS hb kb
            replace hW := onS hW kb
            replace p0 := cellS kb p0
            replace p1 := cellS kb p1
            replace hQ := Nat.le_trans hQ kb.size
            replace o1 := o1.on kb
            clear kb
            refine hK.out _ _ ⟨p0, p1⟩ (fun hHeld => ?_)
            clear hK K
            try simp only [Act.put, List.setIfInBounds_toArray, List.set_cons_zero, List.set_cons_succ]
            refine wpAnyH_ready (rs := [7]) (by kernel_rfl) (by simp) ?_
            refine AllReadyH.cons (by simp only [List.getElem?_toArray, List.getElem?_cons_succ, List.getElem?_cons_zero]; rfl) (fun K hK => ?_) AllReadyH.nil
            have hR := h.on hW
            refine step_append_copy_some _ (by rfl) (.tmp 27) (.tmp 30) _ (by rfl) 36 i0 _ 3 24 Try.underlying22 qi0 qz0 qz1 qz2 rfl (by omega) _ (by rfl) A N.n c (arcCell N) (by rfl) hR h0 (fun _ _ _ _ => arc_one) n3 hby ?_
            intro cap cur k1 k2 k3 k4
            obtain ⟨w43, hw⟩ : ∃ W, W = (World.drew w42).alloc (.cells cur 36) := ⟨_, rfl⟩
            have kb : Below w42.heap.size w42 w43 := by rw [hw]; exact ((Below.refl _ _).drew).alloc (Nat.le_refl _) _
            have o2 : Own w43 w2.heap.size 36 3 (.slice (some ⟨w42.heap.size, 0, none⟩) N.n cap) N.n (arcCell N) := by rw [hw]; exact Own.new (w := World.drew w42) hQ k1 k2 k3 k4
            rw [← hw]
            clear hw hR
            obtain ⟨ab, hab⟩ : ∃ b, b = w42.heap.size := ⟨_, rfl⟩
            rw [← hab] at o2 ⊢
            have hne : ab ≠ bn := by have := rb.lt; omega
            clear hab
            replace rb := rowIs_on rb kb
            replace hb := onS hb kb
            replace hW := onS hW kb
            replace p0 := cellS kb p0
            replace p1 := cellS kb p1
            replace hQ := Nat.le_trans hQ kb.size
            replace o1 := o1.on kb
            clear kb
            refine hK.out _ _ ⟨p0, p1⟩ (fun hHeld => ?_)
            clear hK K
            try simp only [Act.put, List.setIfInBounds_toArray, List.set_cons_zero, List.set_cons_succ]
            refine wpAnyH_take (i := 8) (v := ?_) (by simp only [List.getElem?_toArray, List.getElem?_cons_succ, List.getElem?_cons_zero]; rfl) (by kernel_rfl) (by kernel_rfl) (by kernel_rfl) (by exact fun _ _ _ h => h) (Or.inl ⟨by rfl, ?_⟩) (by assumption) ?_
            rotate_left
            · (intro w hSw; (try dsimp only at hSw); go_simp); first | done | with_reducible rfl
            try simp only [Act.put, List.setIfInBounds_toArray, List.set_cons_zero, List.set_cons_succ]
            refine wpAnyH_ready (rs := [10]) (by kernel_rfl) (by simp) ?_
            refine AllReadyH.cons (by simp only [List.getElem?_toArray, List.getElem?_cons_succ, List.getElem?_cons_zero]; rfl) (fun K hK => ?_) AllReadyH.nil
            have hlx := rb.lt
            have c0 : w43.cell? ⟨bn, 0, none⟩ = some _ := rb.cell (i := 0) (by omega)
            have c1 : w43.cell? ⟨bn, 1, none⟩ = some _ := rb.cell (i := 1) (by omega)
            have z0 := rb.frozen 0
            have z1 := rb.frozen 1
            go_simp
            replace p0 := cell_setCell_far (p := ⟨bn, 1, none⟩) (u := (Value.slice (some ⟨ab, 0, none⟩) N.n cap)) (cell_setCell_far (p := ⟨bn, 0, none⟩) (u := (Value.int .i64 N.V)) p0 (by show w.heap.size ≠ bn; omega)) (by show w.heap.size ≠ bn; omega)
            replace p1 := cell_setCell_far (p := ⟨bn, 1, none⟩) (u := (Value.slice (some ⟨ab, 0, none⟩) N.n cap)) (cell_setCell_far (p := ⟨bn, 0, none⟩) (u := (Value.int .i64 N.V)) p1 (by show w.heap.size ≠ bn; omega)) (by show w.heap.size ≠ bn; omega)
            replace hb := (hb.setCell (p := ⟨bn, 0, none⟩) hbq (Value.int .i64 N.V)).setCell (p := ⟨bn, 1, none⟩) hbq (Value.slice (some ⟨ab, 0, none⟩) N.n cap)
            have rb9 := ((rb.set 0 (Value.int .i64 N.V)).set 1 (Value.slice (some ⟨ab, 0, none⟩) N.n cap)).congr (g := fun i => if i = 0 then (Value.int .i64 N.V) else (Value.slice (some ⟨ab, 0, none⟩) N.n cap)) fun i hi => by
              match i, hi with
              | 0, _ => rfl
              | 1, _ => rfl
            have o9 := (o2.setCell (a := ⟨bn, 0, none⟩) (fun e => hne (by simpa [Value.ownBlock] using e)) (Value.int .i64 N.V)).setCell (a := ⟨bn, 1, none⟩) (fun e => hne (by simpa [Value.ownBlock] using e)) (Value.slice (some ⟨ab, 0, none⟩) N.n cap)
            clear rb o1 o2 hW hQ c0 c1 z0 z1
            refine hK.out _ _ ⟨p0, p1⟩ (fun hHeld => ?_)
            clear hK K
            try simp only [Act.put, List.setIfInBounds_toArray, List.set_cons_zero, List.set_cons_succ]
            refine wpAnyH_done (by kernel_rfl) ?_ _
            clear hHeld
            go_wp2_with fail
            go_meet
            have hq : ∀ q, (Value.slice (some ⟨ab, 0, none⟩) N.n cap).ownBlock = some q → q ≠ bn := fun q e => by
              have e2 : ab = q := by simpa [Value.ownBlock] using e
              rw [← e2]; exact hne
            exact ⟨bn, some ⟨ab, 0, none⟩, cap, rfl, rb9, o9, hb, hbq, hq⟩
        · go_simp
          obtain ⟨w41, hw⟩ : ∃ W, W = World.alloc w40 (Obj.cells #[.int .i64 0, .slice none 0 0] 24) := ⟨_, rfl⟩
          have kb : Below w40.heap.size w40 w41 := by rw [hw]; exact (Below.refl _ _).alloc (Nat.le_refl _) _
          have rb : w41.rowIs w40.heap.size 24 2 (fun i => (#[.int .i64 0, .slice none 0 0] : Array Value).getD i undef) := by rw [hw]; exact World.rowIs_alloc _ _ _ _ (fun i hi => by simp at hi; simp [hi])
          rw [← hw]
          clear hw
          obtain ⟨bn, hbn⟩ : ∃ b, b = w40.heap.size := ⟨_, rfl⟩
          rw [← hbn] at rb ⊢
          have hbq : w2.heap.size ≤ bn := by omega
          clear hbn
          replace hb := onS hb kb
          replace hW := onS hW kb
          replace p0 := cellS kb p0
          replace p1 := cellS kb p1
          replace hQ := Nat.le_trans hQ kb.size
          clear kb
          refine hK.out _ _ ⟨p0, p1⟩ (fun hHeld => ?_)
          clear hK K
          try simp only [Act.put, List.setIfInBounds_toArray, List.set_cons_zero, List.set_cons_succ]
          refine wpAnyH_ready (rs := [3]) (by kernel_rfl) (by simp) ?_
          refine AllReadyH.cons (by simp only [List.getElem?_toArray, List.getElem?_cons_succ, List.getElem?_cons_zero]; rfl) (fun K hK => ?_) AllReadyH.nil
          go_simp
          obtain ⟨w42, hw⟩ : ∃ W, W = World.alloc w41 (Obj.cells #[] 36) := ⟨_, rfl⟩
          have kb : Below w41.heap.size w41 w42 := by rw [hw]; exact (Below.refl _ _).alloc (Nat.le_refl _) _
          have o1 : Own w42 w2.heap.size 36 3 (.slice (some ⟨w41.heap.size, 0, none⟩) 0 0) 0 (arcCell N) := by rw [hw]; exact .inr ⟨_, 0, 0, #[], rfl, hQ, heap_new_at rfl, Nat.le_refl _, by unfold maxLen; omega, by simp, fun i hi => absurd hi (by omega)⟩
          rw [← hw]
          clear hw
          obtain ⟨nb, hnb⟩ : ∃ b, b = w41.heap.size := ⟨_, rfl⟩
          rw [← hnb] at o1 ⊢
          clear hnb
          replace rb := rowIs_on rb kb
          replace hb := onS hb kb
          replace hW := onS hW kb
          replace p0 := cellS kb p0
          replace p1 := cellS kb p1
          replace hQ := Nat.le_trans hQ kb.size
          clear kb
          refine hK.out _ _ ⟨p0, p1⟩ (fun hHeld => ?_)
          clear hK K
          try simp only [Act.put, List.setIfInBounds_toArray, List.set_cons_zero, List.set_cons_succ]
          refine wpAnyH_ready (rs := [7]) (by kernel_rfl) (by simp) ?_
          refine AllReadyH.cons (by simp only [List.getElem?_toArray, List.getElem?_cons_succ, List.getElem?_cons_zero]; rfl) (fun K hK => ?_) AllReadyH.nil
          have hR := h.on hW
          refine step_append_copy_some _ (by rfl) (.tmp 27) (.tmp 30) _ (by rfl) 36 i0 _ 3 24 Try.underlying22 qi0 qz0 qz1 qz2 rfl (by omega) _ (by rfl) A N.n c (arcCell N) (by rfl) hR h0 (fun _ _ _ _ => arc_one) n3 hby ?_
          intro cap cur k1 k2 k3 k4
          obtain ⟨w43, hw⟩ : ∃ W, W = (World.drew w42).alloc (.cells cur 36) := ⟨_, rfl⟩
          have kb : Below w42.heap.size w42 w43 := by rw [hw]; exact ((Below.refl _ _).drew).alloc (Nat.le_refl _) _
          have o2 : Own w43 w2.heap.size 36 3 (.slice (some ⟨w42.heap.size, 0, none⟩) N.n cap) N.n (arcCell N) := by rw [hw]; exact Own.new (w := World.drew w42) hQ k1 k2 k3 k4
          rw [← hw]
          clear hw hR
          obtain ⟨ab, hab⟩ : ∃ b, b = w42.heap.size := ⟨_, rfl⟩
          rw [← hab] at o2 ⊢
          have hne : ab ≠ bn := by have := rb.lt; omega
          clear hab
          replace rb := rowIs_on rb kb
          replace hb := onS hb kb
          replace hW := onS hW kb
          replace p0 := cellS kb p0
          replace p1 := cellS kb p1
          replace hQ := Nat.le_trans hQ kb.size
          replace o1 := o1.on kb
          clear kb
          refine hK.out _ _ ⟨p0, p1⟩ (fun hHeld => ?_)
          clear hK K
          try simp only [Act.put, List.setIfInBounds_toArray, List.set_cons_zero, List.set_cons_succ]
          refine wpAnyH_take (i := 8) (v := ?_) (by simp only [List.getElem?_toArray, List.getElem?_cons_succ, List.getElem?_cons_zero]; rfl) (by kernel_rfl) (by kernel_rfl) (by kernel_rfl) (by exact fun _ _ _ h => h) (Or.inl ⟨by rfl, ?_⟩) (by assumption) ?_
          rotate_left
          · (intro w hSw; (try dsimp only at hSw); go_simp); first | done | with_reducible rfl
          try simp only [Act.put, List.setIfInBounds_toArray, List.set_cons_zero, List.set_cons_succ]
          refine wpAnyH_ready (rs := [10]) (by kernel_rfl) (by simp) ?_
          refine AllReadyH.cons (by simp only [List.getElem?_toArray, List.getElem?_cons_succ, List.getElem?_cons_zero]; rfl) (fun K hK => ?_) AllReadyH.nil
          have hlx := rb.lt
          have c0 : w43.cell? ⟨bn, 0, none⟩ = some _ := rb.cell (i := 0) (by omega)
          have c1 : w43.cell? ⟨bn, 1, none⟩ = some _ := rb.cell (i := 1) (by omega)
          have z0 := rb.frozen 0
          have z1 := rb.frozen 1
          go_simp
          replace p0 := cell_setCell_far (p := ⟨bn, 1, none⟩) (u := (Value.slice (some ⟨ab, 0, none⟩) N.n cap)) (cell_setCell_far (p := ⟨bn, 0, none⟩) (u := (Value.int .i64 N.V)) p0 (by show w.heap.size ≠ bn; omega)) (by show w.heap.size ≠ bn; omega)
          replace p1 := cell_setCell_far (p := ⟨bn, 1, none⟩) (u := (Value.slice (some ⟨ab, 0, none⟩) N.n cap)) (cell_setCell_far (p := ⟨bn, 0, none⟩) (u := (Value.int .i64 N.V)) p1 (by show w.heap.size ≠ bn; omega)) (by show w.heap.size ≠ bn; omega)
          replace hb := (hb.setCell (p := ⟨bn, 0, none⟩) hbq (Value.int .i64 N.V)).setCell (p := ⟨bn, 1, none⟩) hbq (Value.slice (some ⟨ab, 0, none⟩) N.n cap)
          have rb9 := ((rb.set 0 (Value.int .i64 N.V)).set 1 (Value.slice (some ⟨ab, 0, none⟩) N.n cap)).congr (g := fun i => if i = 0 then (Value.int .i64 N.V) else (Value.slice (some ⟨ab, 0, none⟩) N.n cap)) fun i hi => by
            match i, hi with
            | 0, _ => rfl
            | 1, _ => rfl
          have o9 := (o2.setCell (a := ⟨bn, 0, none⟩) (fun e => hne (by simpa [Value.ownBlock] using e)) (Value.int .i64 N.V)).setCell (a := ⟨bn, 1, none⟩) (fun e => hne (by simpa [Value.ownBlock] using e)) (Value.slice (some ⟨ab, 0, none⟩) N.n cap)
          clear rb o1 o2 hW hQ c0 c1 z0 z1
          refine hK.out _ _ ⟨p0, p1⟩ (fun hHeld => ?_)
          clear hK K
          try simp only [Act.put, List.setIfInBounds_toArray, List.set_cons_zero, List.set_cons_succ]
          refine wpAnyH_done (by kernel_rfl) ?_ _
          clear hHeld
          go_wp2_with fail
          go_meet
          have hq : ∀ q, (Value.slice (some ⟨ab, 0, none⟩) N.n cap).ownBlock = some q → q ≠ bn := fun q e => by
            have e2 : ab = q := by simpa [Value.ownBlock] using e
            rw [← e2]; exact hne
          exact ⟨bn, some ⟨ab, 0, none⟩, cap, rfl, rb9, o9, hb, hbq, hq⟩
    case rest =>
      obtain ⟨bn, A3, c3, rfl, hrow, hO, hb, hbn, hne⟩ := hcut
      have HNE := hid hne
      have hO0 : Own wc w2.heap.size 36 3 (.slice A3 N.n c3) N.n (arcCell (N.ones 0)) := by rw [Net.ones_zero]; exact hO
      clear hne hO p0 p1 p2 p3
      have c0 := hrow.cell (i := 0) (by omega)
      have c1 := hrow.cell (i := 1) (by omega)
      rw [if_pos rfl] at c0
      rw [if_neg (by omega)] at c1
      go_wp2
      go_loopg [4] N.n (fun gg iv wx => ∃ k : Nat, iv = .int .i64 (k : Nat) ∧ k ≤ N.n ∧ N.n ≤ k + gg ∧ Own wx w2.heap.size 36 3 (.slice A3 N.n c3) N.n (arcCell (N.ones k)) ∧ wx.rowIs bn 24 2 (fun i => if i = 0 then .int .i64 N.V else .slice A3 N.n c3) ∧ Below w2.heap.size w2 wx)
      case atStart => exact ⟨0, rfl, by omega, by omega, hO0, hrow, hb⟩
      case round =>
        obtain ⟨k, rfl, hk, hkg, hO1, hrow1, hb1⟩ := hrel
        clear hO0 hrow hb c0 c1
        have hk0 : (0 : Int) ≤ (k : Int) := by omega
        have c0 := hrow1.cell (i := 0) (by omega)
        have c1 := hrow1.cell (i := 1) (by omega)
        rw [if_pos rfl] at c0
        rw [if_neg (by omega)] at c1
        by_cases hlt : k < N.n
        · have hlt' : (k : Int) < (N.n : Int) := by omega
          have hn63 : N.n ≤ 140737488355328 := by omega
          obtain ⟨g, o, cap, hle, hg, _, _, _, hcells⟩ := hO1.form (by omega)
          injection hle with e1 _ e2
          subst e1 e2
          have x0 := hcells k hlt 2 (by omega)
          have x1 := hO1.frozen (o + k * 3 + 2)
          have hgb : g ≠ bn := HNE.out g rfl
          have hset := hid ((hO1.set (a := k) (b := 2) hlt (by omega) (.int .i64 1)).congr (f' := arcCell (N.ones (k + 1))) fun i hi b hb => by
            show (if i = k ∧ b = 2 then _ else _) = _
            by_cases e : i = k
            · match b, hb with
              | 0, _ => rw [if_neg (by omega)]; rfl
              | 1, _ => rw [if_neg (by omega)]; rfl
              | 2, _ => rw [if_pos ⟨e, rfl⟩]; show _ = Value.int .i64 (if i < k + 1 then 1 else N.cp i); rw [if_pos (by omega)]
            · rw [if_neg (fun h => e h.1)]
              match b, hb with
              | 0, _ => rfl
              | 1, _ => rfl
              | 2, _ =>
                show Value.int .i64 (if i < k then 1 else N.cp i) = Value.int .i64 (if i < k + 1 then 1 else N.cp i)
                by_cases e2 : i < k
                · rw [if_pos e2, if_pos (by omega)]
                · rw [if_neg e2, if_neg (by omega)])
          have hgb' : bn ≠ g := fun e => hgb e.symm
          have hrow2 : Hid ((wr.setCell ⟨g, o + k * 3 + 2, none⟩ (.int .i64 1)).rowIs bn 24 2 (fun i => if i = 0 then .int .i64 N.V else .slice (some ⟨g, o, none⟩) N.n c3)) := hrow1.setOther (by simpa using hgb') _
          have hb2 := hid (hb1.setCell (p := ⟨g, o + k * 3 + 2, none⟩) hg (.int .i64 1))
          clear hcells hO1 hrow1 hb1
          go_wp2
          go_roundg (gk - 1)
          case measure => omega
          case rel => exact ⟨k + 1, by go_num, by omega, by omega, hset.out, hrow2.out, hb2.out⟩
        · obtain rfl : k = N.n := by omega
          have hM : (N.ones N.n).Reads wr wr.heap.size A3 := hO1.rd rfl
          have hBx := HB2.out.trans (hb1.mono (by omega))
          obtain ⟨⟨p0, p1, p2, p3⟩, hW⟩ := HS.out _ hBx
          have hwz : w.heap.size < wr.heap.size := box_lt hBx
          by_cases he : (N.ones N.n).endsE s t = 0
          · have HE := hid he
            clear he
            go_wp2_with fail
            refine (max_ok (N.ones N.n) A3 c3 s t wr hM HE.out).mono ?_
            rintro e w7 ⟨val, f, seen, arc, back, rk, cnt, A1, A2, hfl, hre, hst, rfl, kb, hf1, hs1, hA1, hA2⟩
            have HEN := hid (ends_of HE.out)
            have HCT := hid (certified_of HEN.out hfl hre hst)
            have hM7 := hM.on kb
            replace hW := onS hW kb
            replace p2 := cellS kb p2
            replace p3 := cellS kb p3
            replace c0 := cellS kb c0
            replace c1 := cellS kb c1
            have hz7 := kb.size
            have hwz7 : w.heap.size < w7.heap.size := by omega
            have hbn7 : bn < w7.heap.size := Nat.lt_of_lt_of_le hrow1.lt hz7
            have KA := hid fun o => (Below.refl w7.heap.size w7).alloc (Nat.le_refl _) o
            clear kb hM p0 p1 hBx hO1 hrow1 hb1 hfl hre hst hA1 hA2
            go_wp2_with fail
            refine (refEnds_any (N.ones N.n) A3 c3 s t _ (hM7.on (KA.out _))).mono ?_
            rintro e w8 ⟨rfl, kb⟩
            rw [HE.out]
            have hB8 := box_on (Below.refl (w7.heap.size + 1) (w7.alloc (Obj.cells #[Value.int IntKind.i64 val, Value.slice A1 N.n N.n, Value.slice A2 N.V.toNat N.V.toNat] 39))) kb
            have kb8 := box_below hB8
            have f0 := box_cell hB8 0 rfl
            have f1 := box_cell hB8 1 rfl
            have f2 := box_cell hB8 2 rfl
            have hW8 := onS hW kb8
            have hM8 := hM7.on kb8
            have hf8 := hf1.on kb8
            have hs8 := hs1.on kb8
            replace p2 := cellS kb8 p2
            replace p3 := cellS kb8 p3
            replace c0 := cellS kb8 c0
            replace c1 := cellS kb8 c1
            obtain ⟨fb, hfb⟩ : ∃ b, b = w7.heap.size := ⟨_, rfl⟩
            rw [← hfb] at f0 f1 f2 ⊢
            have hfb8 : fb < w8.heap.size := by rw [hfb]; exact box_lt hB8
            have hbn8 : bn < w8.heap.size := Nat.lt_of_lt_of_le hbn7 kb8.size
            have hwz8 : w.heap.size < w8.heap.size := Nat.lt_of_lt_of_le hwz7 kb8.size
            clear kb hB8 kb8 hfb KA hM7 hf1 hs1 hW hz7 hwz7 hbn7
            go_wp2_with fail
            refine (routes_any (N.ones N.n) A3 A1 A2 c3 N.n N.n N.V.toNat N.V.toNat s t val f seen w8 hM8 hf8 hs8 (Nat.le_refl _)).mono ?_
            rintro e w9 ⟨kb, x, hx, hpost⟩
            rcases hpost with ⟨hx0, rfl⟩ | ⟨rfl, T, K, cc, base, RA, RL, AM, PT, rfl, hKc, hcm, hRT, hR, hg0, hv0, hKn⟩
            · exact absurd (hx.zero.2 ⟨HE.out, HCT.out⟩) hx0
            · replace hW8 := onS hW8 kb
              replace hM8 := hM8.on kb
              replace hf8 := hf8.on kb
              replace hs8 := hs8.on kb
              replace p2 := cellS kb p2
              replace p3 := cellS kb p3
              replace c0 := cellS kb c0
              replace c1 := cellS kb c1
              replace f0 := cellS kb f0
              replace f1 := cellS kb f1
              replace f2 := cellS kb f2
              have HRT := hid hRT
              have HR := hid hR
              have HV0 := hid hv0
              have hz9 := kb.size
              have hV1 := HEN.out.good.v1
              have hV2 := HEN.out.good.v2
              have hn1 : N.n ≤ 1024 := HEN.out.good.n2
              change 1 ≤ N.V at hV1
              have hVe : Hid (((N.V.toNat : Int) != N.V) = false) := by show _ = _; simp; omega
              have hmk := fun W => run_makeI (P := Try.prog) 28 4 _ 1 Try.underlying28 Try.infoBool rfl (N.n : Int) (by omega) (by omega) (by omega) W
              have hf1 : Hid (∀ i, i < (N.ones N.n).n → f i ≤ 1) := fun i hi => by
                have h1 := (HCT.out.1.2.1 i hi).2
                have h2 : (N.ones N.n).cp i = 1 := if_pos hi
                omega
              clear kb hx hg0 hRT hR hv0
              have hvb : 0 ≤ val ∧ val ≤ 1125899906842624 := by
                have h1 := Net.capTo_bd HEN.out.good seen (N.ones N.n).n (Nat.le_refl _)
                have h2 := HCT.out.2.2.2
                have h3 : (N.ones N.n).n ≤ 1024 := HEN.out.good.n2
                unfold Net.cap at h2
                omega
              have HVB : Hid (∀ k, k ≤ K → 0 ≤ vAt val AM PT k ∧ vAt val AM PT k ≤ val) := fun k hk => by
                have h1 := vAt_le (val := val) (AM := AM) (PT := PT) K hk fun i hi => by have := (HR.out i hi).2.1; omega
                have h2 := vAt_le (val := val) (AM := AM) (PT := PT) (k := 0) k (by omega) fun i hi => by have := (HR.out i (by omega)).2.1; omega
                rw [HV0.out] at h1
                exact ⟨h1, h2⟩
              have HVAL := hid hvb
              have hK1 : (K : Int) ≤ 1024 := by
                have h3 : (N.ones N.n).n ≤ 1024 := HEN.out.good.n2
                omega
              have hVe' := hVe.out
              have hVm : (max N.V 0 != N.V) = false := by rw [Int.max_eq_left (by omega)]; simp
              have hrow9 := World.rowIs_made w9 (.bool false) N.n 4
              have hrowS : Hid ((w9.alloc (Obj.cells (madeCells #[Value.bool false] N.n) 4)).rowIs w9.heap.size 4 N.n (fun i => .bool (usedB f RA RL AM 0 0 i))) := hrow9.congr fun i hi => by rw [usedB_start]
              clear hvb hrow9
              go_wp2
              clear hmk
              go_loopg [11, 12] K (fun gg pv kv wx => ∃ k : Nat, kv = .int .i64 (k : Nat) ∧ k ≤ K ∧ K ≤ k + gg ∧ pv = .int .i64 (val - vAt val AM PT k) ∧ wx.rowIs w9.heap.size 4 N.n (fun i => .bool (usedB f RA RL AM k 0 i)) ∧ Below w9.heap.size w9 wx)
              case atStart => exact ⟨0, rfl, by omega, by omega, by show _ = Value.int IntKind.i64 (val - val); rw [Int.sub_self], hrowS.out, (Below.refl _ _).alloc (Nat.le_refl _) _⟩
              case round =>
                obtain ⟨gK, hgK⟩ : ∃ g, g = gk := ⟨_, rfl⟩
                subst hgK
                obtain ⟨w39, hw39⟩ : ∃ W, W = wr := ⟨_, rfl⟩
                subst hw39
                obtain ⟨k, rfl, hk, hkg, rfl, hrow, hb⟩ := hrel
                have hk0 : (0 : Int) ≤ (k : Int) := by omega
                have x2 := cellS hb p2
                have x3 := cellS hb p3
                have x4 := cellS hb c0
                have x5 := cellS hb c1
                have hW := onS hW8 hb
                have hM := hM8.on hb
                obtain ⟨vk, hvk⟩ : ∃ v, v = val - vAt val AM PT k := ⟨_, rfl⟩
                rw [← hvk]
                have HVK := hid hvk
                clear hvk hrowS
                by_cases hlt : k < K
                · have hlt' : (k : Int) < (K : Int) := by omega
                  obtain ⟨hok, ham, hle⟩ := HR.out k hlt
                  have hU := unit_route HR.out hf1.out hlt
                  have hvb1 := HVB.out k hk
                  have hvb2 := HVB.out (k + 1) (by omega)
                  have hvs : vAt val AM PT (k + 1) = if PT k then vAt val AM PT k - AM k else vAt val AM PT k := rfl
                  have hrlV := hok.few HEN.out.good
                  obtain ⟨tb, to_, Ak, Ck, rfl, x0, x1, hi⟩ := (HRT.out.on hb).rcells hlt
                  rw [hU.1] at x1 hvs
                  have HVS := hid hvs
                  obtain ⟨rl, hrle⟩ : ∃ v, v = RL k := ⟨_, rfl⟩
                  obtain ⟨ra, hrae⟩ : ∃ v, v = RA k := ⟨_, rfl⟩
                  obtain ⟨pt, hpte⟩ : ∃ v, v = PT k := ⟨_, rfl⟩
                  rw [← hrle] at x0 hrlV
                  have HRL := hid hrle
                  have HRA := hid hrae
                  have HPT := hid hpte
                  have hok2 : RouteOk (N.ones N.n) s t ra rl pt := by rw [hrle, hrae, hpte]; exact hok
                  have hi2 : Ints w39 w39.heap.size Ak rl (fun j => (ra j : Nat)) := by rw [hrle, hrae]; exact hi
                  have HOK2 := hid hok2
                  have ham : (1 : Int) ≤ 1 := by omega
                  clear hok hle hvs hrle hrae hpte hi hU
                  go_upto_region 22 with fail
                  refine wp_region_held_drew (S := fun w' => w'.cell? ⟨bn, 0, none⟩ = some (.int .i64 N.V) ∧ w'.cell? ⟨bn, 1, none⟩ = some (.slice A3 N.n c3) ∧ w'.cell? ⟨w.heap.size, 2, none⟩ = some (.int .i64 s) ∧ w'.cell? ⟨w.heap.size, 3, none⟩ = some (.int .i64 t) ∧ w'.cell? ⟨tb, to_ + k * 2, none⟩ = some (.slice Ak rl Ck) ∧ w'.cell? ⟨tb, to_ + k * 2 + 1, none⟩ = some (.int .i64 1)) (by kernel_rfl) ⟨cellS (Below.refl _ _).drew x4, cellS (Below.refl _ _).drew x5, cellS (Below.refl _ _).drew x2, cellS (Below.refl _ _).drew x3, cellS (Below.refl _ _).drew x0, cellS (Below.refl _ _).drew x1⟩ (fun hHeld => ?_)
                  obtain ⟨w40, hw⟩ : ∃ W, W = World.drew w39 := ⟨_, rfl⟩
                  have kb : Below w39.heap.size w39 w40 := by rw [hw]; exact (Below.refl _ _).drew
                  rw [← hw] at hHeld ⊢
                  clear hw
                  replace hrow := rowIs_on hrow kb
                  replace hb := onS hb kb
                  replace hW := onS hW kb
                  replace hM := hM.on kb
                  replace hi2 := hi2.on kb
                  replace x0 := cellS kb x0
                  replace x1 := cellS kb x1
                  replace x2 := cellS kb x2
                  replace x3 := cellS kb x3
                  replace x4 := cellS kb x4
                  replace x5 := cellS kb x5
                  clear kb
                  refine wpAnyH_take (i := 0) (v := ?_) (by simp only [List.getElem?_toArray, List.getElem?_cons_zero]; rfl) (by kernel_rfl) (by kernel_rfl) (by kernel_rfl) (by exact fun _ _ _ h => h) (Or.inl ⟨by rfl, ?_⟩) (by assumption) ?_
                  rotate_left
                  · (intro w hSw; (try dsimp only at hSw); go_simp); first | done | with_reducible rfl
                  try simp only [Act.put, List.setIfInBounds_toArray, List.set_cons_zero, List.set_cons_succ]
                  refine wpAnyH_take (i := 1) (v := ?_) (by simp only [List.getElem?_toArray, List.getElem?_cons_succ, List.getElem?_cons_zero]; rfl) (by kernel_rfl) (by kernel_rfl) (by kernel_rfl) (by exact fun _ _ _ h => h) (Or.inl ⟨by rfl, ?_⟩) (by assumption) ?_
                  rotate_left
                  · (intro w hSw; (try dsimp only at hSw); go_simp); first | done | with_reducible rfl
                  try simp only [Act.put, List.setIfInBounds_toArray, List.set_cons_zero, List.set_cons_succ]
                  refine wpAnyH_take (i := 2) (v := ?_) (by simp only [List.getElem?_toArray, List.getElem?_cons_succ, List.getElem?_cons_zero]; rfl) (by kernel_rfl) (by kernel_rfl) (by kernel_rfl) (by exact fun _ _ _ h => h) (Or.inl ⟨by rfl, ?_⟩) (by assumption) ?_
                  rotate_left
                  · (intro w hSw; (try dsimp only at hSw); go_simp); first | done | with_reducible rfl
                  try simp only [Act.put, List.setIfInBounds_toArray, List.set_cons_zero, List.set_cons_succ]
                  refine wpAnyH_take (i := 3) (v := ?_) (by simp only [List.getElem?_toArray, List.getElem?_cons_succ, List.getElem?_cons_zero]; rfl) (by kernel_rfl) (by kernel_rfl) (by kernel_rfl) (by exact fun _ _ _ h => h) (Or.inl ⟨by rfl, ?_⟩) (by assumption) ?_
                  rotate_left
                  · (intro w hSw; (try dsimp only at hSw); go_simp); first | done | with_reducible rfl
                  try simp only [Act.put, List.setIfInBounds_toArray, List.set_cons_zero, List.set_cons_succ]
                  refine wpAnyH_take (i := 4) (v := ?_) (by simp only [List.getElem?_toArray, List.getElem?_cons_succ, List.getElem?_cons_zero]; rfl) (by kernel_rfl) (by kernel_rfl) (by kernel_rfl) (by exact fun _ _ _ h => h) (Or.inl ⟨by rfl, ?_⟩) (by assumption) ?_
                  rotate_left
                  · (intro w hSw; (try dsimp only at hSw); go_simp); first | done | with_reducible rfl
                  try simp only [Act.put, List.setIfInBounds_toArray, List.set_cons_zero, List.set_cons_succ]
                  refine wpAnyH_take (i := 5) (v := ?_) (by simp only [List.getElem?_toArray, List.getElem?_cons_succ, List.getElem?_cons_zero]; rfl) (by kernel_rfl) (by kernel_rfl) (by kernel_rfl) (by exact fun _ _ _ h => h) (Or.inl ⟨by rfl, ?_⟩) (by assumption) ?_
                  rotate_left
                  · (intro w hSw; (try dsimp only at hSw); go_simp); first | done | with_reducible rfl
                  try simp only [Act.put, List.setIfInBounds_toArray, List.set_cons_zero, List.set_cons_succ]
                  refine wpAnyH_take (i := 6) (v := ?_) (by simp only [List.getElem?_toArray, List.getElem?_cons_succ, List.getElem?_cons_zero]; rfl) (by kernel_rfl) (by kernel_rfl) (by kernel_rfl) (by exact fun _ _ _ h => h) (Or.inl ⟨by rfl, ?_⟩) (by assumption) ?_
                  rotate_left
                  · (intro w hSw; (try dsimp only at hSw); go_simp); first | done | with_reducible rfl
                  try simp only [Act.put, List.setIfInBounds_toArray, List.set_cons_zero, List.set_cons_succ]
                  refine wpAnyH_take (i := 7) (v := ?_) (by simp only [List.getElem?_toArray, List.getElem?_cons_succ, List.getElem?_cons_zero]; rfl) (by kernel_rfl) (by kernel_rfl) (by kernel_rfl) (by exact fun _ _ _ h => h) (Or.inl ⟨by rfl, ?_⟩) (by assumption) ?_
                  rotate_left
                  · (intro w hSw; (try dsimp only at hSw); go_simp); first | done | with_reducible rfl
                  try simp only [Act.put, List.setIfInBounds_toArray, List.set_cons_zero, List.set_cons_succ]
                  refine wpAnyH_take (i := 8) (v := ?_) (by simp only [List.getElem?_toArray, List.getElem?_cons_succ, List.getElem?_cons_zero]; rfl) (by kernel_rfl) (by kernel_rfl) (by kernel_rfl) (by exact fun _ _ _ h => h) (Or.inl ⟨by rfl, ?_⟩) (by assumption) ?_
                  rotate_left
                  · (intro w hSw; (try dsimp only at hSw); go_simp); first | done | with_reducible rfl
                  try simp only [Act.put, List.setIfInBounds_toArray, List.set_cons_zero, List.set_cons_succ]
                  refine wpAnyH_ready (rs := [9]) (by kernel_rfl) (by simp) ?_
                  refine AllReadyH.cons (by simp only [List.getElem?_toArray, List.getElem?_cons_succ, List.getElem?_cons_zero]; rfl) (fun K hK => ?_) AllReadyH.nil
                  go_simp
                  go_wp2_with fail
                  refine (isRoute_any (N.ones N.n) A3 Ak c3 rl Ck s t 1 ra pt w40 hM hi2 HEN.out HOK2.out ham).mono ?_
                  rintro e w41 ⟨rfl, kb⟩
                  replace hrow := rowIs_on hrow kb
                  replace hb := onS hb kb
                  replace hW := onS hW kb
                  replace hM := hM.on kb
                  replace hi2 := hi2.on kb
                  replace x0 := cellS kb x0
                  replace x1 := cellS kb x1
                  replace x2 := cellS kb x2
                  replace x3 := cellS kb x3
                  replace x4 := cellS kb x4
                  replace x5 := cellS kb x5
                  clear kb
                  refine hK.out _ _ ⟨x4, x5, x2, x3, x0, x1⟩ (fun hHeld => ?_)
                  clear hK K
                  try simp only [Act.put, List.setIfInBounds_toArray, List.set_cons_zero, List.set_cons_succ]
                  refine wpAnyH_take (i := 10) (v := ?_) (by simp only [List.getElem?_toArray, List.getElem?_cons_succ, List.getElem?_cons_zero]; rfl) (by kernel_rfl) (by kernel_rfl) (by kernel_rfl) (by exact fun _ _ _ h => h) (Or.inl ⟨by rfl, ?_⟩) (by assumption) ?_
                  rotate_left
                  · (intro w hSw; (try dsimp only at hSw); go_simp); first | done | with_reducible rfl
                  try simp only [Act.put, List.setIfInBounds_toArray, List.set_cons_zero, List.set_cons_succ]
                  refine wpAnyH_take (i := 11) (v := ?_) (by simp only [List.getElem?_toArray, List.getElem?_cons_succ, List.getElem?_cons_zero]; rfl) (by kernel_rfl) (by kernel_rfl) (by kernel_rfl) (by exact fun _ _ _ h => h) (Or.inl ⟨by rfl, ?_⟩) (by assumption) ?_
                  rotate_left
                  · (intro w hSw; (try dsimp only at hSw); go_simp); first | done | with_reducible rfl
                  try simp only [Act.put, List.setIfInBounds_toArray, List.set_cons_zero, List.set_cons_succ]
                  refine wpAnyH_take (i := 12) (v := ?_) (by simp only [List.getElem?_toArray, List.getElem?_cons_succ, List.getElem?_cons_zero]; rfl) (by kernel_rfl) (by kernel_rfl) (by kernel_rfl) (by exact fun _ _ _ h => h) (Or.inl ⟨by rfl, ?_⟩) (by assumption) ?_
                  rotate_left
                  · (intro w hSw; (try dsimp only at hSw); go_simp); first | done | with_reducible rfl
                  try simp only [Act.put, List.setIfInBounds_toArray, List.set_cons_zero, List.set_cons_succ]
                  refine wpAnyH_take (i := 13) (v := ?_) (by simp only [List.getElem?_toArray, List.getElem?_cons_succ, List.getElem?_cons_zero]; rfl) (by kernel_rfl) (by kernel_rfl) (by kernel_rfl) (by exact fun _ _ _ h => h) (Or.inl ⟨by rfl, ?_⟩) (by assumption) ?_
                  rotate_left
                  · (intro w hSw; (try dsimp only at hSw); go_simp); first | done | with_reducible rfl
                  try simp only [Act.put, List.setIfInBounds_toArray, List.set_cons_zero, List.set_cons_succ]
                  refine wpAnyH_take (i := 14) (v := ?_) (by simp only [List.getElem?_toArray, List.getElem?_cons_succ, List.getElem?_cons_zero]; rfl) (by kernel_rfl) (by kernel_rfl) (by kernel_rfl) (by exact fun _ _ _ h => h) (Or.inl ⟨by rfl, ?_⟩) (by assumption) ?_
                  rotate_left
                  · (intro w hSw; (try dsimp only at hSw); go_simp); first | done | with_reducible rfl
                  try simp only [Act.put, List.setIfInBounds_toArray, List.set_cons_zero, List.set_cons_succ]
                  refine wpAnyH_done (by kernel_rfl) ?_ _
                  clear hHeld
                  clear hi2 x2 x3
                  go_wp2
                  have hbn9 : bn < w9.heap.size := by omega
                  go_loopg [15] rl (fun gg jv wx => ∃ j : Nat, jv = .int .i64 (j : Nat) ∧ j ≤ rl ∧ rl ≤ j + gg ∧ wx.rowIs w9.heap.size 4 N.n (fun i => .bool (usedB f RA RL AM k j i)) ∧ Below w9.heap.size w9 wx)
                  case atStart => exact ⟨0, rfl, by omega, by omega, hrow, hb⟩
                  case round =>
                    obtain ⟨w49, hw49⟩ : ∃ W, W = wr := ⟨_, rfl⟩
                    subst hw49
                    obtain ⟨j, rfl, hj, hjg, hrow2, hb2⟩ := hrel
                    clear hrow hb x0 x1 x4 x5 hM hW
                    have hj0 : (0 : Int) ≤ (j : Int) := by omega
                    obtain ⟨tb2, to2, A2', C2, hT2, x0, x1, hi⟩ := (HRT.out.on hb2).rcells hlt
                    injection hT2 with e1
                    injection e1 with e1 e2
                    subst e1 e2
                    rw [← HRL.out] at x0 hi
                    rw [← HRA.out] at hi
                    by_cases hltj : j < rl
                    · have hltj' : (j : Int) < (rl : Int) := by omega
                      obtain ⟨rb, ro, rfl, hrb, y0⟩ := hi.at hltj
                      have hrj := HOK2.out.2.1 j hltj
                      have hnew := usedB_new HR.out hf1.out hlt (j := j) (by rw [← HRL.out]; exact hltj)
                      have hput := usedB_put HR.out hf1.out hlt (j := j) (by rw [← HRL.out]; exact hltj)
                      rw [← HRA.out] at hnew hput
                      have hrjn : ra j < N.n := hrj
                      have hset := hid ((hrow2.set (ra j) (.bool true)).congr (g := fun i => .bool (usedB f RA RL AM k (j + 1) i)) fun i hi => by
                        show (if i = ra j then Value.bool true else .bool (usedB f RA RL AM k j i)) = _
                        rw [hput i]
                        split <;> rfl)
                      have u0 := hrow2.cell (i := ra j) hrjn
                      rw [hnew] at u0
                      have u1 := hrow2.frozen (ra j)
                      obtain ⟨rj, hrj1⟩ : ∃ r, r = ra j := ⟨_, rfl⟩
                      rw [← hrj1] at y0 hrjn hset u0 u1
                      have hrj0 : (0 : Int) ≤ (rj : Int) := by omega
                      have hrj2 : (rj : Int) < (N.n : Int) := by omega
                      have HB2 := hid hb2
                      clear hrj1 hnew hput hi hrow2 hb2 hrj x1
                      go_wp2
                      go_roundg (gk - 1)
                      case measure => omega
                      case rel => exact ⟨j + 1, by go_num, by omega, by omega, hset.out, HB2.out.setCell (Nat.le_refl _) _⟩
                    · obtain rfl : j = rl := by omega
                      have hLn := hid (hrow2.congr (g := fun i => .bool (usedB f RA RL AM (k + 1) 0 i)) fun i hi => by
                        show Value.bool (usedB f RA RL AM k j i) = _
                        rw [← usedB_next HR.out hf1.out hlt i, ← HRL.out])
                      have HB2 := hid hb2
                      have hvs1 := HVS.out
                      rw [← HPT.out] at hvs1
                      clear hrow2 hb2 hi x1
                      cases pt
                      · have hv2 : Hid (vk = val - vAt val AM PT (k + 1)) := by
                          show _ = _
                          rw [hvs1, HVK.out]; rfl
                        clear hvs1 hvb1 hvb2
                        go_wp2
                        go_roundg (gK - 1)
                        case measure => omega
                        case rel => exact ⟨k + 1, by go_num, by omega, by omega, by rw [← hv2.out], hLn.out, HB2.out⟩
                      · have hv1 : vAt val AM PT (k + 1) = vAt val AM PT k - 1 := by rw [hvs1]; rfl
                        have hv2 : Hid (vk + 1 = val - vAt val AM PT (k + 1)) := by
                          show _ = _
                          rw [hv1, HVK.out]; omega
                        have hv3 : 0 ≤ vk := by rw [HVK.out]; omega
                        have hv4 : vk + 1 ≤ 1125899906842624 := by
                          have := HVAL.out
                          rw [hv2.out]; omega
                        clear hvs1 hvb1 hvb2 hv1
                        go_wp2
                        go_roundg (gK - 1)
                        case measure => omega
                        case rel => exact ⟨k + 1, by go_num, by omega, by omega, by rw [← hv2.out], hLn.out, HB2.out⟩
                · obtain rfl : k = K := by omega
                  have hv5 : vk = val := by rw [HVK.out, HV0.out, Int.sub_zero]
                  subst hv5
                  replace f0 := cellS hb f0
                  replace f2 := cellS hb f2
                  have hs9 := hs8.on hb
                  have HCC : Hid ((N.ones N.n).capTo seen N.n = vk) := HCT.out.2.2.2
                  clear hrow p2 p3 c0 c1 x2 x3 f1
                  go_wp2
                  go_loopg [16, 17] N.n (fun gg lv iv wx => ∃ j : Nat, iv = .int .i64 (j : Nat) ∧ j ≤ N.n ∧ N.n ≤ j + gg ∧ lv = .int .i64 ((N.ones N.n).capTo seen j) ∧ Below w39.heap.size w39 wx)
                  case atStart => exact ⟨0, rfl, by omega, by omega, rfl, Below.refl _ _⟩
                  case round =>
                    obtain ⟨w49, hw49⟩ : ∃ W, W = wr := ⟨_, rfl⟩
                    subst hw49
                    obtain ⟨j, rfl, hj, hjg, rfl, hb2⟩ := hrel
                    have hj0 : (0 : Int) ≤ (j : Int) := by omega
                    replace x4 := cellS hb2 x4
                    replace x5 := cellS hb2 x5
                    replace f0 := cellS hb2 f0
                    replace f2 := cellS hb2 f2
                    have hs10 := hs9.on hb2
                    have hM10 := hM.on hb2
                    clear hs9 hM
                    by_cases hltj : j < N.n
                    · have hltj' : (j : Int) < (N.n : Int) := by omega
                      obtain ⟨g0, g1, g2, g3, g4, g5⟩ := HEN.out.good.arc j hltj
                      change N.fr j < N.V at g1
                      change N.to j < N.V at g3
                      change 0 ≤ N.fr j at g0
                      change 0 ≤ N.to j at g2
                      obtain ⟨b, off, hA3, _, e0, e1, e2⟩ := hM10.at hltj
                      subst hA3
                      obtain ⟨b', off', hA2, hb', e3⟩ := hs10.at (i := (N.fr j).toNat) (show (N.fr j).toNat < N.V.toNat by omega)
                      obtain ⟨_, _, h5, _, e4⟩ := hs10.at (i := (N.to j).toNat) (show (N.to j).toNat < N.V.toNat by omega)
                      rw [hA2] at h5
                      subst hA2
                      injection h5 with h5; injection h5 with h5 h6; subst h5 h6
                      change w49.cell? ⟨b, off + j * 3, none⟩ = some (.int .i64 (N.fr j)) at e0
                      change w49.cell? ⟨b, off + j * 3 + 1, none⟩ = some (.int .i64 (N.to j)) at e1
                      obtain ⟨q0, q1⟩ := Net.capTo_bd HEN.out.good seen j (show j ≤ N.n by omega)
                      have hnx : Hid ((N.ones N.n).capTo seen (j + 1) = (N.ones N.n).capTo seen j + if (N.ones N.n).leaves seen j then 1 else 0) := by
                        show (N.ones N.n).capTo seen j + (if (N.ones N.n).leaves seen j then (if j < N.n then (1 : Int) else N.cp j) else 0) = _
                        rw [if_pos hltj]
                      obtain ⟨lv, hlv⟩ : ∃ v, v = (N.ones N.n).capTo seen j := ⟨_, rfl⟩
                      rw [← hlv] at q0 q1 hnx ⊢
                      have HB2 := hid hb2
                      clear hM10 hs10 hlv g4 g5 e2 hb2
                      by_cases s1 : seen (N.fr j).toNat = true
                      · by_cases s2 : seen (N.to j).toNat = true
                        · have hl : Hid ((N.ones N.n).leaves seen j = false) := by show (seen (N.fr j).toNat && !seen (N.to j).toNat) = false; simp [s1, s2]
                          rw [s1] at e3
                          rw [s2] at e4
                          go_wp2
                          go_quiet (fail)
                          go_wp2
                          go_roundg (gk - 1)
                          case measure => omega
                          case rel => exact ⟨j + 1, by go_num, by omega, by omega, by rw [hnx.out, hl.out]; simp, below_drewN HB2.out _⟩
                        · have hl : Hid ((N.ones N.n).leaves seen j = true) := by show (seen (N.fr j).toNat && !seen (N.to j).toNat) = true; simp [s1, s2]
                          rw [s1] at e3
                          rw [Bool.eq_false_iff.2 s2] at e4
                          go_wp2
                          go_quiet (fail)
                          go_wp2
                          go_roundg (gk - 1)
                          case measure => omega
                          case rel => exact ⟨j + 1, by go_num, by omega, by omega, by rw [hnx.out, hl.out]; simp, below_drewN HB2.out _⟩
                      · have hl : Hid ((N.ones N.n).leaves seen j = false) := by show (seen (N.fr j).toNat && !seen (N.to j).toNat) = false; simp [s1]
                        rw [Bool.eq_false_iff.2 s1] at e3
                        go_wp2
                        go_quiet (fail)
                        go_wp2
                        go_roundg (gk - 1)
                        case measure => omega
                        case rel => exact ⟨j + 1, by go_num, by omega, by omega, by rw [hnx.out, hl.out]; simp, below_drewN HB2.out _⟩
                    · obtain rfl : j = N.n := by omega
                      rw [HCC.out]
                      have hWx := onS hW hb2
                      go_wp2
                      go_ret
                      exact ⟨ret_bool (by simp), hWx⟩
          · have HE := hid he
            clear he
            go_wp2_with fail
            refine (max_err (N.ones N.n) A3 c3 s t wr hM HE.out).mono ?_
            rintro e w7 ⟨rfl, kb⟩
            have hM7 := hM.on kb
            replace hW := onS hW kb
            replace p2 := cellS kb p2
            replace p3 := cellS kb p3
            replace c0 := cellS kb c0
            replace c1 := cellS kb c1
            have hz7 := kb.size
            have hwz7 : w.heap.size < w7.heap.size := by omega
            have hbn7 : bn < w7.heap.size := Nat.lt_of_lt_of_le hrow1.lt hz7
            have HEE : Hid (((N.ones N.n).endsE s t != 0) = true) := by show _ = _; simpa using HE.out
            have KA := hid fun o => (Below.refl w7.heap.size w7).alloc (Nat.le_refl _) o
            clear kb hM p0 p1 hBx hO1 hrow1 hb1
            obtain ⟨en, hen⟩ : ∃ x, x = (N.ones N.n).endsE s t := ⟨_, rfl⟩
            rw [← hen] at HEE ⊢
            have HEN := hid hen
            clear hen
            go_wp2_with fail
            refine (refEnds_any (N.ones N.n) A3 c3 s t _ (hM7.on (KA.out _))).mono ?_
            rintro e w8 ⟨rfl, kb⟩
            rw [← HEN.out]
            have hW8 := onS (onS hW (KA.out _)) kb
            have hee := HEE.out
            clear kb hM7
            go_wp2
            go_ret
            exact ⟨ret_bool (by simp), hW8⟩
theorem flowDisjoint_law {H : Type} {enc : TypeId × Value → H} {w : World} {cs : Array Value} (h : Sees enc Try.prog w 0 (fun _ => true) true 48 cs.toList)
    (hz : ∀ (V s t : Int) (A : Option Addr) (n c : Nat), cs.toList = [.int .i64 V, .slice A n c, .int .i64 s, .int .i64 t] → n * 24 ≤ 140737488355328) :
    Calls Try.prog 13 #[.agg cs] w fun e w' => e = .returned (.bool true) ∧ Below w.heap.size w w' := by
  obtain ⟨cs⟩ := cs
  obtain ⟨N, A, c, s, t, rfl, hN, _⟩ := sees_ends h
  exact flowDisjoint_any N A c s t w hN (hz _ _ _ _ _ _ rfl)
end Go.Proofs.Ythdeldaeghhfgaa
