/- semiring.rows of natural numbers: a table of zeros. -/
import Derived.Test.YtnocbkhnmdmfhaaCounting
namespace Go.Proofs.Ytnocbkhnmdmfhaa
open Go.RowKit

theorem Try.infoNats : (Try.prog.info? 39).map (fun i => (i.zero, i.size, i.bytes)) = some (some (.slice none 0 0), 1, 24) := by kernel_rfl
theorem cell_grown {w w' : World} {g k : Nat} {v : Value} {row : Option Nat} (h : w.cell? ⟨g, k, none⟩ = some v) (hg : w.grownBy w' row) (hne : row ≠ some g) : w'.cell? ⟨g, k, none⟩ = some v := by
  have hl := World.block_lt_of_cell? _ _ h
  have hb := hg.block g hl (fun e => hne e.symm)
  rw [← h]
  simp only [World.cell?, hb]
/-- Two boxes at a function's start. -/
theorem two_below {w wr : World} {o1 o2 : Obj} (h : Below (w.heap.size + 2) ((w.alloc o1).alloc o2) wr) : Below w.heap.size w wr := (((Below.refl w.heap.size w).alloc (Nat.le_refl _) o1).alloc (by simp) o2).trans (h.mono (by omega))
theorem two_lt {w wr : World} {o1 o2 : Obj} (h : Below (w.heap.size + 2) ((w.alloc o1).alloc o2) wr) : w.heap.size + 2 ≤ wr.heap.size := by have := h.size; simp at this; omega
theorem two_on {w wr w' : World} {o1 o2 : Obj} (h : Below (w.heap.size + 2) ((w.alloc o1).alloc o2) wr) (hb : Below wr.heap.size wr w') : Below (w.heap.size + 2) ((w.alloc o1).alloc o2) w' := h.trans (hb.mono (two_lt h))
theorem two_on_ {b : Nat} {w W Y : World} (h : Below b w W) (hl : b ≤ W.heap.size) (kb : Below W.heap.size W Y) : Below b w Y := h.trans (kb.mono hl)
theorem numTab_start {w : World} {g base m : Nat} {x : Nat → Nat → Nat} (h : w.rowIs g 39 m (fun _ => .slice none 0 0)) : NumTab w g base m (fun _ => .slice none 0 0) (fun _ => 0) x :=
  ⟨h, fun _ _ => NatOwn.nil _ _ _, fun _ _ _ _ _ => .inl rfl⟩
/-- A table of numbers of one's own is returned, a row for each time. -/
def TabPost (T : Trel) (x : Nat → Nat → Nat) (w : World) (e : Ending) (w' : World) : Prop :=
  ∃ g F, e = .returned (.slice (some ⟨g, 0, none⟩) T.nw T.nw) ∧ w.heap.size ≤ g ∧ NumTab w' g (g + 1) T.nw F (fun v => (T.W v).toNat) x ∧ Below w.heap.size w w'
set_option maxRecDepth 100000 in
set_option maxHeartbeats 8000000 in
theorem rowsN_any (T : Trel) (A B : Option Addr) (c d : Nat) (w : World) (h : T.Reads w A B) (hs : T.Shape) :
    Calls Try.prog 94 #[.agg #[], .agg #[.slice A T.nw c, .slice B T.n d]] w (TabPost T (fun _ _ => 0) w) := by
  obtain ⟨O1, hO1⟩ : ∃ o, o = (Obj.cells #[] 101) := ⟨_, rfl⟩
  obtain ⟨O2, hO2⟩ : ∃ o, o = (Obj.cells #[.slice A T.nw c, .slice B T.n d] 25) := ⟨_, rfl⟩
  have hB0 : Below (w.heap.size + 2) ((w.alloc O1).alloc O2) ((w.alloc O1).alloc O2) := Below.refl _ _
  have HS : Hid (∀ w', Below (w.heap.size + 2) ((w.alloc O1).alloc O2) w' → (w'.cell? ⟨w.heap.size + 1, 0, none⟩ = some (.slice A T.nw c) ∧ w'.cell? ⟨w.heap.size + 1, 1, none⟩ = some (.slice B T.n d)) ∧ Below w.heap.size w w') := fun w' hB => by
    have hB' := two_below hB
    subst hO2
    have hr := box2_two hB
    exact ⟨⟨hr.cell (i := 0) (by simp), hr.cell (i := 1) (by simp)⟩, hB'⟩
  obtain ⟨⟨p0, p1⟩, hW⟩ := HS.out _ hB0
  have hn64 := hs.n64
  have hnw := hs.nw
  have hmk := fun W => run_makeI (P := Try.prog) 91 39 _ 24 Try.underlying91 Try.infoNats rfl (T.nw : Int) (by omega) (by omega) (by omega) W
  simp only [Int.toNat_natCast] at hmk
  have HR := hid h
  have HSH := hid hs
  have hnw65 : T.nw ≤ 65 := by omega
  clear h hs hnw
  go_enter Try.func94, Try.ntmps94
  go_wp2_with fail
  rw [← hO1, ← hO2]
  go_upto_region 2 with fail
  obtain ⟨W2, hW2⟩ : ∃ W, W = (w.alloc O1).alloc O2 := ⟨_, rfl⟩
  have hsz2 : W2.heap.size = w.heap.size + 2 := by rw [hW2]; simp
  have HS2 : Hid (∀ w', Below (w.heap.size + 2) W2 w' → (w'.cell? ⟨w.heap.size + 1, 0, none⟩ = some (.slice A T.nw c) ∧ w'.cell? ⟨w.heap.size + 1, 1, none⟩ = some (.slice B T.n d)) ∧ Below w.heap.size w w') := by rw [hW2]; exact HS
  rw [← hW2] at hB0 ⊢
  obtain ⟨g, hg⟩ : ∃ g, g = w.heap.size + 1 + 1 := ⟨_, rfl⟩
  have hgz : g = W2.heap.size := by omega
  have hr3 := World.rowIs_made W2 (.slice none 0 0) T.nw 39
  have hB3 := two_on_ hB0 (Nat.le_of_eq hsz2.symm) ((Below.refl W2.heap.size W2).alloc (Nat.le_refl _) (Obj.cells (madeCells #[Value.slice none 0 0] T.nw) 39))
  have hl3 : w.heap.size + 2 < (W2.alloc (Obj.cells (madeCells #[Value.slice none 0 0] T.nw) 39)).heap.size := by simp; omega
  obtain ⟨W3, hW3⟩ : ∃ W, W = W2.alloc (Obj.cells (madeCells #[Value.slice none 0 0] T.nw) 39) := ⟨_, rfl⟩
  rw [← hgz] at hr3
  rw [← hW3] at hr3 hB3 hl3 ⊢
  rw [← hg]
  have hT3 : NumTab W3 g (g + 1) T.nw (fun _ => .slice none 0 0) (fun v => if v < 0 then (T.W v).toNat else 0) (fun _ _ => 0) := (numTab_start hr3).congr (fun v _ => (if_neg (by omega)).symm) (fun v _ k hk => rfl)
  have hg2 : w.heap.size + 2 ≤ g := by omega
  clear hW3 hgz hg hr3 hW2 HS hB0 hmk hO1 hO2 hsz2
  go_loopg [15] T.nw (fun gg iv wx => ∃ (k : Nat) (F : Nat → Value), iv = .int .i64 (k : Nat) ∧ k ≤ T.nw ∧ T.nw ≤ k + gg ∧ NumTab wx g (g + 1) T.nw F (fun v => if v < k then (T.W v).toNat else 0) (fun _ _ => 0) ∧ Below (w.heap.size + 2) W2 wx ∧ w.heap.size + 2 < wx.heap.size)
  case atStart => exact ⟨0, _, rfl, by omega, by omega, hT3, hB3, hl3⟩
  case round =>
    clear hW p0 p1 hT3 hB3 hl3
    obtain ⟨gK, hgK⟩ : ∃ g, g = gk := ⟨_, rfl⟩
    subst hgK
    obtain ⟨k, F, rfl, hk, hkg, hT, hB, hl⟩ := hrel
    obtain ⟨wk, hwk⟩ : ∃ W, W = wr := ⟨_, rfl⟩
    subst hwk
    have hk0 : (0 : Int) ≤ (k : Int) := by omega
    obtain ⟨⟨p0, p1⟩, hW⟩ := HS2.out _ hB
    by_cases hlt : k < T.nw
    · have hlt' : (k : Int) < (T.nw : Int) := by omega
      obtain ⟨wb, wo, rfl, hwb, y0, hy1, hy2⟩ := (HR.out.on hW).width hlt
      have hwid := HSH.out.wid (i := k) (by have := HSH.out.nw; omega)
      obtain ⟨n1, hn1⟩ : ∃ n : Nat, (n : Int) = T.W k := ⟨(T.W k).toNat, by omega⟩
      rw [← hn1] at y0 hwid
      have HN1 := hid hn1
      clear hn1 hy1 hy2
      have hT0 : NumTab wk g (g + 1) T.nw F (fun v => if v < k then (T.W v).toNat else if v = k then 0 else 0) (fun _ _ => 0) := hT.congr (fun v _ => by split <;> simp) (fun v _ q hq => rfl)
      clear hT
      go_wp2
      go_loopg [21] n1 (fun gg jv wx => ∃ (j : Nat) (F : Nat → Value), jv = .int .i64 (j : Nat) ∧ j ≤ n1 ∧ n1 ≤ j + gg ∧ NumTab wx g (g + 1) T.nw F (fun v => if v < k then (T.W v).toNat else if v = k then j else 0) (fun _ _ => 0) ∧ Below (w.heap.size + 2) W2 wx ∧ w.heap.size + 2 < wx.heap.size)
      case atStart => exact ⟨0, F, rfl, by omega, by omega, hT0, hB, hl⟩
      case round =>
        clear hW p0 p1 hT0 hB hl y0
        obtain ⟨j, F2, rfl, hj, hjg, hT, hB, hl⟩ := hrel
        have hj0 : (0 : Int) ≤ (j : Int) := by omega
        obtain ⟨⟨p0, p1⟩, hW⟩ := HS2.out _ hB
        by_cases hltj : j < n1
        · have hltj' : (j : Int) < (n1 : Int) := by omega
          obtain ⟨fk, hfk⟩ : ∃ v, v = F2 k := ⟨_, rfl⟩
          have q0 : wr.cell? ⟨g, k, none⟩ = some fk := by rw [hfk]; exact hT.row.cell hlt
          have HFK := hid hfk
          clear hfk p0 p1 hW
          rename World => w50
          go_upto_region 7 with fail
          refine wp_region_held_drew (S := fun _ => True) (by kernel_rfl) trivial (fun hHeld => ?_)
          obtain ⟨w51, hw⟩ : ∃ W, W = World.drew w50 := ⟨_, rfl⟩
          have kb : Below w50.heap.size w50 w51 := by rw [hw]; exact (Below.refl _ _).drew
          rw [← hw]
          clear hw
          replace hB := two_on_ hB (Nat.le_of_lt hl) kb
          replace hl := Nat.lt_of_lt_of_le hl kb.size
          replace hT := hT.on kb
          replace q0 := cellS kb q0
          clear kb
          refine wpAnyH_take (i := 0) (v := ?_) (by simp only [List.getElem?_toArray, List.getElem?_cons_zero]; rfl) (by kernel_rfl) (by kernel_rfl) (by kernel_rfl) (by exact fun _ _ _ h => h) (Or.inl ⟨by rfl, ?_⟩) (by assumption) ?_
          rotate_left
          · (intro w hSw; (try dsimp only at hSw); go_simp); first | done | with_reducible rfl
          try simp only [Act.put, List.setIfInBounds_toArray, List.set_cons_zero, List.set_cons_succ]
          refine wpAnyH_take (i := 1) (v := ?_) (by simp only [List.getElem?_toArray, List.getElem?_cons_succ, List.getElem?_cons_zero]; rfl) (by kernel_rfl) (by kernel_rfl) (by kernel_rfl) (by exact fun _ _ _ h => h) (Or.inl ⟨by rfl, ?_⟩) (by assumption) ?_
          rotate_left
          · (intro w hSw; (try dsimp only at hSw); go_simp); first | done | with_reducible rfl
          try simp only [Act.put, List.setIfInBounds_toArray, List.set_cons_zero, List.set_cons_succ]
          refine wpAnyH_take (i := 2) (v := ?_) (by simp only [List.getElem?_toArray, List.getElem?_cons_succ, List.getElem?_cons_zero]; rfl) (by kernel_rfl) (by kernel_rfl) (by kernel_rfl) (by exact fun _ _ _ h => h) (Or.inl ⟨by rfl, ?_⟩) (by assumption) ?_
          rotate_left
          · (intro w hSw; (try dsimp only at hSw); go_simp); first | done | with_reducible rfl
          try simp only [Act.put, List.setIfInBounds_toArray, List.set_cons_zero, List.set_cons_succ]
          refine wpAnyH_take (i := 3) (v := ?_) (by simp only [List.getElem?_toArray, List.getElem?_cons_succ, List.getElem?_cons_zero]; rfl) (by kernel_rfl) (by kernel_rfl) (by kernel_rfl) (by exact fun _ _ _ h => h) (Or.inl ⟨by rfl, ?_⟩) (by assumption) ?_
          rotate_left
          · (intro w hSw; (try dsimp only at hSw); go_simp); first | done | with_reducible rfl
          try simp only [Act.put, List.setIfInBounds_toArray, List.set_cons_zero, List.set_cons_succ]
          refine wpAnyH_take (i := 4) (v := ?_) (by simp only [List.getElem?_toArray, List.getElem?_cons_succ, List.getElem?_cons_zero]; rfl) (by kernel_rfl) (by kernel_rfl) (by kernel_rfl) (by exact fun _ _ _ h => h) (Or.inl ⟨by rfl, ?_⟩) (by assumption) ?_
          rotate_left
          · (intro w hSw; (try dsimp only at hSw); go_simp); first | done | with_reducible rfl
          try simp only [Act.put, List.setIfInBounds_toArray, List.set_cons_zero, List.set_cons_succ]
          refine wpAnyH_take (i := 6) (v := ?_) (by simp only [List.getElem?_toArray, List.getElem?_cons_succ, List.getElem?_cons_zero]; rfl) (by kernel_rfl) (by kernel_rfl) (by kernel_rfl) (by exact fun _ _ _ h => h) (Or.inl ⟨by rfl, ?_⟩) (by assumption) ?_
          rotate_left
          · (intro w hSw; (try dsimp only at hSw); go_simp); first | done | with_reducible rfl
          try simp only [Act.put, List.setIfInBounds_toArray, List.set_cons_zero, List.set_cons_succ]
          refine wpAnyH_take (i := 7) (v := ?_) (by simp only [List.getElem?_toArray, List.getElem?_cons_succ, List.getElem?_cons_zero]; rfl) (by kernel_rfl) (by kernel_rfl) (by kernel_rfl) (by exact fun _ _ _ h => h) (Or.inl ⟨by rfl, ?_⟩) (by assumption) ?_
          rotate_left
          · (intro w hSw; (try dsimp only at hSw); go_simp); first | done | with_reducible rfl
          try simp only [Act.put, List.setIfInBounds_toArray, List.set_cons_zero, List.set_cons_succ]
          refine wpAnyH_ready (rs := [5, 8]) (by kernel_rfl) (by simp) ?_
          refine AllReadyH.cons (by simp only [List.getElem?_toArray, List.getElem?_cons_succ, List.getElem?_cons_zero]; rfl) (fun K hK => ?_) (AllReadyH.cons (by simp only [List.getElem?_toArray, List.getElem?_cons_succ, List.getElem?_cons_zero]; rfl) (fun K hK => ?_) AllReadyH.nil)
          · go_simp
            refine hK.out _ _ trivial (fun hHeld => ?_)
            clear hK K
            try simp only [Act.put, List.setIfInBounds_toArray, List.set_cons_zero, List.set_cons_succ]
            refine wpAnyH_ready (rs := [8]) (by kernel_rfl) (by simp) ?_
            refine AllReadyH.cons (by simp only [List.getElem?_toArray, List.getElem?_cons_succ, List.getElem?_cons_zero]; rfl) (fun K hK => ?_) AllReadyH.nil
            go_simp
            go_wp2_with fail
            refine (cZero_any w51).mono ?_
            rintro e w52 ⟨A0, c0, rfl, z1, z2, z3, kb⟩
            replace hB := two_on_ hB (Nat.le_of_lt hl) kb
            replace hl := Nat.lt_of_lt_of_le hl kb.size
            replace hT := hT.on kb
            replace q0 := cellS kb q0
            clear kb
            refine hK.out _ _ trivial (fun hHeld => ?_)
            clear hK K
            try simp only [Act.put, List.setIfInBounds_toArray, List.set_cons_zero, List.set_cons_succ]
            refine wpAnyH_ready (rs := [9]) (by kernel_rfl) (by simp) ?_
            refine AllReadyH.cons (by simp only [List.getElem?_toArray, List.getElem?_cons_succ, List.getElem?_cons_zero]; rfl) (fun K hK => ?_) AllReadyH.nil
            go_simp
            obtain ⟨w53, hw⟩ : ∃ W, W = World.alloc w52 (Obj.cells #[Value.slice A0 (dl 0) c0] 43) := ⟨_, rfl⟩
            have kb : Below w52.heap.size w52 w53 := by rw [hw]; exact (Below.refl _ _).alloc (Nat.le_refl _) _
            have n1c : w53.cell? ⟨w52.heap.size, 0, none⟩ = some (.slice A0 (dl 0) c0) := by rw [hw]; simp
            rw [← hw]
            clear hw
            obtain ⟨nb, hnb⟩ : ∃ b, b = w52.heap.size := ⟨_, rfl⟩
            rw [← hnb] at n1c ⊢
            clear hnb
            replace hB := two_on_ hB (Nat.le_of_lt hl) kb
            replace hl := Nat.lt_of_lt_of_le hl kb.size
            replace hT := hT.on kb
            replace q0 := cellS kb q0
            replace z3 := z3.on kb
            clear kb
            refine hK.out _ _ trivial (fun hHeld => ?_)
            clear hK K
            try simp only [Act.put, List.setIfInBounds_toArray, List.set_cons_zero, List.set_cons_succ]
            refine wpAnyH_ready (rs := [10]) (by kernel_rfl) (by simp) ?_
            refine AllReadyH.cons (by simp only [List.getElem?_toArray, List.getElem?_cons_succ, List.getElem?_cons_zero]; rfl) (fun K hK => ?_) AllReadyH.nil
            have hOwn : NatOwn w53 (g + 1) fk j (fun _ => 0) := by
              have := hT.own k hlt
              rw [if_neg (Nat.lt_irrefl k), if_pos rfl, ← HFK.out] at this
              exact this
            have hgl : g + 1 ≤ w53.heap.size := hT.row.lt
            have hzg := hT.row.frozen k
            refine step_append_nat2 (by rfl) (.tmp 28) (.tmp 32) (by rfl) (g + 1) fk j (fun _ => 0) (by rfl) hOwn hgl (by omega) nb 1 (by rfl) A0 c0 n1c z3 z1 z2 ?_
            intro v9 w9 o1 o2 o3
            obtain ⟨A9, c9, hv9⟩ := o1.isSlice
            subst hv9
            have hfo : ∀ q, fk.ownBlock = some q → g + 1 ≤ q := fun q e => (hOwn.lt q e).1
            have q9 : w9.cell? ⟨g, k, none⟩ = some fk := cell_grown q0 o2 fun e => by have := hfo g e; omega
            have z9 : w9.frozen? ⟨g, k, none⟩ = false := by
              have := (hT.row.of_block (o2.block g hT.row.lt fun e => by have := hfo g e.symm; omega)).frozen k
              exact this
            have hB9 : Below (w.heap.size + 2) W2 w9 := hB.grown o2 (Nat.le_of_lt hl) fun q e => by have := hfo q e; omega
            have hl9 : w.heap.size + 2 < w9.heap.size := Nat.lt_of_lt_of_le hl o2.size
            have hPut := hid (hT.put (by omega) hlt o1 (by rw [← HFK.out]; exact o2) (by rw [← HFK.out]; exact o3))
            refine hK.out _ _ trivial (fun hHeld => ?_)
            clear hK K
            try simp only [Act.put, List.setIfInBounds_toArray, List.set_cons_zero, List.set_cons_succ]
            refine wpAnyH_take (i := 11) (v := ?_) (by simp only [List.getElem?_toArray, List.getElem?_cons_succ, List.getElem?_cons_zero]; rfl) (by kernel_rfl) (by kernel_rfl) (by kernel_rfl) (by exact fun _ _ _ h => h) (Or.inl ⟨by rfl, ?_⟩) (by assumption) ?_
            rotate_left
            · (intro w hSw; (try dsimp only at hSw); go_simp); first | done | with_reducible rfl
            try simp only [Act.put, List.setIfInBounds_toArray, List.set_cons_zero, List.set_cons_succ]
            refine wpAnyH_ready (rs := [12]) (by kernel_rfl) (by simp) ?_
            refine AllReadyH.cons (by simp only [List.getElem?_toArray, List.getElem?_cons_succ, List.getElem?_cons_zero]; rfl) (fun K hK => ?_) AllReadyH.nil
            go_simp
            refine hK.out _ _ trivial (fun hHeld => ?_)
            clear hK K
            try simp only [Act.put, List.setIfInBounds_toArray, List.set_cons_zero, List.set_cons_succ]
            refine wpAnyH_done (by kernel_rfl) ?_ _
            clear hHeld
            have hN := hPut.out.congr (n' := fun v => if v < k then (T.W v).toNat else if v = k then j + 1 else 0) (x' := fun _ _ => 0) (fun v _ => by
                by_cases e : v = k
                · subst e; simp
                · simp [e]) (fun v _ q hq => by split <;> rfl)
            have HN := hid hN
            have hBf := hB9.setCell (p := ⟨g, k, none⟩) hg2 (.slice A9 (j + 1) c9)
            have hlf : w.heap.size + 2 < (w9.setCell ⟨g, k, none⟩ (.slice A9 (j + 1) c9)).heap.size := by simp; exact hl9
            clear hPut hN q9 z9 hB9
            go_wp2
            go_roundg (gk - 1)
            case measure => omega
            case rel => exact ⟨j + 1, _, by go_num, by omega, by omega, HN.out, hBf, hlf⟩
          · go_simp
            go_wp2_with fail
            refine (cZero_any w51).mono ?_
            rintro e w52 ⟨A0, c0, rfl, z1, z2, z3, kb⟩
            replace hB := two_on_ hB (Nat.le_of_lt hl) kb
            replace hl := Nat.lt_of_lt_of_le hl kb.size
            replace hT := hT.on kb
            replace q0 := cellS kb q0
            clear kb
            refine hK.out _ _ trivial (fun hHeld => ?_)
            clear hK K
            try simp only [Act.put, List.setIfInBounds_toArray, List.set_cons_zero, List.set_cons_succ]
            refine wpAnyH_ready (rs := [5, 9]) (by kernel_rfl) (by simp) ?_
            refine AllReadyH.cons (by simp only [List.getElem?_toArray, List.getElem?_cons_succ, List.getElem?_cons_zero]; rfl) (fun K hK => ?_) (AllReadyH.cons (by simp only [List.getElem?_toArray, List.getElem?_cons_succ, List.getElem?_cons_zero]; rfl) (fun K hK => ?_) AllReadyH.nil)
            · go_simp
              refine hK.out _ _ trivial (fun hHeld => ?_)
              clear hK K
              try simp only [Act.put, List.setIfInBounds_toArray, List.set_cons_zero, List.set_cons_succ]
              refine wpAnyH_ready (rs := [9]) (by kernel_rfl) (by simp) ?_
              refine AllReadyH.cons (by simp only [List.getElem?_toArray, List.getElem?_cons_succ, List.getElem?_cons_zero]; rfl) (fun K hK => ?_) AllReadyH.nil
              go_simp
              obtain ⟨w53, hw⟩ : ∃ W, W = World.alloc w52 (Obj.cells #[Value.slice A0 (dl 0) c0] 43) := ⟨_, rfl⟩
              have kb : Below w52.heap.size w52 w53 := by rw [hw]; exact (Below.refl _ _).alloc (Nat.le_refl _) _
              have n1c : w53.cell? ⟨w52.heap.size, 0, none⟩ = some (.slice A0 (dl 0) c0) := by rw [hw]; simp
              rw [← hw]
              clear hw
              obtain ⟨nb, hnb⟩ : ∃ b, b = w52.heap.size := ⟨_, rfl⟩
              rw [← hnb] at n1c ⊢
              clear hnb
              replace hB := two_on_ hB (Nat.le_of_lt hl) kb
              replace hl := Nat.lt_of_lt_of_le hl kb.size
              replace hT := hT.on kb
              replace q0 := cellS kb q0
              replace z3 := z3.on kb
              clear kb
              refine hK.out _ _ trivial (fun hHeld => ?_)
              clear hK K
              try simp only [Act.put, List.setIfInBounds_toArray, List.set_cons_zero, List.set_cons_succ]
              refine wpAnyH_ready (rs := [10]) (by kernel_rfl) (by simp) ?_
              refine AllReadyH.cons (by simp only [List.getElem?_toArray, List.getElem?_cons_succ, List.getElem?_cons_zero]; rfl) (fun K hK => ?_) AllReadyH.nil
              have hOwn : NatOwn w53 (g + 1) fk j (fun _ => 0) := by
                have := hT.own k hlt
                rw [if_neg (Nat.lt_irrefl k), if_pos rfl, ← HFK.out] at this
                exact this
              have hgl : g + 1 ≤ w53.heap.size := hT.row.lt
              have hzg := hT.row.frozen k
              refine step_append_nat2 (by rfl) (.tmp 28) (.tmp 32) (by rfl) (g + 1) fk j (fun _ => 0) (by rfl) hOwn hgl (by omega) nb 1 (by rfl) A0 c0 n1c z3 z1 z2 ?_
              intro v9 w9 o1 o2 o3
              obtain ⟨A9, c9, hv9⟩ := o1.isSlice
              subst hv9
              have hfo : ∀ q, fk.ownBlock = some q → g + 1 ≤ q := fun q e => (hOwn.lt q e).1
              have q9 : w9.cell? ⟨g, k, none⟩ = some fk := cell_grown q0 o2 fun e => by have := hfo g e; omega
              have z9 : w9.frozen? ⟨g, k, none⟩ = false := by
                have := (hT.row.of_block (o2.block g hT.row.lt fun e => by have := hfo g e.symm; omega)).frozen k
                exact this
              have hB9 : Below (w.heap.size + 2) W2 w9 := hB.grown o2 (Nat.le_of_lt hl) fun q e => by have := hfo q e; omega
              have hl9 : w.heap.size + 2 < w9.heap.size := Nat.lt_of_lt_of_le hl o2.size
              have hPut := hid (hT.put (by omega) hlt o1 (by rw [← HFK.out]; exact o2) (by rw [← HFK.out]; exact o3))
              refine hK.out _ _ trivial (fun hHeld => ?_)
              clear hK K
              try simp only [Act.put, List.setIfInBounds_toArray, List.set_cons_zero, List.set_cons_succ]
              refine wpAnyH_take (i := 11) (v := ?_) (by simp only [List.getElem?_toArray, List.getElem?_cons_succ, List.getElem?_cons_zero]; rfl) (by kernel_rfl) (by kernel_rfl) (by kernel_rfl) (by exact fun _ _ _ h => h) (Or.inl ⟨by rfl, ?_⟩) (by assumption) ?_
              rotate_left
              · (intro w hSw; (try dsimp only at hSw); go_simp); first | done | with_reducible rfl
              try simp only [Act.put, List.setIfInBounds_toArray, List.set_cons_zero, List.set_cons_succ]
              refine wpAnyH_ready (rs := [12]) (by kernel_rfl) (by simp) ?_
              refine AllReadyH.cons (by simp only [List.getElem?_toArray, List.getElem?_cons_succ, List.getElem?_cons_zero]; rfl) (fun K hK => ?_) AllReadyH.nil
              go_simp
              refine hK.out _ _ trivial (fun hHeld => ?_)
              clear hK K
              try simp only [Act.put, List.setIfInBounds_toArray, List.set_cons_zero, List.set_cons_succ]
              refine wpAnyH_done (by kernel_rfl) ?_ _
              clear hHeld
              have hN := hPut.out.congr (n' := fun v => if v < k then (T.W v).toNat else if v = k then j + 1 else 0) (x' := fun _ _ => 0) (fun v _ => by
                  by_cases e : v = k
                  · subst e; simp
                  · simp [e]) (fun v _ q hq => by split <;> rfl)
              have HN := hid hN
              have hBf := hB9.setCell (p := ⟨g, k, none⟩) hg2 (.slice A9 (j + 1) c9)
              have hlf : w.heap.size + 2 < (w9.setCell ⟨g, k, none⟩ (.slice A9 (j + 1) c9)).heap.size := by simp; exact hl9
              clear hPut hN q9 z9 hB9
              go_wp2
              go_roundg (gk - 1)
              case measure => omega
              case rel => exact ⟨j + 1, _, by go_num, by omega, by omega, HN.out, hBf, hlf⟩
            · go_simp
              obtain ⟨w53, hw⟩ : ∃ W, W = World.alloc w52 (Obj.cells #[Value.slice A0 (dl 0) c0] 43) := ⟨_, rfl⟩
              have kb : Below w52.heap.size w52 w53 := by rw [hw]; exact (Below.refl _ _).alloc (Nat.le_refl _) _
              have n1c : w53.cell? ⟨w52.heap.size, 0, none⟩ = some (.slice A0 (dl 0) c0) := by rw [hw]; simp
              rw [← hw]
              clear hw
              obtain ⟨nb, hnb⟩ : ∃ b, b = w52.heap.size := ⟨_, rfl⟩
              rw [← hnb] at n1c ⊢
              clear hnb
              replace hB := two_on_ hB (Nat.le_of_lt hl) kb
              replace hl := Nat.lt_of_lt_of_le hl kb.size
              replace hT := hT.on kb
              replace q0 := cellS kb q0
              replace z3 := z3.on kb
              clear kb
              refine hK.out _ _ trivial (fun hHeld => ?_)
              clear hK K
              try simp only [Act.put, List.setIfInBounds_toArray, List.set_cons_zero, List.set_cons_succ]
              refine wpAnyH_ready (rs := [5]) (by kernel_rfl) (by simp) ?_
              refine AllReadyH.cons (by simp only [List.getElem?_toArray, List.getElem?_cons_succ, List.getElem?_cons_zero]; rfl) (fun K hK => ?_) AllReadyH.nil
              go_simp
              refine hK.out _ _ trivial (fun hHeld => ?_)
              clear hK K
              try simp only [Act.put, List.setIfInBounds_toArray, List.set_cons_zero, List.set_cons_succ]
              refine wpAnyH_ready (rs := [10]) (by kernel_rfl) (by simp) ?_
              refine AllReadyH.cons (by simp only [List.getElem?_toArray, List.getElem?_cons_succ, List.getElem?_cons_zero]; rfl) (fun K hK => ?_) AllReadyH.nil
              have hOwn : NatOwn w53 (g + 1) fk j (fun _ => 0) := by
                have := hT.own k hlt
                rw [if_neg (Nat.lt_irrefl k), if_pos rfl, ← HFK.out] at this
                exact this
              have hgl : g + 1 ≤ w53.heap.size := hT.row.lt
              have hzg := hT.row.frozen k
              refine step_append_nat2 (by rfl) (.tmp 28) (.tmp 32) (by rfl) (g + 1) fk j (fun _ => 0) (by rfl) hOwn hgl (by omega) nb 1 (by rfl) A0 c0 n1c z3 z1 z2 ?_
              intro v9 w9 o1 o2 o3
              obtain ⟨A9, c9, hv9⟩ := o1.isSlice
              subst hv9
              have hfo : ∀ q, fk.ownBlock = some q → g + 1 ≤ q := fun q e => (hOwn.lt q e).1
              have q9 : w9.cell? ⟨g, k, none⟩ = some fk := cell_grown q0 o2 fun e => by have := hfo g e; omega
              have z9 : w9.frozen? ⟨g, k, none⟩ = false := by
                have := (hT.row.of_block (o2.block g hT.row.lt fun e => by have := hfo g e.symm; omega)).frozen k
                exact this
              have hB9 : Below (w.heap.size + 2) W2 w9 := hB.grown o2 (Nat.le_of_lt hl) fun q e => by have := hfo q e; omega
              have hl9 : w.heap.size + 2 < w9.heap.size := Nat.lt_of_lt_of_le hl o2.size
              have hPut := hid (hT.put (by omega) hlt o1 (by rw [← HFK.out]; exact o2) (by rw [← HFK.out]; exact o3))
              refine hK.out _ _ trivial (fun hHeld => ?_)
              clear hK K
              try simp only [Act.put, List.setIfInBounds_toArray, List.set_cons_zero, List.set_cons_succ]
              refine wpAnyH_take (i := 11) (v := ?_) (by simp only [List.getElem?_toArray, List.getElem?_cons_succ, List.getElem?_cons_zero]; rfl) (by kernel_rfl) (by kernel_rfl) (by kernel_rfl) (by exact fun _ _ _ h => h) (Or.inl ⟨by rfl, ?_⟩) (by assumption) ?_
              rotate_left
              · (intro w hSw; (try dsimp only at hSw); go_simp); first | done | with_reducible rfl
              try simp only [Act.put, List.setIfInBounds_toArray, List.set_cons_zero, List.set_cons_succ]
              refine wpAnyH_ready (rs := [12]) (by kernel_rfl) (by simp) ?_
              refine AllReadyH.cons (by simp only [List.getElem?_toArray, List.getElem?_cons_succ, List.getElem?_cons_zero]; rfl) (fun K hK => ?_) AllReadyH.nil
              go_simp
              refine hK.out _ _ trivial (fun hHeld => ?_)
              clear hK K
              try simp only [Act.put, List.setIfInBounds_toArray, List.set_cons_zero, List.set_cons_succ]
              refine wpAnyH_done (by kernel_rfl) ?_ _
              clear hHeld
              have hN := hPut.out.congr (n' := fun v => if v < k then (T.W v).toNat else if v = k then j + 1 else 0) (x' := fun _ _ => 0) (fun v _ => by
                  by_cases e : v = k
                  · subst e; simp
                  · simp [e]) (fun v _ q hq => by split <;> rfl)
              have HN := hid hN
              have hBf := hB9.setCell (p := ⟨g, k, none⟩) hg2 (.slice A9 (j + 1) c9)
              have hlf : w.heap.size + 2 < (w9.setCell ⟨g, k, none⟩ (.slice A9 (j + 1) c9)).heap.size := by simp; exact hl9
              clear hPut hN q9 z9 hB9
              go_wp2
              go_roundg (gk - 1)
              case measure => omega
              case rel => exact ⟨j + 1, _, by go_num, by omega, by omega, HN.out, hBf, hlf⟩
        · have hltj' : ¬ (j : Int) < (n1 : Int) := by omega
          have hje : j = n1 := by omega
          have hT1 : Hid (NumTab wr g (g + 1) T.nw F2 (fun v => if v < k + 1 then (T.W v).toNat else 0) (fun _ _ => 0)) := hT.congr (fun v _ => by
            by_cases e : v < k
            · rw [if_pos e, if_pos (by omega)]
            · rw [if_neg e]
              by_cases e2 : v = k
              · subst e2
                rw [if_pos rfl, if_pos (by omega), hje]
                have := HN1.out
                omega
              · rw [if_neg e2, if_neg (by omega)]) (fun v _ q hq => rfl)
          have HB := hid hB
          clear hT hB hje
          go_wp2
          go_roundg (gK - 1)
          case measure => omega
          case rel => exact ⟨k + 1, F2, by go_num, by omega, by omega, hT1.out, HB.out, hl⟩
    · have hlt' : ¬ (k : Int) < (T.nw : Int) := by omega
      have hTf : Hid (NumTab wk g (g + 1) T.nw F (fun v => (T.W v).toNat) (fun _ _ => 0)) := hT.congr (fun v hv => if_pos (by omega)) (fun v _ q hq => rfl)
      clear hT
      go_wp2
      go_ret
      exact ⟨g, F, rfl, by omega, hTf.out, hW⟩
end Go.Proofs.Ytnocbkhnmdmfhaa
