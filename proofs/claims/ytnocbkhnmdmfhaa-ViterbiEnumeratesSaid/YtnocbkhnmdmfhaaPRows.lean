/- semiring.rows of polynomials; Enumerators.One and Zero. -/
import Derived.Test.YtnocbkhnmdmfhaaPolPath
namespace Go.Proofs.Ytnocbkhnmdmfhaa
open Go.RowKit

theorem Try.infoPols : (Try.prog.info? 91).map (fun i => (i.zero, i.size, i.bytes)) = some (some (.slice none 0 0), 1, 24) := by kernel_rfl
theorem eZero_any (w : World) : Calls Try.prog 155 #[.agg #[]] w (PolRet (fun _ => 0) w) := by
  go_enter Try.func155, Try.ntmps155
  go_wp2
  go_ret
  refine ⟨_, _, _, rfl, ⟨0, ?_, by omega, fun _ _ => rfl, fun _ _ => Nat.zero_le _⟩, ((Below.refl _ _).alloc (Nat.le_refl _) _).alloc (by simp) _⟩
  refine ⟨fun _ _ => undef, .inr ⟨w.heap.size + 1, 0, 0, #[], rfl, Nat.zero_le _, heap_new_at (by simp), Nat.le_refl _, by unfold maxLen; omega, by simp, fun i hi => absurd hi (Nat.not_lt_zero i)⟩, fun g hg => ?_, fun i hi => absurd hi (Nat.not_lt_zero i)⟩
  obtain rfl : w.heap.size + 1 = g := by simpa [Value.ownBlock] using hg
  exact noInt_of (c := #[]) (heap_new_at (by simp)) fun u hu => by simp at hu
/-- A block of two or fewer numbers, just built. -/
theorem natOwn_block {w : World} {n : Nat} {x : Nat → Nat} {cs : Array Value} (hn : n ≤ 66) (hsz : cs.size = n) (h : ∀ i, i < n → ∃ A c, cs[i]? = some (.slice A (dl (x i)) c) ∧ NatOk w w.heap.size A (x i) ∧ dl (x i) ≤ c ∧ c ≤ maxLen) :
    NatOwn (w.alloc (Obj.cells cs 43)) 0 (.slice (some ⟨w.heap.size, 0, none⟩) n n) n x := by
  have kb : Below w.heap.size w (w.alloc (Obj.cells cs 43)) := (Below.refl _ _).alloc (Nat.le_refl _) _
  refine ⟨fun i _ => cs.getD i undef, .inr ⟨w.heap.size, 0, n, cs, rfl, Nat.zero_le _, heap_new_at rfl, Nat.le_refl _, by unfold maxLen; omega, by omega, fun i hi j hj => ?_⟩, fun g hg => ?_, fun i hi => ?_⟩
  · obtain rfl : j = 0 := by omega
    rw [Nat.mul_one, Nat.zero_add, Nat.add_zero]
    have hi' : i < cs.size := by omega
    simp [Array.getD, hi']
  · obtain rfl : w.heap.size = g := by simpa [Value.ownBlock] using hg
    refine noInt_of (c := cs) (heap_new_at rfl) fun u hu z e => ?_
    rw [Array.mem_toList_iff] at hu
    obtain ⟨j, hj, e2⟩ := Array.getElem_of_mem hu
    obtain ⟨A, c, e3, _⟩ := h j (by omega)
    rw [Array.getElem?_eq_getElem hj, e2, e] at e3
    cases e3
  · obtain ⟨A, c, e3, n1, n2, n3⟩ := h i hi
    have hi' : i < cs.size := by omega
    rw [Array.getElem?_eq_getElem hi'] at e3
    injection e3 with e3
    refine ⟨A, c, ?_, n1.on kb, n2, n3⟩
    simp [Array.getD, hi', e3]
theorem eOne_any (w : World) : Calls Try.prog 54 #[.agg #[]] w (PolRet (mono 0) w) := by
  go_enter Try.func54, Try.ntmps54
  go_wp2_with fail
  refine (natOf_any 1 _ (by omega)).mono ?_
  rintro e w1 ⟨A, c, rfl, h1, h2, h3, h4⟩
  have hB := onS ((Below.refl _ _).alloc (Nat.le_refl _) _) h4
  have hO := natOwn_block (w := w1) (n := 1) (x := mono 0) (cs := #[.slice A (dl 1) c]) (by omega) rfl (fun i hi => by
    obtain rfl : i = 0 := by omega
    exact ⟨A, c, rfl, h3, h1, h2⟩)
  have hB2 := hid (onS hB ((Below.refl w1.heap.size w1).alloc (Nat.le_refl _) (Obj.cells #[.slice A (dl 1) c] 43)))
  have HO := hid hO
  clear h4 h3 hB hO h1
  go_wp2
  go_ret
  exact ⟨_, _, _, rfl, ⟨1, HO.out, by omega, fun t ht => if_neg (by omega), fun D hD => mono_short hD⟩, hB2.out⟩
/-- A table of numbers of one's own is returned, a row for each time. -/
def PTabPost (T : Trel) (x : Nat → Nat → Nat → Nat) (w : World) (e : Ending) (w' : World) : Prop :=
  ∃ g F, e = .returned (.slice (some ⟨g, 0, none⟩) T.nw T.nw) ∧ w.heap.size ≤ g ∧ PolTab w' g (g + 1) T.nw F (fun v => (T.W v).toNat) x ∧ Below w.heap.size w w'
set_option maxRecDepth 100000 in
set_option maxHeartbeats 8000000 in
theorem rowsP_any (T : Trel) (A B : Option Addr) (c d : Nat) (w : World) (h : T.Reads w A B) (hs : T.Shape) :
    Calls Try.prog 86 #[.agg #[], .agg #[.slice A T.nw c, .slice B T.n d]] w (PTabPost T (fun _ _ _ => 0) w) := by
  obtain ⟨O1, hO1⟩ : ∃ o, o = (Obj.cells #[] 82) := ⟨_, rfl⟩
  obtain ⟨O2, hO2⟩ : ∃ o, o = (Obj.cells #[.slice A T.nw c, .slice B T.n d] 25) := ⟨_, rfl⟩
  have hB0 : Below (w.heap.size + 2) ((w.alloc O1).alloc O2) ((w.alloc O1).alloc O2) := Below.refl _ _
  have HS : Hid (∀ w', Below (w.heap.size + 2) ((w.alloc O1).alloc O2) w' → (w'.cell? ⟨w.heap.size + 1, 0, none⟩ = some (.slice A T.nw c) ∧ w'.cell? ⟨w.heap.size + 1, 1, none⟩ = some (.slice B T.n d)) ∧ Below w.heap.size w w') := fun w' hB => by
    have hB' := two_below hB
    subst hO2
    have hr := box2_two hB
    exact ⟨⟨hr.cell (i := 0) (by simp), hr.cell (i := 1) (by simp)⟩, hB'⟩
  obtain ⟨⟨p0, p1⟩, hW⟩ := HS.out _ hB0
  have hn64 := hs.n64
  have hnw := hs.nw
  have hmk := fun W => run_makeI (P := Try.prog) 85 91 _ 24 Try.underlying85 Try.infoPols rfl (T.nw : Int) (by omega) (by omega) (by omega) W
  simp only [Int.toNat_natCast] at hmk
  have HR := hid h
  have HSH := hid hs
  have hnw65 : T.nw ≤ 65 := by omega
  clear h hs hnw
  go_enter Try.func86, Try.ntmps86
  go_wp2_with fail
  rw [← hO1, ← hO2]
  go_upto_region 2 with fail
  obtain ⟨W2, hW2⟩ : ∃ W, W = (w.alloc O1).alloc O2 := ⟨_, rfl⟩
  have hsz2 : W2.heap.size = w.heap.size + 2 := by rw [hW2]; simp
  have HS2 : Hid (∀ w', Below (w.heap.size + 2) W2 w' → (w'.cell? ⟨w.heap.size + 1, 0, none⟩ = some (.slice A T.nw c) ∧ w'.cell? ⟨w.heap.size + 1, 1, none⟩ = some (.slice B T.n d)) ∧ Below w.heap.size w w') := by rw [hW2]; exact HS
  rw [← hW2] at hB0 ⊢
  obtain ⟨g, hg⟩ : ∃ g, g = w.heap.size + 1 + 1 := ⟨_, rfl⟩
  have hgz : g = W2.heap.size := by omega
  have hr3 := World.rowIs_made W2 (.slice none 0 0) T.nw 91
  have hB3 := two_on_ hB0 (Nat.le_of_eq hsz2.symm) ((Below.refl W2.heap.size W2).alloc (Nat.le_refl _) (Obj.cells (madeCells #[Value.slice none 0 0] T.nw) 91))
  have hl3 : w.heap.size + 2 < (W2.alloc (Obj.cells (madeCells #[Value.slice none 0 0] T.nw) 91)).heap.size := by simp; omega
  obtain ⟨W3, hW3⟩ : ∃ W, W = W2.alloc (Obj.cells (madeCells #[Value.slice none 0 0] T.nw) 91) := ⟨_, rfl⟩
  rw [← hgz] at hr3
  rw [← hW3] at hr3 hB3 hl3 ⊢
  rw [← hg]
  have hT3 : PolTab W3 g (g + 1) T.nw (fun _ => .slice none 0 0) (fun v => if v < 0 then (T.W v).toNat else 0) (fun _ _ _ => 0) := (polTab_start hr3).congr (fun v _ => (if_neg (by omega)).symm) (fun v _ k hk _ => rfl)
  have hg2 : w.heap.size + 2 ≤ g := by omega
  clear hW3 hgz hg hr3 hW2 HS hB0 hmk hO1 hO2 hsz2
  go_loopg [15] T.nw (fun gg iv wx => ∃ (k : Nat) (F : Nat → Value), iv = .int .i64 (k : Nat) ∧ k ≤ T.nw ∧ T.nw ≤ k + gg ∧ PolTab wx g (g + 1) T.nw F (fun v => if v < k then (T.W v).toNat else 0) (fun _ _ _ => 0) ∧ Below (w.heap.size + 2) W2 wx ∧ w.heap.size + 2 < wx.heap.size)
  case atStart => exact ⟨0, _, rfl, by omega, by omega, hT3, hB3, hl3⟩
  case round =>
    clear hW p0 p1 hT3 hB3 hl3
    obtain ⟨gK, hgK⟩ : ∃ g, g = gk := ⟨_, rfl⟩
    subst hgK
    obtain ⟨k, F, rfl, hk, hkg, hT, hB, hl⟩ := hrel
    obtain ⟨wk, hwk⟩ : ∃ W, W = wr := ⟨_, rfl⟩
    subst hwk
    have hk0 : (0 : Int) ≤ (k : Int) := by omega
    obtain ⟨⟨p0, p1⟩, hW⟩ := HS2.out _ hB
    by_cases hlt : k < T.nw
    · have hlt' : (k : Int) < (T.nw : Int) := by omega
      obtain ⟨wb, wo, rfl, hwb, y0, hy1, hy2⟩ := (HR.out.on hW).width hlt
      have hwid := HSH.out.wid (i := k) (by have := HSH.out.nw; omega)
      obtain ⟨n1, hn1⟩ : ∃ n : Nat, (n : Int) = T.W k := ⟨(T.W k).toNat, by omega⟩
      rw [← hn1] at y0 hwid
      have HN1 := hid hn1
      clear hn1 hy1 hy2
      have hT0 : PolTab wk g (g + 1) T.nw F (fun v => if v < k then (T.W v).toNat else if v = k then 0 else 0) (fun _ _ _ => 0) := hT.congr (fun v _ => by split <;> simp) (fun v _ q hq _ => rfl)
      clear hT
      go_wp2
      go_loopg [21] n1 (fun gg jv wx => ∃ (j : Nat) (F : Nat → Value), jv = .int .i64 (j : Nat) ∧ j ≤ n1 ∧ n1 ≤ j + gg ∧ PolTab wx g (g + 1) T.nw F (fun v => if v < k then (T.W v).toNat else if v = k then j else 0) (fun _ _ _ => 0) ∧ Below (w.heap.size + 2) W2 wx ∧ w.heap.size + 2 < wx.heap.size)
      case atStart => exact ⟨0, F, rfl, by omega, by omega, hT0, hB, hl⟩
      case round =>
        clear hW p0 p1 hT0 hB hl y0
        obtain ⟨j, F2, rfl, hj, hjg, hT, hB, hl⟩ := hrel
        have hj0 : (0 : Int) ≤ (j : Int) := by omega
        obtain ⟨⟨p0, p1⟩, hW⟩ := HS2.out _ hB
        by_cases hltj : j < n1
        · have hltj' : (j : Int) < (n1 : Int) := by omega
          obtain ⟨fk, hfk⟩ : ∃ v, v = F2 k := ⟨_, rfl⟩
          have q0 : wr.cell? ⟨g, k, none⟩ = some fk := by rw [hfk]; exact hT.row.cell hlt
          have HFK := hid hfk
          clear hfk p0 p1 hW
          rename World => w50
          go_upto_region 7 with fail
          refine wp_region_held_drew (S := fun _ => True) (by kernel_rfl) trivial (fun hHeld => ?_)
          obtain ⟨w51, hw⟩ : ∃ W, W = World.drew w50 := ⟨_, rfl⟩
          have kb : Below w50.heap.size w50 w51 := by rw [hw]; exact (Below.refl _ _).drew
          rw [← hw]
          clear hw
          replace hB := two_on_ hB (Nat.le_of_lt hl) kb
          replace hl := Nat.lt_of_lt_of_le hl kb.size
          replace hT := hT.on kb
          replace q0 := cellS kb q0
          clear kb
          refine wpAnyH_take (i := 0) (v := ?_) (by simp only [List.getElem?_toArray, List.getElem?_cons_zero]; rfl) (by kernel_rfl) (by kernel_rfl) (by kernel_rfl) (by exact fun _ _ _ h => h) (Or.inl ⟨by rfl, ?_⟩) (by assumption) ?_
          rotate_left
          · (intro w hSw; (try dsimp only at hSw); go_simp); first | done | with_reducible rfl
          try simp only [Act.put, List.setIfInBounds_toArray, List.set_cons_zero, List.set_cons_succ]
          refine wpAnyH_take (i := 1) (v := ?_) (by simp only [List.getElem?_toArray, List.getElem?_cons_succ, List.getElem?_cons_zero]; rfl) (by kernel_rfl) (by kernel_rfl) (by kernel_rfl) (by exact fun _ _ _ h => h) (Or.inl ⟨by rfl, ?_⟩) (by assumption) ?_
          rotate_left
          · (intro w hSw; (try dsimp only at hSw); go_simp); first | done | with_reducible rfl
          try simp only [Act.put, List.setIfInBounds_toArray, List.set_cons_zero, List.set_cons_succ]
          refine wpAnyH_take (i := 2) (v := ?_) (by simp only [List.getElem?_toArray, List.getElem?_cons_succ, List.getElem?_cons_zero]; rfl) (by kernel_rfl) (by kernel_rfl) (by kernel_rfl) (by exact fun _ _ _ h => h) (Or.inl ⟨by rfl, ?_⟩) (by assumption) ?_
          rotate_left
          · (intro w hSw; (try dsimp only at hSw); go_simp); first | done | with_reducible rfl
          try simp only [Act.put, List.setIfInBounds_toArray, List.set_cons_zero, List.set_cons_succ]
          refine wpAnyH_take (i := 3) (v := ?_) (by simp only [List.getElem?_toArray, List.getElem?_cons_succ, List.getElem?_cons_zero]; rfl) (by kernel_rfl) (by kernel_rfl) (by kernel_rfl) (by exact fun _ _ _ h => h) (Or.inl ⟨by rfl, ?_⟩) (by assumption) ?_
          rotate_left
          · (intro w hSw; (try dsimp only at hSw); go_simp); first | done | with_reducible rfl
          try simp only [Act.put, List.setIfInBounds_toArray, List.set_cons_zero, List.set_cons_succ]
          refine wpAnyH_take (i := 4) (v := ?_) (by simp only [List.getElem?_toArray, List.getElem?_cons_succ, List.getElem?_cons_zero]; rfl) (by kernel_rfl) (by kernel_rfl) (by kernel_rfl) (by exact fun _ _ _ h => h) (Or.inl ⟨by rfl, ?_⟩) (by assumption) ?_
          rotate_left
          · (intro w hSw; (try dsimp only at hSw); go_simp); first | done | with_reducible rfl
          try simp only [Act.put, List.setIfInBounds_toArray, List.set_cons_zero, List.set_cons_succ]
          refine wpAnyH_take (i := 6) (v := ?_) (by simp only [List.getElem?_toArray, List.getElem?_cons_succ, List.getElem?_cons_zero]; rfl) (by kernel_rfl) (by kernel_rfl) (by kernel_rfl) (by exact fun _ _ _ h => h) (Or.inl ⟨by rfl, ?_⟩) (by assumption) ?_
          rotate_left
          · (intro w hSw; (try dsimp only at hSw); go_simp); first | done | with_reducible rfl
          try simp only [Act.put, List.setIfInBounds_toArray, List.set_cons_zero, List.set_cons_succ]
          refine wpAnyH_take (i := 7) (v := ?_) (by simp only [List.getElem?_toArray, List.getElem?_cons_succ, List.getElem?_cons_zero]; rfl) (by kernel_rfl) (by kernel_rfl) (by kernel_rfl) (by exact fun _ _ _ h => h) (Or.inl ⟨by rfl, ?_⟩) (by assumption) ?_
          rotate_left
          · (intro w hSw; (try dsimp only at hSw); go_simp); first | done | with_reducible rfl
          try simp only [Act.put, List.setIfInBounds_toArray, List.set_cons_zero, List.set_cons_succ]
          refine wpAnyH_ready (rs := [5, 8]) (by kernel_rfl) (by simp) ?_
          refine AllReadyH.cons (by simp only [List.getElem?_toArray, List.getElem?_cons_succ, List.getElem?_cons_zero]; rfl) (fun K hK => ?_) (AllReadyH.cons (by simp only [List.getElem?_toArray, List.getElem?_cons_succ, List.getElem?_cons_zero]; rfl) (fun K hK => ?_) AllReadyH.nil)
          · go_simp
            refine hK.out _ _ trivial (fun hHeld => ?_)
            clear hK K
            try simp only [Act.put, List.setIfInBounds_toArray, List.set_cons_zero, List.set_cons_succ]
            refine wpAnyH_ready (rs := [8]) (by kernel_rfl) (by simp) ?_
            refine AllReadyH.cons (by simp only [List.getElem?_toArray, List.getElem?_cons_succ, List.getElem?_cons_zero]; rfl) (fun K hK => ?_) AllReadyH.nil
            go_simp
            go_wp2_with fail
            refine (eZero_any w51).mono ?_
            rintro e w52 ⟨VA, vn, vc, rfl, zv, kb⟩
            replace hB := two_on_ hB (Nat.le_of_lt hl) kb
            replace hl := Nat.lt_of_lt_of_le hl kb.size
            replace hT := hT.on kb
            replace q0 := cellS kb q0
            clear kb
            refine hK.out _ _ trivial (fun hHeld => ?_)
            clear hK K
            try simp only [Act.put, List.setIfInBounds_toArray, List.set_cons_zero, List.set_cons_succ]
            refine wpAnyH_ready (rs := [9]) (by kernel_rfl) (by simp) ?_
            refine AllReadyH.cons (by simp only [List.getElem?_toArray, List.getElem?_cons_succ, List.getElem?_cons_zero]; rfl) (fun K hK => ?_) AllReadyH.nil
            go_simp
            obtain ⟨w53, hw⟩ : ∃ W, W = World.alloc w52 (Obj.cells #[Value.slice VA vn vc] 39) := ⟨_, rfl⟩
            have kb : Below w52.heap.size w52 w53 := by rw [hw]; exact (Below.refl _ _).alloc (Nat.le_refl _) _
            have n1c : w53.cell? ⟨w52.heap.size, 0, none⟩ = some (Value.slice VA vn vc) := by rw [hw]; simp
            rw [← hw]
            clear hw
            obtain ⟨nb_n1c, hnb⟩ : ∃ b, b = w52.heap.size := ⟨_, rfl⟩
            rw [← hnb] at n1c ⊢
            clear hnb
            replace hB := two_on_ hB (Nat.le_of_lt hl) kb
            replace hl := Nat.lt_of_lt_of_le hl kb.size
            replace hT := hT.on kb
            replace q0 := cellS kb q0
            replace zv := zv.on kb
            clear kb
            refine hK.out _ _ trivial (fun hHeld => ?_)
            clear hK K
            try simp only [Act.put, List.setIfInBounds_toArray, List.set_cons_zero, List.set_cons_succ]
            refine wpAnyH_ready (rs := [10]) (by kernel_rfl) (by simp) ?_
            refine AllReadyH.cons (by simp only [List.getElem?_toArray, List.getElem?_cons_succ, List.getElem?_cons_zero]; rfl) (fun K hK => ?_) AllReadyH.nil
            have hOwn : PolOwn w53 (g + 1) fk j (fun _ _ => 0) := by
              have := hT.own k hlt
              rw [if_neg (Nat.lt_irrefl k), if_pos rfl, ← HFK.out] at this
              exact this
            have hgl : g + 1 ≤ w53.heap.size := hT.row.lt
            refine step_append_pol (by rfl) (.tmp 28) (.tmp 32) (by rfl) (g + 1) fk j (fun _ _ => 0) (by rfl) hOwn hgl (by omega) nb_n1c 1 (by rfl) _ n1c zv ?_
            intro v9 w9 o1 o2 o3
            obtain ⟨A9, c9, hv9⟩ := o1.isSlice
            subst hv9
            have hfo : ∀ q, fk.ownBlock = some q → g + 1 ≤ q := fun q e => (hOwn.lt q e).1
            have q9 : w9.cell? ⟨g, k, none⟩ = some fk := cell_grown q0 o2 fun e => by have := hfo g e; omega
            have z9 : w9.frozen? ⟨g, k, none⟩ = false := by
              have := (hT.row.of_block (o2.block g hT.row.lt fun e => by have := hfo g e.symm; omega)).frozen k
              exact this
            have hB9 : Below (w.heap.size + 2) W2 w9 := hB.grown o2 (Nat.le_of_lt hl) fun q e => by have := hfo q e; omega
            have hl9 : w.heap.size + 2 < w9.heap.size := Nat.lt_of_lt_of_le hl o2.size
            have hPut := hid (hT.put (by omega) hlt o1 (by rw [← HFK.out]; exact o2) (by rw [← HFK.out]; exact o3))
            refine hK.out _ _ trivial (fun hHeld => ?_)
            clear hK K
            try simp only [Act.put, List.setIfInBounds_toArray, List.set_cons_zero, List.set_cons_succ]
            refine wpAnyH_take (i := 11) (v := ?_) (by simp only [List.getElem?_toArray, List.getElem?_cons_succ, List.getElem?_cons_zero]; rfl) (by kernel_rfl) (by kernel_rfl) (by kernel_rfl) (by exact fun _ _ _ h => h) (Or.inl ⟨by rfl, ?_⟩) (by assumption) ?_
            rotate_left
            · (intro w hSw; (try dsimp only at hSw); go_simp); first | done | with_reducible rfl
            try simp only [Act.put, List.setIfInBounds_toArray, List.set_cons_zero, List.set_cons_succ]
            refine wpAnyH_ready (rs := [12]) (by kernel_rfl) (by simp) ?_
            refine AllReadyH.cons (by simp only [List.getElem?_toArray, List.getElem?_cons_succ, List.getElem?_cons_zero]; rfl) (fun K hK => ?_) AllReadyH.nil
            go_simp
            refine hK.out _ _ trivial (fun hHeld => ?_)
            clear hK K
            try simp only [Act.put, List.setIfInBounds_toArray, List.set_cons_zero, List.set_cons_succ]
            refine wpAnyH_done (by kernel_rfl) ?_ _
            clear hHeld
            have hN := hPut.out.congr (n' := fun v => if v < k then (T.W v).toNat else if v = k then j + 1 else 0) (x' := fun _ _ _ => 0) (fun v _ => by
                by_cases e : v = k
                · subst e; simp
                · simp [e]) (fun v _ q hq t => by split <;> rfl)
            have HN := hid hN
            have hBf := hB9.setCell (p := ⟨g, k, none⟩) hg2 (.slice A9 (j + 1) c9)
            have hlf : w.heap.size + 2 < (w9.setCell ⟨g, k, none⟩ (.slice A9 (j + 1) c9)).heap.size := by simp; exact hl9
            clear hPut hN q9 z9 hB9
            go_wp2
            go_roundg (gk - 1)
            case measure => omega
            case rel => exact ⟨j + 1, _, by go_num, by omega, by omega, HN.out, hBf, hlf⟩
          · go_simp
            go_wp2_with fail
            refine (eZero_any w51).mono ?_
            rintro e w52 ⟨VA, vn, vc, rfl, zv, kb⟩
            replace hB := two_on_ hB (Nat.le_of_lt hl) kb
            replace hl := Nat.lt_of_lt_of_le hl kb.size
            replace hT := hT.on kb
            replace q0 := cellS kb q0
            clear kb
            refine hK.out _ _ trivial (fun hHeld => ?_)
            clear hK K
            try simp only [Act.put, List.setIfInBounds_toArray, List.set_cons_zero, List.set_cons_succ]
            refine wpAnyH_ready (rs := [5, 9]) (by kernel_rfl) (by simp) ?_
            refine AllReadyH.cons (by simp only [List.getElem?_toArray, List.getElem?_cons_succ, List.getElem?_cons_zero]; rfl) (fun K hK => ?_) (AllReadyH.cons (by simp only [List.getElem?_toArray, List.getElem?_cons_succ, List.getElem?_cons_zero]; rfl) (fun K hK => ?_) AllReadyH.nil)
            · go_simp
              refine hK.out _ _ trivial (fun hHeld => ?_)
              clear hK K
              try simp only [Act.put, List.setIfInBounds_toArray, List.set_cons_zero, List.set_cons_succ]
              refine wpAnyH_ready (rs := [9]) (by kernel_rfl) (by simp) ?_
              refine AllReadyH.cons (by simp only [List.getElem?_toArray, List.getElem?_cons_succ, List.getElem?_cons_zero]; rfl) (fun K hK => ?_) AllReadyH.nil
              go_simp
              obtain ⟨w53, hw⟩ : ∃ W, W = World.alloc w52 (Obj.cells #[Value.slice VA vn vc] 39) := ⟨_, rfl⟩
              have kb : Below w52.heap.size w52 w53 := by rw [hw]; exact (Below.refl _ _).alloc (Nat.le_refl _) _
              have n1c : w53.cell? ⟨w52.heap.size, 0, none⟩ = some (Value.slice VA vn vc) := by rw [hw]; simp
              rw [← hw]
              clear hw
              obtain ⟨nb_n1c, hnb⟩ : ∃ b, b = w52.heap.size := ⟨_, rfl⟩
              rw [← hnb] at n1c ⊢
              clear hnb
              replace hB := two_on_ hB (Nat.le_of_lt hl) kb
              replace hl := Nat.lt_of_lt_of_le hl kb.size
              replace hT := hT.on kb
              replace q0 := cellS kb q0
              replace zv := zv.on kb
              clear kb
              refine hK.out _ _ trivial (fun hHeld => ?_)
              clear hK K
              try simp only [Act.put, List.setIfInBounds_toArray, List.set_cons_zero, List.set_cons_succ]
              refine wpAnyH_ready (rs := [10]) (by kernel_rfl) (by simp) ?_
              refine AllReadyH.cons (by simp only [List.getElem?_toArray, List.getElem?_cons_succ, List.getElem?_cons_zero]; rfl) (fun K hK => ?_) AllReadyH.nil
              have hOwn : PolOwn w53 (g + 1) fk j (fun _ _ => 0) := by
                have := hT.own k hlt
                rw [if_neg (Nat.lt_irrefl k), if_pos rfl, ← HFK.out] at this
                exact this
              have hgl : g + 1 ≤ w53.heap.size := hT.row.lt
              refine step_append_pol (by rfl) (.tmp 28) (.tmp 32) (by rfl) (g + 1) fk j (fun _ _ => 0) (by rfl) hOwn hgl (by omega) nb_n1c 1 (by rfl) _ n1c zv ?_
              intro v9 w9 o1 o2 o3
              obtain ⟨A9, c9, hv9⟩ := o1.isSlice
              subst hv9
              have hfo : ∀ q, fk.ownBlock = some q → g + 1 ≤ q := fun q e => (hOwn.lt q e).1
              have q9 : w9.cell? ⟨g, k, none⟩ = some fk := cell_grown q0 o2 fun e => by have := hfo g e; omega
              have z9 : w9.frozen? ⟨g, k, none⟩ = false := by
                have := (hT.row.of_block (o2.block g hT.row.lt fun e => by have := hfo g e.symm; omega)).frozen k
                exact this
              have hB9 : Below (w.heap.size + 2) W2 w9 := hB.grown o2 (Nat.le_of_lt hl) fun q e => by have := hfo q e; omega
              have hl9 : w.heap.size + 2 < w9.heap.size := Nat.lt_of_lt_of_le hl o2.size
              have hPut := hid (hT.put (by omega) hlt o1 (by rw [← HFK.out]; exact o2) (by rw [← HFK.out]; exact o3))
              refine hK.out _ _ trivial (fun hHeld => ?_)
              clear hK K
              try simp only [Act.put, List.setIfInBounds_toArray, List.set_cons_zero, List.set_cons_succ]
              refine wpAnyH_take (i := 11) (v := ?_) (by simp only [List.getElem?_toArray, List.getElem?_cons_succ, List.getElem?_cons_zero]; rfl) (by kernel_rfl) (by kernel_rfl) (by kernel_rfl) (by exact fun _ _ _ h => h) (Or.inl ⟨by rfl, ?_⟩) (by assumption) ?_
              rotate_left
              · (intro w hSw; (try dsimp only at hSw); go_simp); first | done | with_reducible rfl
              try simp only [Act.put, List.setIfInBounds_toArray, List.set_cons_zero, List.set_cons_succ]
              refine wpAnyH_ready (rs := [12]) (by kernel_rfl) (by simp) ?_
              refine AllReadyH.cons (by simp only [List.getElem?_toArray, List.getElem?_cons_succ, List.getElem?_cons_zero]; rfl) (fun K hK => ?_) AllReadyH.nil
              go_simp
              refine hK.out _ _ trivial (fun hHeld => ?_)
              clear hK K
              try simp only [Act.put, List.setIfInBounds_toArray, List.set_cons_zero, List.set_cons_succ]
              refine wpAnyH_done (by kernel_rfl) ?_ _
              clear hHeld
              have hN := hPut.out.congr (n' := fun v => if v < k then (T.W v).toNat else if v = k then j + 1 else 0) (x' := fun _ _ _ => 0) (fun v _ => by
                  by_cases e : v = k
                  · subst e; simp
                  · simp [e]) (fun v _ q hq t => by split <;> rfl)
              have HN := hid hN
              have hBf := hB9.setCell (p := ⟨g, k, none⟩) hg2 (.slice A9 (j + 1) c9)
              have hlf : w.heap.size + 2 < (w9.setCell ⟨g, k, none⟩ (.slice A9 (j + 1) c9)).heap.size := by simp; exact hl9
              clear hPut hN q9 z9 hB9
              go_wp2
              go_roundg (gk - 1)
              case measure => omega
              case rel => exact ⟨j + 1, _, by go_num, by omega, by omega, HN.out, hBf, hlf⟩
            · go_simp
              obtain ⟨w53, hw⟩ : ∃ W, W = World.alloc w52 (Obj.cells #[Value.slice VA vn vc] 39) := ⟨_, rfl⟩
              have kb : Below w52.heap.size w52 w53 := by rw [hw]; exact (Below.refl _ _).alloc (Nat.le_refl _) _
              have n1c : w53.cell? ⟨w52.heap.size, 0, none⟩ = some (Value.slice VA vn vc) := by rw [hw]; simp
              rw [← hw]
              clear hw
              obtain ⟨nb_n1c, hnb⟩ : ∃ b, b = w52.heap.size := ⟨_, rfl⟩
              rw [← hnb] at n1c ⊢
              clear hnb
              replace hB := two_on_ hB (Nat.le_of_lt hl) kb
              replace hl := Nat.lt_of_lt_of_le hl kb.size
              replace hT := hT.on kb
              replace q0 := cellS kb q0
              replace zv := zv.on kb
              clear kb
              refine hK.out _ _ trivial (fun hHeld => ?_)
              clear hK K
              try simp only [Act.put, List.setIfInBounds_toArray, List.set_cons_zero, List.set_cons_succ]
              refine wpAnyH_ready (rs := [5]) (by kernel_rfl) (by simp) ?_
              refine AllReadyH.cons (by simp only [List.getElem?_toArray, List.getElem?_cons_succ, List.getElem?_cons_zero]; rfl) (fun K hK => ?_) AllReadyH.nil
              go_simp
              refine hK.out _ _ trivial (fun hHeld => ?_)
              clear hK K
              try simp only [Act.put, List.setIfInBounds_toArray, List.set_cons_zero, List.set_cons_succ]
              refine wpAnyH_ready (rs := [10]) (by kernel_rfl) (by simp) ?_
              refine AllReadyH.cons (by simp only [List.getElem?_toArray, List.getElem?_cons_succ, List.getElem?_cons_zero]; rfl) (fun K hK => ?_) AllReadyH.nil
              have hOwn : PolOwn w53 (g + 1) fk j (fun _ _ => 0) := by
                have := hT.own k hlt
                rw [if_neg (Nat.lt_irrefl k), if_pos rfl, ← HFK.out] at this
                exact this
              have hgl : g + 1 ≤ w53.heap.size := hT.row.lt
              refine step_append_pol (by rfl) (.tmp 28) (.tmp 32) (by rfl) (g + 1) fk j (fun _ _ => 0) (by rfl) hOwn hgl (by omega) nb_n1c 1 (by rfl) _ n1c zv ?_
              intro v9 w9 o1 o2 o3
              obtain ⟨A9, c9, hv9⟩ := o1.isSlice
              subst hv9
              have hfo : ∀ q, fk.ownBlock = some q → g + 1 ≤ q := fun q e => (hOwn.lt q e).1
              have q9 : w9.cell? ⟨g, k, none⟩ = some fk := cell_grown q0 o2 fun e => by have := hfo g e; omega
              have z9 : w9.frozen? ⟨g, k, none⟩ = false := by
                have := (hT.row.of_block (o2.block g hT.row.lt fun e => by have := hfo g e.symm; omega)).frozen k
                exact this
              have hB9 : Below (w.heap.size + 2) W2 w9 := hB.grown o2 (Nat.le_of_lt hl) fun q e => by have := hfo q e; omega
              have hl9 : w.heap.size + 2 < w9.heap.size := Nat.lt_of_lt_of_le hl o2.size
              have hPut := hid (hT.put (by omega) hlt o1 (by rw [← HFK.out]; exact o2) (by rw [← HFK.out]; exact o3))
              refine hK.out _ _ trivial (fun hHeld => ?_)
              clear hK K
              try simp only [Act.put, List.setIfInBounds_toArray, List.set_cons_zero, List.set_cons_succ]
              refine wpAnyH_take (i := 11) (v := ?_) (by simp only [List.getElem?_toArray, List.getElem?_cons_succ, List.getElem?_cons_zero]; rfl) (by kernel_rfl) (by kernel_rfl) (by kernel_rfl) (by exact fun _ _ _ h => h) (Or.inl ⟨by rfl, ?_⟩) (by assumption) ?_
              rotate_left
              · (intro w hSw; (try dsimp only at hSw); go_simp); first | done | with_reducible rfl
              try simp only [Act.put, List.setIfInBounds_toArray, List.set_cons_zero, List.set_cons_succ]
              refine wpAnyH_ready (rs := [12]) (by kernel_rfl) (by simp) ?_
              refine AllReadyH.cons (by simp only [List.getElem?_toArray, List.getElem?_cons_succ, List.getElem?_cons_zero]; rfl) (fun K hK => ?_) AllReadyH.nil
              go_simp
              refine hK.out _ _ trivial (fun hHeld => ?_)
              clear hK K
              try simp only [Act.put, List.setIfInBounds_toArray, List.set_cons_zero, List.set_cons_succ]
              refine wpAnyH_done (by kernel_rfl) ?_ _
              clear hHeld
              have hN := hPut.out.congr (n' := fun v => if v < k then (T.W v).toNat else if v = k then j + 1 else 0) (x' := fun _ _ _ => 0) (fun v _ => by
                  by_cases e : v = k
                  · subst e; simp
                  · simp [e]) (fun v _ q hq t => by split <;> rfl)
              have HN := hid hN
              have hBf := hB9.setCell (p := ⟨g, k, none⟩) hg2 (.slice A9 (j + 1) c9)
              have hlf : w.heap.size + 2 < (w9.setCell ⟨g, k, none⟩ (.slice A9 (j + 1) c9)).heap.size := by simp; exact hl9
              clear hPut hN q9 z9 hB9
              go_wp2
              go_roundg (gk - 1)
              case measure => omega
              case rel => exact ⟨j + 1, _, by go_num, by omega, by omega, HN.out, hBf, hlf⟩
        · have hltj' : ¬ (j : Int) < (n1 : Int) := by omega
          have hje : j = n1 := by omega
          have hT1 : Hid (PolTab wr g (g + 1) T.nw F2 (fun v => if v < k + 1 then (T.W v).toNat else 0) (fun _ _ _ => 0)) := hT.congr (fun v _ => by
            by_cases e : v < k
            · rw [if_pos e, if_pos (by omega)]
            · rw [if_neg e]
              by_cases e2 : v = k
              · subst e2
                rw [if_pos rfl, if_pos (by omega), hje]
                have := HN1.out
                omega
              · rw [if_neg e2, if_neg (by omega)]) (fun v _ q hq _ => rfl)
          have HB := hid hB
          clear hT hB hje
          go_wp2
          go_roundg (gK - 1)
          case measure => omega
          case rel => exact ⟨k + 1, F2, by go_num, by omega, by omega, hT1.out, HB.out, hl⟩
    · have hlt' : ¬ (k : Int) < (T.nw : Int) := by omega
      have hTf : Hid (PolTab wk g (g + 1) T.nw F (fun v => (T.W v).toNat) (fun _ _ _ => 0)) := hT.congr (fun v hv => if_pos (by omega)) (fun v _ q hq _ => rfl)
      clear hT
      go_wp2
      go_ret
      exact ⟨g, F, rfl, by omega, hTf.out, hW⟩
end Go.Proofs.Ytnocbkhnmdmfhaa
