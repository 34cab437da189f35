/- viterbi.valued of ints, with along's closure: the costs of the edges. -/
import Derived.Test.YtnocbkhnmdmfhaaIBack
namespace Go.Proofs.Ytnocbkhnmdmfhaa
open Go.RowKit

/-- The cost of each edge, by its label. -/
def Trel.yOf (T : Trel) (C : Nat → Nat → Int) (i j : Nat) : Int := C i (T.lb i j).toNat
/-- Every label has a cost. -/
def Trel.Fit (T : Trel) (ln : Nat → Nat) : Prop := ∀ i, i < T.n → ∀ j, j < T.el i → 0 ≤ T.lb i j ∧ T.lb i j < (ln i : Nat)
theorem alongFn_any (CA : Option Addr) (M cc cb i a : Nat) (ln : Nat → Nat) (C : Nat → Nat → Int) (w : World) (h : IntRows w CA M ln C) (hc : w.cell? ⟨cb, 0, none⟩ = some (.slice CA M cc)) (hi : i < M) (ha : a < ln i) :
    Calls Try.prog 78 #[.int .i64 (i : Nat), .int .i64 (a : Nat), .pointer (some ⟨cb, 0, none⟩)] w fun e w' => e = .returned (.int .i64 (C i a)) ∧ Below w.heap.size w w' := by
  obtain ⟨b, o, R, rc, rfl, hb, x0, h1, h2, h3, h4⟩ := h i hi
  obtain ⟨rb, ro, rfl, hrb, x1⟩ := h3.at ha
  obtain ⟨n1, hn1⟩ : ∃ n, n = ln i := ⟨_, rfl⟩
  obtain ⟨v, hv⟩ : ∃ v, v = C i a := ⟨_, rfl⟩
  rw [← hn1] at x0 ha
  rw [← hv] at x1
  have HV := hid hv
  have hi0 : (0 : Int) ≤ (i : Int) := by omega
  have ha0 : (0 : Int) ≤ (a : Int) := by omega
  have hi1 : (i : Int) < (M : Int) := by omega
  have ha1 : (a : Int) < (n1 : Int) := by omega
  clear h h3 h4 hv hn1 h1
  go_enter Try.func78, Try.ntmps78
  go_wp2
  go_ret
  exact ⟨by rw [← HV.out]; rfl, Below.refl _ _⟩
/-- A table of ints of one's own is returned, a row for each section. -/
def SecPost (T : Trel) (x : Nat → Nat → Int) (w : World) (e : Ending) (w' : World) : Prop :=
  ∃ g F, e = .returned (.slice (some ⟨g, 0, none⟩) T.n T.n) ∧ w.heap.size ≤ g ∧ IntTab w' g (g + 1) T.n F T.el x ∧ Below w.heap.size w w'
set_option maxRecDepth 100000 in
set_option maxHeartbeats 8000000 in
theorem valsI_any (T : Trel) (A B CA : Option Addr) (c d M cc cb : Nat) (ln : Nat → Nat) (C : Nat → Nat → Int) (w : World) (h : T.Reads w A B) (hs : T.Shape) (hC : IntRows w CA M ln C) (hM : M = T.n) (hF : T.Fit ln) (hcb : w.cell? ⟨cb, 0, none⟩ = some (.slice CA M cc)) :
    Calls Try.prog 77 #[.agg #[.slice A T.nw c, .slice B T.n d], .func (.func 78) #[] #[.pointer (some ⟨cb, 0, none⟩)]] w (SecPost T (T.yOf C) w) := by
  have hcf : ∀ (x y p : Value) (W : World), (callFunc 78 #[x, y, p]).run Try.prog W = .ok (.enter 78 #[x, y, p]) W := fun _ _ _ _ => by kernel_rfl
  obtain ⟨RB, hRB⟩ : ∃ o, o = (Obj.cells #[.slice A T.nw c, .slice B T.n d] 25) := ⟨_, rfl⟩
  have hB0 : Below (w.heap.size + 1) (w.alloc RB) (w.alloc RB) := Below.refl _ _
  have HS : Hid (∀ w', Below (w.heap.size + 1) (w.alloc RB) w' → (w'.cell? ⟨w.heap.size, 0, none⟩ = some (.slice A T.nw c) ∧ w'.cell? ⟨w.heap.size, 1, none⟩ = some (.slice B T.n d)) ∧ Below w.heap.size w w') := fun w' hB => by
    have hB' := tbox_below hB
    subst hRB
    exact ⟨⟨tbox hB rfl, tbox hB rfl⟩, hB'⟩
  obtain ⟨⟨p0, p1⟩, hW⟩ := HS.out _ hB0
  have hn64 := hs.n64
  have hmk := fun W => run_makeI (P := Try.prog) 26 22 _ 24 Try.underlying26 Try.infoInts rfl (T.n : Int) (by omega) (by omega) (by omega) W
  simp only [Int.toNat_natCast] at hmk
  have HR := hid h
  have HSH := hid hs
  have HC := hid hC
  have HF := hid hF
  have HM := hid hM
  have HCB := hid hcb
  clear h hs hC hF hM hcb
  have hl0 : w.heap.size < (w.alloc RB).heap.size := by simp
  go_enter Try.func77, Try.ntmps77
  go_wp2_with fail
  rw [← hRB]
  go_upto_region 2 with fail
  obtain ⟨W2, hW2⟩ : ∃ W, W = w.alloc RB := ⟨_, rfl⟩
  have hsz2 : W2.heap.size = w.heap.size + 1 := by rw [hW2]; simp
  have HS2 : Hid (∀ w', Below (w.heap.size + 1) W2 w' → (w'.cell? ⟨w.heap.size, 0, none⟩ = some (.slice A T.nw c) ∧ w'.cell? ⟨w.heap.size, 1, none⟩ = some (.slice B T.n d)) ∧ Below w.heap.size w w') := by rw [hW2]; exact HS
  rw [← hW2] at hB0 ⊢
  obtain ⟨g, hg⟩ : ∃ g, g = w.heap.size + 1 := ⟨_, rfl⟩
  have hgz : g = W2.heap.size := by omega
  have hr3 := World.rowIs_made W2 (.slice none 0 0) T.n 22
  have hB3 := two_on_ hB0 (Nat.le_of_eq hsz2.symm) ((Below.refl W2.heap.size W2).alloc (Nat.le_refl _) (Obj.cells (madeCells #[Value.slice none 0 0] T.n) 22))
  have hl3 : w.heap.size + 1 < (W2.alloc (Obj.cells (madeCells #[Value.slice none 0 0] T.n) 22)).heap.size := by simp; omega
  obtain ⟨W3, hW3⟩ : ∃ W, W = W2.alloc (Obj.cells (madeCells #[Value.slice none 0 0] T.n) 22) := ⟨_, rfl⟩
  rw [← hgz] at hr3
  rw [← hW3] at hr3 hB3 hl3 ⊢
  rw [← hg]
  have hT3 : IntTab W3 g (g + 1) T.n (fun _ => .slice none 0 0) (fun v => if v < 0 then T.el v else 0) (T.yOf C) := (intTab_start hr3).congr (fun v _ => (if_neg (by omega)).symm) (fun v _ k hk => rfl)
  have hg2 : w.heap.size + 1 ≤ g := by omega
  clear hW3 hgz hg hr3 hW2 HS hB0 hmk hRB hsz2 hl0 p0 p1 hW
  obtain ⟨⟨p0, p1⟩, hW⟩ := HS2.out _ hB3
  go_wp2
  go_loopg [17] T.n (fun gg iv wx => ∃ (k : Nat) (F : Nat → Value), iv = .int .i64 (k : Nat) ∧ k ≤ T.n ∧ T.n ≤ k + gg ∧ IntTab wx g (g + 1) T.n F (fun v => if v < k then T.el v else 0) (T.yOf C) ∧ Below (w.heap.size + 1) W2 wx ∧ w.heap.size + 1 < wx.heap.size)
  case atStart => exact ⟨0, _, rfl, by omega, by omega, hT3, hB3, hl3⟩
  case round =>
    clear hW p0 p1 hT3 hB3 hl3
    obtain ⟨gK, hgK⟩ : ∃ g, g = gk := ⟨_, rfl⟩
    subst hgK
    obtain ⟨k, F, rfl, hk, hkg, hT, hB, hl⟩ := hrel
    obtain ⟨wk, hwk⟩ : ∃ W, W = wr := ⟨_, rfl⟩
    subst hwk
    have hk0 : (0 : Int) ≤ (k : Int) := by omega
    obtain ⟨⟨p0, p1⟩, hW⟩ := HS2.out _ hB
    by_cases hlt : k < T.n
    · have hlt' : (k : Int) < (T.n : Int) := by omega
      obtain ⟨eb, eo, E, ec, rfl, heb, x0w, he1, he2, he3, he4⟩ := HR.out.sec hlt
      have x0 := cellS hW x0w
      have hel := HSH.out.elb hlt
      obtain ⟨n1, hn1⟩ : ∃ n : Nat, n = T.el k := ⟨_, rfl⟩
      rw [← hn1] at x0 hel
      have HN1 := hid hn1
      have HE3 := hid he3
      have hT0 : IntTab wk g (g + 1) T.n F (fun v => if v < k then T.el v else if v = k then 0 else 0) (T.yOf C) := hT.congr (fun v _ => by split <;> simp) (fun v _ q hq => rfl)
      clear hT hn1 he3 he4 x0w he1 he2
      go_wp2
      go_loopg [24] n1 (fun gg jv wx => ∃ (j : Nat) (F : Nat → Value), jv = .int .i64 (j : Nat) ∧ j ≤ n1 ∧ n1 ≤ j + gg ∧ IntTab wx g (g + 1) T.n F (fun v => if v < k then T.el v else if v = k then j else 0) (T.yOf C) ∧ Below (w.heap.size + 1) W2 wx ∧ w.heap.size + 1 < wx.heap.size)
      case atStart => exact ⟨0, F, rfl, by omega, by omega, hT0, hB, hl⟩
      case round =>
        clear hW p0 p1 hT0 hB hl x0
        obtain ⟨j, F2, rfl, hj, hjg, hT, hB, hl⟩ := hrel
        have hj0 : (0 : Int) ≤ (j : Int) := by omega
        have hW := (HS2.out _ hB).2
        by_cases hltj : j < n1
        · have hltj' : (j : Int) < (n1 : Int) := by omega
          obtain ⟨fb, fo, rfl, hfb, e0, e1, e2⟩ := edge_at ((Rd.below HE3.out hW (Nat.le_refl _)).mono hW.size) (show j < T.el k by rw [← HN1.out]; exact hltj)
          have hfit := HF.out k hlt j (by rw [← HN1.out]; exact hltj)
          obtain ⟨la, hla⟩ : ∃ n : Nat, (n : Int) = T.lb k j := ⟨(T.lb k j).toNat, by omega⟩
          have hY : Hid (C k la = T.yOf C k j) := by show C k la = C k (T.lb k j).toNat; rw [← hla]; rfl
          have hlal : la < ln k := by omega
          rw [← hla] at e1
          obtain ⟨fv, hfv⟩ : ∃ z, z = T.fr k j := ⟨_, rfl⟩
          obtain ⟨tv, htv⟩ : ∃ z, z = T.to k j := ⟨_, rfl⟩
          rw [← hfv] at e0
          rw [← htv] at e2
          obtain ⟨fk, hfk⟩ : ∃ v, v = F2 k := ⟨_, rfl⟩
          have q0 : wr.cell? ⟨g, k, none⟩ = some fk := by rw [hfk]; exact hT.row.cell hlt
          have HFK := hid hfk
          have hCr := HC.out.on hW
          have hcb := cellS hW HCB.out
          have hkM : k < M := by rw [HM.out]; exact hlt
          clear hfk hfv htv hla hfit hW
          go_upto_region 8 with fail
          obtain ⟨OB, hOB⟩ : ∃ o, o = (Obj.cells #[.int .i64 fv, .int .i64 (la : Int), .int .i64 tv] 72) := ⟨_, rfl⟩
          have s1 : (wr.alloc OB).cell? ⟨wr.heap.size, 1, none⟩ = some (.int .i64 (la : Int)) := by subst hOB; exact tbox (Below.refl _ _) rfl
          have kb : Below wr.heap.size wr (wr.alloc OB) := (Below.refl _ _).alloc (Nat.le_refl _) _
          rw [← hOB]
          obtain ⟨w50, hw50⟩ : ∃ W, W = wr.alloc OB := ⟨_, rfl⟩
          rw [← hw50] at s1 kb ⊢
          have hbxl : ∀ q, fk.ownBlock = some q → q < wr.heap.size := fun q e => by
            have := (hT.own k hlt).lt q (by rw [← HFK.out]; exact e)
            exact this.2
          have hxg : wr.heap.size ≠ g := by have := hT.row.lt; omega
          replace hT := hT.on kb
          replace hB := two_on_ hB (Nat.le_of_lt hl) kb
          replace hl := Nat.lt_of_lt_of_le hl kb.size
          replace q0 := cellS kb q0
          replace hCr := hCr.on kb
          replace hcb := cellS kb hcb
          obtain ⟨bx, hbx2⟩ : ∃ b, b = wr.heap.size := ⟨_, rfl⟩
          rw [← hbx2] at s1 hxg hbxl ⊢
          have HBXL := hid hbxl
          clear hw50 hOB kb e0 e1 e2 hbx2 hbxl
          refine wp_region_held_drew (S := fun w' => w'.cell? ⟨bx, 1, none⟩ = some (.int .i64 (la : Int))) (by kernel_rfl) (cellS (Below.refl _ _).drew s1) (fun hHeld => ?_)
          obtain ⟨w51, hw⟩ : ∃ W, W = World.drew w50 := ⟨_, rfl⟩
          have kb : Below w50.heap.size w50 w51 := by rw [hw]; exact (Below.refl _ _).drew
          rw [← hw] at hHeld ⊢
          clear hw
          replace hB := two_on_ hB (Nat.le_of_lt hl) kb
          replace hl := Nat.lt_of_lt_of_le hl kb.size
          replace hT := hT.on kb
          replace q0 := cellS kb q0
          replace s1 := cellS kb s1
          replace hCr := hCr.on kb
          replace hcb := cellS kb hcb
          clear kb
          refine wpAnyH_take (i := 0) (v := ?_) (by simp only [List.getElem?_toArray, List.getElem?_cons_zero]; rfl) (by kernel_rfl) (by kernel_rfl) (by kernel_rfl) (by exact fun _ _ _ h => h) (Or.inl ⟨by rfl, ?_⟩) (by assumption) ?_
          rotate_left
          · (intro w hSw; (try dsimp only at hSw); go_simp); first | done | with_reducible rfl
          try simp only [Act.put, List.setIfInBounds_toArray, List.set_cons_zero, List.set_cons_succ]
          refine wpAnyH_take (i := 1) (v := ?_) (by simp only [List.getElem?_toArray, List.getElem?_cons_succ, List.getElem?_cons_zero]; rfl) (by kernel_rfl) (by kernel_rfl) (by kernel_rfl) (by exact fun _ _ _ h => h) (Or.inl ⟨by rfl, ?_⟩) (by assumption) ?_
          rotate_left
          · (intro w hSw; (try dsimp only at hSw); go_simp); first | done | with_reducible rfl
          try simp only [Act.put, List.setIfInBounds_toArray, List.set_cons_zero, List.set_cons_succ]
          refine wpAnyH_take (i := 2) (v := ?_) (by simp only [List.getElem?_toArray, List.getElem?_cons_succ, List.getElem?_cons_zero]; rfl) (by kernel_rfl) (by kernel_rfl) (by kernel_rfl) (by exact fun _ _ _ h => h) (Or.inl ⟨by rfl, ?_⟩) (by assumption) ?_
          rotate_left
          · (intro w hSw; (try dsimp only at hSw); go_simp); first | done | with_reducible rfl
          try simp only [Act.put, List.setIfInBounds_toArray, List.set_cons_zero, List.set_cons_succ]
          refine wpAnyH_take (i := 3) (v := ?_) (by simp only [List.getElem?_toArray, List.getElem?_cons_succ, List.getElem?_cons_zero]; rfl) (by kernel_rfl) (by kernel_rfl) (by kernel_rfl) (by exact fun _ _ _ h => h) (Or.inl ⟨by rfl, ?_⟩) (by assumption) ?_
          rotate_left
          · (intro w hSw; (try dsimp only at hSw); go_simp); first | done | with_reducible rfl
          try simp only [Act.put, List.setIfInBounds_toArray, List.set_cons_zero, List.set_cons_succ]
          refine wpAnyH_take (i := 4) (v := ?_) (by simp only [List.getElem?_toArray, List.getElem?_cons_succ, List.getElem?_cons_zero]; rfl) (by kernel_rfl) (by kernel_rfl) (by kernel_rfl) (by exact fun _ _ _ h => h) (Or.inl ⟨by rfl, ?_⟩) (by assumption) ?_
          rotate_left
          · (intro w hSw; (try dsimp only at hSw); go_simp); first | done | with_reducible rfl
          try simp only [Act.put, List.setIfInBounds_toArray, List.set_cons_zero, List.set_cons_succ]
          refine wpAnyH_take (i := 6) (v := ?_) (by simp only [List.getElem?_toArray, List.getElem?_cons_succ, List.getElem?_cons_zero]; rfl) (by kernel_rfl) (by kernel_rfl) (by kernel_rfl) (by exact fun _ _ _ h => h) (Or.inl ⟨by rfl, ?_⟩) (by assumption) ?_
          rotate_left
          · (intro w hSw; (try dsimp only at hSw); go_simp); first | done | with_reducible rfl
          try simp only [Act.put, List.setIfInBounds_toArray, List.set_cons_zero, List.set_cons_succ]
          refine wpAnyH_take (i := 7) (v := ?_) (by simp only [List.getElem?_toArray, List.getElem?_cons_succ, List.getElem?_cons_zero]; rfl) (by kernel_rfl) (by kernel_rfl) (by kernel_rfl) (by exact fun _ _ _ h => h) (Or.inl ⟨by rfl, ?_⟩) (by assumption) ?_
          rotate_left
          · (intro w hSw; (try dsimp only at hSw); go_simp); first | done | with_reducible rfl
          try simp only [Act.put, List.setIfInBounds_toArray, List.set_cons_zero, List.set_cons_succ]
          refine wpAnyH_take (i := 8) (v := ?_) (by simp only [List.getElem?_toArray, List.getElem?_cons_succ, List.getElem?_cons_zero]; rfl) (by kernel_rfl) (by kernel_rfl) (by kernel_rfl) (by exact fun _ _ _ h => h) (Or.inl ⟨by rfl, ?_⟩) (by assumption) ?_
          rotate_left
          · (intro w hSw; (try dsimp only at hSw); go_simp); first | done | with_reducible rfl
          try simp only [Act.put, List.setIfInBounds_toArray, List.set_cons_zero, List.set_cons_succ]
          refine wpAnyH_take (i := 9) (v := ?_) (by simp only [List.getElem?_toArray, List.getElem?_cons_succ, List.getElem?_cons_zero]; rfl) (by kernel_rfl) (by kernel_rfl) (by kernel_rfl) (by exact fun _ _ _ h => h) (Or.inl ⟨by rfl, ?_⟩) (by assumption) ?_
          rotate_left
          · (intro w hSw; (try dsimp only at hSw); go_simp); first | done | with_reducible rfl
          try simp only [Act.put, List.setIfInBounds_toArray, List.set_cons_zero, List.set_cons_succ]
          refine wpAnyH_ready (rs := [5, 10]) (by kernel_rfl) (by simp) ?_
          refine AllReadyH.cons (by simp only [List.getElem?_toArray, List.getElem?_cons_succ, List.getElem?_cons_zero]; rfl) (fun K hK => ?_) (AllReadyH.cons (by simp only [List.getElem?_toArray, List.getElem?_cons_succ, List.getElem?_cons_zero]; rfl) (fun K hK => ?_) AllReadyH.nil)
          · go_simp
            refine hK.out _ _ s1 (fun hHeld => ?_)
            clear hK K
            try simp only [Act.put, List.setIfInBounds_toArray, List.set_cons_zero, List.set_cons_succ]
            refine wpAnyH_ready (rs := [10]) (by kernel_rfl) (by simp) ?_
            refine AllReadyH.cons (by simp only [List.getElem?_toArray, List.getElem?_cons_succ, List.getElem?_cons_zero]; rfl) (fun K hK => ?_) AllReadyH.nil
            go_simp
            go_wp2_with fail
            refine (alongFn_any CA M cc cb k la ln C w51 hCr hcb hkM hlal).mono ?_
            rintro e w52 ⟨rfl, kb⟩
            replace hB := two_on_ hB (Nat.le_of_lt hl) kb
            replace hl := Nat.lt_of_lt_of_le hl kb.size
            replace hT := hT.on kb
            replace q0 := cellS kb q0
            replace s1 := cellS kb s1
            replace hCr := hCr.on kb
            replace hcb := cellS kb hcb
            clear kb
            rw [hY.out]
            obtain ⟨yv, hyv⟩ : ∃ z, z = T.yOf C k j := ⟨_, rfl⟩
            rw [← hyv]
            have HYV := hid hyv
            clear hyv
            refine hK.out _ _ s1 (fun hHeld => ?_)
            clear hK K
            try simp only [Act.put, List.setIfInBounds_toArray, List.set_cons_zero, List.set_cons_succ]
            refine wpAnyH_ready (rs := [11]) (by kernel_rfl) (by simp) ?_
            refine AllReadyH.cons (by simp only [List.getElem?_toArray, List.getElem?_cons_succ, List.getElem?_cons_zero]; rfl) (fun K hK => ?_) AllReadyH.nil
            go_simp
            obtain ⟨w53, hw⟩ : ∃ W, W = World.alloc w52 (Obj.cells #[Value.int .i64 yv] 3) := ⟨_, rfl⟩
            have kb : Below w52.heap.size w52 w53 := by rw [hw]; exact (Below.refl _ _).alloc (Nat.le_refl _) _
            have n1c : w53.cell? ⟨w52.heap.size, 0, none⟩ = some (Value.int .i64 yv) := by rw [hw]; simp
            rw [← hw]
            clear hw
            obtain ⟨nb_n1c, hnb⟩ : ∃ b, b = w52.heap.size := ⟨_, rfl⟩
            rw [← hnb] at n1c ⊢
            clear hnb
            replace hB := two_on_ hB (Nat.le_of_lt hl) kb
            replace hl := Nat.lt_of_lt_of_le hl kb.size
            replace hT := hT.on kb
            replace q0 := cellS kb q0
            replace s1 := cellS kb s1
            replace hCr := hCr.on kb
            replace hcb := cellS kb hcb
            clear kb
            refine hK.out _ _ s1 (fun hHeld => ?_)
            clear hK K
            try simp only [Act.put, List.setIfInBounds_toArray, List.set_cons_zero, List.set_cons_succ]
            refine wpAnyH_ready (rs := [12]) (by kernel_rfl) (by simp) ?_
            refine AllReadyH.cons (by simp only [List.getElem?_toArray, List.getElem?_cons_succ, List.getElem?_cons_zero]; rfl) (fun K hK => ?_) AllReadyH.nil
            have hOwn : Own w53 (g + 1) 3 1 fk j (fun i _ => .int .i64 (T.yOf C k i)) := by
              have := hT.own k hlt
              rw [if_neg (Nat.lt_irrefl k), if_pos rfl, ← HFK.out] at this
              exact this
            have hgl : g + 1 ≤ w53.heap.size := hT.row.lt
            rw [HYV.out] at n1c
            refine step_append_int (by rfl) (.tmp 33) (.tmp 39) (by rfl) (g + 1) fk j (fun i => T.yOf C k i) (by rfl) hOwn hgl (by omega) nb_n1c 1 (by rfl) n1c ?_
            intro v9 w9 o1 o2 o3
            obtain ⟨A9, c9, hv9⟩ := o1.shape
            subst hv9
            have hfo : ∀ q, fk.ownBlock = some q → g + 1 ≤ q := fun q e => (hOwn.lt q e).1
            have q9 : w9.cell? ⟨g, k, none⟩ = some fk := cell_grown q0 o2 fun e => by have := hfo g e; omega
            have z9 : w9.frozen? ⟨g, k, none⟩ = false := by
              have := (hT.row.of_block (o2.block g hT.row.lt fun e => by have := hfo g e.symm; omega)).frozen k
              exact this
            have hB9 : Below (w.heap.size + 1) W2 w9 := hB.grown o2 (Nat.le_of_lt hl) fun q e => by have := hfo q e; omega
            have hl9 : w.heap.size + 1 < w9.heap.size := Nat.lt_of_lt_of_le hl o2.size
            have s1 := cell_grown s1 o2 fun e => absurd (HBXL.out _ e) (Nat.lt_irrefl _)
            have hPut := hid (hT.put (by omega) hlt o1 (by rw [← HFK.out]; exact o2) (by rw [← HFK.out]; exact o3))
            refine hK.out _ _ s1 (fun hHeld => ?_)
            clear hK K
            try simp only [Act.put, List.setIfInBounds_toArray, List.set_cons_zero, List.set_cons_succ]
            refine wpAnyH_take (i := 13) (v := ?_) (by simp only [List.getElem?_toArray, List.getElem?_cons_succ, List.getElem?_cons_zero]; rfl) (by kernel_rfl) (by kernel_rfl) (by kernel_rfl) (by exact fun _ _ _ h => h) (Or.inl ⟨by rfl, ?_⟩) (by assumption) ?_
            rotate_left
            · (intro w hSw; (try dsimp only at hSw); go_simp); first | done | with_reducible rfl
            try simp only [Act.put, List.setIfInBounds_toArray, List.set_cons_zero, List.set_cons_succ]
            refine wpAnyH_ready (rs := [14]) (by kernel_rfl) (by simp) ?_
            refine AllReadyH.cons (by simp only [List.getElem?_toArray, List.getElem?_cons_succ, List.getElem?_cons_zero]; rfl) (fun K hK => ?_) AllReadyH.nil
            go_simp
            replace s1 := cell_setCell_far (p := ⟨g, k, none⟩) (u := .slice A9 (j + 1) c9) s1 hxg
            refine hK.out _ _ s1 (fun hHeld => ?_)
            clear hK K
            try simp only [Act.put, List.setIfInBounds_toArray, List.set_cons_zero, List.set_cons_succ]
            refine wpAnyH_done (by kernel_rfl) ?_ _
            clear hHeld
            have hN := hPut.out.congr (n' := fun v => if v < k then T.el v else if v = k then j + 1 else 0) (x' := T.yOf C) (fun v _ => by
                by_cases e : v = k
                · subst e; simp
                · simp [e]) (fun v _ q hq => by
                by_cases e : v = k
                · rw [if_pos e, e]
                · rw [if_neg e])
            have HN := hid hN
            have hBf := hB9.setCell (p := ⟨g, k, none⟩) hg2 (.slice A9 (j + 1) c9)
            have hlf : w.heap.size + 1 < (w9.setCell ⟨g, k, none⟩ (.slice A9 (j + 1) c9)).heap.size := by simp; exact hl9
            clear hPut hN q9 z9 hB9
            go_wp2
            go_roundg (gk - 1)
            case measure => omega
            case rel => exact ⟨j + 1, _, by go_num, by omega, by omega, HN.out, hBf, hlf⟩
          · go_simp
            go_wp2_with fail
            refine (alongFn_any CA M cc cb k la ln C w51 hCr hcb hkM hlal).mono ?_
            rintro e w52 ⟨rfl, kb⟩
            replace hB := two_on_ hB (Nat.le_of_lt hl) kb
            replace hl := Nat.lt_of_lt_of_le hl kb.size
            replace hT := hT.on kb
            replace q0 := cellS kb q0
            replace s1 := cellS kb s1
            replace hCr := hCr.on kb
            replace hcb := cellS kb hcb
            clear kb
            rw [hY.out]
            obtain ⟨yv, hyv⟩ : ∃ z, z = T.yOf C k j := ⟨_, rfl⟩
            rw [← hyv]
            have HYV := hid hyv
            clear hyv
            refine hK.out _ _ s1 (fun hHeld => ?_)
            clear hK K
            try simp only [Act.put, List.setIfInBounds_toArray, List.set_cons_zero, List.set_cons_succ]
            refine wpAnyH_ready (rs := [5, 11]) (by kernel_rfl) (by simp) ?_
            refine AllReadyH.cons (by simp only [List.getElem?_toArray, List.getElem?_cons_succ, List.getElem?_cons_zero]; rfl) (fun K hK => ?_) (AllReadyH.cons (by simp only [List.getElem?_toArray, List.getElem?_cons_succ, List.getElem?_cons_zero]; rfl) (fun K hK => ?_) AllReadyH.nil)
            · go_simp
              refine hK.out _ _ s1 (fun hHeld => ?_)
              clear hK K
              try simp only [Act.put, List.setIfInBounds_toArray, List.set_cons_zero, List.set_cons_succ]
              refine wpAnyH_ready (rs := [11]) (by kernel_rfl) (by simp) ?_
              refine AllReadyH.cons (by simp only [List.getElem?_toArray, List.getElem?_cons_succ, List.getElem?_cons_zero]; rfl) (fun K hK => ?_) AllReadyH.nil
              go_simp
              obtain ⟨w53, hw⟩ : ∃ W, W = World.alloc w52 (Obj.cells #[Value.int .i64 yv] 3) := ⟨_, rfl⟩
              have kb : Below w52.heap.size w52 w53 := by rw [hw]; exact (Below.refl _ _).alloc (Nat.le_refl _) _
              have n1c : w53.cell? ⟨w52.heap.size, 0, none⟩ = some (Value.int .i64 yv) := by rw [hw]; simp
              rw [← hw]
              clear hw
              obtain ⟨nb_n1c, hnb⟩ : ∃ b, b = w52.heap.size := ⟨_, rfl⟩
              rw [← hnb] at n1c ⊢
              clear hnb
              replace hB := two_on_ hB (Nat.le_of_lt hl) kb
              replace hl := Nat.lt_of_lt_of_le hl kb.size
              replace hT := hT.on kb
              replace q0 := cellS kb q0
              replace s1 := cellS kb s1
              replace hCr := hCr.on kb
              replace hcb := cellS kb hcb
              clear kb
              refine hK.out _ _ s1 (fun hHeld => ?_)
              clear hK K
              try simp only [Act.put, List.setIfInBounds_toArray, List.set_cons_zero, List.set_cons_succ]
              refine wpAnyH_ready (rs := [12]) (by kernel_rfl) (by simp) ?_
              refine AllReadyH.cons (by simp only [List.getElem?_toArray, List.getElem?_cons_succ, List.getElem?_cons_zero]; rfl) (fun K hK => ?_) AllReadyH.nil
              have hOwn : Own w53 (g + 1) 3 1 fk j (fun i _ => .int .i64 (T.yOf C k i)) := by
                have := hT.own k hlt
                rw [if_neg (Nat.lt_irrefl k), if_pos rfl, ← HFK.out] at this
                exact this
              have hgl : g + 1 ≤ w53.heap.size := hT.row.lt
              rw [HYV.out] at n1c
              refine step_append_int (by rfl) (.tmp 33) (.tmp 39) (by rfl) (g + 1) fk j (fun i => T.yOf C k i) (by rfl) hOwn hgl (by omega) nb_n1c 1 (by rfl) n1c ?_
              intro v9 w9 o1 o2 o3
              obtain ⟨A9, c9, hv9⟩ := o1.shape
              subst hv9
              have hfo : ∀ q, fk.ownBlock = some q → g + 1 ≤ q := fun q e => (hOwn.lt q e).1
              have q9 : w9.cell? ⟨g, k, none⟩ = some fk := cell_grown q0 o2 fun e => by have := hfo g e; omega
              have z9 : w9.frozen? ⟨g, k, none⟩ = false := by
                have := (hT.row.of_block (o2.block g hT.row.lt fun e => by have := hfo g e.symm; omega)).frozen k
                exact this
              have hB9 : Below (w.heap.size + 1) W2 w9 := hB.grown o2 (Nat.le_of_lt hl) fun q e => by have := hfo q e; omega
              have hl9 : w.heap.size + 1 < w9.heap.size := Nat.lt_of_lt_of_le hl o2.size
              have s1 := cell_grown s1 o2 fun e => absurd (HBXL.out _ e) (Nat.lt_irrefl _)
              have hPut := hid (hT.put (by omega) hlt o1 (by rw [← HFK.out]; exact o2) (by rw [← HFK.out]; exact o3))
              refine hK.out _ _ s1 (fun hHeld => ?_)
              clear hK K
              try simp only [Act.put, List.setIfInBounds_toArray, List.set_cons_zero, List.set_cons_succ]
              refine wpAnyH_take (i := 13) (v := ?_) (by simp only [List.getElem?_toArray, List.getElem?_cons_succ, List.getElem?_cons_zero]; rfl) (by kernel_rfl) (by kernel_rfl) (by kernel_rfl) (by exact fun _ _ _ h => h) (Or.inl ⟨by rfl, ?_⟩) (by assumption) ?_
              rotate_left
              · (intro w hSw; (try dsimp only at hSw); go_simp); first | done | with_reducible rfl
              try simp only [Act.put, List.setIfInBounds_toArray, List.set_cons_zero, List.set_cons_succ]
              refine wpAnyH_ready (rs := [14]) (by kernel_rfl) (by simp) ?_
              refine AllReadyH.cons (by simp only [List.getElem?_toArray, List.getElem?_cons_succ, List.getElem?_cons_zero]; rfl) (fun K hK => ?_) AllReadyH.nil
              go_simp
              replace s1 := cell_setCell_far (p := ⟨g, k, none⟩) (u := .slice A9 (j + 1) c9) s1 hxg
              refine hK.out _ _ s1 (fun hHeld => ?_)
              clear hK K
              try simp only [Act.put, List.setIfInBounds_toArray, List.set_cons_zero, List.set_cons_succ]
              refine wpAnyH_done (by kernel_rfl) ?_ _
              clear hHeld
              have hN := hPut.out.congr (n' := fun v => if v < k then T.el v else if v = k then j + 1 else 0) (x' := T.yOf C) (fun v _ => by
                  by_cases e : v = k
                  · subst e; simp
                  · simp [e]) (fun v _ q hq => by
                  by_cases e : v = k
                  · rw [if_pos e, e]
                  · rw [if_neg e])
              have HN := hid hN
              have hBf := hB9.setCell (p := ⟨g, k, none⟩) hg2 (.slice A9 (j + 1) c9)
              have hlf : w.heap.size + 1 < (w9.setCell ⟨g, k, none⟩ (.slice A9 (j + 1) c9)).heap.size := by simp; exact hl9
              clear hPut hN q9 z9 hB9
              go_wp2
              go_roundg (gk - 1)
              case measure => omega
              case rel => exact ⟨j + 1, _, by go_num, by omega, by omega, HN.out, hBf, hlf⟩
            · go_simp
              obtain ⟨w53, hw⟩ : ∃ W, W = World.alloc w52 (Obj.cells #[Value.int .i64 yv] 3) := ⟨_, rfl⟩
              have kb : Below w52.heap.size w52 w53 := by rw [hw]; exact (Below.refl _ _).alloc (Nat.le_refl _) _
              have n1c : w53.cell? ⟨w52.heap.size, 0, none⟩ = some (Value.int .i64 yv) := by rw [hw]; simp
              rw [← hw]
              clear hw
              obtain ⟨nb_n1c, hnb⟩ : ∃ b, b = w52.heap.size := ⟨_, rfl⟩
              rw [← hnb] at n1c ⊢
              clear hnb
              replace hB := two_on_ hB (Nat.le_of_lt hl) kb
              replace hl := Nat.lt_of_lt_of_le hl kb.size
              replace hT := hT.on kb
              replace q0 := cellS kb q0
              replace s1 := cellS kb s1
              replace hCr := hCr.on kb
              replace hcb := cellS kb hcb
              clear kb
              refine hK.out _ _ s1 (fun hHeld => ?_)
              clear hK K
              try simp only [Act.put, List.setIfInBounds_toArray, List.set_cons_zero, List.set_cons_succ]
              refine wpAnyH_ready (rs := [5]) (by kernel_rfl) (by simp) ?_
              refine AllReadyH.cons (by simp only [List.getElem?_toArray, List.getElem?_cons_succ, List.getElem?_cons_zero]; rfl) (fun K hK => ?_) AllReadyH.nil
              go_simp
              refine hK.out _ _ s1 (fun hHeld => ?_)
              clear hK K
              try simp only [Act.put, List.setIfInBounds_toArray, List.set_cons_zero, List.set_cons_succ]
              refine wpAnyH_ready (rs := [12]) (by kernel_rfl) (by simp) ?_
              refine AllReadyH.cons (by simp only [List.getElem?_toArray, List.getElem?_cons_succ, List.getElem?_cons_zero]; rfl) (fun K hK => ?_) AllReadyH.nil
              have hOwn : Own w53 (g + 1) 3 1 fk j (fun i _ => .int .i64 (T.yOf C k i)) := by
                have := hT.own k hlt
                rw [if_neg (Nat.lt_irrefl k), if_pos rfl, ← HFK.out] at this
                exact this
              have hgl : g + 1 ≤ w53.heap.size := hT.row.lt
              rw [HYV.out] at n1c
              refine step_append_int (by rfl) (.tmp 33) (.tmp 39) (by rfl) (g + 1) fk j (fun i => T.yOf C k i) (by rfl) hOwn hgl (by omega) nb_n1c 1 (by rfl) n1c ?_
              intro v9 w9 o1 o2 o3
              obtain ⟨A9, c9, hv9⟩ := o1.shape
              subst hv9
              have hfo : ∀ q, fk.ownBlock = some q → g + 1 ≤ q := fun q e => (hOwn.lt q e).1
              have q9 : w9.cell? ⟨g, k, none⟩ = some fk := cell_grown q0 o2 fun e => by have := hfo g e; omega
              have z9 : w9.frozen? ⟨g, k, none⟩ = false := by
                have := (hT.row.of_block (o2.block g hT.row.lt fun e => by have := hfo g e.symm; omega)).frozen k
                exact this
              have hB9 : Below (w.heap.size + 1) W2 w9 := hB.grown o2 (Nat.le_of_lt hl) fun q e => by have := hfo q e; omega
              have hl9 : w.heap.size + 1 < w9.heap.size := Nat.lt_of_lt_of_le hl o2.size
              have s1 := cell_grown s1 o2 fun e => absurd (HBXL.out _ e) (Nat.lt_irrefl _)
              have hPut := hid (hT.put (by omega) hlt o1 (by rw [← HFK.out]; exact o2) (by rw [← HFK.out]; exact o3))
              refine hK.out _ _ s1 (fun hHeld => ?_)
              clear hK K
              try simp only [Act.put, List.setIfInBounds_toArray, List.set_cons_zero, List.set_cons_succ]
              refine wpAnyH_take (i := 13) (v := ?_) (by simp only [List.getElem?_toArray, List.getElem?_cons_succ, List.getElem?_cons_zero]; rfl) (by kernel_rfl) (by kernel_rfl) (by kernel_rfl) (by exact fun _ _ _ h => h) (Or.inl ⟨by rfl, ?_⟩) (by assumption) ?_
              rotate_left
              · (intro w hSw; (try dsimp only at hSw); go_simp); first | done | with_reducible rfl
              try simp only [Act.put, List.setIfInBounds_toArray, List.set_cons_zero, List.set_cons_succ]
              refine wpAnyH_ready (rs := [14]) (by kernel_rfl) (by simp) ?_
              refine AllReadyH.cons (by simp only [List.getElem?_toArray, List.getElem?_cons_succ, List.getElem?_cons_zero]; rfl) (fun K hK => ?_) AllReadyH.nil
              go_simp
              replace s1 := cell_setCell_far (p := ⟨g, k, none⟩) (u := .slice A9 (j + 1) c9) s1 hxg
              refine hK.out _ _ s1 (fun hHeld => ?_)
              clear hK K
              try simp only [Act.put, List.setIfInBounds_toArray, List.set_cons_zero, List.set_cons_succ]
              refine wpAnyH_done (by kernel_rfl) ?_ _
              clear hHeld
              have hN := hPut.out.congr (n' := fun v => if v < k then T.el v else if v = k then j + 1 else 0) (x' := T.yOf C) (fun v _ => by
                  by_cases e : v = k
                  · subst e; simp
                  · simp [e]) (fun v _ q hq => by
                  by_cases e : v = k
                  · rw [if_pos e, e]
                  · rw [if_neg e])
              have HN := hid hN
              have hBf := hB9.setCell (p := ⟨g, k, none⟩) hg2 (.slice A9 (j + 1) c9)
              have hlf : w.heap.size + 1 < (w9.setCell ⟨g, k, none⟩ (.slice A9 (j + 1) c9)).heap.size := by simp; exact hl9
              clear hPut hN q9 z9 hB9
              go_wp2
              go_roundg (gk - 1)
              case measure => omega
              case rel => exact ⟨j + 1, _, by go_num, by omega, by omega, HN.out, hBf, hlf⟩
        · have hltj' : ¬ (j : Int) < (n1 : Int) := by omega
          have hje : j = n1 := by omega
          have hT1 : Hid (IntTab wr g (g + 1) T.n F2 (fun v => if v < k + 1 then T.el v else 0) (T.yOf C)) := hT.congr (fun v _ => by
            by_cases e : v < k
            · rw [if_pos e, if_pos (by omega)]
            · rw [if_neg e]
              by_cases e2 : v = k
              · subst e2
                rw [if_pos rfl, if_pos (by omega), hje]
                exact HN1.out
              · rw [if_neg e2, if_neg (by omega)]) (fun v _ q hq => rfl)
          have HB := hid hB
          clear hT hB hje hW
          go_wp2
          go_roundg (gK - 1)
          case measure => omega
          case rel => exact ⟨k + 1, F2, by go_num, by omega, by omega, hT1.out, HB.out, hl⟩
    · have hlt' : ¬ (k : Int) < (T.n : Int) := by omega
      have hTf : Hid (IntTab wk g (g + 1) T.n F T.el (T.yOf C)) := hT.congr (fun v hv => if_pos (by omega)) (fun v _ q hq => rfl)
      clear hT
      go_wp2
      go_ret
      exact ⟨g, F, rfl, by omega, hTf.out, hW⟩
end Go.Proofs.Ytnocbkhnmdmfhaa
