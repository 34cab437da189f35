/- codewrightref47.Paths. -/
import Derived.Test.YtnocbkhnmdmfhaaRefForward
import Derived.Test.YtnocbkhnmdmfhaaPaths
namespace Go.Proofs.Ytnocbkhnmdmfhaa
open Go.RowKit

theorem NumTab.vtab {w : World} {g base m : Nat} {F : Nat → Value} {n : Nat → Nat} {x : Nat → Nat → Nat} (h : NumTab w g base m F n x) : VTab w (some ⟨g, 0, none⟩) m n x := fun i hi => by
  obtain ⟨A, c, e, _, _, ht⟩ := (h.own i hi).tab
  have hc := h.row.cell hi
  rw [e] at hc
  exact ⟨g, 0, A, c, rfl, h.row.lt, by rw [Nat.zero_add]; exact hc, ht⟩
set_option maxRecDepth 100000 in
set_option maxHeartbeats 16000000 in
theorem refPaths_any (T : Trel) (A B : Option Addr) (c d : Nat) (w : World) (h : T.Reads w A B) (hp : T.Proper) :
    Calls Try.prog 30 #[.agg #[.slice A T.nw c, .slice B T.n d]] w (NatPost (T.fwd (fun _ _ => 1) T.n 0) w) := by
  obtain ⟨RB, hRB⟩ : ∃ o, o = (Obj.cells #[.slice A T.nw c, .slice B T.n d] 25) := ⟨_, rfl⟩
  have hB0 : Below (w.heap.size + 1) (w.alloc RB) (w.alloc RB) := Below.refl _ _
  have HS : Hid (∀ w', Below (w.heap.size + 1) (w.alloc RB) w' → (w'.cell? ⟨w.heap.size, 0, none⟩ = some (.slice A T.nw c) ∧ w'.cell? ⟨w.heap.size, 1, none⟩ = some (.slice B T.n d)) ∧ Below w.heap.size w w') := fun w' hB => by
    have hB' := tbox_below hB
    subst hRB
    exact ⟨⟨tbox hB rfl, tbox hB rfl⟩, hB'⟩
  obtain ⟨⟨p0, p1⟩, hW⟩ := HS.out _ hB0
  have HP := hid hp
  have HR := hid h
  have hn64 := hp.shape.n64
  have hmk := fun W => run_makeI (P := Try.prog) 91 39 _ 24 Try.underlying91 Try.infoNats rfl (T.n : Int) (by omega) (by omega) (by omega) W
  simp only [Int.toNat_natCast] at hmk
  have hd1 : dl 1 = 1 := dl_small (by omega) (by omega)
  have HD1 := hid hd1
  clear h hp hd1
  go_enter Try.func30, Try.ntmps30
  go_wp2_with fail
  rw [← hRB]
  go_upto_region 2 with fail
  obtain ⟨W2, hW2⟩ : ∃ W, W = w.alloc RB := ⟨_, rfl⟩
  have hsz2 : W2.heap.size = w.heap.size + 1 := by rw [hW2]; simp
  have HS2 : Hid (∀ w', Below (w.heap.size + 1) W2 w' → (w'.cell? ⟨w.heap.size, 0, none⟩ = some (.slice A T.nw c) ∧ w'.cell? ⟨w.heap.size, 1, none⟩ = some (.slice B T.n d)) ∧ Below w.heap.size w w') := by rw [hW2]; exact HS
  rw [← hW2] at hB0 ⊢
  obtain ⟨g, hg⟩ : ∃ g, g = w.heap.size + 1 := ⟨_, rfl⟩
  have hgz : g = W2.heap.size := by omega
  have hr3 := World.rowIs_made W2 (.slice none 0 0) T.n 39
  have hB3 := two_on_ hB0 (Nat.le_of_eq hsz2.symm) ((Below.refl W2.heap.size W2).alloc (Nat.le_refl _) (Obj.cells (madeCells #[Value.slice none 0 0] T.n) 39))
  have hl3 : w.heap.size + 1 < (W2.alloc (Obj.cells (madeCells #[Value.slice none 0 0] T.n) 39)).heap.size := by simp; omega
  obtain ⟨W3, hW3⟩ : ∃ W, W = W2.alloc (Obj.cells (madeCells #[Value.slice none 0 0] T.n) 39) := ⟨_, rfl⟩
  rw [← hgz] at hr3
  rw [← hW3] at hr3 hB3 hl3 ⊢
  rw [← hg]
  have hT3 : NumTab W3 g (g + 1) T.n (fun _ => .slice none 0 0) (fun v => if v < 0 then T.el v else 0) (fun _ _ => 1) := (numTab_start hr3).congr (fun v _ => (if_neg (by omega)).symm) (fun v _ k hk => rfl)
  have hg2 : w.heap.size + 1 ≤ g := by omega
  clear hW3 hgz hg hr3 hW2 HS hB0 hmk hRB hsz2 p0 p1 hW
  obtain ⟨⟨p0, p1⟩, hW⟩ := HS2.out _ hB3
  go_wp2
  go_loopg [4] T.n (fun gg iv wx => ∃ (k : Nat) (F : Nat → Value), iv = .int .i64 (k : Nat) ∧ k ≤ T.n ∧ T.n ≤ k + gg ∧ NumTab wx g (g + 1) T.n F (fun v => if v < k then T.el v else 0) (fun _ _ => 1) ∧ Hid (∀ v, k ≤ v → F v = .slice none 0 0) ∧ Below (w.heap.size + 1) W2 wx ∧ w.heap.size + 1 < wx.heap.size)
  case atStart => exact ⟨0, _, rfl, by omega, by omega, hT3, fun _ _ => rfl, hB3, hl3⟩
  case round =>
    clear hW p0 p1 hT3 hB3 hl3
    obtain ⟨gK, hgK⟩ : ∃ g, g = gk := ⟨_, rfl⟩
    subst hgK
    obtain ⟨k, F, rfl, hk, hkg, hT, HF, hB, hl⟩ := hrel
    obtain ⟨wk, hwk⟩ : ∃ W, W = wr := ⟨_, rfl⟩
    subst hwk
    have hk0 : (0 : Int) ≤ (k : Int) := by omega
    obtain ⟨⟨p0, p1⟩, hW⟩ := HS2.out _ hB
    by_cases hlt : k < T.n
    · have hlt' : (k : Int) < (T.n : Int) := by omega
      obtain ⟨eb, eo, E, ec, rfl, heb, x0, _, _, _, _⟩ := (HR.out.on hW).sec hlt
      have hel := HP.out.shape.elb hlt
      obtain ⟨n1, hn1⟩ : ∃ n : Nat, n = T.el k := ⟨_, rfl⟩
      rw [← hn1] at x0 hel
      have HN1 := hid hn1
      clear hn1
      have hmk1 := fun W => run_makeI (P := Try.prog) 39 43 _ 24 Try.underlying39 Try.infoNat rfl (n1 : Int) (by omega) (by omega) (by omega) W
      simp only [Int.toNat_natCast] at hmk1
      have hgw : g < wk.heap.size := hT.row.lt
      have kb : Below wk.heap.size wk (wk.alloc (Obj.cells (madeCells #[Value.slice none 0 0] n1) 43)) := (Below.refl _ _).alloc (Nat.le_refl _) _
      have hown := natOwn_made (w := wk) (base := g + 1) (n := n1) (by omega) (by unfold maxLen; omega)
      have hput := hT.put (by omega) hlt hown (grownBy_alloc _ _ _) (.inr rfl)
      have q0 := hT.row.cell hlt
      have z0 := hT.row.frozen k
      rw [HF.out k (Nat.le_refl _)] at q0
      have hB4 := (two_on_ hB (Nat.le_of_lt hl) kb).setCell (p := ⟨g, k, none⟩) hg2 (.slice (some ⟨wk.heap.size, 0, none⟩) n1 n1)
      have hN := hput.congr (n' := fun v => if v < k + 1 then T.el v else 0) (x' := fun u v => if u < k then 1 else if v < 0 then 1 else 0) (fun v _ => by
        by_cases e : v = k
        · subst e; simp; exact HN1.out
        · simp only [if_neg e]
          by_cases e2 : v < k
          · rw [if_pos e2, if_pos (by omega)]
          · rw [if_neg e2, if_neg (by omega)]) (fun v hv q hq => by
        by_cases e : v = k
        · subst e; simp
        · simp only [if_neg e] at hq ⊢
          by_cases e2 : v < k
          · rw [if_pos e2]
          · rw [if_neg e2] at hq; omega)
      rw [World.setCell_alloc_past _ _ _ _ hgw] at hN hB4
      obtain ⟨F2, hF2⟩ : ∃ F2 : Nat → Value, F2 = (fun u => if u = k then Value.slice (some ⟨wk.heap.size, 0, none⟩) n1 n1 else F u) := ⟨_, rfl⟩
      obtain ⟨rb, hrb⟩ : ∃ r, r = wk.heap.size := ⟨_, rfl⟩
      have hF2k : Hid (F2 k = .slice (some ⟨rb, 0, none⟩) n1 n1) := by show F2 k = _; rw [hF2, hrb]; simp
      have HFN : Hid (∀ v, k + 1 ≤ v → F2 v = .slice none 0 0) := fun v hv => by rw [hF2]; show (if v = k then _ else _) = _; rw [if_neg (by omega)]; exact HF.out v (by omega)
      rw [← hF2] at hN
      have hl4 : w.heap.size + 1 < ((wk.setCell ⟨g, k, none⟩ (.slice (some ⟨wk.heap.size, 0, none⟩) n1 n1)).alloc (Obj.cells (madeCells #[Value.slice none 0 0] n1) 43)).heap.size := by simp; omega
      have HNN := hid hN
      have HB4 := hid hB4
      have HL4 := hid hl4
      have hrg : g < rb := by omega
      clear hT hput hown hN hB4 kb hF2 HF hl4
      go_upto_region 6 with fail
      obtain ⟨w4, hw4⟩ : ∃ W, W = (wk.setCell ⟨g, k, none⟩ (.slice (some ⟨wk.heap.size, 0, none⟩) n1 n1)).alloc (Obj.cells (madeCells #[Value.slice none 0 0] n1) 43) := ⟨_, rfl⟩
      rw [← hw4] at HNN HB4 HL4 ⊢
      rw [← hrb]
      clear hw4 hrb hmk1 p0 p1 hW q0 z0 x0 hB hl heb hgw
      go_wp2
      go_loopg [5] n1 (fun gg jv wx => ∃ j : Nat, jv = .int .i64 (j : Nat) ∧ j ≤ n1 ∧ n1 ≤ j + gg ∧ NumTab wx g (g + 1) T.n F2 (fun v => if v < k + 1 then T.el v else 0) (fun u v => if u < k then 1 else if v < j then 1 else 0) ∧ Below (w.heap.size + 1) W2 wx ∧ w.heap.size + 1 < wx.heap.size)
      case atStart => exact ⟨0, rfl, by omega, by omega, HNN.out, HB4.out, HL4.out⟩
      case round =>
        clear HNN HB4 HL4
        obtain ⟨j, rfl, hj, hjg, hT, hB, hl⟩ := hrel
        have hj0 : (0 : Int) ≤ (j : Int) := by omega
        have q0 := hT.row.cell hlt
        rw [hF2k.out] at q0
        by_cases hltj : j < n1
        · have hltj' : (j : Int) < (n1 : Int) := by omega
          have hjn : j < (fun v => if v < k + 1 then T.el v else 0) k := by show j < if k < k + 1 then T.el k else 0; rw [if_pos (by omega), ← HN1.out]; exact hltj
          obtain ⟨b9, o9, d9, A9, c9, hF9, hb9, hl9, x9, _, _, _, z9, _⟩ := hT.at (v := k) hlt (k := j) hjn
          have hF9' := hF9
          rw [hF2k.out] at hF9'
          injection hF9' with e1 en1 en2
          clear en1 en2
          injection e1 with e1
          injection e1 with e1 e2
          subst e1 e2
          rw [Nat.zero_add] at x9 z9
          have kb : Below wr.heap.size wr (wr.alloc (Obj.cells #[Value.int .u32 1] 77)) := (Below.refl _ _).alloc (Nat.le_refl _) _
          have hT9 := (hT.on kb).set (by omega) hlt (k := j) hjn hF9 (natOk_one (w := wr) 77 (x := 1) (by omega) (by omega)) (c := 1) (Nat.le_of_eq HD1.out) (by unfold maxLen; omega)
          rw [Nat.zero_add, HD1.out] at hT9
          have hB9 := (two_on_ hB (Nat.le_of_lt hl) kb).setCell (p := ⟨rb, j, none⟩) (by show w.heap.size + 1 ≤ rb; omega) (.slice (some ⟨wr.heap.size, 0, none⟩) 1 1)
          have hN := hT9.congr (n' := fun v => if v < k + 1 then T.el v else 0) (x' := fun u v => if u < k then 1 else if v < j + 1 then 1 else 0) (fun _ _ => rfl) (fun u _ v hv => by
            show upd2 _ k j 1 u v = _
            by_cases e : u = k ∧ v = j
            · obtain ⟨e1, e2⟩ := e
              subst e1 e2
              rw [upd2_at, if_neg (by omega), if_pos (by omega)]
            · rw [upd2_off e]
              by_cases e2 : u < k
              · rw [if_pos e2, if_pos e2]
              · rw [if_neg e2, if_neg e2]
                by_cases e3 : v < j
                · rw [if_pos e3, if_pos (by omega)]
                · rw [if_neg e3]
                  by_cases e4 : v = j
                  · exfalso
                    have : u < k + 1 := by
                      by_cases e5 : u < k + 1
                      · exact e5
                      · change v < (if u < k + 1 then T.el u else 0) at hv
                        rw [if_neg e5] at hv; omega
                    exact e ⟨by omega, e4⟩
                  · rw [if_neg (by omega)])
          rw [World.setCell_alloc_past _ _ _ _ hl9] at hN hB9
          have HNJ := hid hN
          have HBJ := hid hB9
          clear hN hB9 hT9 kb hF9 hjn hT hB
          go_wp2
          go_roundg (gk - 1)
          case measure => omega
          case rel => exact ⟨j + 1, by go_num, by omega, by omega, HNJ.out, HBJ.out, by simp; omega⟩
        · have hltj' : ¬ (j : Int) < (n1 : Int) := by omega
          have hje : j = n1 := by omega
          have hN := hid (hT.congr (n' := fun v => if v < k + 1 then T.el v else 0) (x' := fun _ _ => 1) (fun _ _ => rfl) (fun u _ v hv => by
            show (if u < k then 1 else if v < j then 1 else 0) = 1
            by_cases e2 : u < k
            · rw [if_pos e2]
            · rw [if_neg e2]
              change v < (if u < k + 1 then T.el u else 0) at hv
              by_cases e5 : u < k + 1
              · rw [if_pos e5] at hv
                obtain rfl : u = k := by omega
                rw [if_pos (by rw [hje, HN1.out]; exact hv)]
              · rw [if_neg e5] at hv; omega))
          have HB := hid hB
          clear hT hB hje
          go_wp2
          go_roundg (gK - 1)
          case measure => omega
          case rel => exact ⟨k + 1, F2, by go_num, by omega, by omega, hN.out, HFN, HB.out, hl⟩
    · have hlt' : ¬ (k : Int) < (T.n : Int) := by omega
      have hTf := hT.congr (n' := T.el) (x' := fun _ _ => 1) (fun v hv => if_pos (by omega)) (fun _ _ _ _ => rfl)
      have hvt := hTf.vtab
      clear hT HF hTf
      rename World => w40
      go_upto_region 10 with fail
      refine wp_region_held_drew (S := fun w' => w'.cell? ⟨w.heap.size, 0, none⟩ = some (.slice A T.nw c) ∧ w'.cell? ⟨w.heap.size, 1, none⟩ = some (.slice B T.n d)) (by kernel_rfl) ⟨cellS (Below.refl _ _).drew p0, cellS (Below.refl _ _).drew p1⟩ (fun hHeld => ?_)
      obtain ⟨w41, hw⟩ : ∃ W, W = World.drew w40 := ⟨_, rfl⟩
      have kb : Below w40.heap.size w40 w41 := by rw [hw]; exact (Below.refl _ _).drew
      rw [← hw] at hHeld ⊢
      clear hw
      replace hW := onS hW kb
      replace p0 := cellS kb p0
      replace p1 := cellS kb p1
      replace hvt := hvt.on kb
      clear kb
      refine wpAnyH_take (i := 0) (v := ?_) (by simp only [List.getElem?_toArray, List.getElem?_cons_zero]; rfl) (by kernel_rfl) (by kernel_rfl) (by kernel_rfl) (by exact fun _ _ _ h => h) (Or.inl ⟨by rfl, ?_⟩) (by assumption) ?_
      rotate_left
      · (intro w hSw; (try dsimp only at hSw); go_simp); first | done | with_reducible rfl
      try simp only [Act.put, List.setIfInBounds_toArray, List.set_cons_zero, List.set_cons_succ]
      refine wpAnyH_take (i := 1) (v := ?_) (by simp only [List.getElem?_toArray, List.getElem?_cons_succ, List.getElem?_cons_zero]; rfl) (by kernel_rfl) (by kernel_rfl) (by kernel_rfl) (by exact fun _ _ _ h => h) (Or.inl ⟨by rfl, ?_⟩) (by assumption) ?_
      rotate_left
      · (intro w hSw; (try dsimp only at hSw); go_simp); first | done | with_reducible rfl
      try simp only [Act.put, List.setIfInBounds_toArray, List.set_cons_zero, List.set_cons_succ]
      refine wpAnyH_take (i := 3) (v := ?_) (by simp only [List.getElem?_toArray, List.getElem?_cons_succ, List.getElem?_cons_zero]; rfl) (by kernel_rfl) (by kernel_rfl) (by kernel_rfl) (by exact fun _ _ _ h => h) (Or.inl ⟨by rfl, ?_⟩) (by assumption) ?_
      rotate_left
      · (intro w hSw; (try dsimp only at hSw); go_simp); first | done | with_reducible rfl
      try simp only [Act.put, List.setIfInBounds_toArray, List.set_cons_zero, List.set_cons_succ]
      refine wpAnyH_take (i := 4) (v := ?_) (by simp only [List.getElem?_toArray, List.getElem?_cons_succ, List.getElem?_cons_zero]; rfl) (by kernel_rfl) (by kernel_rfl) (by kernel_rfl) (by exact fun _ _ _ h => h) (Or.inl ⟨by rfl, ?_⟩) (by assumption) ?_
      rotate_left
      · (intro w hSw; (try dsimp only at hSw); go_simp); first | done | with_reducible rfl
      try simp only [Act.put, List.setIfInBounds_toArray, List.set_cons_zero, List.set_cons_succ]
      refine wpAnyH_take (i := 5) (v := ?_) (by simp only [List.getElem?_toArray, List.getElem?_cons_succ, List.getElem?_cons_zero]; rfl) (by kernel_rfl) (by kernel_rfl) (by kernel_rfl) (by exact fun _ _ _ h => h) (Or.inl ⟨by rfl, ?_⟩) (by assumption) ?_
      rotate_left
      · (intro w hSw; (try dsimp only at hSw); go_simp); first | done | with_reducible rfl
      try simp only [Act.put, List.setIfInBounds_toArray, List.set_cons_zero, List.set_cons_succ]
      refine wpAnyH_ready (rs := [2]) (by kernel_rfl) (by simp) ?_
      refine AllReadyH.cons (by simp only [List.getElem?_toArray, List.getElem?_cons_succ, List.getElem?_cons_zero]; rfl) (fun K hK => ?_) AllReadyH.nil
      go_simp
      go_wp2_with fail
      refine (refForwardN_any T A B (some ⟨g, 0, none⟩) c d T.n (fun _ _ => 1) w41 (HR.out.on hW) HP.out.shape hvt (fun _ _ _ _ => Nat.le_refl _)).mono ?_
      rintro e w42 ⟨g7, F7, rfl, hg7, hT7, kb⟩
      replace hW := onS hW kb
      replace p0 := cellS kb p0
      replace p1 := cellS kb p1
      replace hvt := hvt.on kb
      clear kb
      have hnw := HP.out.shape.nw
      have hnl : T.n < T.nw := by omega
      have hnl' : (T.n : Int) < (T.nw : Int) := by omega
      have hwn := HP.out.wn
      obtain ⟨b0, o0, d0, A0, c0, hF0, hb0, hbl0, q0, q1, q2, q3, _, _⟩ := hT7.at (v := T.n) hnl (k := 0) (by show 0 < (T.W T.n).toNat; omega)
      have r0 := hT7.row.cell hnl
      rw [hF0] at r0
      have h1n : (T.W T.n).toNat = 1 := by omega
      change World.cell? _ ⟨g7, T.n, none⟩ = some (.slice (some ⟨b0, o0, none⟩) (T.W T.n).toNat d0) at r0
      rw [h1n] at r0
      rw [Nat.add_zero] at q0
      clear hnw hwn h1n hT7 hF0
      refine hK.out _ _ ⟨p0, p1⟩ (fun hHeld => ?_)
      clear hK K
      try simp only [Act.put, List.setIfInBounds_toArray, List.set_cons_zero, List.set_cons_succ]
      refine wpAnyH_take (i := 6) (v := ?_) (by simp only [List.getElem?_toArray, List.getElem?_cons_succ, List.getElem?_cons_zero]; rfl) (by kernel_rfl) (by kernel_rfl) (by kernel_rfl) (by exact fun _ _ _ h => h) (Or.inl ⟨by rfl, ?_⟩) (by assumption) ?_
      rotate_left
      · (intro w hSw; (try dsimp only at hSw); go_simp); first | done | with_reducible rfl
      try simp only [Act.put, List.setIfInBounds_toArray, List.set_cons_zero, List.set_cons_succ]
      refine wpAnyH_ready (rs := [7]) (by kernel_rfl) (by simp) ?_
      refine AllReadyH.cons (by simp only [List.getElem?_toArray, List.getElem?_cons_succ, List.getElem?_cons_zero]; rfl) (fun K hK => ?_) AllReadyH.nil
      go_simp
      refine hK.out _ _ ⟨p0, p1⟩ (fun hHeld => ?_)
      clear hK K
      try simp only [Act.put, List.setIfInBounds_toArray, List.set_cons_zero, List.set_cons_succ]
      refine wpAnyH_take (i := 8) (v := ?_) (by simp only [List.getElem?_toArray, List.getElem?_cons_succ, List.getElem?_cons_zero]; rfl) (by kernel_rfl) (by kernel_rfl) (by kernel_rfl) (by exact fun _ _ _ h => h) (Or.inl ⟨by rfl, ?_⟩) (by assumption) ?_
      rotate_left
      · (intro w hSw; (try dsimp only at hSw); go_simp); first | done | with_reducible rfl
      try simp only [Act.put, List.setIfInBounds_toArray, List.set_cons_zero, List.set_cons_succ]
      refine wpAnyH_ready (rs := [9]) (by kernel_rfl) (by simp) ?_
      refine AllReadyH.cons (by simp only [List.getElem?_toArray, List.getElem?_cons_succ, List.getElem?_cons_zero]; rfl) (fun K hK => ?_) AllReadyH.nil
      go_simp
      refine hK.out _ _ ⟨p0, p1⟩ (fun hHeld => ?_)
      clear hK K
      try simp only [Act.put, List.setIfInBounds_toArray, List.set_cons_zero, List.set_cons_succ]
      refine wpAnyH_take (i := 10) (v := ?_) (by simp only [List.getElem?_toArray, List.getElem?_cons_succ, List.getElem?_cons_zero]; rfl) (by kernel_rfl) (by kernel_rfl) (by kernel_rfl) (by exact fun _ _ _ h => h) (Or.inl ⟨by rfl, ?_⟩) (by assumption) ?_
      rotate_left
      · (intro w hSw; (try dsimp only at hSw); go_simp); first | done | with_reducible rfl
      try simp only [Act.put, List.setIfInBounds_toArray, List.set_cons_zero, List.set_cons_succ]
      refine wpAnyH_done (by kernel_rfl) ?_ _
      clear hHeld
      have HF := hid (show ∀ e, e = .returned (.slice A0 (dl (T.fwd (fun _ _ => 1) T.n 0)) c0) → NatPost (T.fwd (fun _ _ => 1) T.n 0) w e w42 from fun e he => ⟨A0, c0, he, q1, q2, q3, hW⟩)
      clear q1 q2 q3
      obtain ⟨xx, hxx⟩ : ∃ x, x = T.fwd (fun _ _ => 1) T.n 0 := ⟨_, rfl⟩
      rw [← hxx] at HF q0 ⊢
      have HXX := hid hxx
      clear hxx
      go_wp2
      go_ret
      rw [← HXX.out]
      exact HF.out _ rfl
end Go.Proofs.Ytnocbkhnmdmfhaa
