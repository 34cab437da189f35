/- codewrightref47.Words: the labels of all paths, level by level. -/
import Derived.Test.YtnocbkhnmdmfhaaLevMem
import Derived.Test.YtnocbkhnmdmfhaaNumRows
namespace Go.Proofs.Ytnocbkhnmdmfhaa
open Go.RowKit

def RefWordsPost (T : Trel) (w : World) (e : Ending) (w' : World) : Prop :=
  Below w.heap.size w w' ∧ ∃ v, e = .returned v ∧ TabL w' w.heap.size v (T.dn T.n 0)
theorem getD_fst (l : List (List Int × Int)) (k : Nat) : (l.map (·.1)).getD k [] = (l.getD k ([], 0)).1 := by
  rw [List.getD_eq_getElem?_getD, List.getD_eq_getElem?_getD, List.getElem?_map]
  cases l[k]? <;> rfl
theorem getD_snd (l : List (List Int × Int)) (k : Nat) : (l.map (·.2)).getD k 0 = (l.getD k ([], 0)).2 := by
  rw [List.getD_eq_getElem?_getD, List.getD_eq_getElem?_getD, List.getElem?_map]
  cases l[k]? <;> rfl
theorem Own.empty {w : World} {base b e s : Nat} {f : Nat → Nat → Value} (hb : base ≤ b) (h : w.heap[b]? = some (.cells #[] e (0, 0))) : Own w base e s (.slice (some ⟨b, 0, none⟩) 0 0) 0 f :=
  .inr ⟨b, 0, 0, #[], rfl, hb, h, Nat.le_refl _, by unfold maxLen; omega, by simp, fun i hi => absurd hi (by omega)⟩
/-- Two empty tables, just made. -/
theorem levSt_empty (w : World) : LevSt ((w.alloc (Obj.cells #[] 22)).alloc (Obj.cells #[] 3)) w.heap.size (.slice (some ⟨w.heap.size, 0, none⟩) 0 0) (.slice (some ⟨w.heap.size + 1, 0, none⟩) 0 0) [] [] :=
  ⟨fun _ => undef, (Own.empty (Nat.le_refl _) (heap_new_at rfl)).alloc _, fun i hi => absurd hi (by simp), Own.empty (by omega) (heap_new_at (by simp)), fun i hi => absurd hi (by simp)⟩
/-- The level of the root, just made. -/
theorem levSt_root (w : World) : LevSt (((w.alloc (Obj.cells #[] 3)).alloc (Obj.cells #[.slice (some ⟨w.heap.size, 0, none⟩) 0 0] 22)).alloc (Obj.cells #[.int .i64 0] 3)) w.heap.size (.slice (some ⟨w.heap.size + 1, 0, none⟩) 1 1) (.slice (some ⟨w.heap.size + 1 + 1, 0, none⟩) 1 1) [[]] [0] := by
  have h0 : (w.alloc (Obj.cells #[] 3)).heap[w.heap.size]? = some (.cells #[] 3 (0, 0)) := heap_new_at rfl
  have h1 := Own.new (w := w.alloc (Obj.cells #[] 3)) (base := w.heap.size) (e := 22) (s := 1) (m := 1) (cap := 1) (cur := #[.slice (some ⟨w.heap.size, 0, none⟩) 0 0]) (f := fun _ _ => .slice (some ⟨w.heap.size, 0, none⟩) 0 0) (by simp) (Nat.le_refl _) (by unfold maxLen; omega) (by simp) (fun k hk j hj => by
    obtain rfl : k = 0 := by omega
    obtain rfl : j = 0 := by omega
    rfl)
  have e1 : (w.alloc (Obj.cells #[] 3)).heap.size = w.heap.size + 1 := by simp
  rw [e1] at h1
  have h2 := Own.new (w := (w.alloc (Obj.cells #[] 3)).alloc (Obj.cells #[.slice (some ⟨w.heap.size, 0, none⟩) 0 0] 22)) (base := w.heap.size) (e := 3) (s := 1) (m := 1) (cap := 1) (cur := #[.int .i64 0]) (f := listCell [0]) (by simp; omega) (Nat.le_refl _) (by unfold maxLen; omega) (by simp) (fun k hk j hj => by
    obtain rfl : k = 0 := by omega
    obtain rfl : j = 0 := by omega
    rfl)
  have e2 : ((w.alloc (Obj.cells #[] 3)).alloc (Obj.cells #[.slice (some ⟨w.heap.size, 0, none⟩) 0 0] 22)).heap.size = w.heap.size + 1 + 1 := by simp
  rw [e2] at h2
  refine ⟨fun _ => .slice (some ⟨w.heap.size, 0, none⟩) 0 0, h1.alloc _, fun i hi => ?_, h2, fun i hi => .inr ?_⟩
  · obtain rfl : i = 0 := by simp at hi; omega
    exact ((Own.empty (w := w.alloc (Obj.cells #[] 3)) (Nat.le_refl _) h0).alloc _).alloc _
  · simp [Value.ownBlock]
    omega
set_option maxRecDepth 100000 in
set_option maxHeartbeats 16000000 in
theorem refWords_any (T : Trel) (A B : Option Addr) (c d : Nat) (w : World) (h : T.Reads w A B) (hP : T.Proper) (hlen : (T.dn T.n 0).length ≤ 65536) :
    Calls Try.prog 34 #[.agg #[.slice A T.nw c, .slice B T.n d]] w (RefWordsPost T w) := by
  obtain ⟨RB, hRB⟩ : ∃ o, o = (Obj.cells #[.slice A T.nw c, .slice B T.n d] 25) := ⟨_, rfl⟩
  have hB0 : Below (w.heap.size + 1) (w.alloc RB) (w.alloc RB) := Below.refl _ _
  have HS : Hid (∀ w', Below (w.heap.size + 1) (w.alloc RB) w' → (w'.cell? ⟨w.heap.size, 0, none⟩ = some (.slice A T.nw c) ∧ w'.cell? ⟨w.heap.size, 1, none⟩ = some (.slice B T.n d)) ∧ Below w.heap.size w w') := fun w' hB => by
    have hB' := tbox_below hB
    subst hRB
    exact ⟨⟨tbox hB rfl, tbox hB rfl⟩, hB'⟩
  have HP := hid hP
  have HR := hid h
  have hn64 := hP.shape.n64
  have HLE := hid fun i hi => Nat.le_trans (Trel.lev_le hP i hi) hlen
  clear h hP hlen
  go_enter Try.func34, Try.ntmps34
  go_wp2_with fail
  rw [← hRB]
  go_upto_region 3 with fail
  have hL0 := levSt_root (w.alloc RB)
  have hs1 : (w.alloc RB).heap.size = w.heap.size + 1 := by simp
  rw [hs1] at hL0
  have kb1 : Below (w.alloc RB).heap.size (w.alloc RB) ((((w.alloc RB).alloc (Obj.cells #[] 3)).alloc (Obj.cells #[.slice (some ⟨w.heap.size + 1, 0, none⟩) 0 0] 22)).alloc (Obj.cells #[.int .i64 0] 3)) := (((Below.refl _ _).alloc (Nat.le_refl _) _).alloc (by simp) _).alloc (by simp) _
  have hB1 := tbox_on hB0 kb1
  obtain ⟨w1, hw1⟩ : ∃ W, W = ((((w.alloc RB).alloc (Obj.cells #[] 3)).alloc (Obj.cells #[.slice (some ⟨w.heap.size + 1, 0, none⟩) 0 0] 22)).alloc (Obj.cells #[.int .i64 0] 3)) := ⟨_, rfl⟩
  rw [← hw1] at hL0 hB1 ⊢
  have HL0 : Hid (LevSt w1 (w.heap.size + 1) (.slice (some ⟨w.heap.size + 1 + 1, 0, none⟩) 1 1) (.slice (some ⟨w.heap.size + 1 + 1 + 1, 0, none⟩) 1 1) ((T.lev 0).map (·.1)) ((T.lev 0).map (·.2))) := hL0
  obtain ⟨p1, hp1⟩ : ∃ x : Value, x = .slice (some ⟨w.heap.size + 1 + 1, 0, none⟩) 1 1 := ⟨_, rfl⟩
  obtain ⟨p2, hp2⟩ : ∃ x : Value, x = .slice (some ⟨w.heap.size + 1 + 1 + 1, 0, none⟩) 1 1 := ⟨_, rfl⟩
  rw [← hp1, ← hp2] at HL0 ⊢
  clear hp1 hp2 hL0 hw1 kb1 hB0 hs1 hRB
  go_loopg [3, 4, 5] T.n (fun g wv av iv wx => ∃ i : Nat, iv = .int .i64 (i : Nat) ∧ i ≤ T.n ∧ T.n ≤ i + g ∧ Hid (LevSt wx (w.heap.size + 1) wv av ((T.lev i).map (·.1)) ((T.lev i).map (·.2))) ∧ Below (w.heap.size + 1) (w.alloc RB) wx)
  case atStart => exact ⟨0, rfl, by omega, by omega, HL0, hB1⟩
  case round =>
    clear HL0 hB1
    obtain ⟨gI, hgI⟩ : ∃ g, g = gk := ⟨_, rfl⟩
    subst hgI
    obtain ⟨i, rfl, hi, hig, HL, hB⟩ := hrel
    obtain ⟨⟨p0, p1⟩, hW⟩ := HS.out _ hB
    have hi0 : (0 : Int) ≤ (i : Int) := by omega
    obtain ⟨⟨WA, wc, rfl⟩, ⟨UA, uc, rfl⟩⟩ := HL.out.len
    by_cases hlt : i < T.n
    · have hlt' : (i : Int) < (T.n : Int) := by omega
      have hel := HP.out.shape.elb hlt
      have HLN := hid (HLE.out i hi)
      have HLM := hid (HLE.out (i + 1) hlt)
      have hlm : ((T.lev i).map (·.2)).length = ((T.lev i).map (·.1)).length := by simp
      rw [hlm] at HL ⊢
      have hNm : ((T.lev i).map (·.1)).length = (T.lev i).length := by simp
      obtain ⟨N, hN⟩ : ∃ N, N = ((T.lev i).map (·.1)).length := ⟨_, rfl⟩
      rw [← hN] at HL hNm ⊢
      have hNb : N ≤ 65536 := by rw [hNm]; exact HLN.out
      have HNM := hid hNm
      clear hlm hNm hN HLN
      obtain ⟨wa, hwa⟩ : ∃ W, W = wr := ⟨_, rfl⟩
      subst hwa
      have hwz := tbox_lt hB
      go_upto_region 8 with fail
      have hLe := levSt_empty wa
      have kb2 : Below wa.heap.size wa ((wa.alloc (Obj.cells #[] 22)).alloc (Obj.cells #[] 3)) := ((Below.refl _ _).alloc (Nat.le_refl _) _).alloc (by simp) _
      obtain ⟨w2, hw2⟩ : ∃ W, W = (wa.alloc (Obj.cells #[] 22)).alloc (Obj.cells #[] 3) := ⟨_, rfl⟩
      rw [← hw2] at hLe kb2 ⊢
      have HLe : Hid (LevSt w2 wa.heap.size (.slice (some ⟨wa.heap.size, 0, none⟩) 0 0) (.slice (some ⟨wa.heap.size + 1, 0, none⟩) 0 0) ((T.levTo i 0 0).map (·.1)) ((T.levTo i 0 0).map (·.2))) := by
        rw [Trel.levTo_zero]
        exact hLe
      obtain ⟨q1, hq1⟩ : ∃ x : Value, x = .slice (some ⟨wa.heap.size, 0, none⟩) 0 0 := ⟨_, rfl⟩
      obtain ⟨q2, hq2⟩ : ∃ x : Value, x = .slice (some ⟨wa.heap.size + 1, 0, none⟩) 0 0 := ⟨_, rfl⟩
      rw [← hq1, ← hq2] at HLe ⊢
      have HBA := hid hB
      clear hq1 hq2 hw2 hLe p0 p1 hW hB
      go_wp2
      go_loopg [6, 7, 8] N (fun g lv nv kv wx => ∃ k : Nat, kv = .int .i64 (k : Nat) ∧ k ≤ N ∧ N ≤ k + g ∧ Hid (LevSt wx wa.heap.size lv nv ((T.levTo i k 0).map (·.1)) ((T.levTo i k 0).map (·.2))) ∧ Below wa.heap.size wa wx)
      case atStart => exact ⟨0, rfl, by omega, by omega, HLe, kb2⟩
      case round =>
        clear HLe kb2
        obtain ⟨gK, hgK⟩ : ∃ g, g = gk := ⟨_, rfl⟩
        subst hgK
        obtain ⟨k, rfl, hk, hkg, HLk, hB⟩ := hrel
        have hk0 : (0 : Int) ≤ (k : Int) := by omega
        by_cases hltk : k < N
        · have hltk' : (k : Int) < (N : Int) := by omega
          obtain ⟨el, hele⟩ : ∃ n, n = T.el i := ⟨_, rfl⟩
          have HEL := hid hele
          rw [← hele] at hel
          obtain ⟨x, hx⟩ : ∃ x, x = (T.lev i).getD k ([], 0) := ⟨_, rfl⟩
          have HX := hid hx
          clear hele hx
          go_wp2
          go_loopg [6, 7, 9] el (fun g lv nv jv wx => ∃ j : Nat, jv = .int .i64 (j : Nat) ∧ j ≤ el ∧ el ≤ j + g ∧ Hid (LevSt wx wa.heap.size lv nv ((T.levTo i k j).map (·.1)) ((T.levTo i k j).map (·.2))) ∧ Below wa.heap.size wa wx)
          case atStart => exact ⟨0, rfl, by omega, by omega, HLk, hB⟩
          case round =>
            clear HLk hB
            obtain ⟨j, rfl, hj, hjg, HLj, hB⟩ := hrel
            have hj0 : (0 : Int) ≤ (j : Int) := by omega
            have hBR := tbox_on HBA.out hB
            obtain ⟨⟨p0, p1⟩, hW⟩ := HS.out _ hBR
            obtain ⟨eb, eo, E, ec, heB, heb, x0, he1, he2, he3, he4⟩ := (HR.out.on hW).sec hlt
            subst heB
            rw [← HEL.out] at x0 he1 he3
            by_cases hltj : j < el
            · have hltj' : (j : Int) < (el : Int) := by omega
              obtain ⟨b9, o9, rfl, hb9, y0, y1, y2⟩ := edge_at he3 hltj
              obtain ⟨wb, wo, ub, uo, RA, rc, rfl, rfl, hwb, hub, cw, cu, hrow⟩ := HL.out.read (k := k) (by rw [List.length_map, ← HNM.out]; exact hltk) (by rw [List.length_map, ← HNM.out]; exact hltk)
              replace cw := cellS hB cw
              replace cu := cellS hB cu
              replace hrow := hrow.on hB
              have HWB := hid hwb
              rw [getD_fst, ← HX.out] at cw hrow
              rw [getD_snd, ← HX.out] at cu
              have HLS := hid (T.levTo_succ i k j)
              rw [← HX.out] at HLS
              have HLB := hid (Nat.le_trans (Trel.levTo_le (T := T) (i := i) (k := k) (j := j) (by rw [← HNM.out]; exact hltk) (by rw [← HEL.out]; exact hj)) HLM.out)
              have hxl : x.1.length ≤ 64 := by
                have := Trel.lev_in HP.out i hi x (by
                  rw [HX.out, List.getD_eq_getElem?_getD, List.getElem?_eq_getElem (by rw [← HNM.out]; exact hltk)]
                  exact List.getElem_mem _)
                omega
              obtain ⟨fv, hfv⟩ : ∃ z, z = T.fr i j := ⟨_, rfl⟩
              obtain ⟨lv, hlv⟩ : ∃ z, z = T.lb i j := ⟨_, rfl⟩
              obtain ⟨tv, htv⟩ : ∃ z, z = T.to i j := ⟨_, rfl⟩
              rw [← hfv] at y0 HLS
              rw [← hlv] at y1 HLS
              rw [← htv] at y2 HLS
              obtain ⟨xl, hxl'⟩ : ∃ z, z = x.1 := ⟨_, rfl⟩
              obtain ⟨xv, hxv⟩ : ∃ z, z = x.2 := ⟨_, rfl⟩
              rw [← hxl'] at cw hrow HLS hxl
              rw [← hxv] at cu HLS
              clear hfv hlv htv hxl' hxv he3 he4
              go_upto_region 15 with fail
              obtain ⟨OB, hOB⟩ : ∃ o, o = (Obj.cells #[Value.int .i64 fv, Value.int .i64 lv, Value.int .i64 tv] 72) := ⟨_, rfl⟩
              rw [← hOB]
              have kb : Below wr.heap.size wr (wr.alloc OB) := (Below.refl _ _).alloc (Nat.le_refl _) _
              have c0 : (wr.alloc OB).cell? ⟨wr.heap.size, 0, none⟩ = some (.int .i64 fv) := by subst hOB; exact tbox (Below.refl _ _) rfl
              have c1 : (wr.alloc OB).cell? ⟨wr.heap.size, 1, none⟩ = some (.int .i64 lv) := by subst hOB; exact tbox (Below.refl _ _) rfl
              have c2 : (wr.alloc OB).cell? ⟨wr.heap.size, 2, none⟩ = some (.int .i64 tv) := by subst hOB; exact tbox (Below.refl _ _) rfl
              obtain ⟨w3, hw3⟩ : ∃ W, W = wr.alloc OB := ⟨_, rfl⟩
              have hl3 : wr.heap.size < w3.heap.size := by rw [hw3]; simp
              have HNL := hid HLj.out.tab
              obtain ⟨pb, hpb⟩ : ∃ b, b = wr.heap.size := ⟨_, rfl⟩
              rw [← hw3] at kb c0 c1 c2 ⊢
              have hLj := HLj.out.on kb
              replace hB := onS hB kb
              replace hrow := hrow.on kb
              replace cw := cellS kb cw
              replace cu := cellS kb cu
              have hlvb : ∀ q, Value.ownBlock _ = some q → q < pb := fun q e => by
                obtain ⟨R, h1, _⟩ := HNL.out
                rw [hpb]
                exact (h1.lt q e).2
              rw [← hpb] at c0 c1 c2 hl3 ⊢
              have HVB := hid hlvb
              clear hlvb HNL HLj hpb hw3 hOB kb y0 y1 y2 p0 p1 hW x0 hb9 heb hwb hub hBR
              by_cases heq : fv = xv
              · have heq' : (fv == xv) = true := by simp [heq]
                rw [if_pos heq] at HLS
                clear heq
                go_wp2
                go_quiet (fail)
                go_upto_region 16 with fail
                obtain ⟨w4, hw4⟩ : ∃ W, W = w3.drewN nq := ⟨_, rfl⟩
                have kb4 : Below w3.heap.size w3 w4 := by rw [hw4]; exact below_drewN (Below.refl _ _) _
                rw [← hw4]
                replace hLj := hLj.on kb4
                replace hB := onS hB kb4
                replace hrow := hrow.on kb4
                replace cw := cellS kb4 cw
                replace c1 := cellS kb4 c1
                replace c2 := cellS kb4 c2
                have HLj := hid hLj
                have HUB : Hid (∀ q, u7.ownBlock = some q → q < w4.heap.size) := fun q e => (Own.lt hLj.own q e).2
                have hwl := hB.size
                have HCW := hid cw
                have HC1 := hid c1
                have HC2 := hid c2
                have HROW := hid hrow
                have hBz : Below w4.heap.size w4 w4 := Below.refl _ _
                clear hLj hrow c2 hw4 kb4 heq' c0 cu hl3
                refine wp_region_held_drew (S := fun w' => w'.cell? ⟨wb, wo + k, none⟩ = some (.slice RA xl.length rc) ∧ w'.cell? ⟨pb, 1, none⟩ = some (.int .i64 lv)) (by kernel_rfl) ⟨cellS (Below.refl _ _).drew cw, cellS (Below.refl _ _).drew c1⟩ (fun hHeld => ?_)
                obtain ⟨w5, hw⟩ : ∃ W, W = World.drew w4 := ⟨_, rfl⟩
                have kb : Below w4.heap.size w4 w5 := by rw [hw]; exact (Below.refl _ _).drew
                rw [← hw] at hHeld ⊢
                clear hw
                replace hBz := onS hBz kb
                replace cw := cellS kb cw
                replace c1 := cellS kb c1
                clear kb
                refine wpAnyH_take (i := 0) (v := ?_) (by simp only [List.getElem?_toArray, List.getElem?_cons_zero]; rfl) (by kernel_rfl) (by kernel_rfl) (by kernel_rfl) (by exact fun _ _ _ h => h) (Or.inl ⟨by rfl, ?_⟩) (by assumption) ?_
                rotate_left
                · (intro w hSw; (try dsimp only at hSw); go_simp); first | done | with_reducible rfl
                try simp only [Act.put, List.setIfInBounds_toArray, List.set_cons_zero, List.set_cons_succ]
                refine wpAnyH_take (i := 2) (v := ?_) (by simp only [List.getElem?_toArray, List.getElem?_cons_succ, List.getElem?_cons_zero]; rfl) (by kernel_rfl) (by kernel_rfl) (by kernel_rfl) (by exact fun _ _ _ h => h) (Or.inl ⟨by rfl, ?_⟩) (by assumption) ?_
                rotate_left
                · (intro w hSw; (try dsimp only at hSw); go_simp); first | done | with_reducible rfl
                try simp only [Act.put, List.setIfInBounds_toArray, List.set_cons_zero, List.set_cons_succ]
                refine wpAnyH_take (i := 3) (v := ?_) (by simp only [List.getElem?_toArray, List.getElem?_cons_succ, List.getElem?_cons_zero]; rfl) (by kernel_rfl) (by kernel_rfl) (by kernel_rfl) (by exact fun _ _ _ h => h) (Or.inl ⟨by rfl, ?_⟩) (by assumption) ?_
                rotate_left
                · (intro w hSw; (try dsimp only at hSw); go_simp); first | done | with_reducible rfl
                try simp only [Act.put, List.setIfInBounds_toArray, List.set_cons_zero, List.set_cons_succ]
                refine wpAnyH_take (i := 4) (v := ?_) (by simp only [List.getElem?_toArray, List.getElem?_cons_succ, List.getElem?_cons_zero]; rfl) (by kernel_rfl) (by kernel_rfl) (by kernel_rfl) (by exact fun _ _ _ h => h) (Or.inl ⟨by rfl, ?_⟩) (by assumption) ?_
                rotate_left
                · (intro w hSw; (try dsimp only at hSw); go_simp); first | done | with_reducible rfl
                try simp only [Act.put, List.setIfInBounds_toArray, List.set_cons_zero, List.set_cons_succ]
                refine wpAnyH_take (i := 5) (v := ?_) (by simp only [List.getElem?_toArray, List.getElem?_cons_succ, List.getElem?_cons_zero]; rfl) (by kernel_rfl) (by kernel_rfl) (by kernel_rfl) (by exact fun _ _ _ h => h) (Or.inl ⟨by rfl, ?_⟩) (by assumption) ?_
                rotate_left
                · (intro w hSw; (try dsimp only at hSw); go_simp); first | done | with_reducible rfl
                try simp only [Act.put, List.setIfInBounds_toArray, List.set_cons_zero, List.set_cons_succ]
                refine wpAnyH_take (i := 7) (v := ?_) (by simp only [List.getElem?_toArray, List.getElem?_cons_succ, List.getElem?_cons_zero]; rfl) (by kernel_rfl) (by kernel_rfl) (by kernel_rfl) (by exact fun _ _ _ h => h) (Or.inl ⟨by rfl, ?_⟩) (by assumption) ?_
                rotate_left
                · (intro w hSw; (try dsimp only at hSw); go_simp); first | done | with_reducible rfl
                try simp only [Act.put, List.setIfInBounds_toArray, List.set_cons_zero, List.set_cons_succ]
                refine wpAnyH_take (i := 8) (v := ?_) (by simp only [List.getElem?_toArray, List.getElem?_cons_succ, List.getElem?_cons_zero]; rfl) (by kernel_rfl) (by kernel_rfl) (by kernel_rfl) (by exact fun _ _ _ h => h) (Or.inl ⟨by rfl, ?_⟩) (by assumption) ?_
                rotate_left
                · (intro w hSw; (try dsimp only at hSw); go_simp); first | done | with_reducible rfl
                try simp only [Act.put, List.setIfInBounds_toArray, List.set_cons_zero, List.set_cons_succ]
                refine wpAnyH_ready (rs := [1, 9]) (by kernel_rfl) (by simp) ?_
                refine AllReadyH.cons (by simp only [List.getElem?_toArray, List.getElem?_cons_succ, List.getElem?_cons_zero]; rfl) (fun K hK => ?_) (AllReadyH.cons (by simp only [List.getElem?_toArray, List.getElem?_cons_succ, List.getElem?_cons_zero]; rfl) (fun K hK => ?_) AllReadyH.nil)
                · go_simp
                  obtain ⟨w6, hw⟩ : ∃ W, W = World.alloc w5 (Obj.cells #[] 3) := ⟨_, rfl⟩
                  have kb : Below w5.heap.size w5 w6 := by rw [hw]; exact (Below.refl _ _).alloc (Nat.le_refl _) _
                  have n0 : w6.rowIs w5.heap.size 3 0 (fun _ => undef) := by rw [hw]; exact ⟨_, heap_new_at rfl, rfl, fun i hi => absurd hi (by omega)⟩
                  have hb0 := hBz.size
                  rw [← hw]
                  clear hw
                  obtain ⟨b0, hb⟩ : ∃ b, b = w5.heap.size := ⟨_, rfl⟩
                  rw [← hb] at n0 hb0 ⊢
                  clear hb
                  replace hBz := onS hBz kb
                  replace cw := cellS kb cw
                  replace c1 := cellS kb c1
                  clear kb
                  refine hK.out _ _ ⟨cw, c1⟩ (fun hHeld => ?_)
                  clear hK K
                  try simp only [Act.put, List.setIfInBounds_toArray, List.set_cons_zero, List.set_cons_succ]
                  refine wpAnyH_ready (rs := [6, 9]) (by kernel_rfl) (by simp) ?_
                  refine AllReadyH.cons (by simp only [List.getElem?_toArray, List.getElem?_cons_succ, List.getElem?_cons_zero]; rfl) (fun K hK => ?_) (AllReadyH.cons (by simp only [List.getElem?_toArray, List.getElem?_cons_succ, List.getElem?_cons_zero]; rfl) (fun K hK => ?_) AllReadyH.nil)
                  · have hcz := hBz.size
                    refine step_copy_list (by rfl) (.tmp 55) (.tmp 59) (by rfl) (b0 := b0) (base := wa.heap.size) (by rfl) n0 (Nat.le_trans hwl hb0) (A := RA) (c := rc) (l := xl) (by rfl) (Own.rd (HROW.out.on hBz) rfl) (by omega) ?_
                    intro v6 w7 hv6 kb hat6
                    have hv6b : ∀ q, v6.ownBlock = some q → w4.heap.size ≤ q := fun q e => by rcases hat6 with h | h <;> (rw [h] at e; injection e with e; omega)
                    clear hat6 n0 hb0 hcz
                    replace hBz := onS hBz kb
                    replace cw := cellS kb cw
                    replace c1 := cellS kb c1
                    clear kb
                    refine hK.out _ _ ⟨cw, c1⟩ (fun hHeld => ?_)
                    clear hK K
                    try simp only [Act.put, List.setIfInBounds_toArray, List.set_cons_zero, List.set_cons_succ]
                    refine wpAnyH_ready (rs := [9]) (by kernel_rfl) (by simp) ?_
                    refine AllReadyH.cons (by simp only [List.getElem?_toArray, List.getElem?_cons_succ, List.getElem?_cons_zero]; rfl) (fun K hK => ?_) AllReadyH.nil
                    go_simp
                    obtain ⟨w8, hw⟩ : ∃ W, W = World.alloc w7 (Obj.cells #[Value.int IntKind.i64 lv] 3) := ⟨_, rfl⟩
                    have kb : Below w7.heap.size w7 w8 := by rw [hw]; exact (Below.refl _ _).alloc (Nat.le_refl _) _
                    have n1c : w8.cell? ⟨w7.heap.size, 0, none⟩ = some (Value.int IntKind.i64 lv) := by rw [hw]; simp
                    rw [← hw]
                    clear hw
                    obtain ⟨nb_n1c, hnb⟩ : ∃ b, b = w7.heap.size := ⟨_, rfl⟩
                    rw [← hnb] at n1c ⊢
                    clear hnb
                    replace hBz := onS hBz kb
                    replace cw := cellS kb cw
                    replace c1 := cellS kb c1
                    replace hv6 := hv6.on kb
                    clear kb
                    refine hK.out _ _ ⟨cw, c1⟩ (fun hHeld => ?_)
                    clear hK K
                    try simp only [Act.put, List.setIfInBounds_toArray, List.set_cons_zero, List.set_cons_succ]
                    refine wpAnyH_ready (rs := [10]) (by kernel_rfl) (by simp) ?_
                    refine AllReadyH.cons (by simp only [List.getElem?_toArray, List.getElem?_cons_succ, List.getElem?_cons_zero]; rfl) (fun K hK => ?_) AllReadyH.nil
                    have hcz := hBz.size
                    refine step_append_lint (by rfl) (.tmp 60) (.tmp 63) (by rfl) hv6 (by rfl) (ad := ⟨nb_n1c, 0, none⟩) (c := 1) (by rfl) n1c (Nat.le_trans hwl hcz) (by omega) ?_
                    intro v10 w9 hv10 hg10 hat10
                    have hBz10 := hBz.grown hg10 hcz hv6b
                    have hv10b : ∀ q, v10.ownBlock = some q → w4.heap.size ≤ q := fun q e => by
                      rcases hat10 with h | h
                      · exact hv6b q (by rw [← h]; exact e)
                      · rw [h] at e; injection e with e; omega
                    replace cw := cellS hBz10 HCW.out
                    replace c1 := cellS hBz10 HC1.out
                    clear hBz hv6 hat10 hg10 n1c hcz hv6b
                    rename Below w4.heap.size w4 w9 => hBz
                    obtain ⟨A10, c10, hsh⟩ := Own.shape hv10
                    obtain ⟨m10, hm10⟩ : ∃ m, m = (xl ++ [lv]).length := ⟨_, rfl⟩
                    rw [← hm10] at hsh
                    clear hm10
                    subst hsh
                    refine hK.out _ _ ⟨cw, c1⟩ (fun hHeld => ?_)
                    clear hK K
                    try simp only [Act.put, List.setIfInBounds_toArray, List.set_cons_zero, List.set_cons_succ]
                    refine wpAnyH_ready (rs := [11]) (by kernel_rfl) (by simp) ?_
                    refine AllReadyH.cons (by simp only [List.getElem?_toArray, List.getElem?_cons_succ, List.getElem?_cons_zero]; rfl) (fun K hK => ?_) AllReadyH.nil
                    go_simp
                    obtain ⟨w10, hw⟩ : ∃ W, W = World.alloc w9 (Obj.cells #[Value.slice A10 m10 c10] 22) := ⟨_, rfl⟩
                    have kb : Below w9.heap.size w9 w10 := by rw [hw]; exact (Below.refl _ _).alloc (Nat.le_refl _) _
                    have n2c : w10.cell? ⟨w9.heap.size, 0, none⟩ = some (Value.slice A10 m10 c10) := by rw [hw]; simp
                    rw [← hw]
                    clear hw
                    obtain ⟨nb_n2c, hnb⟩ : ∃ b, b = w9.heap.size := ⟨_, rfl⟩
                    rw [← hnb] at n2c ⊢
                    clear hnb
                    replace hBz := onS hBz kb
                    replace cw := cellS kb cw
                    replace c1 := cellS kb c1
                    replace hv10 := hv10.on kb
                    clear kb
                    refine hK.out _ _ ⟨cw, c1⟩ (fun hHeld => ?_)
                    clear hK K
                    try simp only [Act.put, List.setIfInBounds_toArray, List.set_cons_zero, List.set_cons_succ]
                    refine wpAnyH_ready (rs := [12]) (by kernel_rfl) (by simp) ?_
                    refine AllReadyH.cons (by simp only [List.getElem?_toArray, List.getElem?_cons_succ, List.getElem?_cons_zero]; rfl) (fun K hK => ?_) AllReadyH.nil
                    have hcz := hBz.size
                    have hru : (Value.slice A10 m10 c10).ownBlock = none ∨ (Value.slice A10 m10 c10).ownBlock ≠ u7.ownBlock := by
                      cases e : (Value.slice A10 m10 c10).ownBlock with
                      | none => exact .inl rfl
                      | some q => exact .inr fun e1 => absurd (hv10b q e) (by have := HUB.out q e1.symm; omega)
                    refine LevSt.row (HLj.out.on hBz) hv10 hru (by rfl) (.tmp 54) (.tmp 65) (by rfl) (by rfl) (ad := ⟨nb_n2c, 0, none⟩) (c := 1) (by rfl) n2c (by rfl) (Nat.le_trans hwl hcz) (by have := HLB.out; rw [List.length_map]; omega) ?_
                    intro v12 w11 hL12 hB12 hg12
                    have hB13 : Below wa.heap.size wa w11 := (onS hB hBz).trans hB12
                    have hne : u6.ownBlock ≠ some pb := fun e => absurd (HVB.out _ e) (Nat.lt_irrefl _)
                    have c2 := cell_grown (cellS hBz HC2.out) hg12 hne
                    replace c1 := cell_grown c1 hg12 hne
                    replace cw := (hB12.cell (p := ⟨wb, wo + k, none⟩) HWB.out).trans cw
                    clear hBz hB12 hg12 hne hru n2c hv10 hv10b hcz hB
                    refine hK.out _ _ ⟨cw, c1⟩ (fun hHeld => ?_)
                    clear hK K
                    try simp only [Act.put, List.setIfInBounds_toArray, List.set_cons_zero, List.set_cons_succ]
                    refine wpAnyH_take (i := 13) (v := ?_) (by simp only [List.getElem?_toArray, List.getElem?_cons_succ, List.getElem?_cons_zero]; rfl) (by kernel_rfl) (by kernel_rfl) (by kernel_rfl) (by exact fun _ _ _ h => h) (Or.inl ⟨by rfl, ?_⟩) (by assumption) ?_
                    rotate_left
                    · (intro w hSw; (try dsimp only at hSw); go_simp); first | done | with_reducible rfl
                    try simp only [Act.put, List.setIfInBounds_toArray, List.set_cons_zero, List.set_cons_succ]
                    refine wpAnyH_done (by kernel_rfl) ?_ _
                    clear hHeld
                    have kb17 : Below w11.heap.size w11 (w11.alloc (Obj.cells #[Value.int IntKind.i64 tv] 3)) := (Below.refl _ _).alloc (Nat.le_refl _) _
                    have hL17 := hL12.on kb17
                    have HO17 := hid hL17.own
                    have hB17 := onS hB13 kb17
                    have HC17 : Hid ((w11.alloc (Obj.cells #[Value.int IntKind.i64 tv] 3)).cell? ⟨w11.heap.size, 0, none⟩ = some (.int .i64 tv)) := by show _ = _; simp
                    have HZ17 := hid hB17.size
                    have HB17 := hid hB17
                    have HL17 := hid hL17
                    have HZL : Hid (((T.levTo i k j).map (·.2)).length ≤ 1048576) := by show _ ≤ _; have := HLB.out; rw [List.length_map]; omega
                    clear hL17 hB17 hL12 kb17 cw c1 hB13
                    go_wp2_with (first | (at_builtin; (refine wpList_append_lint rfl (.tmp 67) (.tmp 70) rfl HO17.out rfl (ad := ⟨w11.heap.size, 0, none⟩) (c := 1) rfl HC17.out HZ17.out HZL.out ?_); intro v17 w17 o1 o2 o3))
                    have HLN : Hid (LevSt w17 wa.heap.size v12 v17 ((T.levTo i k (j + 1)).map (·.1)) ((T.levTo i k (j + 1)).map (·.2))) := by
                      have := HL17.out.int o1 o2 o3
                      rw [HLS.out, List.map_append, List.map_append]
                      exact this
                    have HBN := hid (HB17.out.grown o2 HZ17.out fun q e => (Own.lt HO17.out q e).1)
                    clear o1 o2 o3
                    go_wp2
                    go_roundg (gk - 1)
                    case measure => omega
                    case rel => exact ⟨j + 1, by go_num, by omega, by omega, HLN, HBN.out⟩
                  · go_simp
                    obtain ⟨w7, hw⟩ : ∃ W, W = World.alloc w6 (Obj.cells #[Value.int IntKind.i64 lv] 3) := ⟨_, rfl⟩
                    have kb : Below w6.heap.size w6 w7 := by rw [hw]; exact (Below.refl _ _).alloc (Nat.le_refl _) _
                    have n1c : w7.cell? ⟨w6.heap.size, 0, none⟩ = some (Value.int IntKind.i64 lv) := by rw [hw]; simp
                    rw [← hw]
                    clear hw
                    obtain ⟨nb_n1c, hnb⟩ : ∃ b, b = w6.heap.size := ⟨_, rfl⟩
                    rw [← hnb] at n1c ⊢
                    clear hnb
                    replace n0 := rowIs_on n0 kb
                    replace hBz := onS hBz kb
                    replace cw := cellS kb cw
                    replace c1 := cellS kb c1
                    clear kb
                    refine hK.out _ _ ⟨cw, c1⟩ (fun hHeld => ?_)
                    clear hK K
                    try simp only [Act.put, List.setIfInBounds_toArray, List.set_cons_zero, List.set_cons_succ]
                    refine wpAnyH_ready (rs := [6]) (by kernel_rfl) (by simp) ?_
                    refine AllReadyH.cons (by simp only [List.getElem?_toArray, List.getElem?_cons_succ, List.getElem?_cons_zero]; rfl) (fun K hK => ?_) AllReadyH.nil
                    have hcz := hBz.size
                    refine step_copy_list (by rfl) (.tmp 55) (.tmp 59) (by rfl) (b0 := b0) (base := wa.heap.size) (by rfl) n0 (Nat.le_trans hwl hb0) (A := RA) (c := rc) (l := xl) (by rfl) (Own.rd (HROW.out.on hBz) rfl) (by omega) ?_
                    intro v6 w8 hv6 kb hat6
                    have hv6b : ∀ q, v6.ownBlock = some q → w4.heap.size ≤ q := fun q e => by rcases hat6 with h | h <;> (rw [h] at e; injection e with e; omega)
                    clear hat6 n0 hb0 hcz
                    replace hBz := onS hBz kb
                    replace cw := cellS kb cw
                    replace c1 := cellS kb c1
                    replace n1c := cellS kb n1c
                    clear kb
                    refine hK.out _ _ ⟨cw, c1⟩ (fun hHeld => ?_)
                    clear hK K
                    try simp only [Act.put, List.setIfInBounds_toArray, List.set_cons_zero, List.set_cons_succ]
                    refine wpAnyH_ready (rs := [10]) (by kernel_rfl) (by simp) ?_
                    refine AllReadyH.cons (by simp only [List.getElem?_toArray, List.getElem?_cons_succ, List.getElem?_cons_zero]; rfl) (fun K hK => ?_) AllReadyH.nil
                    have hcz := hBz.size
                    refine step_append_lint (by rfl) (.tmp 60) (.tmp 63) (by rfl) hv6 (by rfl) (ad := ⟨nb_n1c, 0, none⟩) (c := 1) (by rfl) n1c (Nat.le_trans hwl hcz) (by omega) ?_
                    intro v10 w9 hv10 hg10 hat10
                    have hBz10 := hBz.grown hg10 hcz hv6b
                    have hv10b : ∀ q, v10.ownBlock = some q → w4.heap.size ≤ q := fun q e => by
                      rcases hat10 with h | h
                      · exact hv6b q (by rw [← h]; exact e)
                      · rw [h] at e; injection e with e; omega
                    replace cw := cellS hBz10 HCW.out
                    replace c1 := cellS hBz10 HC1.out
                    clear hBz hv6 hat10 hg10 n1c hcz hv6b
                    rename Below w4.heap.size w4 w9 => hBz
                    obtain ⟨A10, c10, hsh⟩ := Own.shape hv10
                    obtain ⟨m10, hm10⟩ : ∃ m, m = (xl ++ [lv]).length := ⟨_, rfl⟩
                    rw [← hm10] at hsh
                    clear hm10
                    subst hsh
                    refine hK.out _ _ ⟨cw, c1⟩ (fun hHeld => ?_)
                    clear hK K
                    try simp only [Act.put, List.setIfInBounds_toArray, List.set_cons_zero, List.set_cons_succ]
                    refine wpAnyH_ready (rs := [11]) (by kernel_rfl) (by simp) ?_
                    refine AllReadyH.cons (by simp only [List.getElem?_toArray, List.getElem?_cons_succ, List.getElem?_cons_zero]; rfl) (fun K hK => ?_) AllReadyH.nil
                    go_simp
                    obtain ⟨w10, hw⟩ : ∃ W, W = World.alloc w9 (Obj.cells #[Value.slice A10 m10 c10] 22) := ⟨_, rfl⟩
                    have kb : Below w9.heap.size w9 w10 := by rw [hw]; exact (Below.refl _ _).alloc (Nat.le_refl _) _
                    have n2c : w10.cell? ⟨w9.heap.size, 0, none⟩ = some (Value.slice A10 m10 c10) := by rw [hw]; simp
                    rw [← hw]
                    clear hw
                    obtain ⟨nb_n2c, hnb⟩ : ∃ b, b = w9.heap.size := ⟨_, rfl⟩
                    rw [← hnb] at n2c ⊢
                    clear hnb
                    replace hBz := onS hBz kb
                    replace cw := cellS kb cw
                    replace c1 := cellS kb c1
                    replace hv10 := hv10.on kb
                    clear kb
                    refine hK.out _ _ ⟨cw, c1⟩ (fun hHeld => ?_)
                    clear hK K
                    try simp only [Act.put, List.setIfInBounds_toArray, List.set_cons_zero, List.set_cons_succ]
                    refine wpAnyH_ready (rs := [12]) (by kernel_rfl) (by simp) ?_
                    refine AllReadyH.cons (by simp only [List.getElem?_toArray, List.getElem?_cons_succ, List.getElem?_cons_zero]; rfl) (fun K hK => ?_) AllReadyH.nil
                    have hcz := hBz.size
                    have hru : (Value.slice A10 m10 c10).ownBlock = none ∨ (Value.slice A10 m10 c10).ownBlock ≠ u7.ownBlock := by
                      cases e : (Value.slice A10 m10 c10).ownBlock with
                      | none => exact .inl rfl
                      | some q => exact .inr fun e1 => absurd (hv10b q e) (by have := HUB.out q e1.symm; omega)
                    refine LevSt.row (HLj.out.on hBz) hv10 hru (by rfl) (.tmp 54) (.tmp 65) (by rfl) (by rfl) (ad := ⟨nb_n2c, 0, none⟩) (c := 1) (by rfl) n2c (by rfl) (Nat.le_trans hwl hcz) (by have := HLB.out; rw [List.length_map]; omega) ?_
                    intro v12 w11 hL12 hB12 hg12
                    have hB13 : Below wa.heap.size wa w11 := (onS hB hBz).trans hB12
                    have hne : u6.ownBlock ≠ some pb := fun e => absurd (HVB.out _ e) (Nat.lt_irrefl _)
                    have c2 := cell_grown (cellS hBz HC2.out) hg12 hne
                    replace c1 := cell_grown c1 hg12 hne
                    replace cw := (hB12.cell (p := ⟨wb, wo + k, none⟩) HWB.out).trans cw
                    clear hBz hB12 hg12 hne hru n2c hv10 hv10b hcz hB
                    refine hK.out _ _ ⟨cw, c1⟩ (fun hHeld => ?_)
                    clear hK K
                    try simp only [Act.put, List.setIfInBounds_toArray, List.set_cons_zero, List.set_cons_succ]
                    refine wpAnyH_take (i := 13) (v := ?_) (by simp only [List.getElem?_toArray, List.getElem?_cons_succ, List.getElem?_cons_zero]; rfl) (by kernel_rfl) (by kernel_rfl) (by kernel_rfl) (by exact fun _ _ _ h => h) (Or.inl ⟨by rfl, ?_⟩) (by assumption) ?_
                    rotate_left
                    · (intro w hSw; (try dsimp only at hSw); go_simp); first | done | with_reducible rfl
                    try simp only [Act.put, List.setIfInBounds_toArray, List.set_cons_zero, List.set_cons_succ]
                    refine wpAnyH_done (by kernel_rfl) ?_ _
                    clear hHeld
                    have kb17 : Below w11.heap.size w11 (w11.alloc (Obj.cells #[Value.int IntKind.i64 tv] 3)) := (Below.refl _ _).alloc (Nat.le_refl _) _
                    have hL17 := hL12.on kb17
                    have HO17 := hid hL17.own
                    have hB17 := onS hB13 kb17
                    have HC17 : Hid ((w11.alloc (Obj.cells #[Value.int IntKind.i64 tv] 3)).cell? ⟨w11.heap.size, 0, none⟩ = some (.int .i64 tv)) := by show _ = _; simp
                    have HZ17 := hid hB17.size
                    have HB17 := hid hB17
                    have HL17 := hid hL17
                    have HZL : Hid (((T.levTo i k j).map (·.2)).length ≤ 1048576) := by show _ ≤ _; have := HLB.out; rw [List.length_map]; omega
                    clear hL17 hB17 hL12 kb17 cw c1 hB13
                    go_wp2_with (first | (at_builtin; (refine wpList_append_lint rfl (.tmp 67) (.tmp 70) rfl HO17.out rfl (ad := ⟨w11.heap.size, 0, none⟩) (c := 1) rfl HC17.out HZ17.out HZL.out ?_); intro v17 w17 o1 o2 o3))
                    have HLN : Hid (LevSt w17 wa.heap.size v12 v17 ((T.levTo i k (j + 1)).map (·.1)) ((T.levTo i k (j + 1)).map (·.2))) := by
                      have := HL17.out.int o1 o2 o3
                      rw [HLS.out, List.map_append, List.map_append]
                      exact this
                    have HBN := hid (HB17.out.grown o2 HZ17.out fun q e => (Own.lt HO17.out q e).1)
                    clear o1 o2 o3
                    go_wp2
                    go_roundg (gk - 1)
                    case measure => omega
                    case rel => exact ⟨j + 1, by go_num, by omega, by omega, HLN, HBN.out⟩
                · go_simp
                  obtain ⟨w6, hw⟩ : ∃ W, W = World.alloc w5 (Obj.cells #[Value.int IntKind.i64 lv] 3) := ⟨_, rfl⟩
                  have kb : Below w5.heap.size w5 w6 := by rw [hw]; exact (Below.refl _ _).alloc (Nat.le_refl _) _
                  have n1c : w6.cell? ⟨w5.heap.size, 0, none⟩ = some (Value.int IntKind.i64 lv) := by rw [hw]; simp
                  rw [← hw]
                  clear hw
                  obtain ⟨nb_n1c, hnb⟩ : ∃ b, b = w5.heap.size := ⟨_, rfl⟩
                  rw [← hnb] at n1c ⊢
                  clear hnb
                  replace hBz := onS hBz kb
                  replace cw := cellS kb cw
                  replace c1 := cellS kb c1
                  clear kb
                  refine hK.out _ _ ⟨cw, c1⟩ (fun hHeld => ?_)
                  clear hK K
                  try simp only [Act.put, List.setIfInBounds_toArray, List.set_cons_zero, List.set_cons_succ]
                  refine wpAnyH_ready (rs := [1]) (by kernel_rfl) (by simp) ?_
                  refine AllReadyH.cons (by simp only [List.getElem?_toArray, List.getElem?_cons_succ, List.getElem?_cons_zero]; rfl) (fun K hK => ?_) AllReadyH.nil
                  go_simp
                  obtain ⟨w7, hw⟩ : ∃ W, W = World.alloc w6 (Obj.cells #[] 3) := ⟨_, rfl⟩
                  have kb : Below w6.heap.size w6 w7 := by rw [hw]; exact (Below.refl _ _).alloc (Nat.le_refl _) _
                  have n0 : w7.rowIs w6.heap.size 3 0 (fun _ => undef) := by rw [hw]; exact ⟨_, heap_new_at rfl, rfl, fun i hi => absurd hi (by omega)⟩
                  have hb0 := hBz.size
                  rw [← hw]
                  clear hw
                  obtain ⟨b0, hb⟩ : ∃ b, b = w6.heap.size := ⟨_, rfl⟩
                  rw [← hb] at n0 hb0 ⊢
                  clear hb
                  replace hBz := onS hBz kb
                  replace cw := cellS kb cw
                  replace c1 := cellS kb c1
                  replace n1c := cellS kb n1c
                  clear kb
                  refine hK.out _ _ ⟨cw, c1⟩ (fun hHeld => ?_)
                  clear hK K
                  try simp only [Act.put, List.setIfInBounds_toArray, List.set_cons_zero, List.set_cons_succ]
                  refine wpAnyH_ready (rs := [6]) (by kernel_rfl) (by simp) ?_
                  refine AllReadyH.cons (by simp only [List.getElem?_toArray, List.getElem?_cons_succ, List.getElem?_cons_zero]; rfl) (fun K hK => ?_) AllReadyH.nil
                  have hcz := hBz.size
                  refine step_copy_list (by rfl) (.tmp 55) (.tmp 59) (by rfl) (b0 := b0) (base := wa.heap.size) (by rfl) n0 (Nat.le_trans hwl hb0) (A := RA) (c := rc) (l := xl) (by rfl) (Own.rd (HROW.out.on hBz) rfl) (by omega) ?_
                  intro v6 w8 hv6 kb hat6
                  have hv6b : ∀ q, v6.ownBlock = some q → w4.heap.size ≤ q := fun q e => by rcases hat6 with h | h <;> (rw [h] at e; injection e with e; omega)
                  clear hat6 n0 hb0 hcz
                  replace hBz := onS hBz kb
                  replace cw := cellS kb cw
                  replace c1 := cellS kb c1
                  replace n1c := cellS kb n1c
                  clear kb
                  refine hK.out _ _ ⟨cw, c1⟩ (fun hHeld => ?_)
                  clear hK K
                  try simp only [Act.put, List.setIfInBounds_toArray, List.set_cons_zero, List.set_cons_succ]
                  refine wpAnyH_ready (rs := [10]) (by kernel_rfl) (by simp) ?_
                  refine AllReadyH.cons (by simp only [List.getElem?_toArray, List.getElem?_cons_succ, List.getElem?_cons_zero]; rfl) (fun K hK => ?_) AllReadyH.nil
                  have hcz := hBz.size
                  refine step_append_lint (by rfl) (.tmp 60) (.tmp 63) (by rfl) hv6 (by rfl) (ad := ⟨nb_n1c, 0, none⟩) (c := 1) (by rfl) n1c (Nat.le_trans hwl hcz) (by omega) ?_
                  intro v10 w9 hv10 hg10 hat10
                  have hBz10 := hBz.grown hg10 hcz hv6b
                  have hv10b : ∀ q, v10.ownBlock = some q → w4.heap.size ≤ q := fun q e => by
                    rcases hat10 with h | h
                    · exact hv6b q (by rw [← h]; exact e)
                    · rw [h] at e; injection e with e; omega
                  replace cw := cellS hBz10 HCW.out
                  replace c1 := cellS hBz10 HC1.out
                  clear hBz hv6 hat10 hg10 n1c hcz hv6b
                  rename Below w4.heap.size w4 w9 => hBz
                  obtain ⟨A10, c10, hsh⟩ := Own.shape hv10
                  obtain ⟨m10, hm10⟩ : ∃ m, m = (xl ++ [lv]).length := ⟨_, rfl⟩
                  rw [← hm10] at hsh
                  clear hm10
                  subst hsh
                  refine hK.out _ _ ⟨cw, c1⟩ (fun hHeld => ?_)
                  clear hK K
                  try simp only [Act.put, List.setIfInBounds_toArray, List.set_cons_zero, List.set_cons_succ]
                  refine wpAnyH_ready (rs := [11]) (by kernel_rfl) (by simp) ?_
                  refine AllReadyH.cons (by simp only [List.getElem?_toArray, List.getElem?_cons_succ, List.getElem?_cons_zero]; rfl) (fun K hK => ?_) AllReadyH.nil
                  go_simp
                  obtain ⟨w10, hw⟩ : ∃ W, W = World.alloc w9 (Obj.cells #[Value.slice A10 m10 c10] 22) := ⟨_, rfl⟩
                  have kb : Below w9.heap.size w9 w10 := by rw [hw]; exact (Below.refl _ _).alloc (Nat.le_refl _) _
                  have n2c : w10.cell? ⟨w9.heap.size, 0, none⟩ = some (Value.slice A10 m10 c10) := by rw [hw]; simp
                  rw [← hw]
                  clear hw
                  obtain ⟨nb_n2c, hnb⟩ : ∃ b, b = w9.heap.size := ⟨_, rfl⟩
                  rw [← hnb] at n2c ⊢
                  clear hnb
                  replace hBz := onS hBz kb
                  replace cw := cellS kb cw
                  replace c1 := cellS kb c1
                  replace hv10 := hv10.on kb
                  clear kb
                  refine hK.out _ _ ⟨cw, c1⟩ (fun hHeld => ?_)
                  clear hK K
                  try simp only [Act.put, List.setIfInBounds_toArray, List.set_cons_zero, List.set_cons_succ]
                  refine wpAnyH_ready (rs := [12]) (by kernel_rfl) (by simp) ?_
                  refine AllReadyH.cons (by simp only [List.getElem?_toArray, List.getElem?_cons_succ, List.getElem?_cons_zero]; rfl) (fun K hK => ?_) AllReadyH.nil
                  have hcz := hBz.size
                  have hru : (Value.slice A10 m10 c10).ownBlock = none ∨ (Value.slice A10 m10 c10).ownBlock ≠ u7.ownBlock := by
                    cases e : (Value.slice A10 m10 c10).ownBlock with
                    | none => exact .inl rfl
                    | some q => exact .inr fun e1 => absurd (hv10b q e) (by have := HUB.out q e1.symm; omega)
                  refine LevSt.row (HLj.out.on hBz) hv10 hru (by rfl) (.tmp 54) (.tmp 65) (by rfl) (by rfl) (ad := ⟨nb_n2c, 0, none⟩) (c := 1) (by rfl) n2c (by rfl) (Nat.le_trans hwl hcz) (by have := HLB.out; rw [List.length_map]; omega) ?_
                  intro v12 w11 hL12 hB12 hg12
                  have hB13 : Below wa.heap.size wa w11 := (onS hB hBz).trans hB12
                  have hne : u6.ownBlock ≠ some pb := fun e => absurd (HVB.out _ e) (Nat.lt_irrefl _)
                  have c2 := cell_grown (cellS hBz HC2.out) hg12 hne
                  replace c1 := cell_grown c1 hg12 hne
                  replace cw := (hB12.cell (p := ⟨wb, wo + k, none⟩) HWB.out).trans cw
                  clear hBz hB12 hg12 hne hru n2c hv10 hv10b hcz hB
                  refine hK.out _ _ ⟨cw, c1⟩ (fun hHeld => ?_)
                  clear hK K
                  try simp only [Act.put, List.setIfInBounds_toArray, List.set_cons_zero, List.set_cons_succ]
                  refine wpAnyH_take (i := 13) (v := ?_) (by simp only [List.getElem?_toArray, List.getElem?_cons_succ, List.getElem?_cons_zero]; rfl) (by kernel_rfl) (by kernel_rfl) (by kernel_rfl) (by exact fun _ _ _ h => h) (Or.inl ⟨by rfl, ?_⟩) (by assumption) ?_
                  rotate_left
                  · (intro w hSw; (try dsimp only at hSw); go_simp); first | done | with_reducible rfl
                  try simp only [Act.put, List.setIfInBounds_toArray, List.set_cons_zero, List.set_cons_succ]
                  refine wpAnyH_done (by kernel_rfl) ?_ _
                  clear hHeld
                  have kb17 : Below w11.heap.size w11 (w11.alloc (Obj.cells #[Value.int IntKind.i64 tv] 3)) := (Below.refl _ _).alloc (Nat.le_refl _) _
                  have hL17 := hL12.on kb17
                  have HO17 := hid hL17.own
                  have hB17 := onS hB13 kb17
                  have HC17 : Hid ((w11.alloc (Obj.cells #[Value.int IntKind.i64 tv] 3)).cell? ⟨w11.heap.size, 0, none⟩ = some (.int .i64 tv)) := by show _ = _; simp
                  have HZ17 := hid hB17.size
                  have HB17 := hid hB17
                  have HL17 := hid hL17
                  have HZL : Hid (((T.levTo i k j).map (·.2)).length ≤ 1048576) := by show _ ≤ _; have := HLB.out; rw [List.length_map]; omega
                  clear hL17 hB17 hL12 kb17 cw c1 hB13
                  go_wp2_with (first | (at_builtin; (refine wpList_append_lint rfl (.tmp 67) (.tmp 70) rfl HO17.out rfl (ad := ⟨w11.heap.size, 0, none⟩) (c := 1) rfl HC17.out HZ17.out HZL.out ?_); intro v17 w17 o1 o2 o3))
                  have HLN : Hid (LevSt w17 wa.heap.size v12 v17 ((T.levTo i k (j + 1)).map (·.1)) ((T.levTo i k (j + 1)).map (·.2))) := by
                    have := HL17.out.int o1 o2 o3
                    rw [HLS.out, List.map_append, List.map_append]
                    exact this
                  have HBN := hid (HB17.out.grown o2 HZ17.out fun q e => (Own.lt HO17.out q e).1)
                  clear o1 o2 o3
                  go_wp2
                  go_roundg (gk - 1)
                  case measure => omega
                  case rel => exact ⟨j + 1, by go_num, by omega, by omega, HLN, HBN.out⟩
              · have heq' : (fv == xv) = false := by simp [heq]
                rw [if_neg heq, List.append_nil] at HLS
                rw [← HLS.out] at hLj
                have HLN := hid hLj
                clear heq hLj c1 c2 cw
                go_wp2
                go_quiet (fail)
                go_wp2
                go_roundg (gk - 1)
                case measure => omega
                case rel => exact ⟨j + 1, by go_num, by omega, by omega, HLN.out.on (below_drewN (Below.refl _ _) _), below_drewN hB _⟩
            · have hltj' : ¬ (j : Int) < (el : Int) := by omega
              obtain rfl : j = el := by omega
              rw [HEL.out, Trel.levTo_next (by rw [← HNM.out]; exact hltk)] at HLj
              clear he3 he4
              go_wp2
              go_roundg (gK - 1)
              case measure => omega
              case rel => exact ⟨k + 1, by go_num, by omega, by omega, HLj, hB⟩
        · have hltk' : ¬ (k : Int) < (N : Int) := by omega
          obtain rfl : k = N := by omega
          rw [HNM.out, Trel.levTo_all] at HLk
          have HLN : Hid (LevSt wr (w.heap.size + 1) _ _ ((T.lev (i + 1)).map (·.1)) ((T.lev (i + 1)).map (·.2))) := hid (HLk.out.mono hwz)
          have hBR := tbox_on HBA.out hB
          clear HLk
          go_wp2
          go_roundg (gI - 1)
          case measure => omega
          case rel => exact ⟨i + 1, by go_num, by omega, by omega, HLN, hBR⟩
    · have hlt' : ¬ (i : Int) < (T.n : Int) := by omega
      obtain rfl : i = T.n := by omega
      have hT := HL.out.tab.mono (show w.heap.size ≤ w.heap.size + 1 by omega)
      obtain ⟨N, hN⟩ : ∃ N, N = ((T.lev T.n).map (·.1)).length := ⟨_, rfl⟩
      rw [← hN] at hT ⊢
      have HF : Hid (∀ e, e = .returned (.slice WA N wc) → RefWordsPost T w e wr) := fun e he => ⟨hW, _, he, by rw [← Trel.lev_words]; exact hT⟩
      clear hT HL hN
      go_wp2
      go_ret
      exact HF.out _ rfl
end Go.Proofs.Ytnocbkhnmdmfhaa
