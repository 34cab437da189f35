/- trellis.Words: its recursive closure. -/
import Derived.Test.YtnocbkhnmdmfhaaDownMem
import Derived.Test.YtnocbkhnmdmfhaaFrom
namespace Go.Proofs.Ytnocbkhnmdmfhaa
open Go.RowKit

/-- What the closure leaves at position i: the words found are L'. -/
def DownPost (T : Trel) (A B : Option Addr) (c d : Nat) (X : WBlocks) (w0 : World) (i : Nat) (L' : List (List Int)) (f : Nat → Int) (e : Ending) (w' : World) : Prop :=
  e = .returned (.tuple #[]) ∧ ∃ f', WSt T A B c d X w0 w' L' f' ∧ ∀ k, k < i → f' k = f k
set_option maxRecDepth 100000 in
set_option maxHeartbeats 8000000 in
theorem down_zero (T : Trel) (A B : Option Addr) (c d : Nat) (X : WBlocks) (w0 : World) (hX : X.Ok w0.heap.size) (hn64 : T.n ≤ 64) (v : Int) (L : List (List Int)) (f : Nat → Int) (w1 : World) (hS : WSt T A B c d X w0 w1 L f) (hL : L.length ≤ 65536) :
    Calls Try.prog 65 #[.int .i64 (T.n : Nat), .int .i64 v, .pointer (some ⟨X.bw, 0, none⟩), .pointer (some ⟨X.bo, 0, none⟩), .pointer (some ⟨X.bt, 0, none⟩), .pointer (some ⟨X.bk, 0, none⟩)] w1 (DownPost T A B c d X w0 T.n (L ++ [pre f T.n]) f) := by
  obtain ⟨ov, hro, hTab⟩ := hS.po
  have pw := hS.pw
  have po : w1.cell? ⟨X.bo, 0, none⟩ = some ov := hro.cell (i := 0) (by omega)
  have HX := hid hX
  have HL := hid hL
  obtain ⟨n, hn⟩ : ∃ n, n = T.n := ⟨_, rfl⟩
  have HN := hid hn
  have HS := hid hS
  obtain ⟨bo, hbo⟩ : ∃ b, b = X.bo := ⟨_, rfl⟩
  have HBO := hid hbo
  obtain ⟨bw, hbw⟩ : ∃ b, b = X.bw := ⟨_, rfl⟩
  have HBW := hid hbw
  obtain ⟨gw, hgw⟩ : ∃ b, b = X.gw := ⟨_, rfl⟩
  have HGW := hid hgw
  have HPN : Hid (DownPost T A B c d X w0 n (L ++ [pre f n]) f = DownPost T A B c d X w0 T.n (L ++ [pre f T.n]) f) := by rw [hn]; exact hid rfl
  rw [← HPN.out]
  rw [← hn, ← hbw, ← hbo]
  rw [← hn, ← hbw, ← hgw] at pw
  rw [← hbo] at po hro
  rw [← hn] at hn64
  clear hn hbo hbw hgw hX hL
  have HH : Hid (X.H ≤ w1.heap.size) := HS.out.hw
  have HOW : Hid (bw ≠ bo) := by show bw ≠ bo; rw [HBW.out, HBO.out]; exact fun e => HX.out.ow e.symm
  have hrow : IntsR w1 w1.heap.size (some ⟨gw, 0, none⟩) n f := by
    have := Rd_of_row HS.out.row
    rwa [← HGW.out, ← HN.out] at this
  go_enter Try.func65, Try.ntmps65
  go_wp2_with fail
  clear hro HS
  refine wp_region_held_drew (S := fun w' => w'.cell? ⟨bw, 0, none⟩ = some (.slice (some ⟨gw, 0, none⟩) n n)) (by kernel_rfl) (cellS (Below.refl _ _).drew pw) (fun hHeld => ?_)
  obtain ⟨w2, hw⟩ : ∃ W, W = World.drew w1 := ⟨_, rfl⟩
  have kb : Below w1.heap.size w1 w2 := by rw [hw]; exact (Below.refl _ _).drew
  rw [← hw] at hHeld ⊢
  clear hw
  replace hS := hS.on HX.out kb
  replace hTab := hTab.on kb
  replace pw := cellS kb pw
  replace po := cellS kb po
  replace hrow := hrow.on kb
  clear kb
  refine wpAnyH_take (i := 1) (v := ?_) (by simp only [List.getElem?_toArray, List.getElem?_cons_succ, List.getElem?_cons_zero]; rfl) (by kernel_rfl) (by kernel_rfl) (by kernel_rfl) (by exact fun _ _ _ h => h) (Or.inl ⟨by rfl, ?_⟩) (by assumption) ?_
  rotate_left
  · (intro w hSw; (try dsimp only at hSw); go_simp); first | done | with_reducible rfl
  try simp only [Act.put, List.setIfInBounds_toArray, List.set_cons_zero, List.set_cons_succ]
  refine wpAnyH_ready (rs := [0, 2]) (by kernel_rfl) (by simp) ?_
  refine AllReadyH.cons (by simp only [List.getElem?_toArray, List.getElem?_cons_zero]; rfl) (fun K hK => ?_) (AllReadyH.cons (by simp only [List.getElem?_toArray, List.getElem?_cons_succ, List.getElem?_cons_zero]; rfl) (fun K hK => ?_) AllReadyH.nil)
  · go_simp
    refine hK.out _ _ pw (fun hHeld => ?_)
    clear hK K
    try simp only [Act.put, List.setIfInBounds_toArray, List.set_cons_zero, List.set_cons_succ]
    refine wpAnyH_ready (rs := [2]) (by kernel_rfl) (by simp) ?_
    refine AllReadyH.cons (by simp only [List.getElem?_toArray, List.getElem?_cons_succ, List.getElem?_cons_zero]; rfl) (fun K hK => ?_) AllReadyH.nil
    go_simp
    go_wp2_with fail
    have hH2 := hS.hw
    refine (cloneInts_any (some ⟨gw, 0, none⟩) n n f w2 hrow (Nat.le_refl _) (by omega)).mono ?_
    rintro e w3 ⟨CA, cc, rfl, hCO, kb⟩
    replace hS := hS.on HX.out kb
    replace hTab := hTab.on kb
    replace pw := cellS kb pw
    replace po := cellS kb po
    replace hrow := hrow.on kb
    clear kb
    have hOL : OwnL w3 X.H (.slice CA n cc) (pre f n) := by
      unfold OwnL
      rw [pre_len]
      exact (hCO.mono hH2).congr fun i hi _ _ => by
        show _ = Value.int .i64 ((pre f n).getD i 0)
        rw [pre_get f hi]
    clear hCO hH2
    refine hK.out _ _ pw (fun hHeld => ?_)
    clear hK K
    try simp only [Act.put, List.setIfInBounds_toArray, List.set_cons_zero, List.set_cons_succ]
    refine wpAnyH_ready (rs := [3]) (by kernel_rfl) (by simp) ?_
    refine AllReadyH.cons (by simp only [List.getElem?_toArray, List.getElem?_cons_succ, List.getElem?_cons_zero]; rfl) (fun K hK => ?_) AllReadyH.nil
    go_simp
    obtain ⟨w4, hw⟩ : ∃ W, W = World.alloc w3 (Obj.cells #[Value.slice CA n cc] 22) := ⟨_, rfl⟩
    have kb : Below w3.heap.size w3 w4 := by rw [hw]; exact (Below.refl _ _).alloc (Nat.le_refl _) _
    have n1c : w4.cell? ⟨w3.heap.size, 0, none⟩ = some (Value.slice CA n cc) := by rw [hw]; simp
    rw [← hw]
    clear hw
    obtain ⟨nb_n1c, hnb⟩ : ∃ b, b = w3.heap.size := ⟨_, rfl⟩
    rw [← hnb] at n1c ⊢
    clear hnb
    replace hS := hS.on HX.out kb
    replace hTab := hTab.on kb
    replace pw := cellS kb pw
    replace po := cellS kb po
    replace hrow := hrow.on kb
    replace hOL := hOL.on kb
    clear kb
    refine hK.out _ _ pw (fun hHeld => ?_)
    clear hK K
    try simp only [Act.put, List.setIfInBounds_toArray, List.set_cons_zero, List.set_cons_succ]
    refine wpAnyH_ready (rs := [4]) (by kernel_rfl) (by simp) ?_
    refine AllReadyH.cons (by simp only [List.getElem?_toArray, List.getElem?_cons_succ, List.getElem?_cons_zero]; rfl) (fun K hK => ?_) AllReadyH.nil
    have hH := hS.hw
    refine step_append_list (by rfl) (.tmp 14) (.tmp 17) (by rfl) hTab (by rfl) (ad := ⟨nb_n1c, 0, none⟩) (c := 1) (by rfl) n1c (by rfl) hOL hH (by have := HL.out; omega) ?_
    intro v9 w9 o1 o2
    obtain ⟨A9, c9, hv9⟩ := o1.shape
    obtain ⟨m9, hm9⟩ : ∃ m, m = (L ++ [pre f n]).length := ⟨_, rfl⟩
    rw [← hm9] at hv9
    clear hm9
    subst hv9
    have hfo : ∀ q, ov.ownBlock = some q → X.H ≤ q := fun q e => by
      obtain ⟨R, h1, _⟩ := hTab
      exact (h1.lt q e).1
    have hB9 : Below X.H w4 w9 := (Below.refl X.H w4).grown o2 hH hfo
    obtain ⟨ov2, hro, _⟩ := hS.po
    have hro9 := hro.of_block (hB9.block _ HX.out.o.2)
    have q9 : w9.cell? ⟨bo, 0, none⟩ = some ov2 := by have := hro9.cell (i := 0) (by omega); rwa [← HBO.out] at this
    have hov : ov2 = ov := by
      have h1 := hro.cell (i := 0) (by omega)
      rw [← HBO.out, po] at h1
      injection h1 with h1
      exact h1.symm
    subst hov
    have z9 : w9.frozen? ⟨bo, 0, none⟩ = false := by have := hro9.frozen 0; rwa [← HBO.out] at this
    have p9 : w9.cell? ⟨bw, 0, none⟩ = some (.slice (some ⟨gw, 0, none⟩) n n) := cellH hB9 (by rw [HBW.out]; exact HX.out.w.2) pw
    have hF := hid (hS.found HX.out hB9 o1)
    refine hK.out _ _ p9 (fun hHeld => ?_)
    clear hK K
    try simp only [Act.put, List.setIfInBounds_toArray, List.set_cons_zero, List.set_cons_succ]
    refine wpAnyH_ready (rs := [5]) (by kernel_rfl) (by simp) ?_
    refine AllReadyH.cons (by simp only [List.getElem?_toArray, List.getElem?_cons_succ, List.getElem?_cons_zero]; rfl) (fun K hK => ?_) AllReadyH.nil
    go_simp
    rw [← HBO.out] at hF
    obtain ⟨w10, hw10⟩ : ∃ W, W = w9.setCell ⟨bo, 0, none⟩ (.slice A9 m9 c9) := ⟨_, rfl⟩
    rw [← hw10] at hF ⊢
    refine hK.out _ _ (by rw [hw10]; exact cell_setCell_far p9 HOW.out) (fun hHeld => ?_)
    clear hK K
    try simp only [Act.put, List.setIfInBounds_toArray, List.set_cons_zero, List.set_cons_succ]
    refine wpAnyH_done (by kernel_rfl) ?_ _
    clear hHeld
    go_wp2
    (try simp only [Exit.inBlock, Exit.then])
    refine bodyPost_ret (results_none rfl _ _ _) rfl ?_
    exact ⟨rfl, f, hF.out, fun _ _ => rfl⟩
  · go_simp
    go_wp2_with fail
    have hH2 := hS.hw
    refine (cloneInts_any (some ⟨gw, 0, none⟩) n n f w2 hrow (Nat.le_refl _) (by omega)).mono ?_
    rintro e w3 ⟨CA, cc, rfl, hCO, kb⟩
    replace hS := hS.on HX.out kb
    replace hTab := hTab.on kb
    replace pw := cellS kb pw
    replace po := cellS kb po
    replace hrow := hrow.on kb
    clear kb
    have hOL : OwnL w3 X.H (.slice CA n cc) (pre f n) := by
      unfold OwnL
      rw [pre_len]
      exact (hCO.mono hH2).congr fun i hi _ _ => by
        show _ = Value.int .i64 ((pre f n).getD i 0)
        rw [pre_get f hi]
    clear hCO hH2
    refine hK.out _ _ pw (fun hHeld => ?_)
    clear hK K
    try simp only [Act.put, List.setIfInBounds_toArray, List.set_cons_zero, List.set_cons_succ]
    refine wpAnyH_ready (rs := [0, 3]) (by kernel_rfl) (by simp) ?_
    refine AllReadyH.cons (by simp only [List.getElem?_toArray, List.getElem?_cons_zero]; rfl) (fun K hK => ?_) (AllReadyH.cons (by simp only [List.getElem?_toArray, List.getElem?_cons_succ, List.getElem?_cons_zero]; rfl) (fun K hK => ?_) AllReadyH.nil)
    · go_simp
      refine hK.out _ _ pw (fun hHeld => ?_)
      clear hK K
      try simp only [Act.put, List.setIfInBounds_toArray, List.set_cons_zero, List.set_cons_succ]
      refine wpAnyH_ready (rs := [3]) (by kernel_rfl) (by simp) ?_
      refine AllReadyH.cons (by simp only [List.getElem?_toArray, List.getElem?_cons_succ, List.getElem?_cons_zero]; rfl) (fun K hK => ?_) AllReadyH.nil
      go_simp
      obtain ⟨w4, hw⟩ : ∃ W, W = World.alloc w3 (Obj.cells #[Value.slice CA n cc] 22) := ⟨_, rfl⟩
      have kb : Below w3.heap.size w3 w4 := by rw [hw]; exact (Below.refl _ _).alloc (Nat.le_refl _) _
      have n1c : w4.cell? ⟨w3.heap.size, 0, none⟩ = some (Value.slice CA n cc) := by rw [hw]; simp
      rw [← hw]
      clear hw
      obtain ⟨nb_n1c, hnb⟩ : ∃ b, b = w3.heap.size := ⟨_, rfl⟩
      rw [← hnb] at n1c ⊢
      clear hnb
      replace hS := hS.on HX.out kb
      replace hTab := hTab.on kb
      replace pw := cellS kb pw
      replace po := cellS kb po
      replace hrow := hrow.on kb
      replace hOL := hOL.on kb
      clear kb
      refine hK.out _ _ pw (fun hHeld => ?_)
      clear hK K
      try simp only [Act.put, List.setIfInBounds_toArray, List.set_cons_zero, List.set_cons_succ]
      refine wpAnyH_ready (rs := [4]) (by kernel_rfl) (by simp) ?_
      refine AllReadyH.cons (by simp only [List.getElem?_toArray, List.getElem?_cons_succ, List.getElem?_cons_zero]; rfl) (fun K hK => ?_) AllReadyH.nil
      have hH := hS.hw
      refine step_append_list (by rfl) (.tmp 14) (.tmp 17) (by rfl) hTab (by rfl) (ad := ⟨nb_n1c, 0, none⟩) (c := 1) (by rfl) n1c (by rfl) hOL hH (by have := HL.out; omega) ?_
      intro v9 w9 o1 o2
      obtain ⟨A9, c9, hv9⟩ := o1.shape
      obtain ⟨m9, hm9⟩ : ∃ m, m = (L ++ [pre f n]).length := ⟨_, rfl⟩
      rw [← hm9] at hv9
      clear hm9
      subst hv9
      have hfo : ∀ q, ov.ownBlock = some q → X.H ≤ q := fun q e => by
        obtain ⟨R, h1, _⟩ := hTab
        exact (h1.lt q e).1
      have hB9 : Below X.H w4 w9 := (Below.refl X.H w4).grown o2 hH hfo
      obtain ⟨ov2, hro, _⟩ := hS.po
      have hro9 := hro.of_block (hB9.block _ HX.out.o.2)
      have q9 : w9.cell? ⟨bo, 0, none⟩ = some ov2 := by have := hro9.cell (i := 0) (by omega); rwa [← HBO.out] at this
      have hov : ov2 = ov := by
        have h1 := hro.cell (i := 0) (by omega)
        rw [← HBO.out, po] at h1
        injection h1 with h1
        exact h1.symm
      subst hov
      have z9 : w9.frozen? ⟨bo, 0, none⟩ = false := by have := hro9.frozen 0; rwa [← HBO.out] at this
      have p9 : w9.cell? ⟨bw, 0, none⟩ = some (.slice (some ⟨gw, 0, none⟩) n n) := cellH hB9 (by rw [HBW.out]; exact HX.out.w.2) pw
      have hF := hid (hS.found HX.out hB9 o1)
      refine hK.out _ _ p9 (fun hHeld => ?_)
      clear hK K
      try simp only [Act.put, List.setIfInBounds_toArray, List.set_cons_zero, List.set_cons_succ]
      refine wpAnyH_ready (rs := [5]) (by kernel_rfl) (by simp) ?_
      refine AllReadyH.cons (by simp only [List.getElem?_toArray, List.getElem?_cons_succ, List.getElem?_cons_zero]; rfl) (fun K hK => ?_) AllReadyH.nil
      go_simp
      rw [← HBO.out] at hF
      obtain ⟨w10, hw10⟩ : ∃ W, W = w9.setCell ⟨bo, 0, none⟩ (.slice A9 m9 c9) := ⟨_, rfl⟩
      rw [← hw10] at hF ⊢
      refine hK.out _ _ (by rw [hw10]; exact cell_setCell_far p9 HOW.out) (fun hHeld => ?_)
      clear hK K
      try simp only [Act.put, List.setIfInBounds_toArray, List.set_cons_zero, List.set_cons_succ]
      refine wpAnyH_done (by kernel_rfl) ?_ _
      clear hHeld
      go_wp2
      (try simp only [Exit.inBlock, Exit.then])
      refine bodyPost_ret (results_none rfl _ _ _) rfl ?_
      exact ⟨rfl, f, hF.out, fun _ _ => rfl⟩
    · go_simp
      obtain ⟨w4, hw⟩ : ∃ W, W = World.alloc w3 (Obj.cells #[Value.slice CA n cc] 22) := ⟨_, rfl⟩
      have kb : Below w3.heap.size w3 w4 := by rw [hw]; exact (Below.refl _ _).alloc (Nat.le_refl _) _
      have n1c : w4.cell? ⟨w3.heap.size, 0, none⟩ = some (Value.slice CA n cc) := by rw [hw]; simp
      rw [← hw]
      clear hw
      obtain ⟨nb_n1c, hnb⟩ : ∃ b, b = w3.heap.size := ⟨_, rfl⟩
      rw [← hnb] at n1c ⊢
      clear hnb
      replace hS := hS.on HX.out kb
      replace hTab := hTab.on kb
      replace pw := cellS kb pw
      replace po := cellS kb po
      replace hrow := hrow.on kb
      replace hOL := hOL.on kb
      clear kb
      refine hK.out _ _ pw (fun hHeld => ?_)
      clear hK K
      try simp only [Act.put, List.setIfInBounds_toArray, List.set_cons_zero, List.set_cons_succ]
      refine wpAnyH_ready (rs := [0]) (by kernel_rfl) (by simp) ?_
      refine AllReadyH.cons (by simp only [List.getElem?_toArray, List.getElem?_cons_zero]; rfl) (fun K hK => ?_) AllReadyH.nil
      go_simp
      refine hK.out _ _ pw (fun hHeld => ?_)
      clear hK K
      try simp only [Act.put, List.setIfInBounds_toArray, List.set_cons_zero, List.set_cons_succ]
      refine wpAnyH_ready (rs := [4]) (by kernel_rfl) (by simp) ?_
      refine AllReadyH.cons (by simp only [List.getElem?_toArray, List.getElem?_cons_succ, List.getElem?_cons_zero]; rfl) (fun K hK => ?_) AllReadyH.nil
      have hH := hS.hw
      refine step_append_list (by rfl) (.tmp 14) (.tmp 17) (by rfl) hTab (by rfl) (ad := ⟨nb_n1c, 0, none⟩) (c := 1) (by rfl) n1c (by rfl) hOL hH (by have := HL.out; omega) ?_
      intro v9 w9 o1 o2
      obtain ⟨A9, c9, hv9⟩ := o1.shape
      obtain ⟨m9, hm9⟩ : ∃ m, m = (L ++ [pre f n]).length := ⟨_, rfl⟩
      rw [← hm9] at hv9
      clear hm9
      subst hv9
      have hfo : ∀ q, ov.ownBlock = some q → X.H ≤ q := fun q e => by
        obtain ⟨R, h1, _⟩ := hTab
        exact (h1.lt q e).1
      have hB9 : Below X.H w4 w9 := (Below.refl X.H w4).grown o2 hH hfo
      obtain ⟨ov2, hro, _⟩ := hS.po
      have hro9 := hro.of_block (hB9.block _ HX.out.o.2)
      have q9 : w9.cell? ⟨bo, 0, none⟩ = some ov2 := by have := hro9.cell (i := 0) (by omega); rwa [← HBO.out] at this
      have hov : ov2 = ov := by
        have h1 := hro.cell (i := 0) (by omega)
        rw [← HBO.out, po] at h1
        injection h1 with h1
        exact h1.symm
      subst hov
      have z9 : w9.frozen? ⟨bo, 0, none⟩ = false := by have := hro9.frozen 0; rwa [← HBO.out] at this
      have p9 : w9.cell? ⟨bw, 0, none⟩ = some (.slice (some ⟨gw, 0, none⟩) n n) := cellH hB9 (by rw [HBW.out]; exact HX.out.w.2) pw
      have hF := hid (hS.found HX.out hB9 o1)
      refine hK.out _ _ p9 (fun hHeld => ?_)
      clear hK K
      try simp only [Act.put, List.setIfInBounds_toArray, List.set_cons_zero, List.set_cons_succ]
      refine wpAnyH_ready (rs := [5]) (by kernel_rfl) (by simp) ?_
      refine AllReadyH.cons (by simp only [List.getElem?_toArray, List.getElem?_cons_succ, List.getElem?_cons_zero]; rfl) (fun K hK => ?_) AllReadyH.nil
      go_simp
      rw [← HBO.out] at hF
      obtain ⟨w10, hw10⟩ : ∃ W, W = w9.setCell ⟨bo, 0, none⟩ (.slice A9 m9 c9) := ⟨_, rfl⟩
      rw [← hw10] at hF ⊢
      refine hK.out _ _ (by rw [hw10]; exact cell_setCell_far p9 HOW.out) (fun hHeld => ?_)
      clear hK K
      try simp only [Act.put, List.setIfInBounds_toArray, List.set_cons_zero, List.set_cons_succ]
      refine wpAnyH_done (by kernel_rfl) ?_ _
      clear hHeld
      go_wp2
      (try simp only [Exit.inBlock, Exit.then])
      refine bodyPost_ret (results_none rfl _ _ _) rfl ?_
      exact ⟨rfl, f, hF.out, fun _ _ => rfl⟩
set_option maxRecDepth 100000 in
set_option maxHeartbeats 8000000 in
theorem down_succ (T : Trel) (A B : Option Addr) (c d : Nat) (X : WBlocks) (w0 : World) (hX : X.Ok w0.heap.size) (hP : T.Proper) (hR : T.Reads w0 A B) (r i : Nat) (hn : i + (r + 1) = T.n)
    (IH : ∀ (v : Int) (L : List (List Int)) (f : Nat → Int) (w : World), 0 ≤ v → v < T.W (i + 1) → WSt T A B c d X w0 w L f → L.length + (T.dn r v).length ≤ 65536 →
      Calls Try.prog 65 #[.int .i64 ((i : Int) + 1), .int .i64 v, .pointer (some ⟨X.bw, 0, none⟩), .pointer (some ⟨X.bo, 0, none⟩), .pointer (some ⟨X.bt, 0, none⟩), .pointer (some ⟨X.bk, 0, none⟩)] w (DownPost T A B c d X w0 (i + 1) (L ++ (T.dn r v).map fun s => pre f (i + 1) ++ s) f))
    (v : Int) (hv0 : 0 ≤ v) (hv1 : v < T.W i) (L : List (List Int)) (f : Nat → Int) (w1 : World) (hS : WSt T A B c d X w0 w1 L f) (hL : L.length + (T.dn (r + 1) v).length ≤ 65536) :
    Calls Try.prog 65 #[.int .i64 (i : Nat), .int .i64 v, .pointer (some ⟨X.bw, 0, none⟩), .pointer (some ⟨X.bo, 0, none⟩), .pointer (some ⟨X.bt, 0, none⟩), .pointer (some ⟨X.bk, 0, none⟩)] w1 (DownPost T A B c d X w0 i (L ++ (T.dn (r + 1) v).map fun s => pre f i ++ s) f) := by
  have hcf : ∀ (x y p1 p2 p3 p4 : Value) (W : World), (callFunc 65 #[x, y, p1, p2, p3, p4]).run Try.prog W = .ok (.enter 65 #[x, y, p1, p2, p3, p4]) W := fun _ _ _ _ _ _ _ => by kernel_rfl
  obtain ⟨bt, gw, bw, bo, bk, H⟩ := X
  dsimp only at IH ⊢
  have hn64 := hP.shape.n64
  have hin0 : i < T.n := by omega
  have hel := hP.shape.elb hin0
  have hsec := hP.sec i hin0
  have hex : ∃ j, j < T.el i ∧ T.fr i j = v := by
    obtain ⟨j, hj, e⟩ := hitB_iff.1 (hsec.2.1 v.toNat (by omega))
    exact ⟨j, hj, by omega⟩
  obtain ⟨eb, eo, E, ec, rfl, heb, x0, he1, he2, he3, he4⟩ := hR.sec hin0
  replace x0 := cellS hS.low x0
  have p1 := hS.t1
  have p2 := hS.pw
  dsimp only at p1 p2
  have HIH := hid IH
  have HX := hid hX
  have HP := hid hP
  have HL := hid hL
  have HNN := hid hn
  have HSEC := hid hsec
  have HRd := hid he3
  have HINS := hid (hP.shape.ins i hin0)
  obtain ⟨n, hnn⟩ : ∃ n, n = T.n := ⟨_, rfl⟩
  rw [← hnn] at p1 p2 hn64 hn hin0
  have HN := hid hnn
  have hin' : (i : Int) < (n : Int) := by omega
  have hi0 : (0 : Int) ≤ (i : Int) := by omega
  have hne : ((i : Int) == (n : Int)) = false := by
    rw [beq_eq_false_iff_ne]
    omega
  obtain ⟨el, hele⟩ : ∃ n, n = T.el i := ⟨_, rfl⟩
  rw [← hele] at x0 he1 hel
  have HEL := hid hele
  have HEX := hid hex
  have hB0 := hS.low
  have hR1 : Rd w1 w1.heap.size E el 3 (T.edge i) := by rw [hele]; exact (Rd.below he3 hB0 (Nat.le_refl _)).mono hB0.size
  have HV := hid (show 0 ≤ v ∧ v < T.W i from ⟨hv0, hv1⟩)
  clear IH hX hP hR hL hn hsec he3 he4 hnn hele hex hB0 hv0 hv1
  go_enter Try.func65, Try.ntmps65
  go_wp2_with fail
  refine (from_any T i E el ec v w1 hR1 (by omega) he1 he2 (by rw [HEL.out]; exact Trel.sorted HSEC.out) (by rw [HEL.out]; exact HEX.out)).mono ?_
  rintro e w2 ⟨b, o, lo, hi, rfl, hlh, hhm, HF, rfl, kb⟩
  have hsub : Rd w0 w0.heap.size (some ⟨b, o + lo * 3, none⟩) (hi - lo) 3 (fun j k' => if k' = 0 then .int .i64 (T.fr i (lo + j)) else if k' = 1 then .int .i64 (T.lb i (lo + j)) else .int .i64 (T.to i (lo + j))) := fun j hj => by
    obtain ⟨b9, o9, e9, hb9, hc9⟩ := HRd.out (lo + j) (by have := HEL.out; omega)
    injection e9 with e9
    injection e9 with e8 e9
    subst e8 e9
    refine ⟨b, o + lo * 3, rfl, hb9, fun q hq => ?_⟩
    have := hc9 q hq
    rw [show o + (lo + j) * 3 + q = o + lo * 3 + j * 3 + q by rw [Nat.add_mul]; omega] at this
    exact this
  have HALL := hid fun p => Trel.dnTo_all (T := T) (i := i) (r := r) (lo := lo) (hi := hi) (v := v) HNN.out (Nat.le_of_lt hlh) (by have := HEL.out; omega) (by rw [← HEL.out]; exact HF) p
  replace hS := hS.on HX.out kb
  have HSUB := hid hsub
  obtain ⟨m, hm⟩ : ∃ m, m = hi - lo := ⟨_, rfl⟩
  obtain ⟨oo, hoo⟩ : ∃ m, m = o + lo * 3 := ⟨_, rfl⟩
  have hme : lo + m ≤ el := by omega
  have hmc : m ≤ ec - lo := by omega
  obtain ⟨cc, hcc⟩ : ∃ m, m = ec - lo := ⟨_, rfl⟩
  rw [← hm, ← hoo] at HSUB
  rw [← hm] at HALL
  rw [← hcc] at hmc
  rw [← hm, ← hoo, ← hcc]
  have hcm : cc ≤ maxLen := by omega
  unfold maxLen at hcm
  have HS := hid hS
  have hm20 : m ≤ 1048576 := by omega
  clear hsub hm hoo hcc HF hhm hlh p1 p2 x0 heb kb hS hR1 he2 he1
  go_wp2
  go_loopg [27] m (fun g iv wx => ∃ (q : Nat) (f' : Nat → Int), iv = .int .i64 (q : Nat) ∧ q ≤ m ∧ m ≤ q + g ∧ Hid (WSt T A (some ⟨eb, eo, none⟩) c d ⟨bt, gw, bw, bo, bk, H⟩ w0 wx (L ++ T.dnTo i r lo q (pre f i)) f') ∧ Hid (∀ k, k < i → f' k = f k))
  case atStart => exact ⟨0, f, rfl, by omega, by omega, by
    have : T.dnTo i r lo 0 (pre f i) = [] := rfl
    rw [this, List.append_nil]
    exact HS, hid fun _ _ => rfl⟩
  case round =>
    clear HS
    obtain ⟨q, f', rfl, hq, hqg, HS, HFF⟩ := hrel
    have hq0 : (0 : Int) ≤ (q : Int) := by omega
    by_cases hlt : q < m
    · have hlt' : (q : Int) < (m : Int) := by omega
      obtain ⟨b9, o9, e9, hb9, hc9⟩ := (Rd.below HSUB.out HS.out.low (Nat.le_refl _)).mono HS.out.low.size q hlt
      injection e9 with e9
      injection e9 with e8 e9
      subst e8 e9
      have y0 := hc9 0 (by omega)
      have y1 := hc9 1 (by omega)
      have y2 := hc9 2 (by omega)
      change wr.cell? ⟨b, oo + q * 3 + 0, none⟩ = some (.int .i64 (T.fr i (lo + q))) at y0
      change wr.cell? ⟨b, oo + q * 3 + 1, none⟩ = some (.int .i64 (T.lb i (lo + q))) at y1
      change wr.cell? ⟨b, oo + q * 3 + 2, none⟩ = some (.int .i64 (T.to i (lo + q))) at y2
      rw [Nat.add_zero] at y0
      obtain ⟨i1, i2, i3, i4⟩ := HINS.out (lo + q) (by have := HEL.out; omega)
      have HDS := hid (T.dnTo_succ i r lo q (pre f i))
      have HDM := hid (T.dnTo_mono i r lo (pre f i) (show q + 1 ≤ m by omega))
      obtain ⟨fv, hfv⟩ : ∃ z, z = T.fr i (lo + q) := ⟨_, rfl⟩
      obtain ⟨lv, hlv⟩ : ∃ z, z = T.lb i (lo + q) := ⟨_, rfl⟩
      obtain ⟨tv, htv⟩ : ∃ z, z = T.to i (lo + q) := ⟨_, rfl⟩
      rw [← hfv] at y0
      rw [← hlv] at y1
      rw [← htv] at y2
      rw [← htv] at i3 i4
      rw [← htv, ← hlv] at HDS
      have HT0 := hid (show 0 ≤ tv ∧ tv < T.W (i + 1) from ⟨i3, i4⟩)
      clear hfv hlv htv i1 i2 i3 i4 hc9
      go_upto_region 5 with fail
      obtain ⟨OB, hOB⟩ : ∃ o, o = (Obj.cells #[Value.int .i64 fv, Value.int .i64 lv, Value.int .i64 tv] 72) := ⟨_, rfl⟩
      rw [← hOB]
      have kb : Below wr.heap.size wr (wr.alloc OB) := (Below.refl _ _).alloc (Nat.le_refl _) _
      have hc1 : (wr.alloc OB).cell? ⟨wr.heap.size, 1, none⟩ = some (.int .i64 lv) := by subst hOB; exact tbox (Below.refl _ _) rfl
      have hc2 : (wr.alloc OB).cell? ⟨wr.heap.size, 2, none⟩ = some (.int .i64 tv) := by subst hOB; exact tbox (Below.refl _ _) rfl
      have HGX : Hid (gw ≠ wr.heap.size) := by
        show gw ≠ _
        have h1 := HS.out.hw
        have h2 := HX.out.g.2
        dsimp only at h1 h2
        omega
      obtain ⟨w3, hw3⟩ : ∃ W, W = wr.alloc OB := ⟨_, rfl⟩
      obtain ⟨pb, hpb⟩ : ∃ b, b = wr.heap.size := ⟨_, rfl⟩
      rw [← hw3] at kb hc1 hc2 ⊢
      rw [← hpb] at hc1 hc2 HGX ⊢
      have hS := HS.out.on HX.out kb
      clear hpb hw3 hOB kb y0 y1 y2 hb9 HS
      have p2 := hS.pw
      have q0 := hS.row.cell (i := i) (by have := HN.out; omega)
      have z0 := hS.row.frozen i
      dsimp only at p2 q0 z0
      rw [← HN.out] at p2
      have HSL := hid (hS.letter HX.out i lv)
      clear hS
      go_upto_region 6 with fail
      obtain ⟨w4, hw4⟩ : ∃ W, W = w3.setCell ⟨gw, i, none⟩ (.int .i64 lv) := ⟨_, rfl⟩
      dsimp only at HSL
      rw [← hw4] at HSL ⊢
      replace hc2 := (show w4.cell? ⟨pb, 2, none⟩ = some (.int .i64 tv) by rw [hw4]; exact cell_setCell_far hc2 fun e => HGX.out e.symm)
      have p3 := HSL.out.pk
      dsimp only at p3
      clear hc1 hw4 p2 q0 z0
      go_wp2_with fail
      refine (HIH.out tv (L ++ T.dnTo i r lo q (pre f i)) (fun k => if k = i then lv else f' k) w4 HT0.out.1 HT0.out.2 HSL.out (by
        have h1 := HDM.out
        have h2 := congrArg List.length HDS.out
        have h3 := congrArg List.length (HALL.out (pre f i))
        have h4 := HL.out
        rw [List.length_append, List.length_map] at h2
        rw [List.length_map] at h3
        rw [List.length_append]
        omega)).mono ?_
      rintro e w5 ⟨rfl, f'', hS5, hf5⟩
      have HN5 : Hid (WSt T A (some ⟨eb, eo, none⟩) c d ⟨bt, gw, bw, bo, bk, H⟩ w0 w5 (L ++ T.dnTo i r lo (q + 1) (pre f i)) f'') := by
        show WSt _ _ _ _ _ _ _ _ _ _
        have e1 : pre (fun k => if k = i then lv else f' k) (i + 1) = pre f i ++ [lv] := by
          rw [pre_succ, if_pos rfl]
          congr 1
          exact pre_congr fun k hk => by
            show (if k = i then lv else f' k) = _
            rw [if_neg (by omega)]
            exact HFF.out k hk
        rw [e1, List.append_assoc, ← HDS.out] at hS5
        exact hS5
      have HF5 : Hid (∀ k, k < i → f'' k = f k) := fun k hk => by
        rw [hf5 k (by omega)]
        show (if k = i then lv else f' k) = _
        rw [if_neg (by omega)]
        exact HFF.out k hk
      clear hS5 hf5 p3 hc2
      go_wp2
      go_roundg (gk - 1)
      case measure => omega
      case rel => exact ⟨q + 1, f'', by go_num, by omega, by omega, HN5, HF5⟩
    · obtain rfl : q = m := by omega
      go_wp2
      go_end0
      exact ⟨rfl, f', by rw [HALL.out] at HS; exact HS.out, HFF.out⟩
theorem down_any (T : Trel) (A B : Option Addr) (c d : Nat) (X : WBlocks) (w0 : World) (hX : X.Ok w0.heap.size) (hP : T.Proper) (hR : T.Reads w0 A B) : ∀ (r i : Nat), i + r = T.n → ∀ (v : Int) (L : List (List Int)) (f : Nat → Int) (w : World), 0 ≤ v → v < T.W i → WSt T A B c d X w0 w L f → L.length + (T.dn r v).length ≤ 65536 →
    Calls Try.prog 65 #[.int .i64 (i : Nat), .int .i64 v, .pointer (some ⟨X.bw, 0, none⟩), .pointer (some ⟨X.bo, 0, none⟩), .pointer (some ⟨X.bt, 0, none⟩), .pointer (some ⟨X.bk, 0, none⟩)] w (DownPost T A B c d X w0 i (L ++ (T.dn r v).map fun s => pre f i ++ s) f) := by
  intro r
  induction r with
  | zero =>
    intro i hn v L f w _ _ hS hL
    obtain rfl : i = T.n := by omega
    have := down_zero T A B c d X w0 hX hP.shape.n64 v L f w hS (by omega)
    simpa [Trel.dn] using this
  | succ r ih =>
    intro i hn v L f w h0 h1 hS hL
    refine down_succ T A B c d X w0 hX hP hR r i hn (fun v L f w h0 h1 hS hL => ?_) v h0 h1 L f w hS hL
    have := ih (i + 1) (by omega) v L f w h0 h1 hS hL
    rwa [show ((i + 1 : Nat) : Int) = (i : Int) + 1 by omega] at this
end Go.Proofs.Ytnocbkhnmdmfhaa
