/- flow.Routes. -/
import Derived.Test.YthdeldaeghhfgaaRouteMem
import Derived.Test.YthdeldaeghhfgaaClone
import Derived.Test.YthdeldaeghhfgaaAccept
import Derived.Test.YthdeldaeghhfgaaIndexFunc
import Derived.Deep.CutBlock
namespace Go.Proofs.Ythdeldaeghhfgaa
open Go.RowKit Go.Maps

theorem Try.infoRows : (Try.prog.info? 33).map (fun i => (i.zero, i.size, i.bytes)) = some (some (.slice none 0 0), 1, 24) := by kernel_rfl
/-- What Routes leaves: the error, or routes whose sum is the flow. -/
def RoutesPost (N : Net) (s t val : Int) (m : Nat) (f : Nat → Int) (ms : Nat) (sd : Nat → Bool) (w : World) (e : Ending) (w' : World) : Prop :=
  Below w.heap.size w w' ∧ ∃ x, AccE (N.endsE s t) (N.Cert s t val m f ms sd) x ∧ ((x ≠ 0 ∧ e = .returned (.tuple #[.slice none 0 0, .int .i64 x])) ∨
    (x = 0 ∧ ∃ T K c base RA RL AM PT, e = .returned (.tuple #[.slice T K c, .int .i64 0]) ∧ K ≤ c ∧ c ≤ maxLen ∧ RTab w' base (.slice T K c) K RA RL AM ∧ RoutesTo N s t f RA RL AM PT K ∧ (∀ i, i < N.n → gAt f RA RL AM K i = 0) ∧ vAt val AM PT K = 0 ∧ K ≤ N.n))

set_option maxRecDepth 100000 in
set_option maxHeartbeats 16000000 in
theorem routes_any (N : Net) (A F S : Option Addr) (c m d ms ds : Nat) (s t val : Int) (f : Nat → Int) (sd : Nat → Bool) (w : World) (h : N.Reads w w.heap.size A) (hf : Ints w w.heap.size F m f) (hs : Bools w w.heap.size S ms sd) (hmd : m ≤ d) :
    Calls Try.prog 30 #[.agg #[.int .i64 N.V, .slice A N.n c], .int .i64 s, .int .i64 t, .agg #[.int .i64 val, .slice F m d, .slice S ms ds]] w (RoutesPost N s t val m f ms sd w) := by
  have hb0 : Below w.heap.size w (boxed w N A c val F m d S ms ds) := boxed_below boxed_start
  go_enter Try.func30, Try.ntmps30
  go_wp2_with fail
  refine (flowCheck_any N A F S c m d ms ds s t val f sd (boxed w N A c val F m d S ms ds) (h.on hb0) (hf.on hb0) (hs.on hb0)).mono ?_
  rintro e w1 ⟨⟨x, hx, rfl⟩, hb⟩
  have hB := boxed_on boxed_start hb
  obtain ⟨p0, p1, p2, p3, p4⟩ := boxed_cells hB
  have hB' := boxed_below hB
  clear hb hb0
  by_cases hx0 : x = 0
  rotate_left
  · have hx1 : (x != 0) = true := by simpa using hx0
    have HX := hid hx
    have HX0 := hid hx0
    clear hx hx0
    go_wp2
    go_ret2
    exact ⟨hB', x, HX.out, .inl ⟨HX0.out, rfl⟩⟩
  subst hx0
  obtain ⟨hE, hC⟩ := hx.zero.1 rfl
  have hends := ends_of hE
  have HACC := hid hx
  have HEN := hid hends
  have HCERT := hid hC
  have hn := hends.good.n2
  have hv1 := hends.good.v1
  have hv2 := hends.good.v2
  have hs0 := hends.s0
  have hs1 := hends.s1
  have hne := hends.ne
  obtain rfl : N.n = m := hC.1.1.symm
  have hHB := hid hB
  clear hx hE hC hends
  have hlt := boxed_lt hB
  go_wp2_with fail
  refine (cloneInts_any F N.n d f w1 (hf.on hB') hmd (by omega)).mono ?_
  rintro e w2 ⟨LA, lc, rfl, hL, kb⟩
  have hB2 := onS hB' kb
  replace p0 := cellS kb p0
  replace p1 := cellS kb p1
  replace p2 := cellS kb p2
  have hk2 := kb.size
  have hz0 : w.heap.size < w2.heap.size := by omega
  have hz1 : w.heap.size + 1 < w2.heap.size := by omega
  clear p3 p4 kb hB hHB
  have hmk := fun W => run_makeI (P := Try.prog) 76 33 _ 24 Try.underlying76 Try.infoRows rfl N.V (by omega) (by omega) (by omega) W
  go_upto_region 7 with fail
  have hBa : Below w2.heap.size w2 (((w2.alloc (Obj.cells #[Value.slice LA N.n lc] 33)).alloc (Obj.cells (madeCells #[Value.slice none 0 0] N.V.toNat) 33)).alloc (Obj.cells #[Value.slice (some ⟨w2.heap.size + 1, 0, none⟩) N.V.toNat N.V.toNat] 76)) := (((Below.refl _ w2).alloc (Nat.le_refl _) _).alloc (by simp) _).alloc (by simp; omega) _
  have q11 : (((w2.alloc (Obj.cells #[Value.slice LA N.n lc] 33)).alloc (Obj.cells (madeCells #[Value.slice none 0 0] N.V.toNat) 33)).alloc (Obj.cells #[Value.slice (some ⟨w2.heap.size + 1, 0, none⟩) N.V.toNat N.V.toNat] 76)).cell? ⟨w2.heap.size, 0, none⟩ = some (.slice LA N.n lc) := by go_simp
  have q13 : (((w2.alloc (Obj.cells #[Value.slice LA N.n lc] 33)).alloc (Obj.cells (madeCells #[Value.slice none 0 0] N.V.toNat) 33)).alloc (Obj.cells #[Value.slice (some ⟨w2.heap.size + 1, 0, none⟩) N.V.toNat N.V.toNat] 76)).cell? ⟨w2.heap.size + 1 + 1, 0, none⟩ = some (Value.slice (some ⟨w2.heap.size + 1, 0, none⟩) N.V.toNat N.V.toNat) := by go_simp
  have hsz : (((w2.alloc (Obj.cells #[Value.slice LA N.n lc] 33)).alloc (Obj.cells (madeCells #[Value.slice none 0 0] N.V.toNat) 33)).alloc (Obj.cells #[Value.slice (some ⟨w2.heap.size + 1, 0, none⟩) N.V.toNat N.V.toNat] 76)).heap.size = w2.heap.size + 3 := by simp
  have hrow : (((w2.alloc (Obj.cells #[Value.slice LA N.n lc] 33)).alloc (Obj.cells (madeCells #[Value.slice none 0 0] N.V.toNat) 33)).alloc (Obj.cells #[Value.slice (some ⟨w2.heap.size + 1, 0, none⟩) N.V.toNat N.V.toNat] 76)).rowIs (w2.heap.size + 1) 33 N.V.toNat (fun _ => .slice none 0 0) := by
    have h1 := World.rowIs_made (w2.alloc (Obj.cells #[Value.slice LA N.n lc] 33)) (.slice none 0 0) N.V.toNat 33
    have h2 := h1.alloc (Obj.cells #[Value.slice (some ⟨w2.heap.size + 1, 0, none⟩) N.V.toNat N.V.toNat] 76)
    simpa using h2
  generalize hwa : World.alloc (World.alloc (World.alloc w2 _) _) _ = wa at hBa q11 q13 hsz hrow ⊢
  clear hwa hmk
  have P0 := hid p0
  have P1 := hid p1
  replace p0 := cellS hBa p0
  replace p1 := cellS hBa p1
  replace p2 := cellS hBa p2
  obtain ⟨i0, qi0, qz0, qz1, qz2⟩ := info_parts Try.infoInt
  go_wp2
  go_loopg [49] N.n (fun gg iv wr => ∃ k F, k ≤ N.n ∧ N.n ≤ k + gg ∧ iv = .int .i64 (k : Nat) ∧ w2.heap.size + 3 ≤ wr.heap.size ∧ Below w2.heap.size w2 wr ∧ wr.cell? ⟨w2.heap.size, 0, none⟩ = some (.slice LA N.n lc) ∧ wr.cell? ⟨w2.heap.size + 1 + 1, 0, none⟩ = some (Value.slice (some ⟨w2.heap.size + 1, 0, none⟩) N.V.toNat N.V.toNat) ∧
      TabOwn wr (w2.heap.size + 1) (w2.heap.size + 3) 33 3 1 N.V.toNat F (fun v => (outsTo N v k).length) (fun v => outCell (outsTo N v k)))
  case atStart => exact ⟨0, fun _ => .slice none 0 0, by omega, by omega, rfl, by omega, hBa, q11, q13, hrow, fun v hv => Own.nil _ _ _ _ _, fun v u _ _ _ => .inl rfl⟩
  case round =>
    obtain ⟨k, F1, hk, hkn, rfl, hW3, hB, r11, r13, hT⟩ := hrel
    clear q11 q13 p0 p1 p2 hBa hrow
    have hB' : Below w.heap.size w wr := hB2.trans (hB.mono (by omega))
    have hw2 : w2.heap.size + 1 < wr.heap.size := hT.row.lt
    have hw1 : w2.heap.size < wr.heap.size := by omega
    have hw3 : w2.heap.size + 1 + 1 < wr.heap.size := (by
      by_cases e : w2.heap.size + 1 + 1 < wr.heap.size
      · exact e
      · have h0 : wr.heap[w2.heap.size + 1 + 1]? = none := Array.getElem?_eq_none_iff.2 (by omega)
        simp [World.cell?, h0] at r13)
    by_cases hlt : k < N.n
    · have hlt' : (k : Int) < (N.n : Int) := by omega
      have hk0 : (0 : Int) ≤ (k : Int) := by omega
      obtain ⟨ba, oa, rfl, hba, a0, a1, a2⟩ := (h.on hB').at hlt
      obtain ⟨g0, g1, g2, g3, g4, g5⟩ := HEN.out.good.arc k hlt
      have g1' : N.fr k < (N.V.toNat : Int) := by omega
      have g1'' : N.fr k < max N.V 0 := by omega
      have f0 : wr.cell? ⟨w2.heap.size + 1, (N.fr k).toNat, none⟩ = some (F1 (N.fr k).toNat) := hT.row.cell (by omega)
      have f1 : wr.frozen? ⟨w2.heap.size + 1, (N.fr k).toNat, none⟩ = false := hT.row.frozen _
      have hl1 := outs_len N (N.fr k).toNat k
      have HO := hT.own (N.fr k).toNat (by omega)
      obtain ⟨fv, hfv⟩ : ∃ fv, fv = F1 (N.fr k).toNat := ⟨_, rfl⟩
      rw [← hfv] at f0 HO
      have HFV := hid hfv
      clear hfv
      have n3 : Hid ((outsTo N (N.fr k).toNat k).length + 1 ≤ maxLen) := by show _ ≤ _; unfold maxLen; omega
      have n4 : Hid (((outsTo N (N.fr k).toNat k).length + 1) * 8 ≤ 140737488355328) := by show _ ≤ _; omega
      have FNE : Hid (some (w2.heap.size + 1) ≠ fv.ownBlock) := fun e => by have := (HO.lt _ e.symm).1; omega
      have FN2 : Hid (some (w2.heap.size + 1 + 1) ≠ fv.ownBlock) := fun e => by have := (HO.lt _ e.symm).1; omega
      have FN1 : Hid (some w2.heap.size ≠ fv.ownBlock) := fun e => by have := (HO.lt _ e.symm).1; omega
      have FN3 : Hid (some wr.heap.size ≠ fv.ownBlock) := fun e => by have := (HO.lt _ e.symm).2; omega
      have FB : Hid (∀ q, fv.ownBlock = some q → w2.heap.size + 3 ≤ q) := fun q e => (HO.lt q e).1
      have HW3 : Hid (w2.heap.size + 3 ≤ wr.heap.size) := hW3
      have LM : Hid (∀ u, outsTo N u (k + 1) = if u = (N.fr k).toNat then outsTo N u k ++ [k] else outsTo N u k) := fun u => by
        show outsTo N u k ++ (if (N.fr k).toNat = u then [k] else []) = _
        by_cases e : u = (N.fr k).toNat
        · rw [if_pos e, if_pos e.symm]
        · rw [if_neg e, if_neg (fun h => e h.symm), List.append_nil]
      clear HO f0 f1
      go_upto_block 1 with fail
      go_cut [] (fun wx => (∃ F', TabOwn wx (w2.heap.size + 1) (w2.heap.size + 3) 33 3 1 N.V.toNat F' (fun v => (outsTo N v (k + 1)).length) (fun v => outCell (outsTo N v (k + 1)))) ∧
        w2.heap.size + 3 ≤ wx.heap.size ∧ Below w2.heap.size w2 wx ∧ wx.cell? ⟨w2.heap.size, 0, none⟩ = some (.slice LA N.n lc) ∧ wx.cell? ⟨w2.heap.size + 1 + 1, 0, none⟩ = some (Value.slice (some ⟨w2.heap.size + 1, 0, none⟩) N.V.toNat N.V.toNat))
      case first =>
        have hW := HW3.out
        go_upto_region 10 with fail
        obtain ⟨w3, hw3⟩ : ∃ W, W = wr.alloc (Obj.cells #[Value.int IntKind.i64 (N.fr k), Value.int IntKind.i64 (N.to k), Value.int IntKind.i64 (N.cp k)] 36) := ⟨_, rfl⟩
        have kb : Below wr.heap.size wr w3 := by rw [hw3]; exact (Below.refl _ _).alloc (Nat.le_refl _) _
        have c4 : w3.cell? ⟨wr.heap.size, 0, none⟩ = some (.int .i64 (N.fr k)) := by rw [hw3]; exact World.cell?_alloc_at _ _ _ _ rfl
        rw [← hw3]
        clear hw3
        replace hT := hT.on kb
        replace hW := Nat.le_trans hW kb.size
        replace hB := onS hB kb
        replace r11 := cellS kb r11
        replace r13 := cellS kb r13
        clear kb
        refine wp_region_held_drew (S := fun w' => w'.cell? ⟨w2.heap.size + 1 + 1, 0, none⟩ = some (Value.slice (some ⟨w2.heap.size + 1, 0, none⟩) N.V.toNat N.V.toNat) ∧ w'.cell? ⟨wr.heap.size, 0, none⟩ = some (.int .i64 (N.fr k))) (by kernel_rfl) ⟨cellS (Below.refl _ _).drew r13, cellS (Below.refl _ _).drew c4⟩ (fun hHeld => ?_)
        obtain ⟨w4, hw⟩ : ∃ W, W = World.drew w3 := ⟨_, rfl⟩
        have kb : Below w3.heap.size w3 w4 := by rw [hw]; exact (Below.refl _ _).drew
        rw [← hw] at hHeld ⊢
        clear hw
        replace hT := hT.on kb
        replace hW := Nat.le_trans hW kb.size
        replace hB := onS hB kb
        replace r11 := cellS kb r11
        replace r13 := cellS kb r13
        replace c4 := cellS kb c4
        clear kb
        refine wpAnyH_take (i := 0) (v := ?_) (by simp only [List.getElem?_toArray, List.getElem?_cons_zero]; rfl) (by kernel_rfl) (by kernel_rfl) (by kernel_rfl) (by exact fun _ _ _ h => h) (Or.inl ⟨by rfl, ?_⟩) (by assumption) ?_
        rotate_left
        · (intro w hSw; (try dsimp only at hSw); go_simp); first | done | with_reducible rfl
        try simp only [Act.put, List.setIfInBounds_toArray, List.set_cons_zero, List.set_cons_succ]
        refine wpAnyH_take (i := 1) (v := ?_) (by simp only [List.getElem?_toArray, List.getElem?_cons_succ, List.getElem?_cons_zero]; rfl) (by kernel_rfl) (by kernel_rfl) (by kernel_rfl) (by exact fun _ _ _ h => h) (Or.inl ⟨by rfl, ?_⟩) (by assumption) ?_
        rotate_left
        · (intro w hSw; (try dsimp only at hSw); go_simp); first | done | with_reducible rfl
        try simp only [Act.put, List.setIfInBounds_toArray, List.set_cons_zero, List.set_cons_succ]
        refine wpAnyH_take (i := 2) (v := ?_) (by simp only [List.getElem?_toArray, List.getElem?_cons_succ, List.getElem?_cons_zero]; rfl) (by kernel_rfl) (by kernel_rfl) (by kernel_rfl) (by exact fun _ _ _ h => h) (Or.inl ⟨by rfl, ?_⟩) (by assumption) ?_
        rotate_left
        · (intro w hSw; (try dsimp only at hSw); go_simp); first | done | with_reducible rfl
        try simp only [Act.put, List.setIfInBounds_toArray, List.set_cons_zero, List.set_cons_succ]
        refine wpAnyH_take (i := 3) (v := ?_) (by simp only [List.getElem?_toArray, List.getElem?_cons_succ, List.getElem?_cons_zero]; rfl) (by kernel_rfl) (by kernel_rfl) (by kernel_rfl) (by exact fun _ _ _ h => h) (Or.inl ⟨by rfl, ?_⟩) (by assumption) ?_
        rotate_left
        · (intro w hSw; (try dsimp only at hSw); go_simp); first | done | with_reducible rfl
        try simp only [Act.put, List.setIfInBounds_toArray, List.set_cons_zero, List.set_cons_succ]
        refine wpAnyH_take (i := 4) (v := ?_) (by simp only [List.getElem?_toArray, List.getElem?_cons_succ, List.getElem?_cons_zero]; rfl) (by kernel_rfl) (by kernel_rfl) (by kernel_rfl) (by exact fun _ _ _ h => h) (Or.inl ⟨by rfl, ?_⟩) (by assumption) ?_
        rotate_left
        · (intro w hSw; (try dsimp only at hSw); go_simp); first | done | with_reducible rfl
        try simp only [Act.put, List.setIfInBounds_toArray, List.set_cons_zero, List.set_cons_succ]
        refine wpAnyH_take (i := 5) (v := ?_) (by simp only [List.getElem?_toArray, List.getElem?_cons_succ, List.getElem?_cons_zero]; rfl) (by kernel_rfl) (by kernel_rfl) (by kernel_rfl) (by exact fun _ _ _ h => h) (Or.inl ⟨by rfl, ?_⟩) (by assumption) ?_
        rotate_left
        · (intro w hSw; (try dsimp only at hSw); go_simp); first | done | with_reducible rfl
        try simp only [Act.put, List.setIfInBounds_toArray, List.set_cons_zero, List.set_cons_succ]
        refine wpAnyH_take (i := 6) (v := ?_) (by simp only [List.getElem?_toArray, List.getElem?_cons_succ, List.getElem?_cons_zero]; rfl) (by kernel_rfl) (by kernel_rfl) (by kernel_rfl) (by exact fun _ _ _ h => h) (Or.inl ⟨by rfl, ?_⟩) (by assumption) ?_
        rotate_left
        · (intro w hSw; (try dsimp only at hSw); go_simp); first | done | with_reducible rfl
        try simp only [Act.put, List.setIfInBounds_toArray, List.set_cons_zero, List.set_cons_succ]
        refine wpAnyH_take (i := 8) (v := ?_) (by simp only [List.getElem?_toArray, List.getElem?_cons_succ, List.getElem?_cons_zero]; rfl) (by kernel_rfl) (by kernel_rfl) (by kernel_rfl) (by exact fun _ _ _ h => h) (Or.inl ⟨by rfl, ?_⟩) (by assumption) ?_
        rotate_left
        · (intro w hSw; (try dsimp only at hSw); go_simp); first | done | with_reducible rfl
        try simp only [Act.put, List.setIfInBounds_toArray, List.set_cons_zero, List.set_cons_succ]
        refine wpAnyH_ready (rs := [7, 9]) (by kernel_rfl) (by simp) ?_
        refine AllReadyH.cons (by simp only [List.getElem?_toArray, List.getElem?_cons_succ, List.getElem?_cons_zero]; rfl) (fun K hK => ?_) (AllReadyH.cons (by simp only [List.getElem?_toArray, List.getElem?_cons_succ, List.getElem?_cons_zero]; rfl) (fun K hK => ?_) AllReadyH.nil)
        · have f0 := hT.row.cell (i := (N.fr k).toNat) (by omega)
          rw [← HFV.out] at f0
          go_simp
          clear f0
          refine hK.out _ _ ⟨r13, c4⟩ (fun hHeld => ?_)
          clear hK K
          try simp only [Act.put, List.setIfInBounds_toArray, List.set_cons_zero, List.set_cons_succ]
          refine wpAnyH_ready (rs := [9]) (by kernel_rfl) (by simp) ?_
          refine AllReadyH.cons (by simp only [List.getElem?_toArray, List.getElem?_cons_succ, List.getElem?_cons_zero]; rfl) (fun K hK => ?_) AllReadyH.nil
          go_simp
          obtain ⟨w5, hw⟩ : ∃ W, W = World.alloc w4 (Obj.cells #[Value.int IntKind.i64 (k : Int)] 3) := ⟨_, rfl⟩
          have kb : Below w4.heap.size w4 w5 := by rw [hw]; exact (Below.refl _ _).alloc (Nat.le_refl _) _
          have n1 : w5.cell? ⟨w4.heap.size, 0, none⟩ = some (.int .i64 (k : Int)) := by rw [hw]; exact World.cell?_alloc_at _ _ _ _ rfl
          rw [← hw]
          clear hw
          obtain ⟨nb, hnb⟩ : ∃ b, b = w4.heap.size := ⟨_, rfl⟩
          rw [← hnb] at n1 ⊢
          clear hnb
          replace hT := hT.on kb
          replace hW := Nat.le_trans hW kb.size
          replace hB := onS hB kb
          replace r11 := cellS kb r11
          replace r13 := cellS kb r13
          replace c4 := cellS kb c4
          clear kb
          refine hK.out _ _ ⟨r13, c4⟩ (fun hHeld => ?_)
          clear hK K
          try simp only [Act.put, List.setIfInBounds_toArray, List.set_cons_zero, List.set_cons_succ]
          refine wpAnyH_ready (rs := [10]) (by kernel_rfl) (by simp) ?_
          refine AllReadyH.cons (by simp only [List.getElem?_toArray, List.getElem?_cons_succ, List.getElem?_cons_zero]; rfl) (fun K hK => ?_) AllReadyH.nil
          have f0 := hT.row.cell (i := (N.fr k).toNat) (by omega)
          have z0 := hT.row.frozen (N.fr k).toNat
          rw [← HFV.out] at f0
          have HO1 : Own w5 (w2.heap.size + 3) 3 1 fv (outsTo N (N.fr k).toNat k).length (outCell (outsTo N (N.fr k).toNat k ++ [k])) := by
            have h1 := hT.own (N.fr k).toNat (by omega)
            rw [← HFV.out] at h1
            exact h1.congr fun i hi j _ => outCell_append hi
          have n2 : ∀ j, j < 1 → w5.cell? ((⟨nb, 0, none⟩ : Addr).add j) = some (outCell (outsTo N (N.fr k).toNat k ++ [k]) (outsTo N (N.fr k).toNat k).length j) := fun j hj => by
            obtain rfl : j = 0 := by omega
            rw [outCell_last]; exact n1
          have hwl := hT.row.lt
          have hbl := hB.size
          refine step_append_at _ (by rfl) (.tmp 61) (.tmp 63) _ (by rfl) (w2.heap.size + 3) 3 i0 _ 1 8 Try.underlying33 qi0 qz0 qz1 qz2 rfl (by omega) fv (outsTo N (N.fr k).toNat k).length _ (by rfl) HO1 ⟨nb, 0, none⟩ 1 (by rfl) n2 (fun j hj => rfl) n3.out n4.out hW ?_
          intro bg bo bc v9 hown3 hg3 hat3
          replace r13 := hg3.cell r13 FN2.out
          replace r11 := hg3.cell r11 FN1.out
          replace c4 := hg3.cell c4 FN3.out
          replace f0 := hg3.cell f0 FNE.out
          replace z0 := (hg3.frozen_far ⟨w2.heap.size + 1, (N.fr k).toNat, none⟩ hwl FNE.out).trans z0
          replace hB := hB.grown hg3 (by omega) (fun q e => by have := FB.out q e; omega)
          have hT9 := tab_putO hT (by omega) (v := (N.fr k).toNat) (by omega) HFV.out hown3 hg3 hat3 LM.out
          have hV9 : w2.heap.size + 3 ≤ v9.heap.size := Nat.le_trans hW hg3.size
          clear hT HO1 n1 n2 hg3 hat3 hown3 hwl hbl
          refine hK.out _ _ ⟨r13, c4⟩ (fun hHeld => ?_)
          clear hK K
          try simp only [Act.put, List.setIfInBounds_toArray, List.set_cons_zero, List.set_cons_succ]
          refine wpAnyH_take (i := 11) (v := ?_) (by simp only [List.getElem?_toArray, List.getElem?_cons_succ, List.getElem?_cons_zero]; rfl) (by kernel_rfl) (by kernel_rfl) (by kernel_rfl) (by exact fun _ _ _ h => h) (Or.inl ⟨by rfl, ?_⟩) (by assumption) ?_
          rotate_left
          · (intro w hSw; (try dsimp only at hSw); go_simp); first | done | with_reducible rfl
          try simp only [Act.put, List.setIfInBounds_toArray, List.set_cons_zero, List.set_cons_succ]
          refine wpAnyH_ready (rs := [12]) (by kernel_rfl) (by simp) ?_
          refine AllReadyH.cons (by simp only [List.getElem?_toArray, List.getElem?_cons_succ, List.getElem?_cons_zero]; rfl) (fun K hK => ?_) AllReadyH.nil
          go_simp
          have hW9 : w2.heap.size + 3 ≤ (World.setCell v9 ⟨w2.heap.size + 1, (N.fr k).toNat, none⟩ (Value.slice (some ⟨bg, bo, none⟩) ((outsTo N (N.fr k).toNat k).length + 1) bc)).heap.size := by simp [World.setCell]; exact hV9
          replace hB := hB.setCell (p := ⟨w2.heap.size + 1, (N.fr k).toNat, none⟩) (by simp) (Value.slice (some ⟨bg, bo, none⟩) ((outsTo N (N.fr k).toNat k).length + 1) bc)
          have hne1 : w2.heap.size + 1 + 1 ≠ w2.heap.size + 1 := by omega
          have hne2 : w2.heap.size ≠ w2.heap.size + 1 := by omega
          have hne3 : wr.heap.size ≠ w2.heap.size + 1 := by have := HW3.out; omega
          replace r13 := cell_setCell_far (p := ⟨w2.heap.size + 1, (N.fr k).toNat, none⟩) (u := Value.slice (some ⟨bg, bo, none⟩) ((outsTo N (N.fr k).toNat k).length + 1) bc) r13 hne1
          replace r11 := cell_setCell_far (p := ⟨w2.heap.size + 1, (N.fr k).toNat, none⟩) (u := Value.slice (some ⟨bg, bo, none⟩) ((outsTo N (N.fr k).toNat k).length + 1) bc) r11 hne2
          replace c4 := cell_setCell_far (p := ⟨w2.heap.size + 1, (N.fr k).toNat, none⟩) (u := Value.slice (some ⟨bg, bo, none⟩) ((outsTo N (N.fr k).toNat k).length + 1) bc) c4 hne3
          refine hK.out _ _ ⟨r13, c4⟩ (fun hHeld => ?_)
          clear hK K
          try simp only [Act.put, List.setIfInBounds_toArray, List.set_cons_zero, List.set_cons_succ]
          refine wpAnyH_done (by kernel_rfl) ?_ _
          clear hHeld
          go_wp2_with fail
          go_meet
          exact ⟨hT9, hW9, hB, r11, r13⟩
        · go_simp
          obtain ⟨w5, hw⟩ : ∃ W, W = World.alloc w4 (Obj.cells #[Value.int IntKind.i64 (k : Int)] 3) := ⟨_, rfl⟩
          have kb : Below w4.heap.size w4 w5 := by rw [hw]; exact (Below.refl _ _).alloc (Nat.le_refl _) _
          have n1 : w5.cell? ⟨w4.heap.size, 0, none⟩ = some (.int .i64 (k : Int)) := by rw [hw]; exact World.cell?_alloc_at _ _ _ _ rfl
          rw [← hw]
          clear hw
          obtain ⟨nb, hnb⟩ : ∃ b, b = w4.heap.size := ⟨_, rfl⟩
          rw [← hnb] at n1 ⊢
          clear hnb
          replace hT := hT.on kb
          replace hW := Nat.le_trans hW kb.size
          replace hB := onS hB kb
          replace r11 := cellS kb r11
          replace r13 := cellS kb r13
          replace c4 := cellS kb c4
          clear kb
          refine hK.out _ _ ⟨r13, c4⟩ (fun hHeld => ?_)
          clear hK K
          try simp only [Act.put, List.setIfInBounds_toArray, List.set_cons_zero, List.set_cons_succ]
          refine wpAnyH_ready (rs := [7]) (by kernel_rfl) (by simp) ?_
          refine AllReadyH.cons (by simp only [List.getElem?_toArray, List.getElem?_cons_succ, List.getElem?_cons_zero]; rfl) (fun K hK => ?_) AllReadyH.nil
          have f0 := hT.row.cell (i := (N.fr k).toNat) (by omega)
          rw [← HFV.out] at f0
          go_simp
          clear f0
          refine hK.out _ _ ⟨r13, c4⟩ (fun hHeld => ?_)
          clear hK K
          try simp only [Act.put, List.setIfInBounds_toArray, List.set_cons_zero, List.set_cons_succ]
          refine wpAnyH_ready (rs := [10]) (by kernel_rfl) (by simp) ?_
          refine AllReadyH.cons (by simp only [List.getElem?_toArray, List.getElem?_cons_succ, List.getElem?_cons_zero]; rfl) (fun K hK => ?_) AllReadyH.nil
          have f0 := hT.row.cell (i := (N.fr k).toNat) (by omega)
          have z0 := hT.row.frozen (N.fr k).toNat
          rw [← HFV.out] at f0
          have HO1 : Own w5 (w2.heap.size + 3) 3 1 fv (outsTo N (N.fr k).toNat k).length (outCell (outsTo N (N.fr k).toNat k ++ [k])) := by
            have h1 := hT.own (N.fr k).toNat (by omega)
            rw [← HFV.out] at h1
            exact h1.congr fun i hi j _ => outCell_append hi
          have n2 : ∀ j, j < 1 → w5.cell? ((⟨nb, 0, none⟩ : Addr).add j) = some (outCell (outsTo N (N.fr k).toNat k ++ [k]) (outsTo N (N.fr k).toNat k).length j) := fun j hj => by
            obtain rfl : j = 0 := by omega
            rw [outCell_last]; exact n1
          have hwl := hT.row.lt
          have hbl := hB.size
          refine step_append_at _ (by rfl) (.tmp 61) (.tmp 63) _ (by rfl) (w2.heap.size + 3) 3 i0 _ 1 8 Try.underlying33 qi0 qz0 qz1 qz2 rfl (by omega) fv (outsTo N (N.fr k).toNat k).length _ (by rfl) HO1 ⟨nb, 0, none⟩ 1 (by rfl) n2 (fun j hj => rfl) n3.out n4.out hW ?_
          intro bg bo bc v9 hown3 hg3 hat3
          replace r13 := hg3.cell r13 FN2.out
          replace r11 := hg3.cell r11 FN1.out
          replace c4 := hg3.cell c4 FN3.out
          replace f0 := hg3.cell f0 FNE.out
          replace z0 := (hg3.frozen_far ⟨w2.heap.size + 1, (N.fr k).toNat, none⟩ hwl FNE.out).trans z0
          replace hB := hB.grown hg3 (by omega) (fun q e => by have := FB.out q e; omega)
          have hT9 := tab_putO hT (by omega) (v := (N.fr k).toNat) (by omega) HFV.out hown3 hg3 hat3 LM.out
          have hV9 : w2.heap.size + 3 ≤ v9.heap.size := Nat.le_trans hW hg3.size
          clear hT HO1 n1 n2 hg3 hat3 hown3 hwl hbl
          refine hK.out _ _ ⟨r13, c4⟩ (fun hHeld => ?_)
          clear hK K
          try simp only [Act.put, List.setIfInBounds_toArray, List.set_cons_zero, List.set_cons_succ]
          refine wpAnyH_take (i := 11) (v := ?_) (by simp only [List.getElem?_toArray, List.getElem?_cons_succ, List.getElem?_cons_zero]; rfl) (by kernel_rfl) (by kernel_rfl) (by kernel_rfl) (by exact fun _ _ _ h => h) (Or.inl ⟨by rfl, ?_⟩) (by assumption) ?_
          rotate_left
          · (intro w hSw; (try dsimp only at hSw); go_simp); first | done | with_reducible rfl
          try simp only [Act.put, List.setIfInBounds_toArray, List.set_cons_zero, List.set_cons_succ]
          refine wpAnyH_ready (rs := [12]) (by kernel_rfl) (by simp) ?_
          refine AllReadyH.cons (by simp only [List.getElem?_toArray, List.getElem?_cons_succ, List.getElem?_cons_zero]; rfl) (fun K hK => ?_) AllReadyH.nil
          go_simp
          have hW9 : w2.heap.size + 3 ≤ (World.setCell v9 ⟨w2.heap.size + 1, (N.fr k).toNat, none⟩ (Value.slice (some ⟨bg, bo, none⟩) ((outsTo N (N.fr k).toNat k).length + 1) bc)).heap.size := by simp [World.setCell]; exact hV9
          replace hB := hB.setCell (p := ⟨w2.heap.size + 1, (N.fr k).toNat, none⟩) (by simp) (Value.slice (some ⟨bg, bo, none⟩) ((outsTo N (N.fr k).toNat k).length + 1) bc)
          have hne1 : w2.heap.size + 1 + 1 ≠ w2.heap.size + 1 := by omega
          have hne2 : w2.heap.size ≠ w2.heap.size + 1 := by omega
          have hne3 : wr.heap.size ≠ w2.heap.size + 1 := by have := HW3.out; omega
          replace r13 := cell_setCell_far (p := ⟨w2.heap.size + 1, (N.fr k).toNat, none⟩) (u := Value.slice (some ⟨bg, bo, none⟩) ((outsTo N (N.fr k).toNat k).length + 1) bc) r13 hne1
          replace r11 := cell_setCell_far (p := ⟨w2.heap.size + 1, (N.fr k).toNat, none⟩) (u := Value.slice (some ⟨bg, bo, none⟩) ((outsTo N (N.fr k).toNat k).length + 1) bc) r11 hne2
          replace c4 := cell_setCell_far (p := ⟨w2.heap.size + 1, (N.fr k).toNat, none⟩) (u := Value.slice (some ⟨bg, bo, none⟩) ((outsTo N (N.fr k).toNat k).length + 1) bc) c4 hne3
          refine hK.out _ _ ⟨r13, c4⟩ (fun hHeld => ?_)
          clear hK K
          try simp only [Act.put, List.setIfInBounds_toArray, List.set_cons_zero, List.set_cons_succ]
          refine wpAnyH_done (by kernel_rfl) ?_ _
          clear hHeld
          go_wp2_with fail
          go_meet
          exact ⟨hT9, hW9, hB, r11, r13⟩
      case rest =>
        obtain ⟨⟨F2, hT2⟩, hW4, hB2', c5, c6⟩ := hcut
        clear FNE FN1 FN2 FN3 FB LM n3 n4 HFV hT hB a0 a1 a2 r11 r13
        go_wp2
        go_roundg (gk - 1)
        case measure => omega
        case rel => exact ⟨k + 1, F2, by omega, by omega, by go_num, hW4, hB2', c5, c6, hT2⟩
    · obtain rfl : k = N.n := by omega
      have hL3 := hL.on hB
      have p0 := cellS hB P0.out
      have p1 := cellS hB P1.out
      have LNE : Hid (∀ q, (Value.slice LA N.n lc).ownBlock = some q → w.heap.size + 1 < q ∧ q < w2.heap.size) := fun q e => by have := hL.lt q e; omega
      clear hL P0 P1 hlt
      obtain ⟨wm, hwm⟩ : ∃ W, W = wr := ⟨_, rfl⟩
      rw [← hwm] at hB hB' r11 r13 hT hL3 p0 p1 hw1 hw2 hw3 hW3 ⊢
      clear hwm
      obtain ⟨lb, hlb⟩ : ∃ l, l = (Value.slice LA N.n lc).ownBlock := ⟨_, rfl⟩
      rw [← hlb] at LNE
      have HLB := hid hlb
      clear hlb
      have T0 := hid hT
      have R11 := hid r11
      have R13 := hid r13
      have P0 := hid p0
      have P1 := hid p1
      have L3 := hid hL3
      have HBm := hid hB'
      have HCUT : Hid (sd s.toNat = true ∧ sd t.toNat = false) := ⟨HCERT.out.2.1.2.1, HCERT.out.2.1.2.2⟩
      have HS0 := hid (Rest.start HEN.out HCERT.out)
      clear hT r11 r13 p0 p1 hL3 hB hB'
      go_wp2
      go_loopg [12, 17] (N.n + 1) (fun gg vv rv wT => ∃ K RA RL AM PT, vv = .int .i64 (vAt val AM PT K) ∧ N.n + 1 ≤ K + gg ∧ K + posN (gAt f RA RL AM K) N.n ≤ N.n ∧ RoutesTo N s t f RA RL AM PT K ∧ Rest N s t sd (gAt f RA RL AM K) (vAt val AM PT K) ∧ RTab wT wm.heap.size rv K RA RL AM ∧
        Own wT w1.heap.size 3 1 (.slice LA N.n lc) N.n (fun i _ => .int .i64 (gAt f RA RL AM K i)) ∧ Far lb wm wT ∧ Below w.heap.size w wT ∧ ∀ i, i < N.n → gAt f RA RL AM K i ≤ 1099511627776)
      case atStart => exact ⟨0, fun _ _ => 0, fun _ => 0, fun _ => 0, fun _ => false, rfl, by omega, by have := posN_le f N.n; show 0 + posN f N.n ≤ N.n; omega, fun k hk => by omega, HS0.out, RTab.nil _ _ _ _ _, L3.out, Far.refl _ _, HBm.out, fun i hi => by have h1 := (HCERT.out.1.2.1 i hi).2; have h2 := HEN.out.good.arc i hi; show f i ≤ _; omega⟩
      case round =>
        obtain ⟨gM, hgM⟩ : ∃ g, g = gk := ⟨_, rfl⟩
        subst hgM
        obtain ⟨K, RA, RL, AM, PT, rfl, hgK, hcnt, hR, hrest, hRT, hLw, hF, hBw, hgB⟩ := hrel
        obtain ⟨gf, hgf⟩ : ∃ g, g = gAt f RA RL AM K := ⟨_, rfl⟩
        obtain ⟨vl, hvl⟩ : ∃ v, v = vAt val AM PT K := ⟨_, rfl⟩
        rw [← hgf] at hcnt hrest hLw hgB
        have HGB := hid hgB
        have HCNT := hid hcnt
        clear hgB
        rw [← hvl] at hrest ⊢
        have HGF := hid hgf
        have HVL := hid hvl
        have HR := hid hR
        have HREST := hid hrest
        have HRT := hid hRT
        have r11 := hF.cell R11.out (fun e => by have := (LNE.out _ e.symm).2; simp at this)
        have r13 := hF.cell R13.out (fun e => by have := (LNE.out _ e.symm).2; simp at this; omega)
        have p0 := hF.cell P0.out (fun e => by have := (LNE.out _ e.symm).1; simp at this; omega)
        have p1 := hF.cell P1.out (fun e => by have := (LNE.out _ e.symm).1; simp at this; omega)
        have hT := hF.tab T0.out (fun q e => by have := (LNE.out _ e).2; omega) (by omega)
        have HT := hid hT
        have HLW := hid hLw
        have HF := hid hF
        have HBW := hid hBw
        have hints : Ints wr wr.heap.size LA N.n gf := hLw.rd rfl
        have hKn : K ≤ N.n := by omega
        clear hgf hvl hR hRT hT hF
        obtain ⟨hcr, hv0⟩ := hrest.cross HEN.out HCUT.out.1 HCUT.out.2
        have HCR := hid hcr
        clear hcr hrest
        go_upto_if 70 with fail
        go_cut [18] (fun v18 wx => ∃ v0 : Int, v18 = .int .i64 v0 ∧ wx = wr ∧ 0 ≤ v0 ∧ v0 < N.V ∧ (vl ≠ 0 → v0 = s) ∧ ∃ i, i < N.n ∧ 0 < gf i ∧ N.fr i = v0)
        case first =>
          by_cases hz : vl = 0
          · have HZ := hid hz
            subst hz
            go_wp2_with fail
            refine (indexFunc_any 46 posT (fun _ _ => by kernel_rfl) routes2_any LA N.n lc gf wr hints hn).mono ?_
            rintro e w4 ⟨rfl, rfl⟩
            have hspec := idxTo_spec posT gf N.n
            obtain ⟨ix, hix⟩ : ∃ x, x = idxTo posT gf N.n := ⟨_, rfl⟩
            rw [← hix] at hspec ⊢
            clear hix
            rcases hspec with ⟨rfl, hall⟩ | ⟨i, hi, rfl, hpi⟩
            · have HALL := hid hall
              clear hall
              go_wp2
              go_ret2
              refine ⟨HBW.out, 0, HACC.out, .inr ⟨rfl, ?_⟩⟩
              obtain ⟨A9, C9, hO9, hR9⟩ := HRT.out
              obtain ⟨T9, c9, rfl⟩ := hO9.shape
              obtain ⟨k1, k2⟩ := hO9.cap
              exact ⟨T9, K, c9, wm.heap.size, RA, RL, AM, PT, rfl, k1, k2, ⟨A9, C9, hO9, hR9⟩, HR.out, fun i hi => by
                have h1 := HALL.out i hi
                have h2 := HREST.out.nonneg i hi
                rw [← HGF.out]
                simp [posT] at h1; omega, HVL.out.symm, hKn⟩
            · have HPI := hid hpi
              clear hpi
              have hi0 : (0 : Int) ≤ (i : Int) := by omega
              have hi1 : (i : Int) < (N.n : Int) := by omega
              obtain ⟨ba, oa, rfl, hba, a0, a1, a2⟩ := (h.on HBW.out).at hi
              obtain ⟨g0, g1, g2, g3, g4, g5⟩ := HEN.out.good.arc i hi
              go_wp2
              go_meet
              exact ⟨N.fr i, rfl, rfl, g0, g1, fun e => absurd rfl e, i, hi, by have := HPI.out; simp [posT] at this; exact this, rfl⟩
          · have hz' : (vl == 0) = false := by simpa using hz
            have hz1 : 0 < vl := by omega
            go_wp2
            go_meet
            exact ⟨s, rfl, rfl, hs0, hs1, fun _ => rfl, HREST.out.out hne hs0 hs1 (.inr ⟨rfl, hz1⟩)⟩
        case rest =>
          obtain ⟨v0, rfl, hwc, hv00, hv01, hvs, hex⟩ := hcut
          obtain rfl : wr = wc := hwc.symm
          rename World => wq
          have HVS := hid hvs
          have HEX := hid hex
          have hv02 : v0 ≤ 1000000 := by omega
          have hmm := @run_makeMap Try.prog
          clear hvs hex hwc hLw
          go_upto_block 4 with (first | (refine wpList_insert_own _ rfl (.tmp 82) (.tmp 83) (.const (.int .i64 0)) 79 rfl 3 3 Try.lawInt Try.underlying79 (plainElem (H := Unit) Try.prog 3) wq.heap.size 0 (.map []) rfl (World.ownsMap_made wq _ _ _) (by decide) (.int .i64 v0) (.int .i64 0) (.int .i64 v0) rfl rfl (keyOf_int_mk Try.underlying3 (wf64 hv00 hv02)) (.lit (.int .i64 0)) [] (plainElem_int Try.underlying3 (by decide)) ?_; intro w5 hM5 hg5))
          have hb5 : Below wq.heap.size wq w5 := ((Below.refl _ wq).alloc (Nat.le_refl _) _).grown hg5 (by simp) (fun q e => by injection e with e; omega)
          have hz5 : wq.heap.size < w5.heap.size := hM5.lt
          have hD5 : MapIs ((DataW.map [] : DataW Unit).put (.int .i64 v0) (.lit (.int .i64 0))) (walkV N v0 (fun _ => 0)) (0 + 1) := (mapIs_zero (walkV N v0 (fun _ => 0))).put (fun j hj => by omega)
          have HM5 := hid hM5
          have HD5 := hid hD5
          have HB5 := hid hb5
          have hfw := HF.out.1
          clear hM5 hg5 hD5 hmm
          go_cut [18, 21] (fun v18 v21 wx => ∃ rl ra path A cc, v18 = .int .i64 (N.to (ra (rl - 1))) ∧ v21 = .slice A rl cc ∧ RouteOk N s t ra rl path ∧ (∀ j, j < rl → 0 < gf (ra j)) ∧ Own wx wq.heap.size 3 1 (.slice A rl cc) rl (fun j _ => .int .i64 (ra j : Nat)) ∧ Below wq.heap.size wq wx)
          case first =>
            go_wp2_with fail
            go_loopg [18, 21] N.V.toNat (fun gg x18 x21 wx => ∃ L pa D, x18 = .int .i64 (walkV N v0 pa L) ∧ Walk N gf v0 pa L ∧ N.V.toNat ≤ L + gg ∧ Own wx (wq.heap.size + 1) 3 1 x21 L (fun j _ => .int .i64 (pa j : Nat)) ∧ wMap Try.prog 3 wx wq.heap.size (L + 1) D ∧ MapIs D (walkV N v0 pa) (L + 1) ∧ Below wq.heap.size wq wx ∧ ∃ i, i < N.n ∧ 0 < gf i ∧ N.fr i = walkV N v0 pa L)
            case atStart => exact ⟨0, fun _ => 0, _, rfl, ⟨fun j hj => by omega, fun j k h1 h2 => by omega⟩, by omega, Own.nil _ _ _ _ _, HM5.out, HD5.out, HB5.out, HEX.out⟩
            case round =>
              obtain ⟨L, pa, D, rfl, hW, hgL, hO, hM, hDm, hB, hx⟩ := hrel
              have HEX1 := hid hx
              have HW := hid hW
              have HDM := hid hDm
              have hfew := hW.few HEN.out.good hv00 hv01
              obtain ⟨hc0, hc1⟩ := walkV_rg HEN.out.good hW hv00 hv01 L (Nat.le_refl _)
              obtain ⟨cv, hcv⟩ : ∃ cv : Nat, walkV N v0 pa L = (cv : Int) := ⟨(walkV N v0 pa L).toNat, by omega⟩
              rw [hcv] at hc0 hc1 ⊢
              have HCV := hid hcv
              have y11 := cellS hB r11
              have y13 := cellS hB r13
              have hT1 := HT.out.on hB
              have hl1 : Ints wr wr.heap.size LA N.n gf := hints.on hB
              have hcv1 : cv < N.V.toNat := by omega
              have hex1 : ∃ i, i < N.n ∧ 0 < gf i ∧ N.fr i = (cv : Nat) := by rw [← hcv]; exact HEX1.out
              have hBW := onS HBW.out hB
              clear hcv hx hDm hW
              go_wp2_with fail
              refine (next_any N 33 (w2.heap.size + 1 + 1) w2.heap.size (w2.heap.size + 1) (w2.heap.size + 3) lc N.V.toNat N.V.toNat cv _ LA gf wr HEN.out.good hT1 hcv1 hl1 y13 y11 hex1).mono ?_
              rintro e w6 ⟨⟨i, rfl, hi, hpi, hfi⟩, rfl⟩
              have HPI := hid hpi
              have HFI := hid hfi
              have hi0 : (0 : Int) ≤ (i : Int) := by omega
              have hi1 : (i : Int) < (N.n : Int) := by omega
              clear hpi hfi hex1 hl1 hT1 y11 y13
              have hLM : Hid (L + 1 ≤ maxLen) := by show _ ≤ _; unfold maxLen; omega
              have hLB : Hid ((L + 1) * 8 ≤ 140737488355328) := by show _ ≤ _; omega
              have HO1 : Own wr (wq.heap.size + 1) 3 1 u21 L (fun j _ => .int .i64 (addA pa L i j : Nat)) := hO.congr fun j hj _ _ => by rw [addA_lt hj]
              have N1 : Hid (∀ j, j < 1 → (wr.alloc (Obj.cells #[Value.int IntKind.i64 (i : Int)] 3)).cell? ((⟨wr.heap.size, 0, none⟩ : Addr).add j) = some (.int .i64 (addA pa L i L : Nat))) := fun j hj => by
                obtain rfl : j = 0 := by omega
                rw [addA_at]; exact World.cell?_alloc_at _ _ _ _ rfl
              have hqr := hM.lt
              have hbe : Below wr.heap.size wr (wr.alloc (Obj.cells #[Value.int IntKind.i64 (i : Int)] 3)) := (Below.refl _ wr).alloc (Nat.le_refl _) _
              have M6 := hid (World.ownsMap.alloc hM (Obj.cells #[Value.int IntKind.i64 (i : Int)] 3))
              have B6 := hid (onS hB hbe)
              have BW6 := hid (onS hBW hbe)
              have OLT := hid hO.lt
              clear hO hM hB hbe hBW
              go_upto_region 24 with (first | (at_builtin; (refine wpList_append_one _ rfl (.tmp 88) (.tmp 90) _ rfl (wq.heap.size + 1) 3 i0 _ 1 8 Try.underlying33 qi0 qz0 qz1 qz2 rfl (by omega) u21 L _ rfl (HO1.alloc _) ⟨wr.heap.size, 0, none⟩ 1 rfl N1.out (fun j hj => rfl) hLM.out hLB.out (by simp; omega) ?_); intro v9 w6 hO6 hg6 hat6))
              have hB6 : Below wq.heap.size wq w6 := B6.out.grown hg6 (by simp; omega) (fun q e => by have := (OLT.out q e).1; omega)
              have hBW6 : Below w.heap.size w w6 := BW6.out.grown hg6 (by have := B6.out.size; simp; omega) (fun q e => by have := (OLT.out q e).1; omega)
              have hM6 := World.ownsMap.kept M6.out hg6 (fun e => by have := (OLT.out _ e.symm).1; omega)
              obtain ⟨gb, go, gc, rfl, hgb, hgl, hgc, hgm, hcells⟩ := hO6.form (by omega)
              have y1 := cellS hB6 p1
              obtain ⟨ba, oa, rfl, hba, a0, a1, a2⟩ := (h.on hBW6).at hi
              obtain ⟨g0, g1, g2, g3, g4, g5⟩ := HEN.out.good.arc i hi
              have hkey : keyOf Try.prog 3 (.int .i64 (N.to i)) = some (.int .i64 (N.to i)) := keyOf_int_mk Try.underlying3 (wf64 g2 (by omega))
              have HFW : N.fr i = walkV N v0 pa L := by rw [HCV.out]; exact HFI.out
              have HFH := hid HFW
              have HO6 := hid hO6
              have hLX : Hid (L + 1 < maxLen) := by show _ < _; unfold maxLen; omega
              have HB6 := hid hB6
              clear HFW hcells M6 B6 BW6 OLT N1 HO1 hg6 hat6 hO6 hLM hLB
              cases hD : Maps.has D (.int .i64 (N.to i))
              · have hnew : Hid (∀ j, j ≤ L → walkV N v0 pa j ≠ N.to i) := fun j hj e => by
                  have := (HDM.out.2.1 (N.to i)).2 ⟨j, by omega, e⟩
                  rw [hD] at this; cases this
                have hMap : Hid (MapIs (D.put (.int .i64 (N.to i)) (.lit (.int .i64 ((L + 1 : Nat) : Int)))) (walkV N v0 (addA pa L i)) (L + 1 + 1)) := by
                  have h1 : MapIs D (walkV N v0 (addA pa L i)) (L + 1) := HDM.out.congr fun j hj => (walkV_add j (by omega)).symm
                  have e1 : walkV N v0 (addA pa L i) (L + 1) = N.to i := by show N.to (addA pa L i L) = _; rw [addA_at]
                  have h2 := h1.put fun j hj => by rw [walkV_add j (by omega), e1]; exact hnew.out j (by omega)
                  rw [e1] at h2
                  exact h2
                have hvl0 : Hid (0 ≤ vl) := hv0
                have hnx : Hid (¬ (N.to i = t ∧ 0 < vl) → ∃ k, k < N.n ∧ 0 < gf k ∧ N.fr k = N.to i) := fun hno => HREST.out.out hne g2 g3 (.inl ⟨i, hi, HPI.out, rfl, fun e => by
                  have := hvl0.out
                  by_cases e2 : 0 < vl
                  · exact absurd ⟨e, e2⟩ hno
                  · omega, hvl0.out⟩)
                go_upto_region 28 with (first | (at_lookup; refine wpList_lookup_own_ok_int _ rfl (.tmp 99) (.tmp 100) 79 rfl 3 3 .i64 Try.lawInt Try.underlying79 Try.underlying3 (Try.zeroInt _) wq.heap.size (L + 1) D rfl hM6 (.int .i64 (N.to i)) (.int .i64 (N.to i)) rfl hkey ?_; intro cc hcc hwf; clear hcc hwf))
                by_cases ht1 : N.to i = t
                · by_cases hp1 : 0 < vl
                  · have HT1 := hid ht1
                    have htb : (N.to i == t) = true := by simpa using ht1
                    clear ht1
                    clear hnx hMap
                    go_wp2
                    go_meet
                    exact ⟨L + 1, addA pa L i, true, _, _, by rw [show L + 1 - 1 = L by omega, addA_at], rfl, HW.out.path hi HPI.out HFH.out (HVS.out (by omega)) HT1.out (by rw [← HT1.out]; exact hnew.out), fun j hj => (walk_arc HW.out hi HPI.out HFH.out j hj).2.1, HO6.out.mono (by omega), HB6.out⟩
                  · replace hnx := hid (hnx.out (fun e => hp1 e.2))
                    have hp2 : vl ≤ 0 := by omega
                    have htb : (N.to i == t) = true := by simpa using ht1
                    clear ht1
                    go_wp2_with (first | (at_mapUpdate; refine wpList_mapUpdate_own _ rfl (.tmp 115) (.tmp 116) (.tmp 118) 79 rfl 3 3 Try.lawInt Try.underlying79 (plainElem (H := Unit) Try.prog 3) wq.heap.size (L + 1) D rfl hM6 hLX.out (.int .i64 (N.to i)) (.int .i64 ((L + 1 : Nat) : Int)) (.int .i64 (N.to i)) rfl rfl hkey (.lit (.int .i64 ((L + 1 : Nat) : Int))) [] (plainElem_int Try.underlying3 (wf64 (by omega) (by omega))) ?_; intro w7 hM7 hg7))
                    have hO7 := HO6.out.kept hg7 (.inr (fun e => by
                      have e2 : gb = wq.heap.size := by simpa [Value.ownBlock] using e
                      omega))
                    have hB7 := HB6.out.grown hg7 (by have := HB6.out.size; omega) (fun q e => by injection e with e; omega)
                    go_roundg (gk - 1)
                    case measure => omega
                    case rel => exact ⟨L + 1, addA pa L i, _, by rw [show walkV N v0 (addA pa L i) (L + 1) = N.to i from by show N.to (addA pa L i L) = _; rw [addA_at]], HW.out.step hi HPI.out HFH.out hnew.out, by omega, hO7, hM7, hMap.out, hB7, by rw [show walkV N v0 (addA pa L i) (L + 1) = N.to i from by show N.to (addA pa L i L) = _; rw [addA_at]]; exact hnx.out⟩
                · replace hnx := hid (hnx.out (fun e => ht1 e.1))
                  have htb : (N.to i == t) = false := by simpa using ht1
                  clear ht1
                  go_wp2_with (first | (at_mapUpdate; refine wpList_mapUpdate_own _ rfl (.tmp 115) (.tmp 116) (.tmp 118) 79 rfl 3 3 Try.lawInt Try.underlying79 (plainElem (H := Unit) Try.prog 3) wq.heap.size (L + 1) D rfl hM6 hLX.out (.int .i64 (N.to i)) (.int .i64 ((L + 1 : Nat) : Int)) (.int .i64 (N.to i)) rfl rfl hkey (.lit (.int .i64 ((L + 1 : Nat) : Int))) [] (plainElem_int Try.underlying3 (wf64 (by omega) (by omega))) ?_; intro w7 hM7 hg7))
                  have hO7 := HO6.out.kept hg7 (.inr (fun e => by
                    have e2 : gb = wq.heap.size := by simpa [Value.ownBlock] using e
                    omega))
                  have hB7 := HB6.out.grown hg7 (by have := HB6.out.size; omega) (fun q e => by injection e with e; omega)
                  go_roundg (gk - 1)
                  case measure => omega
                  case rel => exact ⟨L + 1, addA pa L i, _, by rw [show walkV N v0 (addA pa L i) (L + 1) = N.to i from by show N.to (addA pa L i L) = _; rw [addA_at]], HW.out.step hi HPI.out HFH.out hnew.out, by omega, hO7, hM7, hMap.out, hB7, by rw [show walkV N v0 (addA pa L i) (L + 1) = N.to i from by show N.to (addA pa L i L) = _; rw [addA_at]]; exact hnx.out⟩
              · obtain ⟨a, haL, hae⟩ := (HDM.out.2.1 (N.to i)).1 hD
                have CC : Hid (∀ x, D.atKey (.int .i64 (N.to i)) (.lit (.int .i64 0)) = .lit (.int .i64 x) → x = (a : Int)) := fun x hx => by
                  have := HDM.out.2.2 a haL
                  rw [hae, hx] at this
                  injection this with this
                  injection this
                have HAE := hid hae
                have ha0 : (0 : Int) ≤ (a : Int) := by omega
                have ha1 : (a : Int) ≤ ((L + 1 : Nat) : Int) := by omega
                have ha2 : (a : Int) ≤ (L : Int) + 1 := by omega
                have ha3 : a ≤ L + 1 := by omega
                have ha4 : (a : Int) ≤ (gc : Int) := by omega
                clear hae
                go_wp2_with (first | (at_lookup; refine wpList_lookup_own_ok_int _ rfl (.tmp 99) (.tmp 100) 79 rfl 3 3 .i64 Try.lawInt Try.underlying79 Try.underlying3 (Try.zeroInt _) wq.heap.size (L + 1) D rfl hM6 (.int .i64 (N.to i)) (.int .i64 (N.to i)) rfl hkey ?_; intro cc hcc hwf; obtain rfl : cc = (a : Int) := CC.out cc hcc; clear hcc hwf))
                go_meet
                exact ⟨L + 1 - a, fun j => addA pa L i (a + j), false, _, _, by show Value.int IntKind.i64 (N.to i) = Value.int IntKind.i64 (N.to (addA pa L i (a + (L + 1 - a - 1)))); rw [show a + (L + 1 - a - 1) = L by omega, addA_at], rfl, HW.out.circle hi HPI.out HFH.out (by omega) HAE.out.symm, fun j hj => (walk_arc HW.out hi HPI.out HFH.out (a + j) (by omega)).2.1, by
                  have h9 := HO6.out.drop (a := a) ha3
                  rw [Nat.mul_one] at h9
                  exact h9.mono (by omega), HB6.out⟩
          case rest =>
            obtain ⟨rl, ra, path, A5, c5, rfl, rfl, hok, hpos, hO, hB⟩ := hcut
            rename World => wq2
            have HOK := hid hok
            have HPOS := hid hpos
            have hLc := HLW.out.on hB
            have hRTc := HRT.out.on hB
            have hFc := HF.out.on hB
            have hBWc := onS HBW.out hB
            have hrl : 1 ≤ rl := hok.1
            have hr0 : ra 0 < N.n := hok.2.1 0 (by omega)
            have hOr := hO
            obtain ⟨gb, go, gc, hge, hgb, hgl, hgc, hgm, hcells⟩ := hO.form (by omega)
            injection hge with e1 _ e2
            subst e1 e2
            obtain ⟨lg, lo, lcap, hle, hlg, hlgl, hlcn, hlcm, hlcells⟩ := hLc.form (by omega)
            injection hle with e1 _ e2
            subst e1 e2
            have hlbg : lb = some lg := by rw [HLB.out]; rfl
            have hvB : Hid (vl ≤ 1125899906842624) := by
              have h1 := crossTo_bd (N := N) (g := gf) (sd := sd) (B := 1099511627776) (by omega) N.n fun i hi => ⟨HREST.out.nonneg i hi, HGB.out i hi⟩
              rw [← HCR.out] at h1
              show _ ≤ _
              omega
            have HCE : Hid (∀ j, j < rl → wq2.cell? ⟨gb, go + j, none⟩ = some (.int .i64 (ra j : Nat))) := fun j hj => by
              have h1 := hcells j hj 0 (by omega)
              rw [Nat.mul_one, Nat.add_zero] at h1
              exact h1
            have HLE : Hid (∀ i, i < N.n → wq2.cell? ⟨lg, lo + i, none⟩ = some (.int .i64 (gf i))) := fun i hi => by
              have h1 := hlcells i hi 0 (by omega)
              rw [Nat.mul_one, Nat.add_zero] at h1
              exact h1
            have hrlV : rl ≤ 1048576 := by have := hok.few HEN.out.good; omega
            have y11 := cellS hB r11
            have Y11 := hid y11
            have HRO := hid hOr
            have HLC := hid hLc
            have HRC := hid hRTc
            have HFC := hid hFc
            have HBC := hid hBWc
            have P1C := hid (cellS hB p1)
            have c0 := HCE.out 0 (by omega)
            rw [Nat.add_zero] at c0
            have l0 := HLE.out (ra 0) hr0
            obtain ⟨m0, hm0⟩ : ∃ m, m = gf (ra 0) := ⟨_, rfl⟩
            rw [← hm0] at l0
            have HM0 := hid hm0
            have hr0' : ((ra 0 : Nat) : Int) < (N.n : Int) := by omega
            have hr00 : (0 : Int) ≤ ((ra 0 : Nat) : Int) := by omega
            have hrl0 : (0 : Int) < (rl : Int) := by omega
            clear hcells hlcells hO hOr hLc hRTc hFc hBWc hok hpos hm0 hints r13 r11 p0 p1 hB HM5 HD5 HB5
            go_wp2
            go_quiet (fail)
            have hBd : Below wq2.heap.size wq2 (wq2.drewN nq) := below_drewN (Below.refl _ _) nq
            go_wp2
            go_loopg [25, 127] rl (fun gg av iv wx => ∃ j : Nat, iv = .int .i64 (j : Nat) ∧ j ≤ rl ∧ rl ≤ j + gg ∧ av = .int .i64 (minR gf ra j) ∧ Below wq2.heap.size wq2 wx)
            case atStart => exact ⟨0, rfl, by omega, by omega, by rw [HM0.out]; rfl, hBd⟩
            case round =>
              obtain ⟨j, rfl, hj, hjg, rfl, hB⟩ := hrel
              have hj0 : (0 : Int) ≤ (j : Int) := by omega
              obtain ⟨mj, hmj⟩ : ∃ m, m = minR gf ra j := ⟨_, rfl⟩
              rw [← hmj]
              have HMJ := hid hmj
              clear hmj hBd c0 l0 y11
              by_cases hlt : j < rl
              · have hlt' : (j : Int) < (rl : Int) := by omega
                have x1 := cellS hB (HCE.out j hlt)
                have x2 := cellS hB (Y11.out)
                have hrj := HOK.out.2.1 j hlt
                obtain ⟨rj, hrj1⟩ : ∃ r, r = ra j := ⟨_, rfl⟩
                rw [← hrj1] at x1 hrj
                have x3 := cellS hB (HLE.out rj hrj)
                have HRJ := hid hrj1
                have hrj0 : (0 : Int) ≤ (rj : Int) := by omega
                have hrj2 : (rj : Int) < (N.n : Int) := by omega
                obtain ⟨gx, hgx⟩ : ∃ x, x = gf rj := ⟨_, rfl⟩
                rw [← hgx] at x3
                have HGX := hid hgx
                clear hrj1 hgx
                by_cases hmn : gx < mj
                · have hmx : Hid (min mj gx = gx) := Int.min_eq_right (by omega)
                  go_wp2
                  go_roundg (gk - 1)
                  case measure => omega
                  case rel => exact ⟨j + 1, by go_num, by omega, by omega, by show _ = Value.int IntKind.i64 (min (minR gf ra j) (gf (ra j))); rw [← HMJ.out, ← HRJ.out, ← HGX.out, hmx.out], hB⟩
                · have hmx : Hid (min mj gx = mj) := Int.min_eq_left (by omega)
                  go_wp2
                  go_roundg (gk - 1)
                  case measure => omega
                  case rel => exact ⟨j + 1, by go_num, by omega, by omega, by show _ = Value.int IntKind.i64 (min (minR gf ra j) (gf (ra j))); rw [← HMJ.out, ← HRJ.out, ← HGX.out, hmx.out], hB⟩
              · obtain rfl : j = rl := by omega
                rename World => w8
                have hst := routes_step (sd := sd) hne HR.out (by rw [← HGF.out, ← HVL.out]; exact HREST.out) (by rw [← HGF.out]; exact HCNT.out) HOK.out (by rw [← HGF.out]; exact HPOS.out)
                rw [← HGF.out, ← HMJ.out, ← HVL.out] at hst
                obtain ⟨st1, st2, st3, st4, st5, st6⟩ := hst
                have ST1 := hid st1
                have ST2 := hid st2
                have ST3 := hid st3
                have ST4 := hid st4
                have ST5 := hid st5
                have hmle : mj ≤ 1099511627776 := by
                  have h1 := minR_le (g := gf) (ra := ra) j 0 (by omega)
                  have h2 := HGB.out (ra 0) hr0
                  rw [← HMJ.out] at h1
                  omega
                have L8 := HLC.out.on hB
                have RT8 := hid (HRC.out.on hB)
                have F8 := HFC.out.on hB
                have B8 := onS HBC.out hB
                have O8 := HRO.out.on hB
                clear st1 st2 st3 st4 st5 hB
                go_wp2
                go_loopg [140] j (fun gg iv wx => ∃ k : Nat, iv = .int .i64 (k : Nat) ∧ k ≤ j ∧ j ≤ k + gg ∧ Own wx w1.heap.size 3 1 (.slice (some ⟨lg, lo, none⟩) N.n lc) N.n (fun i _ => .int .i64 (subR gf mj ra k i)) ∧ Own wx wq.heap.size 3 1 (.slice (some ⟨gb, go, none⟩) j c5) j (fun i _ => .int .i64 (ra i : Nat)) ∧ RTab wx wm.heap.size u17 K RA RL AM ∧ Far lb wm wx ∧ Below w.heap.size w wx)
                case atStart => exact ⟨0, rfl, by omega, by omega, L8, O8, RT8.out, F8, B8⟩
                case round =>
                  obtain ⟨k, rfl, hk, hkg, hL9, hO9, hRT9, hF9, hB9⟩ := hrel
                  have hk0 : (0 : Int) ≤ (k : Int) := by omega
                  clear L8 RT8 F8 B8 O8
                  have y9 := hF9.cell R11.out (fun e => by have := (LNE.out _ e.symm).2; simp at this)
                  obtain ⟨_, _, _, hge, _, _, _, _, hcells⟩ := hO9.form (by omega)
                  injection hge with e1 _ e2
                  injection e1 with e1
                  injection e1 with e1 e3
                  subst e1 e2 e3
                  by_cases hlt : k < j
                  · have hlt' : (k : Int) < (j : Int) := by omega
                    have x1 := hcells k hlt 0 (by omega)
                    rw [Nat.mul_one, Nat.add_zero] at x1
                    have hrj := HOK.out.2.1 k hlt
                    obtain ⟨rj, hrj1⟩ : ∃ r, r = ra k := ⟨_, rfl⟩
                    rw [← hrj1] at x1 hrj
                    obtain ⟨_, _, _, hge, _, _, _, _, hlcells⟩ := hL9.form (by omega)
                    injection hge with e1 _ e2
                    injection e1 with e1
                    injection e1 with e1 e3
                    subst e1 e2 e3
                    have x3 := hlcells rj hrj 0 (by omega)
                    rw [Nat.mul_one, Nat.add_zero] at x3
                    have x4 := hL9.frozen (lo + rj)
                    have hso : subR gf mj ra k rj = gf rj := subR_off k fun i hi e => by
                      have := HOK.out.apart i k (by omega) hlt (e.trans hrj1)
                      omega
                    rw [hso] at x3
                    have HRJ := hid hrj1
                    have hrj0 : (0 : Int) ≤ (rj : Int) := by omega
                    have hrj2 : (rj : Int) < (N.n : Int) := by omega
                    have hgx1 := HPOS.out k hlt
                    have hgx2 := HGB.out rj hrj
                    rw [← hrj1] at hgx1
                    have hset := hL9.set (a := rj) (b := 0) hrj (by omega) (.int .i64 (gf rj - mj))
                    rw [Nat.mul_one, Nat.add_zero] at hset
                    have hset2 := hset.congr (f' := fun i _ => .int .i64 (subR gf mj ra (k + 1) i)) fun i hi b hb => by
                      show (if i = rj ∧ b = 0 then _ else _) = Value.int IntKind.i64 (if i = ra k then subR gf mj ra k (ra k) - mj else subR gf mj ra k i)
                      obtain rfl : b = 0 := by omega
                      rw [← hrj1]
                      by_cases e : i = rj
                      · rw [if_pos ⟨e, rfl⟩, if_pos e, hso]
                      · rw [if_neg (fun h => e h.1), if_neg e]
                    obtain ⟨gx, hgx⟩ : ∃ x, x = gf rj := ⟨_, rfl⟩
                    rw [← hgx] at x3 hgx1 hgx2 hset2
                    have HGX := hid hgx
                    have HSET := hid hset2
                    clear hrj1 hgx hso hset hset2 hcells hlcells
                    go_wp2
                    go_roundg (gk - 1)
                    case measure => omega
                    case rel =>
                      have hl1 := LNE.out lg hlbg
                      have hfq := HF.out.1
                      have hng : gb ≠ lg := by omega
                      exact ⟨k + 1, by go_num, by omega, by omega, HSET.out, hO9.setCell (fun e => hng (by simpa [Value.ownBlock] using e)) _, hRT9.setLow (by show lg < _; omega) _, hF9.setCell (by rw [hlbg]) _, hB9.setCell (by show _ ≤ lg; omega) _⟩
                  · obtain rfl : k = j := by omega
                    rename World => w9
                    have x0 := hcells 0 (by omega) 0 (by omega)
                    simp only [Nat.zero_mul, Nat.add_zero] at x0
                    have y1 := hF9.cell P1.out (fun e => by have := (LNE.out _ e.symm).1; simp at this; omega)
                    obtain ⟨r0, hr0e⟩ : ∃ r, r = ra 0 := ⟨_, rfl⟩
                    rw [← hr0e] at x0 hr0 hr0' hr00
                    obtain ⟨ba, oa, rfl, hba, a0, a1, a2⟩ := (h.on hB9).at hr0
                    have HR0 := hid hr0e
                    obtain ⟨tv, htv⟩ : ∃ v, v = N.to (ra (k - 1)) := ⟨_, rfl⟩
                    rw [← htv]
                    have HTV := hid htv
                    have HL9 := hid hL9
                    have HO9 := hid hO9
                    have HRT9 := hid hRT9
                    have HF9 := hid hF9
                    have HB9 := hid hB9
                    clear hr0e htv hcells hL9 hO9 hRT9 hF9
                    go_upto_region 41 with fail
                    go_cut [166] (fun b wx => b = .bool path ∧ Below w9.heap.size w9 wx)
                    case first =>
                      cases path
                      · rcases HOK.out.2.2.2.2 with ⟨_, hto⟩ | ⟨hf0, _⟩
                        · rw [← HTV.out, ← HR0.out] at hto
                          by_cases hs : N.fr r0 = s
                          · have hbs : (N.fr r0 == s) = true := by simpa using hs
                            have hbt : (tv == t) = false := by
                              rw [hto, hs]; simpa using hne
                            clear hs hto
                            go_wp2
                            go_quiet (fail)
                            go_wp2
                            go_meet
                            exact ⟨rfl, below_drewN (Below.refl _ _) _⟩
                          · have hbs : (N.fr r0 == s) = false := by simpa using hs
                            clear hs hto
                            go_wp2
                            go_quiet (fail)
                            go_wp2
                            go_meet
                            exact ⟨rfl, below_drewN (Below.refl _ _) _⟩
                        · cases hf0
                      · rcases HOK.out.2.2.2.2 with ⟨hf0, _⟩ | ⟨_, hs, hto, _⟩
                        · cases hf0
                        · rw [← HTV.out] at hto
                          rw [← HR0.out] at hs
                          have hbs : (N.fr r0 == s) = true := by simpa using hs
                          have hbt : (tv == t) = true := by simpa using hto
                          clear hs hto
                          go_wp2
                          go_quiet (fail)
                          go_wp2
                          go_meet
                          exact ⟨rfl, below_drewN (Below.refl _ _) _⟩
                    case rest =>
                      obtain ⟨rfl, hB10⟩ := hcut
                      rename World => w10
                      go_upto_if 166 with fail
                      go_cut [12] (fun v12 wx => v12 = .int .i64 (if path then vl - mj else vl) ∧ wx = w10)
                      case first =>
                        have hvb := hvB.out
                        cases path
                        · go_wp2
                          go_meet
                          exact ⟨rfl, rfl⟩
                        · go_wp2
                          go_meet
                          exact ⟨rfl, rfl⟩
                      case rest =>
                        obtain ⟨rfl, hwc⟩ := hcut
                        subst hwc
                        obtain ⟨nv, hnv⟩ : ∃ v, v = (if path then vl - mj else vl) := ⟨_, rfl⟩
                        rw [← hnv]
                        have HNV := hid hnv
                        clear hnv
                        have hO10 := HO9.out.on hB10
                        have hi10 : Ints wc wc.heap.size (some ⟨gb, go, none⟩) k (fun i => (ra i : Nat)) := hO10.rd rfl
                        have hsz9 := hB10.size
                        go_wp2_with fail
                        refine (cloneInts_any (some ⟨gb, go, none⟩) k c5 (fun i => (ra i : Nat)) wc hi10 hgc hrlV).mono ?_
                        rintro e w11 ⟨A8, c8, rfl, hO11, kb11⟩
                        have hsz11 := kb11.size
                        have hB11 := onS hB10 kb11
                        have hF11 := HF9.out.on hB11
                        have hL11 := HL9.out.on hB11
                        have hBW11 := onS HB9.out hB11
                        have hfs := hF11.1
                        have hfs9 := HF9.out.1
                        have RT11 := hid fun o => (HRT9.out.on hB11).on ((Below.refl _ w11).alloc (Nat.le_refl _) o)
                        have O11 := hid fun o => (hO11.mono (by omega : wm.heap.size ≤ wc.heap.size)).alloc o
                        have hKB : Hid (K ≤ 1048576) := by show _ ≤ _; omega
                        have L11 := hid hL11
                        have F11 := hid hF11
                        have BW11 := hid hBW11
                        clear hO10 hi10 hO11 kb11 hB11 hB10 hF11 hL11 hBW11 y1 x0 a0 a1 a2
                        go_wp2_with (first | (at_builtin; (refine wpList_append_route rfl (.tmp 170) (.tmp 175) rfl (RT11.out _) rfl (b := w11.heap.size) rfl (World.cell?_alloc_at _ _ _ _ rfl) (World.cell?_alloc_at _ _ _ _ rfl) (O11.out _) (by simp; omega) hKB.out ?_); intro v12 w12 hRT12 hB12))
                        have hL12 : Own w12 w1.heap.size 3 1 (.slice (some ⟨lg, lo, none⟩) N.n lc) N.n (fun i _ => .int .i64 (subR gf mj ra k i)) := (L11.out.alloc _).below hB12 (fun q e => by
                          have e2 : lg = q := by simpa [Value.ownBlock] using e
                          have := LNE.out lg hlbg
                          omega)
                        have hF12 := (F11.out.on ((Below.refl _ w11).alloc (Nat.le_refl _) _)).below hB12
                        have hBW12 := (onS BW11.out ((Below.refl _ w11).alloc (Nat.le_refl _) _)).trans (hB12.mono (by omega))
                        have RT12 := hid hRT12
                        clear hRT12 hB12 RT11 O11
                        go_wp2
                        go_roundg (gM - 1)
                        case measure => omega
                        case rel => exact ⟨K + 1, addE RA K ra, addE RL K k, addE AM K mj, addE PT K path, by rw [ST3.out, HNV.out], by omega, ST5.out, ST1.out, ST4.out, RT12.out, by rw [ST2.out]; exact hL12, hF12, hBW12, fun i hi => by
                          rw [ST2.out]
                          have h1 := subR_le (g := gf) (m := mj) HOK.out.apart (by omega) i
                          have h2 := HGB.out i hi
                          omega⟩
end Go.Proofs.Ythdeldaeghhfgaa
