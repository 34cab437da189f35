/- trellis.Renumber. -/
import Derived.Test.YtnocbkhnmdmfhaaRenumMem
import Derived.Test.YtnocbkhnmdmfhaaRename
import Derived.Test.YtnocbkhnmdmfhaaTrelProper
namespace Go.Proofs.Ytnocbkhnmdmfhaa
open Go.RowKit

def RenumPost (T : Trel) (w : World) (e : Ending) (w' : World) : Prop :=
  Below w.heap.size w w' ∧ ((T.properE ≠ 0 ∧ e = .returned (.tuple #[.agg #[.slice none 0 0, .slice none 0 0], .int .i64 T.properE])) ∨
    (T.properE = 0 ∧ ∃ y A' B' c' d', e = .returned (.tuple #[.agg #[.slice A' T.nw c', .slice B' T.n d'], .int .i64 0]) ∧ IsRen T y ∧ RenOut T y w' A' B' c' d'))
/-- The least edges among the first j; the nodes that they reach. -/
structure LeastSt (T : Trel) (i j lb bx sb m : Nat) (w : World) : Prop where
  least : w.rowIs lb 72 (m * 3) (eRow (T.lx (T.nm i) i j))
  box : w.rowIs bx 70 1 (fun _ => .slice (some ⟨lb, 0, none⟩) m m)
  seen : w.rowIs sb 4 m (fun v => .bool (T.sn (T.nm i) i j v))
theorem LeastSt.on {T : Trel} {i j lb bx sb m : Nat} {w w' : World} (h : LeastSt T i j lb bx sb m w) (hb : Below w.heap.size w w') : LeastSt T i j lb bx sb m w' :=
  ⟨h.least.of_block (hb.block _ h.least.lt), h.box.of_block (hb.block _ h.box.lt), h.seen.of_block (hb.block _ h.seen.lt)⟩
set_option maxRecDepth 100000 in
set_option maxHeartbeats 16000000 in
theorem renum_any (T : Trel) (A B : Option Addr) (c d : Nat) (w : World) (h : T.Reads w A B) (hc : T.nw ≤ c) :
    Calls Try.prog 35 #[.agg #[.slice A T.nw c, .slice B T.n d]] w (RenumPost T w) := by
  obtain ⟨RB, hRB⟩ : ∃ o, o = (Obj.cells #[.slice A T.nw c, .slice B T.n d] 25) := ⟨_, rfl⟩
  have hB0 : Below (w.heap.size + 1) (w.alloc RB) (w.alloc RB) := Below.refl _ _
  have HS : Hid (∀ w', Below (w.heap.size + 1) (w.alloc RB) w' → (w'.cell? ⟨w.heap.size, 0, none⟩ = some (.slice A T.nw c) ∧ w'.cell? ⟨w.heap.size, 1, none⟩ = some (.slice B T.n d)) ∧ Below w.heap.size w w') := fun w' hB => by
    have hB' := tbox_below hB
    subst hRB
    exact ⟨⟨tbox hB rfl, tbox hB rfl⟩, hB'⟩
  have HR := hid h
  have HC := hid hc
  clear h hc
  go_enter Try.func35, Try.ntmps35
  go_upto_region 1 with fail
  rw [← hRB]
  clear hRB
  have hr0 : ((w.alloc RB).alloc (Obj.cells #[.slice none 0 0, .slice none 0 0] 25)).rowIs (w.alloc RB).heap.size 25 2 (fun _ => .slice none 0 0) := World.rowIs_alloc (w.alloc RB) _ _ _ (fun i hi => by
    match i, hi with
    | 0, _ => rfl
    | 1, _ => rfl)
  have hs1 : (w.alloc RB).heap.size = w.heap.size + 1 := by simp
  rw [hs1] at hr0
  have kb1 : Below (w.alloc RB).heap.size (w.alloc RB) ((w.alloc RB).alloc (Obj.cells #[.slice none 0 0, .slice none 0 0] 25)) := (Below.refl _ _).alloc (Nat.le_refl _) _
  have hB1 := tbox_on hB0 kb1
  obtain ⟨w4, hw4⟩ : ∃ W, W = (w.alloc RB).alloc (Obj.cells #[.slice none 0 0, .slice none 0 0] 25) := ⟨_, rfl⟩
  rw [← hw4] at hr0 hB1 ⊢
  obtain ⟨rb, hrb⟩ : ∃ b, b = w.heap.size + 1 := ⟨_, rfl⟩
  rw [← hrb] at hr0 ⊢
  have HRB := hid hrb
  clear hw4 kb1 hs1 hB0 hrb
  obtain ⟨⟨p0, p1⟩, hW⟩ := HS.out _ hB1
  go_wp2_with fail
  refine (proper_any T A B c d w4 (HR.out.on hW)).mono ?_
  rintro e w5 ⟨rfl, hb⟩
  have hB5 := tbox_on hB1 hb
  have hr5 := hr0.of_block (hb.block rb hr0.lt)
  clear p0 p1 hW hB1 hr0 hb
  by_cases hs : T.properE = 0
  · have HP := hid (Trel.proper_of hs)
    have HS0 := hid hs
    rw [hs]
    clear hs
    go_upto_region 5 with fail
    have hnm := names_start w5
    have kbs : Below w5.heap.size w5 ((w5.alloc (Obj.cells #[.int .i64 0] 3)).alloc (Obj.cells #[.slice (some ⟨w5.heap.size, 0, none⟩) 1 1] 22)) := ((Below.refl _ _).alloc (Nat.le_refl _) _).alloc (by simp) _
    obtain ⟨w6, hw6⟩ : ∃ W, W = (w5.alloc (Obj.cells #[.int .i64 0] 3)).alloc (Obj.cells #[.slice (some ⟨w5.heap.size, 0, none⟩) 1 1] 22) := ⟨_, rfl⟩
    rw [← hw6] at hnm kbs ⊢
    rw [← Trel.names_one HP.out] at hnm
    have hB6 := tbox_on hB5 kbs
    have hr6 := hr5.of_block (kbs.block rb hr5.lt)
    have hwb : w.heap.size < w5.heap.size := tbox_lt hB5
    have hbl : w5.heap.size ≤ w6.heap.size := kbs.size
    obtain ⟨nv, hnv⟩ : ∃ x : Value, x = .slice (some ⟨w5.heap.size + 1, 0, none⟩) 1 1 := ⟨_, rfl⟩
    rw [← hnv] at hnm ⊢
    obtain ⟨bs, hbs⟩ : ∃ n, n = w5.heap.size := ⟨_, rfl⟩
    rw [← hbs] at hnm hwb hbl
    have HNM := hid hnm
    have HR6 := hid hr6
    obtain ⟨⟨p0, p1⟩, hW⟩ := HS.out _ hB6
    have hn64 := HP.out.shape.n64
    have HNW := hid HP.out.shape.nw
    clear hnm hw6 kbs hB5 hr5 hr6 hnv hbs
    go_wp2
    go_loopg [5, 24] T.n (fun gg nv iv wx => ∃ i : Nat, iv = .int .i64 (i : Nat) ∧ i ≤ T.n ∧ T.n ≤ i + gg ∧ Hid (TabL wx bs nv (T.names (i + 1))) ∧ Hid (wx.rowIs rb 25 2 (fun _ => .slice none 0 0)) ∧ Below (w.heap.size + 1) (w.alloc RB) wx ∧ bs ≤ wx.heap.size)
    case atStart => exact ⟨0, rfl, by omega, by omega, HNM, HR6, hB6, hbl⟩
    case round =>
      clear HNM HR6 hB6 hbl p0 p1 hW
      obtain ⟨gI, hgI⟩ : ∃ g, g = gk := ⟨_, rfl⟩
      subst hgI
      obtain ⟨i, rfl, hi, hig, HNM, HRR, hB, hbl⟩ := hrel
      obtain ⟨NA, ncap, hNA⟩ := HNM.out.shape
      rw [T.names_len] at hNA
      subst hNA
      have hi0 : (0 : Int) ≤ (i : Int) := by omega
      obtain ⟨⟨p0, p1⟩, hW⟩ := HS.out _ hB
      by_cases hlt : i < T.n
      · have hlt' : (i : Int) < (T.n : Int) := by omega
        obtain ⟨eb, eo, E, ec, heB, heb, x0, he1, he2, he3, _⟩ := HR.out.sec hlt
        obtain ⟨ab, ao, hA, hab, x1, _⟩ := HR.out.width (i := i + 1) (by rw [HNW.out]; omega)
        subst heB hA
        have hel := HP.out.shape.elb hlt
        obtain ⟨el, hele⟩ : ∃ n, n = T.el i := ⟨_, rfl⟩
        have HEL := hid hele
        rw [← hele] at x0 he1 he3 hel
        have hwid := HP.out.shape.wid (i := i + 1) (by omega)
        obtain ⟨m, hm⟩ : ∃ m : Nat, m = (T.W (i + 1)).toNat := ⟨_, rfl⟩
        have hmW : T.W (i + 1) = (m : Int) := by omega
        rw [hmW] at x1
        have hm1 : 0 < m := by omega
        have hm2 : m ≤ 65536 := by omega
        have HM := hid hm
        have HE3 := hid he3
        have x0r := (hW.cell (p := ⟨eb, eo + i, none⟩) heb).trans x0
        have x1r := (hW.cell (p := ⟨ab, ao + (i + 1), none⟩) hab).trans x1
        have hk1' : (i : Int) + 1 < (T.nw : Int) := by have := HNW.out; omega
        have hk01 : (0 : Int) ≤ (i : Int) + 1 := by omega
        have hwk1 : IntKind.i64.wrap ((i : Int) + 1) = (i : Int) + 1 := IntWalk.i64_in _ (by omega)
        have htn1 : ((i : Int) + 1).toNat = i + 1 := by omega
        have hmk := fun W => run_makeEdge m (by omega) W
        have hmk2 := fun W => run_makeI (P := Try.prog) 78 4 _ 1 Try.underlying78 Try.infoBool rfl (m : Int) (by omega) (by omega) (by omega) W
        simp only [Int.toNat_natCast] at hmk2
        clear hele hm hmW hwid he3 x0 x1
        go_upto_region 9 with fail
        have hwz := tbox_lt hB
        obtain ⟨wa, hwa⟩ : ∃ W, W = wr := ⟨_, rfl⟩
        subst hwa
        have kb7 : Below wa.heap.size wa (wa.alloc (Obj.cells (madeCells #[.int .i64 0, .int .i64 0, .int .i64 0] (m * 3)) 72)) := (Below.refl _ _).alloc (Nat.le_refl _) _
        have hl0 := rowIs_madeEdge wa m
        have hs7 : (wa.alloc (Obj.cells (madeCells #[.int .i64 0, .int .i64 0, .int .i64 0] (m * 3)) 72)).heap.size = wa.heap.size + 1 := by simp
        obtain ⟨lb, hlb⟩ : ∃ b, b = wa.heap.size := ⟨_, rfl⟩
        obtain ⟨w7, hw7⟩ : ∃ W, W = wa.alloc (Obj.cells (madeCells #[.int .i64 0, .int .i64 0, .int .i64 0] (m * 3)) 72) := ⟨_, rfl⟩
        rw [← hw7] at kb7 hl0 hs7 ⊢
        rw [← hs7]
        rw [← hlb] at hl0 ⊢
        have kb8 : Below w7.heap.size w7 (w7.alloc (Obj.cells #[.slice (some ⟨lb, 0, none⟩) m m] 70)) := (Below.refl _ _).alloc (Nat.le_refl _) _
        have hb8 : (w7.alloc (Obj.cells #[.slice (some ⟨lb, 0, none⟩) m m] 70)).rowIs w7.heap.size 70 1 (fun _ => .slice (some ⟨lb, 0, none⟩) m m) := World.rowIs_alloc w7 _ _ _ (fun i hi => by
          match i, hi with
          | 0, _ => rfl)
        have hs8 : (w7.alloc (Obj.cells #[.slice (some ⟨lb, 0, none⟩) m m] 70)).heap.size = w7.heap.size + 1 := by simp
        obtain ⟨bx, hbx⟩ : ∃ b, b = w7.heap.size := ⟨_, rfl⟩
        obtain ⟨w8, hw8⟩ : ∃ W, W = w7.alloc (Obj.cells #[.slice (some ⟨lb, 0, none⟩) m m] 70) := ⟨_, rfl⟩
        rw [← hw8] at kb8 hb8 hs8 ⊢
        rw [← hbx] at hb8 hs8 ⊢
        have hl8 := hl0.of_block (kb8.block lb hl0.lt)
        have hB8a := onS kb7 kb8
        replace p0 := cellS hB8a p0
        replace x1r := cellS hB8a x1r
        have HLB : Hid (wa.heap.size ≤ lb ∧ wa.heap.size ≤ bx) := by show _ ∧ _; omega
        clear kb7 kb8 hw7 hw8 hl0 hs7 hs8 hmk hlb hbx
        go_upto_region 10 with fail
        have hs0 := World.rowIs_made w8 (.bool false) m 4
        have kb9 : Below w8.heap.size w8 (w8.alloc (Obj.cells (madeCells #[Value.bool false] m) 4)) := (Below.refl _ _).alloc (Nat.le_refl _) _
        obtain ⟨sb, hsb⟩ : ∃ b, b = w8.heap.size := ⟨_, rfl⟩
        obtain ⟨w9, hw9⟩ : ∃ W, W = w8.alloc (Obj.cells (madeCells #[Value.bool false] m) 4) := ⟨_, rfl⟩
        rw [← hw9] at kb9 hs0 ⊢
        rw [← hsb] at hs0 ⊢
        have hl9 := (hl8.of_block (kb9.block lb hl8.lt)).congr (g := eRow (T.lx (T.nm i) i 0)) fun k _ => by
          have : T.lx (T.nm i) i 0 = fun _ => (0, 0, 0) := funext fun v => Trel.lx_zero _ _ _ _
          rw [this]
        have hb9 := hb8.of_block (kb9.block bx hb8.lt)
        have hs9 : w9.rowIs sb 4 m (fun v => .bool (T.sn (T.nm i) i 0 v)) := hs0.congr fun v _ => by rw [Trel.sn_zero]
        have hB9a := onS hB8a kb9
        have HSB : Hid (wa.heap.size ≤ sb) := by show _ ≤ _; have := hB8a.size; omega
        have HLS : Hid (LeastSt T i 0 lb bx sb m w9) := ⟨hl9, hb9, hs9⟩
        have HBA := hid hB
        clear hl8 hb8 hs0 hl9 hb9 hs9 kb9 hB8a hw9 hsb hmk2 x1r p0 p1 hW x0r hB
        go_wp2
        go_loopg [45] el (fun gg jv wx => ∃ j : Nat, jv = .int .i64 (j : Nat) ∧ j ≤ el ∧ el ≤ j + gg ∧ Hid (LeastSt T i j lb bx sb m wx) ∧ Below wa.heap.size wa wx)
        case atStart => exact ⟨0, rfl, by omega, by omega, HLS, hB9a⟩
        case round =>
          clear HLS hB9a
          obtain ⟨j, rfl, hj, hjg, HLS, hB⟩ := hrel
          have hj0 : (0 : Int) ≤ (j : Int) := by omega
          have hBR := tbox_on HBA.out hB
          obtain ⟨_, hW⟩ := HS.out _ hBR
          by_cases hltj : j < el
          · have hltj' : (j : Int) < (el : Int) := by omega
            obtain ⟨b9, o9, rfl, hb9, y0, y1, y2⟩ := edge_at ((Rd.below HE3.out hW (Nat.le_refl _)).mono hW.size) hltj
            have hltj2 : j < T.el i := by rw [← HEL.out]; exact hltj
            have htl := HP.out.toL hlt hltj2
            have hfl := HP.out.frL hlt hltj2
            have hll := (HP.out.sec i hlt).1 j hltj2
            have hlab : 0 ≤ T.lb i j ∧ T.lb i j < 256 := ⟨hll.1, hll.2.1⟩
            have hnl := HP.out.nm_lt (i := i) (by omega) hfl.1
            have hwid2 := (HP.out.shape.wid (i := i) (by omega)).2
            obtain ⟨tn, htn⟩ : ∃ n, n = (T.to i j).toNat := ⟨_, rfl⟩
            obtain ⟨fn, hfn⟩ : ∃ n, n = (T.fr i j).toNat := ⟨_, rfl⟩
            obtain ⟨lv, hlv⟩ : ∃ z, z = T.lb i j := ⟨_, rfl⟩
            rw [← htn, ← HM.out] at htl
            rw [← hfn] at hfl hnl
            rw [← hlv] at hlab
            rw [← htl.2] at y2
            rw [← hfl.2] at y0
            rw [← hlv] at y1
            have htl1 := htl.1
            have htl1' : (tn : Int) < (m : Int) := by omega
            obtain ⟨a1, ha1⟩ : ∃ n, n = T.nm i fn := ⟨_, rfl⟩
            have hcd : T.code (T.nm i) i j = a1 * 256 + lv.toNat := by unfold Trel.code; rw [← hfn, ← ha1, ← hlv]
            rw [← ha1] at hnl
            have ha16 : a1 < 65536 := by omega
            obtain ⟨hbk, hok, RA, rc, rfl, hhb, s2, hrow⟩ := (HNM.out.on hB).read (k := i) (by rw [T.names_len]; omega)
            rw [T.names_get (by omega : i < i + 1), T.nrow_len] at s2 
            rw [T.names_get (by omega : i < i + 1)] at hrow
            have hrd := Own.rd hrow rfl
            obtain ⟨nb, no, rfl, hnb, s3⟩ := Rd.at1 hrd (i := fn) (by rw [T.nrow_len]; exact hfl.1)
            have hs3 : listCell (T.nrow i) fn 0 = .int .i64 (a1 : Nat) := by
              show Value.int .i64 ((T.nrow i).getD fn 0) = _
              rw [T.nrow_get hfl.1, ← ha1]
            rw [hs3] at s3
            obtain ⟨Wi, hWi⟩ : ∃ n, n = (T.W i).toNat := ⟨_, rfl⟩
            rw [← hWi] at s2 hfl
            have hfl1 := hfl.1
            have hfl1' : (fn : Int) < (Wi : Int) := by omega
            have HCD := hid hcd
            have HTN := hid htn
            have hi1 : (i : Int) < (i : Int) + 1 := by omega
            obtain ⟨hlr, hbr, hsr⟩ := HLS.out
            have hwr := hB.size
            clear hrow hrd hs3 htl hfl htn hfn hlv ha1 hcd hll hltj2 hwid2 hnl HLS hWi
            go_upto_region 13 with fail
            obtain ⟨OB, hOB⟩ : ∃ o, o = (Obj.cells #[Value.int .i64 (fn : Nat), Value.int .i64 lv, Value.int .i64 (tn : Nat)] 72) := ⟨_, rfl⟩
            rw [← hOB]
            have kb : Below wr.heap.size wr (wr.alloc OB) := (Below.refl _ _).alloc (Nat.le_refl _) _
            have c0 : (wr.alloc OB).cell? ⟨wr.heap.size, 0, none⟩ = some (.int .i64 (fn : Nat)) := by subst hOB; exact tbox (Below.refl _ _) rfl
            have c1 : (wr.alloc OB).cell? ⟨wr.heap.size, 1, none⟩ = some (.int .i64 lv) := by subst hOB; exact tbox (Below.refl _ _) rfl
            have c2 : (wr.alloc OB).cell? ⟨wr.heap.size, 2, none⟩ = some (.int .i64 (tn : Nat)) := by subst hOB; exact tbox (Below.refl _ _) rfl
            obtain ⟨w6, hw6⟩ : ∃ W, W = wr.alloc OB := ⟨_, rfl⟩
            have hlb := hlr.lt
            have hl6 : wr.heap.size < w6.heap.size := by rw [hw6]; simp
            obtain ⟨pb, hpb⟩ : ∃ b, b = wr.heap.size := ⟨_, rfl⟩
            rw [← hw6] at kb c0 c1 c2 ⊢
            rw [← hpb] at c0 c1 c2 hlb hl6 ⊢
            have HPS : Hid (pb ≠ sb) := by
              have := hsr.lt
              show _ ≠ _
              omega
            replace hlr := hlr.of_block (kb.block lb hlr.lt)
            replace hbr := hbr.of_block (kb.block bx hbr.lt)
            replace hsr := hsr.of_block (kb.block sb hsr.lt)
            replace s2 := cellS kb s2
            replace s3 := cellS kb s3
            replace hB := onS hB kb
            clear hpb hw6 hOB kb y0 y1 y2 hW hb9 hBR
            refine wp_region_held_drew (S := fun w' => w'.cell? ⟨hbk, hok + i, none⟩ = some (.slice (some ⟨nb, no, none⟩) Wi rc) ∧ w'.cell? ⟨nb, no + fn, none⟩ = some (.int .i64 (a1 : Nat)) ∧ w'.cell? ⟨pb, 0, none⟩ = some (.int .i64 (fn : Nat)) ∧ w'.cell? ⟨pb, 1, none⟩ = some (.int .i64 lv)) (by kernel_rfl) ⟨cellS (Below.refl _ _).drew s2, cellS (Below.refl _ _).drew s3, cellS (Below.refl _ _).drew c0, cellS (Below.refl _ _).drew c1⟩ (fun hHeld => ?_)
            obtain ⟨w7, hw⟩ : ∃ W, W = World.drew w6 := ⟨_, rfl⟩
            have kb : Below w6.heap.size w6 w7 := by rw [hw]; exact (Below.refl _ _).drew
            rw [← hw] at hHeld ⊢
            clear hw
            replace hlr := rowIs_on hlr kb
            replace hbr := rowIs_on hbr kb
            replace hsr := rowIs_on hsr kb
            replace hB := onS hB kb
            replace c2 := cellS kb c2
            replace s2 := cellS kb s2
            replace s3 := cellS kb s3
            replace c0 := cellS kb c0
            replace c1 := cellS kb c1
            clear kb
            refine wpAnyH_take (i := 0) (v := ?_) (by simp only [List.getElem?_toArray, List.getElem?_cons_zero]; rfl) (by kernel_rfl) (by kernel_rfl) (by kernel_rfl) (by exact fun _ _ _ h => h) (Or.inl ⟨by rfl, ?_⟩) (by assumption) ?_
            rotate_left
            · (intro w hSw; (try dsimp only at hSw); go_simp); first | done | with_reducible rfl
            try simp only [Act.put, List.setIfInBounds_toArray, List.set_cons_zero, List.set_cons_succ]
            refine wpAnyH_take (i := 1) (v := ?_) (by simp only [List.getElem?_toArray, List.getElem?_cons_succ, List.getElem?_cons_zero]; rfl) (by kernel_rfl) (by kernel_rfl) (by kernel_rfl) (by exact fun _ _ _ h => h) (Or.inl ⟨by rfl, ?_⟩) (by assumption) ?_
            rotate_left
            · (intro w hSw; (try dsimp only at hSw); go_simp); first | done | with_reducible rfl
            try simp only [Act.put, List.setIfInBounds_toArray, List.set_cons_zero, List.set_cons_succ]
            refine wpAnyH_take (i := 2) (v := ?_) (by simp only [List.getElem?_toArray, List.getElem?_cons_succ, List.getElem?_cons_zero]; rfl) (by kernel_rfl) (by kernel_rfl) (by kernel_rfl) (by exact fun _ _ _ h => h) (Or.inl ⟨by rfl, ?_⟩) (by assumption) ?_
            rotate_left
            · (intro w hSw; (try dsimp only at hSw); go_simp); first | done | with_reducible rfl
            try simp only [Act.put, List.setIfInBounds_toArray, List.set_cons_zero, List.set_cons_succ]
            refine wpAnyH_take (i := 3) (v := ?_) (by simp only [List.getElem?_toArray, List.getElem?_cons_succ, List.getElem?_cons_zero]; rfl) (by kernel_rfl) (by kernel_rfl) (by kernel_rfl) (by exact fun _ _ _ h => h) (Or.inl ⟨by rfl, ?_⟩) (by assumption) ?_
            rotate_left
            · (intro w hSw; (try dsimp only at hSw); go_simp); first | done | with_reducible rfl
            try simp only [Act.put, List.setIfInBounds_toArray, List.set_cons_zero, List.set_cons_succ]
            refine wpAnyH_take (i := 4) (v := ?_) (by simp only [List.getElem?_toArray, List.getElem?_cons_succ, List.getElem?_cons_zero]; rfl) (by kernel_rfl) (by kernel_rfl) (by kernel_rfl) (by exact fun _ _ _ h => h) (Or.inl ⟨by rfl, ?_⟩) (by assumption) ?_
            rotate_left
            · (intro w hSw; (try dsimp only at hSw); go_simp); first | done | with_reducible rfl
            try simp only [Act.put, List.setIfInBounds_toArray, List.set_cons_zero, List.set_cons_succ]
            refine wpAnyH_take (i := 5) (v := ?_) (by simp only [List.getElem?_toArray, List.getElem?_cons_succ, List.getElem?_cons_zero]; rfl) (by kernel_rfl) (by kernel_rfl) (by kernel_rfl) (by exact fun _ _ _ h => h) (Or.inl ⟨by rfl, ?_⟩) (by assumption) ?_
            rotate_left
            · (intro w hSw; (try dsimp only at hSw); go_simp); first | done | with_reducible rfl
            try simp only [Act.put, List.setIfInBounds_toArray, List.set_cons_zero, List.set_cons_succ]
            refine wpAnyH_take (i := 6) (v := ?_) (by simp only [List.getElem?_toArray, List.getElem?_cons_succ, List.getElem?_cons_zero]; rfl) (by kernel_rfl) (by kernel_rfl) (by kernel_rfl) (by exact fun _ _ _ h => h) (Or.inl ⟨by rfl, ?_⟩) (by assumption) ?_
            rotate_left
            · (intro w hSw; (try dsimp only at hSw); go_simp); first | done | with_reducible rfl
            try simp only [Act.put, List.setIfInBounds_toArray, List.set_cons_zero, List.set_cons_succ]
            refine wpAnyH_take (i := 7) (v := ?_) (by simp only [List.getElem?_toArray, List.getElem?_cons_succ, List.getElem?_cons_zero]; rfl) (by kernel_rfl) (by kernel_rfl) (by kernel_rfl) (by exact fun _ _ _ h => h) (Or.inl ⟨by rfl, ?_⟩) (by assumption) ?_
            rotate_left
            · (intro w hSw; (try dsimp only at hSw); go_simp); first | done | with_reducible rfl
            try simp only [Act.put, List.setIfInBounds_toArray, List.set_cons_zero, List.set_cons_succ]
            refine wpAnyH_take (i := 8) (v := ?_) (by simp only [List.getElem?_toArray, List.getElem?_cons_succ, List.getElem?_cons_zero]; rfl) (by kernel_rfl) (by kernel_rfl) (by kernel_rfl) (by exact fun _ _ _ h => h) (Or.inl ⟨by rfl, ?_⟩) (by assumption) ?_
            rotate_left
            · (intro w hSw; (try dsimp only at hSw); go_simp); first | done | with_reducible rfl
            try simp only [Act.put, List.setIfInBounds_toArray, List.set_cons_zero, List.set_cons_succ]
            refine wpAnyH_take (i := 9) (v := ?_) (by simp only [List.getElem?_toArray, List.getElem?_cons_succ, List.getElem?_cons_zero]; rfl) (by kernel_rfl) (by kernel_rfl) (by kernel_rfl) (by exact fun _ _ _ h => h) (Or.inl ⟨by rfl, ?_⟩) (by assumption) ?_
            rotate_left
            · (intro w hSw; (try dsimp only at hSw); go_simp); first | done | with_reducible rfl
            try simp only [Act.put, List.setIfInBounds_toArray, List.set_cons_zero, List.set_cons_succ]
            refine wpAnyH_take (i := 10) (v := ?_) (by simp only [List.getElem?_toArray, List.getElem?_cons_succ, List.getElem?_cons_zero]; rfl) (by kernel_rfl) (by kernel_rfl) (by kernel_rfl) (by exact fun _ _ _ h => h) (Or.inl ⟨by rfl, ?_⟩) (by assumption) ?_
            rotate_left
            · (intro w hSw; (try dsimp only at hSw); go_simp); first | done | with_reducible rfl
            try simp only [Act.put, List.setIfInBounds_toArray, List.set_cons_zero, List.set_cons_succ]
            refine wpAnyH_ready (rs := [11]) (by kernel_rfl) (by simp) ?_
            refine AllReadyH.cons (by simp only [List.getElem?_toArray, List.getElem?_cons_succ, List.getElem?_cons_zero]; rfl) (fun K hK => ?_) AllReadyH.nil
            go_simp
            obtain ⟨w8, hw⟩ : ∃ W, W = World.alloc w7 (Obj.cells #[.int .i64 0, .int .i64 0, .int .i64 0] 72) := ⟨_, rfl⟩
            have kb : Below w7.heap.size w7 w8 := by rw [hw]; exact (Below.refl _ _).alloc (Nat.le_refl _) _
            have hq : w8.rowIs w7.heap.size 72 3 (fun _ => .int .i64 0) := by rw [hw]; exact World.rowIs_alloc w7 _ _ _ (fun i hi => by
              match i, hi with
              | 0, _ => rfl
              | 1, _ => rfl
              | 2, _ => rfl)
            have hz := c2
            replace hz := World.block_lt_of_cell? _ _ hz
            have hz2 := World.block_lt_of_cell? _ _ s2
            have hz3 := World.block_lt_of_cell? _ _ s3
            have hz4 := hlr.lt
            have hz5 := hbr.lt
            have hz6 := hsr.lt
            have hz7 := hB.size
            rw [← hw]
            clear hw
            obtain ⟨qb, hqb⟩ : ∃ b, b = w7.heap.size := ⟨_, rfl⟩
            rw [← hqb] at hq ⊢
            have HQL : Hid (qb ≠ lb) := by show _ ≠ _; omega
            have HQS : Hid (qb ≠ sb) := by show _ ≠ _; omega
            have hpq : pb ≠ qb := by rw [hqb]; exact Nat.ne_of_lt hz
            have hhq : hbk ≠ qb := by rw [hqb]; exact Nat.ne_of_lt hz2
            have hnq : nb ≠ qb := by rw [hqb]; exact Nat.ne_of_lt hz3
            have hlq : lb ≠ qb := by omega
            have hbq : bx ≠ qb := by omega
            have hsq : sb ≠ qb := by omega
            have hwq : wa.heap.size ≤ qb := by omega
            clear hqb hz hz2 hz3 hz4 hz5 hz6 hz7
            replace hlr := rowIs_on hlr kb
            replace hbr := rowIs_on hbr kb
            replace hsr := rowIs_on hsr kb
            replace hB := onS hB kb
            replace c2 := cellS kb c2
            replace s2 := cellS kb s2
            replace s3 := cellS kb s3
            replace c0 := cellS kb c0
            replace c1 := cellS kb c1
            clear kb
            refine hK.out _ _ ⟨s2, s3, c0, c1⟩ (fun hHeld => ?_)
            clear hK K
            try simp only [Act.put, List.setIfInBounds_toArray, List.set_cons_zero, List.set_cons_succ]
            refine wpAnyH_ready (rs := [12]) (by kernel_rfl) (by simp) ?_
            refine AllReadyH.cons (by simp only [List.getElem?_toArray, List.getElem?_cons_succ, List.getElem?_cons_zero]; rfl) (fun K hK => ?_) AllReadyH.nil
            have hq1 := hq.set 0 (.int .i64 (a1 : Nat))
            have hq2 := hq1.set 1 (.int .i64 lv)
            have hq3 := hq2.set 2 (.int .i64 0)
            have d0 := hq.cell (i := 0) (by omega)
            have z0 := hq.frozen 0
            have d1 := hq1.cell (i := 1) (by omega)
            have z1 := hq1.frozen 1
            have d2 := hq2.cell (i := 2) (by omega)
            have z2 := hq2.frozen 2
            have d51 := hq.cell (i := 1) (by omega)
            have z51 := hq.frozen 1
            have d52 := hq.cell (i := 2) (by omega)
            have z52 := hq.frozen 2
            have d62 := hq1.cell (i := 2) (by omega)
            have z62 := hq1.frozen 2
            have s2' := (cell_setCell_far (p := ⟨qb, 2, none⟩) (u := (.int .i64 0)) (cell_setCell_far (p := ⟨qb, 1, none⟩) (u := (.int .i64 lv)) (cell_setCell_far (p := ⟨qb, 0, none⟩) (u := (.int .i64 (a1 : Nat))) s2 hhq) hhq) hhq)
            have s3' := (cell_setCell_far (p := ⟨qb, 2, none⟩) (u := (.int .i64 0)) (cell_setCell_far (p := ⟨qb, 1, none⟩) (u := (.int .i64 lv)) (cell_setCell_far (p := ⟨qb, 0, none⟩) (u := (.int .i64 (a1 : Nat))) s3 hnq) hnq) hnq)
            have c0' := (cell_setCell_far (p := ⟨qb, 2, none⟩) (u := (.int .i64 0)) (cell_setCell_far (p := ⟨qb, 1, none⟩) (u := (.int .i64 lv)) (cell_setCell_far (p := ⟨qb, 0, none⟩) (u := (.int .i64 (a1 : Nat))) c0 hpq) hpq) hpq)
            have c1' := (cell_setCell_far (p := ⟨qb, 2, none⟩) (u := (.int .i64 0)) (cell_setCell_far (p := ⟨qb, 1, none⟩) (u := (.int .i64 lv)) (cell_setCell_far (p := ⟨qb, 0, none⟩) (u := (.int .i64 (a1 : Nat))) c1 hpq) hpq) hpq)
            have c2' := (cell_setCell_far (p := ⟨qb, 2, none⟩) (u := (.int .i64 0)) (cell_setCell_far (p := ⟨qb, 1, none⟩) (u := (.int .i64 lv)) (cell_setCell_far (p := ⟨qb, 0, none⟩) (u := (.int .i64 (a1 : Nat))) c2 hpq) hpq) hpq)
            have hlr' := ((hlr.setOther (a := ⟨qb, 0, none⟩) (by simpa using hlq) (.int .i64 (a1 : Nat))).setOther (a := ⟨qb, 1, none⟩) (by simpa using hlq) (.int .i64 lv)).setOther (a := ⟨qb, 2, none⟩) (by simpa using hlq) (.int .i64 0)
            have hbr' := ((hbr.setOther (a := ⟨qb, 0, none⟩) (by simpa using hbq) (.int .i64 (a1 : Nat))).setOther (a := ⟨qb, 1, none⟩) (by simpa using hbq) (.int .i64 lv)).setOther (a := ⟨qb, 2, none⟩) (by simpa using hbq) (.int .i64 0)
            have hsr' := ((hsr.setOther (a := ⟨qb, 0, none⟩) (by simpa using hsq) (.int .i64 (a1 : Nat))).setOther (a := ⟨qb, 1, none⟩) (by simpa using hsq) (.int .i64 lv)).setOther (a := ⟨qb, 2, none⟩) (by simpa using hsq) (.int .i64 0)
            have hB' := ((hB.setCell (p := ⟨qb, 0, none⟩) hwq (.int .i64 (a1 : Nat))).setCell (p := ⟨qb, 1, none⟩) hwq (.int .i64 lv)).setCell (p := ⟨qb, 2, none⟩) hwq (.int .i64 0)
            have HQ3 := hid hq3
            have HB1 := hid hB'
            have HL1 := hid hlr'
            have HX1 := hid hbr'
            have HS1 := hid hsr'
            clear hq1 hq2 hq3 hq hlr hbr hsr hB hlr' hbr' hsr' hB' s2 s3 c0 c1 c2
            go_simp
            clear d0 z0 d1 z1 d2 z2 d51 d52 d62 z51 z52 z62
            refine hK.out _ _ ⟨s2', s3', c0', c1'⟩ (fun hHeld => ?_)
            clear hK K
            try simp only [Act.put, List.setIfInBounds_toArray, List.set_cons_zero, List.set_cons_succ]
            refine wpAnyH_done (by kernel_rfl) ?_ _
            clear hHeld
            go_wp2_with fail
            obtain ⟨w20, hw20⟩ : ∃ W, W = ((w8.setCell ⟨qb, 0, none⟩ (.int .i64 (a1 : Nat))).setCell ⟨qb, 1, none⟩ (.int .i64 lv)).setCell ⟨qb, 2, none⟩ (.int .i64 0) := ⟨_, rfl⟩
            have hq := HQ3.out
            have hB := HB1.out
            have hlr := HL1.out
            have hbr := HX1.out
            have hsr := HS1.out
            rw [← hw20] at hq hB hlr hbr hsr c2' ⊢
            have q0 := hq.cell (i := 0) (by omega)
            have q1 := hq.cell (i := 1) (by omega)
            have q2 := hq.cell (i := 2) (by omega)
            rw [if_neg (by omega), if_neg (by omega), if_pos rfl] at q0
            rw [if_neg (by omega), if_pos rfl] at q1
            rw [if_pos rfl] at q2
            clear hw20 HQ3 HB1 HL1 HX1 HS1 s2' s3' c0' c1' hq
            have HL := hid hlr
            have HX := hid hbr
            have HSR := hid hsr
            have HBB := hid hB
            have z0 := hsr.cell htl1
            have hpb := World.block_lt_of_cell? _ _ c2'
            have hqbl := World.block_lt_of_cell? _ _ q0
            clear hlr hbr hsr hB
            by_cases hsn : T.sn (T.nm i) i j tn = true
            · obtain ⟨l0, l1, l2⟩ := eRow_at HL.out htl1
              have HLS := hid (Trel.lx_less (T := T) (f := T.nm i) (i := i) (j := j) (tn := tn) hlab HCD.out hsn)
              rw [hsn] at z0
              obtain ⟨v1, hv1⟩ : ∃ z, z = (T.lx (T.nm i) i j tn).1 := ⟨_, rfl⟩
              obtain ⟨v2, hv2⟩ : ∃ z, z = (T.lx (T.nm i) i j tn).2.1 := ⟨_, rfl⟩
              obtain ⟨v3, hv3⟩ : ∃ z, z = (T.lx (T.nm i) i j tn).2.2 := ⟨_, rfl⟩
              rw [← hv1] at l0 HLS
              rw [← hv2] at l1 HLS
              rw [← hv3] at l2
              have x0 := HX.out.cell (i := 0) (by omega)
              have hc := fun W => less_gq (a1 : Nat) lv 0 v1 v2 v3 W
              have hcr : ∀ W, Calls Try.prog 48 #[.agg #[.int .i64 (a1 : Nat), .int .i64 lv, .int .i64 0], .agg #[.int .i64 v1, .int .i64 v2, .int .i64 v3]] W fun e w' => e = .returned (.int .i64 (lessV (a1 : Nat) lv v1 v2)) ∧ ∃ q os', w' = Go.Sort.grow (W.drewN q) os' := hc
              obtain ⟨r, hr⟩ : ∃ r, r = lessV (a1 : Nat) lv v1 v2 := ⟨_, rfl⟩
              rw [← hr] at HLS hcr
              have mixed : Try.prog.follows .mixedOrders = true := by kernel_rfl
              have g0 := fun k os => _root_.Go.cell_grown (World.block_lt_of_cell? _ _ c2') c2' k os
              have g1 := fun k os => _root_.Go.cell_grown (World.block_lt_of_cell? _ _ z0) z0 k os
              have g2 := fun k os => _root_.Go.cell_grown (World.block_lt_of_cell? _ _ q0) q0 k os
              have g3 := fun k os => _root_.Go.cell_grown (World.block_lt_of_cell? _ _ q1) q1 k os
              have g4 := fun k os => _root_.Go.cell_grown (World.block_lt_of_cell? _ _ q2) q2 k os
              have g5 := fun k os => _root_.Go.cell_grown (World.block_lt_of_cell? _ _ x0) x0 k os
              have g6 := fun k os => _root_.Go.cell_grown (World.block_lt_of_cell? _ _ l0) l0 k os
              have g7 := fun k os => _root_.Go.cell_grown (World.block_lt_of_cell? _ _ l1) l1 k os
              have g8 := fun k os => _root_.Go.cell_grown (World.block_lt_of_cell? _ _ l2) l2 k os
              have C2 := hid c2'
              have Q0 := hid q0
              have Q1 := hid q1
              have Q2 := hid q2
              clear hc hr hv1 hv2 hv3 l0 l1 l2 z0 x0 c2' q0 q1 q2 hpb hqbl hsn
              by_cases hlz : r < 0
              · have HLT := hid (HLS.out.1 hlz)
                go_quiet_grown (first | (go_at_call 48; refine Calls.grown_of (hcr _)))
                go_upto_region 15 with fail
                obtain ⟨w21, hw21⟩ : ∃ W, W = Go.Sort.grow (w20.drewN nq) osq := ⟨_, rfl⟩
                rw [← hw21]
                have kb : Below w20.heap.size w20 w21 := GG.below ⟨nq, osq, hw21⟩
                clear hw21 g0 g1 g2 g3 g4 g5 g6 g7 g8 hcr
                have hlr := rowIs_on HL.out kb
                have hbr := rowIs_on HX.out kb
                have hsr := rowIs_on HSR.out kb
                have hB := onS HBB.out kb
                have c2 := cellS kb C2.out
                have q0 := cellS kb Q0.out
                have q1 := cellS kb Q1.out
                have q2 := cellS kb Q2.out
                have b0 := hbr.cell (i := 0) (by omega)
                have htl3 : tn * 3 + 2 < m * 3 := by omega
                clear kb
                refine wp_region_held_drew (S := fun w' => w'.cell? ⟨bx, 0, none⟩ = some (.slice (some ⟨lb, 0, none⟩) m m) ∧ w'.cell? ⟨pb, 2, none⟩ = some (.int .i64 (tn : Nat)) ∧ w'.cell? ⟨qb, 0, none⟩ = some (.int .i64 (a1 : Nat)) ∧ w'.cell? ⟨qb, 1, none⟩ = some (.int .i64 lv) ∧ w'.cell? ⟨qb, 2, none⟩ = some (.int .i64 0)) (by kernel_rfl) ⟨cellS (Below.refl _ _).drew b0, cellS (Below.refl _ _).drew c2, cellS (Below.refl _ _).drew q0, cellS (Below.refl _ _).drew q1, cellS (Below.refl _ _).drew q2⟩ (fun hHeld => ?_)
                obtain ⟨w22, hw⟩ : ∃ W, W = World.drew w21 := ⟨_, rfl⟩
                have kb : Below w21.heap.size w21 w22 := by rw [hw]; exact (Below.refl _ _).drew
                rw [← hw] at hHeld ⊢
                clear hw
                replace hlr := rowIs_on hlr kb
                replace hbr := rowIs_on hbr kb
                replace hsr := rowIs_on hsr kb
                replace hB := onS hB kb
                replace b0 := cellS kb b0
                replace c2 := cellS kb c2
                replace q0 := cellS kb q0
                replace q1 := cellS kb q1
                replace q2 := cellS kb q2
                clear kb
                refine wpAnyH_take (i := 0) (v := ?_) (by simp only [List.getElem?_toArray, List.getElem?_cons_zero]; rfl) (by kernel_rfl) (by kernel_rfl) (by kernel_rfl) (by exact fun _ _ _ h => h) (Or.inl ⟨by rfl, ?_⟩) (by assumption) ?_
                rotate_left
                · (intro w hSw; (try dsimp only at hSw); go_simp); first | done | with_reducible rfl
                try simp only [Act.put, List.setIfInBounds_toArray, List.set_cons_zero, List.set_cons_succ]
                refine wpAnyH_take (i := 1) (v := ?_) (by simp only [List.getElem?_toArray, List.getElem?_cons_succ, List.getElem?_cons_zero]; rfl) (by kernel_rfl) (by kernel_rfl) (by kernel_rfl) (by exact fun _ _ _ h => h) (Or.inl ⟨by rfl, ?_⟩) (by assumption) ?_
                rotate_left
                · (intro w hSw; (try dsimp only at hSw); go_simp); first | done | with_reducible rfl
                try simp only [Act.put, List.setIfInBounds_toArray, List.set_cons_zero, List.set_cons_succ]
                refine wpAnyH_take (i := 2) (v := ?_) (by simp only [List.getElem?_toArray, List.getElem?_cons_succ, List.getElem?_cons_zero]; rfl) (by kernel_rfl) (by kernel_rfl) (by kernel_rfl) (by exact fun _ _ _ h => h) (Or.inl ⟨by rfl, ?_⟩) (by assumption) ?_
                rotate_left
                · (intro w hSw; (try dsimp only at hSw); go_simp); first | done | with_reducible rfl
                try simp only [Act.put, List.setIfInBounds_toArray, List.set_cons_zero, List.set_cons_succ]
                refine wpAnyH_take (i := 3) (v := ?_) (by simp only [List.getElem?_toArray, List.getElem?_cons_succ, List.getElem?_cons_zero]; rfl) (by kernel_rfl) (by kernel_rfl) (by kernel_rfl) (by exact fun _ _ _ h => h) (Or.inl ⟨by rfl, ?_⟩) (by assumption) ?_
                rotate_left
                · (intro w hSw; (try dsimp only at hSw); go_simp); first | done | with_reducible rfl
                try simp only [Act.put, List.setIfInBounds_toArray, List.set_cons_zero, List.set_cons_succ]
                refine wpAnyH_take (i := 4) (v := ?_) (by simp only [List.getElem?_toArray, List.getElem?_cons_succ, List.getElem?_cons_zero]; rfl) (by kernel_rfl) (by kernel_rfl) (by kernel_rfl) (by exact fun _ _ _ h => h) (Or.inl ⟨by rfl, ?_⟩) (by assumption) ?_
                rotate_left
                · (intro w hSw; (try dsimp only at hSw); go_simp); first | done | with_reducible rfl
                try simp only [Act.put, List.setIfInBounds_toArray, List.set_cons_zero, List.set_cons_succ]
                refine wpAnyH_take (i := 5) (v := ?_) (by simp only [List.getElem?_toArray, List.getElem?_cons_succ, List.getElem?_cons_zero]; rfl) (by kernel_rfl) (by kernel_rfl) (by kernel_rfl) (by exact fun _ _ _ h => h) (Or.inl ⟨by rfl, ?_⟩) (by assumption) ?_
                rotate_left
                · (intro w hSw; (try dsimp only at hSw); go_simp); first | done | with_reducible rfl
                try simp only [Act.put, List.setIfInBounds_toArray, List.set_cons_zero, List.set_cons_succ]
                refine wpAnyH_take (i := 6) (v := ?_) (by simp only [List.getElem?_toArray, List.getElem?_cons_succ, List.getElem?_cons_zero]; rfl) (by kernel_rfl) (by kernel_rfl) (by kernel_rfl) (by exact fun _ _ _ h => h) (Or.inl ⟨by rfl, ?_⟩) (by assumption) ?_
                rotate_left
                · (intro w hSw; (try dsimp only at hSw); go_simp); first | done | with_reducible rfl
                try simp only [Act.put, List.setIfInBounds_toArray, List.set_cons_zero, List.set_cons_succ]
                refine wpAnyH_take (i := 7) (v := ?_) (by simp only [List.getElem?_toArray, List.getElem?_cons_succ, List.getElem?_cons_zero]; rfl) (by kernel_rfl) (by kernel_rfl) (by kernel_rfl) (by exact fun _ _ _ h => h) (Or.inl ⟨by rfl, ?_⟩) (by assumption) ?_
                rotate_left
                · (intro w hSw; (try dsimp only at hSw); go_simp); first | done | with_reducible rfl
                try simp only [Act.put, List.setIfInBounds_toArray, List.set_cons_zero, List.set_cons_succ]
                refine wpAnyH_ready (rs := [8]) (by kernel_rfl) (by simp) ?_
                refine AllReadyH.cons (by simp only [List.getElem?_toArray, List.getElem?_cons_succ, List.getElem?_cons_zero]; rfl) (fun K hK => ?_) AllReadyH.nil
                have h1 := hlr.set (tn * 3) (.int .i64 (a1 : Nat))
                have h2 := h1.set (tn * 3 + 1) (.int .i64 lv)
                have d0 := hlr.cell (i := tn * 3) (by omega)
                have f0 := hlr.frozen (tn * 3)
                have d1 := h1.cell (i := tn * 3 + 1) (by omega)
                have f1 := h1.frozen (tn * 3 + 1)
                have d2 := h2.cell (i := tn * 3 + 2) htl3
                have f2 := h2.frozen (tn * 3 + 2)
                have d51 := hlr.cell (i := tn * 3 + 1) (by omega)
                have f51 := hlr.frozen (tn * 3 + 1)
                have d52 := hlr.cell (i := tn * 3 + 2) htl3
                have f52 := hlr.frozen (tn * 3 + 2)
                have d62 := h1.cell (i := tn * 3 + 2) htl3
                have f62 := h1.frozen (tn * 3 + 2)
                have HXL : Hid (bx ≠ lb ∧ pb ≠ lb ∧ qb ≠ lb) := ⟨row_row_ne hbr hlr (by decide), by omega, HQL.out⟩
                have HXS : Hid (bx ≠ sb ∧ pb ≠ sb ∧ qb ≠ sb) := ⟨row_row_ne hbr hsr (by decide), HPS.out, HQS.out⟩
                have hls := row_row_ne hlr hsr (by decide)
                have h9 := eRow_put (x' := T.lx (T.nm i) i (j + 1)) hlr (fun v => Trel.lx_take HTN.out.symm hlab HCD.out ha16 HLT.out v)
                have hB9 := ((hB.setCell (p := ⟨lb, tn * 3, none⟩) HLB.out.1 (.int .i64 (a1 : Nat))).setCell (p := ⟨lb, tn * 3 + 1, none⟩) HLB.out.1 (.int .i64 lv)).setCell (p := ⟨lb, tn * 3 + 2, none⟩) HLB.out.1 (.int .i64 0)
                have hbr9 := ((hbr.setOther (a := ⟨lb, tn * 3, none⟩) (by simpa using HXL.out.1) (.int .i64 (a1 : Nat))).setOther (a := ⟨lb, tn * 3 + 1, none⟩) (by simpa using HXL.out.1) (.int .i64 lv)).setOther (a := ⟨lb, tn * 3 + 2, none⟩) (by simpa using HXL.out.1) (.int .i64 0)
                have hsr9 := ((hsr.setOther (a := ⟨lb, tn * 3, none⟩) (by simpa using hls.symm) (.int .i64 (a1 : Nat))).setOther (a := ⟨lb, tn * 3 + 1, none⟩) (by simpa using hls.symm) (.int .i64 lv)).setOther (a := ⟨lb, tn * 3 + 2, none⟩) (by simpa using hls.symm) (.int .i64 0)
                have b09 := (cell_setCell_far (p := ⟨lb, tn * 3 + 2, none⟩) (u := (.int .i64 0)) (cell_setCell_far (p := ⟨lb, tn * 3 + 1, none⟩) (u := (.int .i64 lv)) (cell_setCell_far (p := ⟨lb, tn * 3, none⟩) (u := (.int .i64 (a1 : Nat))) b0 HXL.out.1) HXL.out.1) HXL.out.1)
                have c29 := (cell_setCell_far (p := ⟨lb, tn * 3 + 2, none⟩) (u := (.int .i64 0)) (cell_setCell_far (p := ⟨lb, tn * 3 + 1, none⟩) (u := (.int .i64 lv)) (cell_setCell_far (p := ⟨lb, tn * 3, none⟩) (u := (.int .i64 (a1 : Nat))) c2 HXL.out.2.1) HXL.out.2.1) HXL.out.2.1)
                have q09 := (cell_setCell_far (p := ⟨lb, tn * 3 + 2, none⟩) (u := (.int .i64 0)) (cell_setCell_far (p := ⟨lb, tn * 3 + 1, none⟩) (u := (.int .i64 lv)) (cell_setCell_far (p := ⟨lb, tn * 3, none⟩) (u := (.int .i64 (a1 : Nat))) q0 HXL.out.2.2) HXL.out.2.2) HXL.out.2.2)
                have q19 := (cell_setCell_far (p := ⟨lb, tn * 3 + 2, none⟩) (u := (.int .i64 0)) (cell_setCell_far (p := ⟨lb, tn * 3 + 1, none⟩) (u := (.int .i64 lv)) (cell_setCell_far (p := ⟨lb, tn * 3, none⟩) (u := (.int .i64 (a1 : Nat))) q1 HXL.out.2.2) HXL.out.2.2) HXL.out.2.2)
                have q29 := (cell_setCell_far (p := ⟨lb, tn * 3 + 2, none⟩) (u := (.int .i64 0)) (cell_setCell_far (p := ⟨lb, tn * 3 + 1, none⟩) (u := (.int .i64 lv)) (cell_setCell_far (p := ⟨lb, tn * 3, none⟩) (u := (.int .i64 (a1 : Nat))) q2 HXL.out.2.2) HXL.out.2.2) HXL.out.2.2)
                have H9 := hid h9
                have HB9 := hid hB9
                have HX9 := hid hbr9
                have HS9 := hid hsr9
                have Hb09 := hid b09
                have Hc29 := hid c29
                have Hq09 := hid q09
                have Hq19 := hid q19
                have Hq29 := hid q29
                clear h9 hB9 hbr9 hsr9 h1 h2 hlr hbr hsr hB b09 c29 q09 q19 q29
                go_simp
                clear d0 f0 d1 f1 d2 f2 d51 f51 d52 f52 d62 f62 b0 c2 q0 q1 q2
                obtain ⟨w23, hwN⟩ : ∃ W, W = ((World.setCell w22 ⟨lb, tn * 3, none⟩ (.int .i64 (a1 : Nat))).setCell ⟨lb, tn * 3 + 1, none⟩ (.int .i64 lv)).setCell ⟨lb, tn * 3 + 2, none⟩ (.int .i64 0) := ⟨_, rfl⟩
                have hlr := H9.out
                have hB := HB9.out
                have hbr := HX9.out
                have hsr := HS9.out
                have b0 := Hb09.out
                have c2 := Hc29.out
                have q0 := Hq09.out
                have q1 := Hq19.out
                have q2 := Hq29.out
                rw [← hwN] at hlr hB hbr hsr b0 c2 q0 q1 q2 ⊢
                clear hwN H9 HB9 HX9 HS9 Hb09 Hc29 Hq09 Hq19 Hq29
                refine hK.out _ _ ⟨b0, c2, q0, q1, q2⟩ (fun hHeld => ?_)
                clear hK K
                try simp only [Act.put, List.setIfInBounds_toArray, List.set_cons_zero, List.set_cons_succ]
                refine wpAnyH_take (i := 9) (v := ?_) (by simp only [List.getElem?_toArray, List.getElem?_cons_succ, List.getElem?_cons_zero]; rfl) (by kernel_rfl) (by kernel_rfl) (by kernel_rfl) (by exact fun _ _ _ h => h) (Or.inl ⟨by rfl, ?_⟩) (by assumption) ?_
                rotate_left
                · (intro w hSw; (try dsimp only at hSw); go_simp); first | done | with_reducible rfl
                try simp only [Act.put, List.setIfInBounds_toArray, List.set_cons_zero, List.set_cons_succ]
                refine wpAnyH_ready (rs := [10]) (by kernel_rfl) (by simp) ?_
                refine AllReadyH.cons (by simp only [List.getElem?_toArray, List.getElem?_cons_succ, List.getElem?_cons_zero]; rfl) (fun K hK => ?_) AllReadyH.nil
                have h1 := hsr.set tn (.bool true)
                have y0 := hsr.cell htl1
                have y1 := hsr.frozen tn
                have hB9 := hB.setCell (p := ⟨sb, tn, none⟩) HSB.out (.bool true)
                have hl9 := hlr.setOther (a := ⟨sb, tn, none⟩) (by simpa using hls) (.bool true)
                have hb9 := hbr.setOther (a := ⟨sb, tn, none⟩) (by simpa using HXS.out.1) (.bool true)
                have b09 := cell_setCell_far (p := ⟨sb, tn, none⟩) (u := (.bool true)) b0 HXS.out.1
                have c29 := cell_setCell_far (p := ⟨sb, tn, none⟩) (u := (.bool true)) c2 HXS.out.2.1
                have q09 := cell_setCell_far (p := ⟨sb, tn, none⟩) (u := (.bool true)) q0 HXS.out.2.2
                have q19 := cell_setCell_far (p := ⟨sb, tn, none⟩) (u := (.bool true)) q1 HXS.out.2.2
                have q29 := cell_setCell_far (p := ⟨sb, tn, none⟩) (u := (.bool true)) q2 HXS.out.2.2
                have HS9 := hid h1
                have HB9 := hid hB9
                have HL9 := hid hl9
                have HX9 := hid hb9
                have Hb09 := hid b09
                have Hc29 := hid c29
                have Hq09 := hid q09
                have Hq19 := hid q19
                have Hq29 := hid q29
                clear h1 hB9 hl9 hb9 hlr hbr hsr hB b0 c2 q0 q1 q2 b09 c29 q09 q19 q29
                go_simp
                clear y0 y1
                refine hK.out _ _ ⟨Hb09.out, Hc29.out, Hq09.out, Hq19.out, Hq29.out⟩ (fun hHeld => ?_)
                clear hK K
                try simp only [Act.put, List.setIfInBounds_toArray, List.set_cons_zero, List.set_cons_succ]
                refine wpAnyH_done (by kernel_rfl) ?_ _
                clear hHeld
                go_wp2
                go_roundg (gk - 1)
                case measure => omega
                case rel =>
                  refine ⟨j + 1, by go_num, by omega, by omega, ⟨HL9.out, HX9.out, HS9.out.congr fun v _ => ?_⟩, HB9.out⟩
                  rw [Trel.sn_take HTN.out.symm hlab HCD.out ha16 HLT.out v]
                  by_cases e : v = tn
                  · rw [if_pos e, if_pos e]
                  · rw [if_neg e, if_neg e]
              · have HLT := hid fun e => hlz (HLS.out.2 e)
                go_quiet_grown (first | (go_at_call 48; refine Calls.grown_of (hcr _)))
                go_wp2
                obtain ⟨w21, hw21⟩ : ∃ W, W = Go.Sort.grow (w20.drewN nq) osq := ⟨_, rfl⟩
                rw [← hw21]
                have kb : Below w20.heap.size w20 w21 := GG.below ⟨nq, osq, hw21⟩
                have HLn : Hid (LeastSt T i (j + 1) lb bx sb m w21) := by
                  refine LeastSt.on (w := w20) ⟨HL.out.congr fun k _ => ?_, HX.out, HSR.out.congr fun v _ => ?_⟩ kb
                  · have : T.lx (T.nm i) i (j + 1) = T.lx (T.nm i) i j := funext fun v => Trel.lx_skip HTN.out.symm HLT.out v
                    rw [this]
                  · rw [Trel.sn_skip HTN.out.symm HLT.out v]
                have HBn := hid (onS HBB.out kb)
                clear kb hw21 g0 g1 g2 g3 g4 g5 g6 g7 g8 hcr
                go_roundg (gk - 1)
                case measure => omega
                case rel => exact ⟨j + 1, by go_num, by omega, by omega, HLn, HBn.out⟩
            · have hsf : T.sn (T.nm i) i j tn = false := by simpa using hsn
              rw [hsf] at z0
              have HLT := hid (Trel.kt_new hlab HCD.out ha16 hsf)
              clear hsn hsf
              have C2 := hid c2'
              have Q0 := hid q0
              have Q1 := hid q1
              have Q2 := hid q2
              clear hpb hqbl q0 q1 q2
              go_quiet (fail)
              go_upto_region 15 with fail
              obtain ⟨w21, hw21⟩ : ∃ W, W = w20.drewN nq := ⟨_, rfl⟩
              rw [← hw21]
              have kb : Below w20.heap.size w20 w21 := by rw [hw21]; exact below_drewN (Below.refl _ _) _
              clear hw21 c2' z0
              have hlr := rowIs_on HL.out kb
              have hbr := rowIs_on HX.out kb
              have hsr := rowIs_on HSR.out kb
              have hB := onS HBB.out kb
              have c2 := cellS kb C2.out
              have q0 := cellS kb Q0.out
              have q1 := cellS kb Q1.out
              have q2 := cellS kb Q2.out
              have b0 := hbr.cell (i := 0) (by omega)
              have htl3 : tn * 3 + 2 < m * 3 := by omega
              clear kb
              refine wp_region_held_drew (S := fun w' => w'.cell? ⟨bx, 0, none⟩ = some (.slice (some ⟨lb, 0, none⟩) m m) ∧ w'.cell? ⟨pb, 2, none⟩ = some (.int .i64 (tn : Nat)) ∧ w'.cell? ⟨qb, 0, none⟩ = some (.int .i64 (a1 : Nat)) ∧ w'.cell? ⟨qb, 1, none⟩ = some (.int .i64 lv) ∧ w'.cell? ⟨qb, 2, none⟩ = some (.int .i64 0)) (by kernel_rfl) ⟨cellS (Below.refl _ _).drew b0, cellS (Below.refl _ _).drew c2, cellS (Below.refl _ _).drew q0, cellS (Below.refl _ _).drew q1, cellS (Below.refl _ _).drew q2⟩ (fun hHeld => ?_)
              obtain ⟨w22, hw⟩ : ∃ W, W = World.drew w21 := ⟨_, rfl⟩
              have kb : Below w21.heap.size w21 w22 := by rw [hw]; exact (Below.refl _ _).drew
              rw [← hw] at hHeld ⊢
              clear hw
              replace hlr := rowIs_on hlr kb
              replace hbr := rowIs_on hbr kb
              replace hsr := rowIs_on hsr kb
              replace hB := onS hB kb
              replace b0 := cellS kb b0
              replace c2 := cellS kb c2
              replace q0 := cellS kb q0
              replace q1 := cellS kb q1
              replace q2 := cellS kb q2
              clear kb
              refine wpAnyH_take (i := 0) (v := ?_) (by simp only [List.getElem?_toArray, List.getElem?_cons_zero]; rfl) (by kernel_rfl) (by kernel_rfl) (by kernel_rfl) (by exact fun _ _ _ h => h) (Or.inl ⟨by rfl, ?_⟩) (by assumption) ?_
              rotate_left
              · (intro w hSw; (try dsimp only at hSw); go_simp); first | done | with_reducible rfl
              try simp only [Act.put, List.setIfInBounds_toArray, List.set_cons_zero, List.set_cons_succ]
              refine wpAnyH_take (i := 1) (v := ?_) (by simp only [List.getElem?_toArray, List.getElem?_cons_succ, List.getElem?_cons_zero]; rfl) (by kernel_rfl) (by kernel_rfl) (by kernel_rfl) (by exact fun _ _ _ h => h) (Or.inl ⟨by rfl, ?_⟩) (by assumption) ?_
              rotate_left
              · (intro w hSw; (try dsimp only at hSw); go_simp); first | done | with_reducible rfl
              try simp only [Act.put, List.setIfInBounds_toArray, List.set_cons_zero, List.set_cons_succ]
              refine wpAnyH_take (i := 2) (v := ?_) (by simp only [List.getElem?_toArray, List.getElem?_cons_succ, List.getElem?_cons_zero]; rfl) (by kernel_rfl) (by kernel_rfl) (by kernel_rfl) (by exact fun _ _ _ h => h) (Or.inl ⟨by rfl, ?_⟩) (by assumption) ?_
              rotate_left
              · (intro w hSw; (try dsimp only at hSw); go_simp); first | done | with_reducible rfl
              try simp only [Act.put, List.setIfInBounds_toArray, List.set_cons_zero, List.set_cons_succ]
              refine wpAnyH_take (i := 3) (v := ?_) (by simp only [List.getElem?_toArray, List.getElem?_cons_succ, List.getElem?_cons_zero]; rfl) (by kernel_rfl) (by kernel_rfl) (by kernel_rfl) (by exact fun _ _ _ h => h) (Or.inl ⟨by rfl, ?_⟩) (by assumption) ?_
              rotate_left
              · (intro w hSw; (try dsimp only at hSw); go_simp); first | done | with_reducible rfl
              try simp only [Act.put, List.setIfInBounds_toArray, List.set_cons_zero, List.set_cons_succ]
              refine wpAnyH_take (i := 4) (v := ?_) (by simp only [List.getElem?_toArray, List.getElem?_cons_succ, List.getElem?_cons_zero]; rfl) (by kernel_rfl) (by kernel_rfl) (by kernel_rfl) (by exact fun _ _ _ h => h) (Or.inl ⟨by rfl, ?_⟩) (by assumption) ?_
              rotate_left
              · (intro w hSw; (try dsimp only at hSw); go_simp); first | done | with_reducible rfl
              try simp only [Act.put, List.setIfInBounds_toArray, List.set_cons_zero, List.set_cons_succ]
              refine wpAnyH_take (i := 5) (v := ?_) (by simp only [List.getElem?_toArray, List.getElem?_cons_succ, List.getElem?_cons_zero]; rfl) (by kernel_rfl) (by kernel_rfl) (by kernel_rfl) (by exact fun _ _ _ h => h) (Or.inl ⟨by rfl, ?_⟩) (by assumption) ?_
              rotate_left
              · (intro w hSw; (try dsimp only at hSw); go_simp); first | done | with_reducible rfl
              try simp only [Act.put, List.setIfInBounds_toArray, List.set_cons_zero, List.set_cons_succ]
              refine wpAnyH_take (i := 6) (v := ?_) (by simp only [List.getElem?_toArray, List.getElem?_cons_succ, List.getElem?_cons_zero]; rfl) (by kernel_rfl) (by kernel_rfl) (by kernel_rfl) (by exact fun _ _ _ h => h) (Or.inl ⟨by rfl, ?_⟩) (by assumption) ?_
              rotate_left
              · (intro w hSw; (try dsimp only at hSw); go_simp); first | done | with_reducible rfl
              try simp only [Act.put, List.setIfInBounds_toArray, List.set_cons_zero, List.set_cons_succ]
              refine wpAnyH_take (i := 7) (v := ?_) (by simp only [List.getElem?_toArray, List.getElem?_cons_succ, List.getElem?_cons_zero]; rfl) (by kernel_rfl) (by kernel_rfl) (by kernel_rfl) (by exact fun _ _ _ h => h) (Or.inl ⟨by rfl, ?_⟩) (by assumption) ?_
              rotate_left
              · (intro w hSw; (try dsimp only at hSw); go_simp); first | done | with_reducible rfl
              try simp only [Act.put, List.setIfInBounds_toArray, List.set_cons_zero, List.set_cons_succ]
              refine wpAnyH_ready (rs := [8]) (by kernel_rfl) (by simp) ?_
              refine AllReadyH.cons (by simp only [List.getElem?_toArray, List.getElem?_cons_succ, List.getElem?_cons_zero]; rfl) (fun K hK => ?_) AllReadyH.nil
              have h1 := hlr.set (tn * 3) (.int .i64 (a1 : Nat))
              have h2 := h1.set (tn * 3 + 1) (.int .i64 lv)
              have d0 := hlr.cell (i := tn * 3) (by omega)
              have f0 := hlr.frozen (tn * 3)
              have d1 := h1.cell (i := tn * 3 + 1) (by omega)
              have f1 := h1.frozen (tn * 3 + 1)
              have d2 := h2.cell (i := tn * 3 + 2) htl3
              have f2 := h2.frozen (tn * 3 + 2)
              have d51 := hlr.cell (i := tn * 3 + 1) (by omega)
              have f51 := hlr.frozen (tn * 3 + 1)
              have d52 := hlr.cell (i := tn * 3 + 2) htl3
              have f52 := hlr.frozen (tn * 3 + 2)
              have d62 := h1.cell (i := tn * 3 + 2) htl3
              have f62 := h1.frozen (tn * 3 + 2)
              have HXL : Hid (bx ≠ lb ∧ pb ≠ lb ∧ qb ≠ lb) := ⟨row_row_ne hbr hlr (by decide), by omega, HQL.out⟩
              have HXS : Hid (bx ≠ sb ∧ pb ≠ sb ∧ qb ≠ sb) := ⟨row_row_ne hbr hsr (by decide), HPS.out, HQS.out⟩
              have hls := row_row_ne hlr hsr (by decide)
              have h9 := eRow_put (x' := T.lx (T.nm i) i (j + 1)) hlr (fun v => Trel.lx_take HTN.out.symm hlab HCD.out ha16 HLT.out v)
              have hB9 := ((hB.setCell (p := ⟨lb, tn * 3, none⟩) HLB.out.1 (.int .i64 (a1 : Nat))).setCell (p := ⟨lb, tn * 3 + 1, none⟩) HLB.out.1 (.int .i64 lv)).setCell (p := ⟨lb, tn * 3 + 2, none⟩) HLB.out.1 (.int .i64 0)
              have hbr9 := ((hbr.setOther (a := ⟨lb, tn * 3, none⟩) (by simpa using HXL.out.1) (.int .i64 (a1 : Nat))).setOther (a := ⟨lb, tn * 3 + 1, none⟩) (by simpa using HXL.out.1) (.int .i64 lv)).setOther (a := ⟨lb, tn * 3 + 2, none⟩) (by simpa using HXL.out.1) (.int .i64 0)
              have hsr9 := ((hsr.setOther (a := ⟨lb, tn * 3, none⟩) (by simpa using hls.symm) (.int .i64 (a1 : Nat))).setOther (a := ⟨lb, tn * 3 + 1, none⟩) (by simpa using hls.symm) (.int .i64 lv)).setOther (a := ⟨lb, tn * 3 + 2, none⟩) (by simpa using hls.symm) (.int .i64 0)
              have b09 := (cell_setCell_far (p := ⟨lb, tn * 3 + 2, none⟩) (u := (.int .i64 0)) (cell_setCell_far (p := ⟨lb, tn * 3 + 1, none⟩) (u := (.int .i64 lv)) (cell_setCell_far (p := ⟨lb, tn * 3, none⟩) (u := (.int .i64 (a1 : Nat))) b0 HXL.out.1) HXL.out.1) HXL.out.1)
              have c29 := (cell_setCell_far (p := ⟨lb, tn * 3 + 2, none⟩) (u := (.int .i64 0)) (cell_setCell_far (p := ⟨lb, tn * 3 + 1, none⟩) (u := (.int .i64 lv)) (cell_setCell_far (p := ⟨lb, tn * 3, none⟩) (u := (.int .i64 (a1 : Nat))) c2 HXL.out.2.1) HXL.out.2.1) HXL.out.2.1)
              have q09 := (cell_setCell_far (p := ⟨lb, tn * 3 + 2, none⟩) (u := (.int .i64 0)) (cell_setCell_far (p := ⟨lb, tn * 3 + 1, none⟩) (u := (.int .i64 lv)) (cell_setCell_far (p := ⟨lb, tn * 3, none⟩) (u := (.int .i64 (a1 : Nat))) q0 HXL.out.2.2) HXL.out.2.2) HXL.out.2.2)
              have q19 := (cell_setCell_far (p := ⟨lb, tn * 3 + 2, none⟩) (u := (.int .i64 0)) (cell_setCell_far (p := ⟨lb, tn * 3 + 1, none⟩) (u := (.int .i64 lv)) (cell_setCell_far (p := ⟨lb, tn * 3, none⟩) (u := (.int .i64 (a1 : Nat))) q1 HXL.out.2.2) HXL.out.2.2) HXL.out.2.2)
              have q29 := (cell_setCell_far (p := ⟨lb, tn * 3 + 2, none⟩) (u := (.int .i64 0)) (cell_setCell_far (p := ⟨lb, tn * 3 + 1, none⟩) (u := (.int .i64 lv)) (cell_setCell_far (p := ⟨lb, tn * 3, none⟩) (u := (.int .i64 (a1 : Nat))) q2 HXL.out.2.2) HXL.out.2.2) HXL.out.2.2)
              have H9 := hid h9
              have HB9 := hid hB9
              have HX9 := hid hbr9
              have HS9 := hid hsr9
              have Hb09 := hid b09
              have Hc29 := hid c29
              have Hq09 := hid q09
              have Hq19 := hid q19
              have Hq29 := hid q29
              clear h9 hB9 hbr9 hsr9 h1 h2 hlr hbr hsr hB b09 c29 q09 q19 q29
              go_simp
              clear d0 f0 d1 f1 d2 f2 d51 f51 d52 f52 d62 f62 b0 c2 q0 q1 q2
              obtain ⟨w23, hwN⟩ : ∃ W, W = ((World.setCell w22 ⟨lb, tn * 3, none⟩ (.int .i64 (a1 : Nat))).setCell ⟨lb, tn * 3 + 1, none⟩ (.int .i64 lv)).setCell ⟨lb, tn * 3 + 2, none⟩ (.int .i64 0) := ⟨_, rfl⟩
              have hlr := H9.out
              have hB := HB9.out
              have hbr := HX9.out
              have hsr := HS9.out
              have b0 := Hb09.out
              have c2 := Hc29.out
              have q0 := Hq09.out
              have q1 := Hq19.out
              have q2 := Hq29.out
              rw [← hwN] at hlr hB hbr hsr b0 c2 q0 q1 q2 ⊢
              clear hwN H9 HB9 HX9 HS9 Hb09 Hc29 Hq09 Hq19 Hq29
              refine hK.out _ _ ⟨b0, c2, q0, q1, q2⟩ (fun hHeld => ?_)
              clear hK K
              try simp only [Act.put, List.setIfInBounds_toArray, List.set_cons_zero, List.set_cons_succ]
              refine wpAnyH_take (i := 9) (v := ?_) (by simp only [List.getElem?_toArray, List.getElem?_cons_succ, List.getElem?_cons_zero]; rfl) (by kernel_rfl) (by kernel_rfl) (by kernel_rfl) (by exact fun _ _ _ h => h) (Or.inl ⟨by rfl, ?_⟩) (by assumption) ?_
              rotate_left
              · (intro w hSw; (try dsimp only at hSw); go_simp); first | done | with_reducible rfl
              try simp only [Act.put, List.setIfInBounds_toArray, List.set_cons_zero, List.set_cons_succ]
              refine wpAnyH_ready (rs := [10]) (by kernel_rfl) (by simp) ?_
              refine AllReadyH.cons (by simp only [List.getElem?_toArray, List.getElem?_cons_succ, List.getElem?_cons_zero]; rfl) (fun K hK => ?_) AllReadyH.nil
              have h1 := hsr.set tn (.bool true)
              have y0 := hsr.cell htl1
              have y1 := hsr.frozen tn
              have hB9 := hB.setCell (p := ⟨sb, tn, none⟩) HSB.out (.bool true)
              have hl9 := hlr.setOther (a := ⟨sb, tn, none⟩) (by simpa using hls) (.bool true)
              have hb9 := hbr.setOther (a := ⟨sb, tn, none⟩) (by simpa using HXS.out.1) (.bool true)
              have b09 := cell_setCell_far (p := ⟨sb, tn, none⟩) (u := (.bool true)) b0 HXS.out.1
              have c29 := cell_setCell_far (p := ⟨sb, tn, none⟩) (u := (.bool true)) c2 HXS.out.2.1
              have q09 := cell_setCell_far (p := ⟨sb, tn, none⟩) (u := (.bool true)) q0 HXS.out.2.2
              have q19 := cell_setCell_far (p := ⟨sb, tn, none⟩) (u := (.bool true)) q1 HXS.out.2.2
              have q29 := cell_setCell_far (p := ⟨sb, tn, none⟩) (u := (.bool true)) q2 HXS.out.2.2
              have HS9 := hid h1
              have HB9 := hid hB9
              have HL9 := hid hl9
              have HX9 := hid hb9
              have Hb09 := hid b09
              have Hc29 := hid c29
              have Hq09 := hid q09
              have Hq19 := hid q19
              have Hq29 := hid q29
              clear h1 hB9 hl9 hb9 hlr hbr hsr hB b0 c2 q0 q1 q2 b09 c29 q09 q19 q29
              go_simp
              clear y0 y1
              refine hK.out _ _ ⟨Hb09.out, Hc29.out, Hq09.out, Hq19.out, Hq29.out⟩ (fun hHeld => ?_)
              clear hK K
              try simp only [Act.put, List.setIfInBounds_toArray, List.set_cons_zero, List.set_cons_succ]
              refine wpAnyH_done (by kernel_rfl) ?_ _
              clear hHeld
              go_wp2
              go_roundg (gk - 1)
              case measure => omega
              case rel =>
                refine ⟨j + 1, by go_num, by omega, by omega, ⟨HL9.out, HX9.out, HS9.out.congr fun v _ => ?_⟩, HB9.out⟩
                rw [Trel.sn_take HTN.out.symm hlab HCD.out ha16 HLT.out v]
                by_cases e : v = tn
                · rw [if_pos e, if_pos e]
                · rw [if_neg e, if_neg e]
          · have hltj' : ¬ (j : Int) < (el : Int) := by omega
            obtain rfl : j = el := by omega
            obtain ⟨hlr, hbr, hsr⟩ := HLS.out
            rw [HEL.out] at hlr
            have HRS := hid (HRR.out.of_block (hB.block rb HRR.out.lt))
            have hTab := HNM.out.on hB
            have b0 := hbr.cell (i := 0) (by omega)
            have HKL : Hid (∀ u v, u < m → v < m → (lessV (T.lx (T.nm i) i (T.el i) u).1 (T.lx (T.nm i) i (T.el i) u).2.1 (T.lx (T.nm i) i (T.el i) v).1 (T.lx (T.nm i) i (T.el i) v).2.1 < 0 ↔ T.kt (T.nm i) i (T.el i) u < T.kt (T.nm i) i (T.el i) v)) := fun u v hu hv => HP.out.lx_key hlt u v (by rw [← HM.out]; exact hu) (by rw [← HM.out]; exact hv)
            have HKI : Hid (∀ a b, a < m → b < m → T.kt (T.nm i) i (T.el i) a = T.kt (T.nm i) i (T.el i) b → a = b) := fun a b ha hb e => HP.out.keys hlt a b (by rw [← HM.out]; exact ha) (by rw [← HM.out]; exact hb) e
            have HNL : Hid ((T.names (i + 1)).length ≤ 1048576) := by show _ ≤ _; rw [T.names_len]; omega
            have HNW2 : Hid (T.nrow (i + 1) = (List.range m).map fun u => (((rankOf (T.kt (T.nm i) i (T.el i)) m u : Nat)) : Int)) := by
              show T.nrow (i + 1) = _
              unfold Trel.nrow
              rw [← HM.out]
              refine List.map_congr_left fun u _ => ?_
              show ((rankOf (T.kt (T.nm i) i (T.el i)) (T.W (i + 1)).toNat u : Nat) : Int) = _
              rw [← HM.out]
            obtain ⟨w6, hw6⟩ : ∃ W, W = wr := ⟨_, rfl⟩
            subst hw6
            have hzb := HBA.out.size
            have hgb := hB.size
            have HCB : Hid (CmpB bx m (fun u v => lessV (T.lx (T.nm i) i (T.el i) u).1 (T.lx (T.nm i) i (T.el i) u).2.1 (T.lx (T.nm i) i (T.el i) v).1 (T.lx (T.nm i) i (T.el i) v).2.1) w6) := fun W hW u v hu hv => cmpLeast_any bx lb m m (T.lx (T.nm i) i (T.el i)) W (cellS hW b0) (rowIs_on hlr hW) u v hu hv
            have HTB := hid hTab
            have HB6 := hid hB
            clear hsr HLS hTab hlr hbr hB
            go_wp2_with fail
            refine (order_any bx m _ (T.kt (T.nm i) i (T.el i)) w6 HCB.out HKL.out HKI.out hm1 (by omega)).mono ?_
            rintro e w7 ⟨go, rfl, hgo, hgz, kb⟩
            have kb8 : Below w7.heap.size w7 (w7.alloc (Obj.cells #[Value.slice (some ⟨go, 0, none⟩) m m] 22)) := (Below.refl _ _).alloc (Nat.le_refl _) _
            have hOL : OwnL w7 bs (.slice (some ⟨go, 0, none⟩) m m) (T.nrow (i + 1)) := by
              rw [HNW2.out]
              exact ownL_of_row hgo (by omega) (by unfold maxLen; omega)
            have HOL := hid (hOL.on kb8)
            have hB8 := onS (onS HB6.out kb) kb8
            have hTab := (HTB.out.on kb).on kb8
            have hBo := tbox_on HBA.out hB8
            have HT8 := hid hTab
            have HB8 := hid hBo
            have HRS8 := hid ((HRS.out.of_block (kb.block rb HRS.out.lt)).of_block (kb8.block rb (by have := HRS.out.lt; have := kb.size; omega)))
            have HC8 : Hid ((w7.alloc (Obj.cells #[Value.slice (some ⟨go, 0, none⟩) m m] 22)).cell? ((⟨w7.heap.size, 0, none⟩ : Addr).add 0) = some (.slice (some ⟨go, 0, none⟩) m m)) := tbox (Below.refl _ _) rfl
            have HZ8 : Hid (bs ≤ (w7.alloc (Obj.cells #[Value.slice (some ⟨go, 0, none⟩) m m] 22)).heap.size) := by show _ ≤ _; have := hB8.size; omega
            clear hgo hgz kb kb8 hOL hB8 hTab hBo HCB b0
            go_wp2_with (first | (at_builtin; (refine wpList_append_list rfl (.tmp 86) (.tmp 91) rfl HT8.out rfl (ad := ⟨w7.heap.size, 0, none⟩) (c := 1) rfl HC8.out rfl HOL.out HZ8.out HNL.out ?_); intro v9 w9 o1 o2))
            obtain ⟨RR, hA, _⟩ := HT8.out
            have hne2 := own_row_ne HRS8.out hA (by decide)
            have HR9 := hid (HRS8.out.of_block (o2.block rb HRS8.out.lt fun e => hne2 e.symm))
            have HB9 := hid (HB8.out.grown o2 (by have := HB8.out.size; simpa using this) fun q e => by have := (hA.lt q e).1; omega)
            have hbs9 : bs ≤ w9.heap.size := Nat.le_trans HZ8.out o2.size
            rw [← T.names_succ] at o1
            have HT9 := hid o1
            clear hA hne2 o1 o2
            go_wp2
            go_roundg (gI - 1)
            case measure => omega
            case rel => exact ⟨i + 1, by go_num, by omega, by omega, HT9, HR9, HB9.out, hbs9⟩
      · have hlt' : ¬ (i : Int) < (T.n : Int) := by omega
        obtain rfl : i = T.n := by omega
        obtain ⟨O, oc, hO, hrows⟩ := Trel.names_rows HP.out HNM.out
        injection hO with hO _ hO2
        subst hO hO2
        have HROW := hid hrows
        have HBW := hid hB
        clear hrows hB
        go_wp2_with fail
        refine (rename_any T A B NA c d ncap wr (HR.out.on hW) HP.out HC.out HROW.out).mono ?_
        rintro e w7 ⟨hb, y, A', B', c', d', rfl, hren, hout⟩
        have hr := HRR.out.of_block (hb.block rb HRR.out.lt)
        have hB7 := tbox_on HBW.out hb
        have r0 := hr.cell (i := 0) (by omega)
        have r1 := hr.cell (i := 1) (by omega)
        have z0 := hr.frozen 0
        have z1 := hr.frozen 1
        have q0 := hr.set 0 (.slice A' T.nw c')
        have q1 := q0.cell (i := 1) (by omega)
        rw [if_neg (by omega)] at q1
        have q2 := q0.frozen 1
        have q3 := q0.set 1 (.slice B' T.n d')
        have q4 := q3.cell (i := 0) (by omega)
        have q5 := q3.cell (i := 1) (by omega)
        rw [if_neg (by omega), if_pos rfl] at q4
        rw [if_pos rfl] at q5
        have HREN := hid hren
        have HB7 := hid hB7
        have HOUT := hid ((hout.setCell (b := rb) (i := 0) hr (by decide) (by decide) (by decide) (.slice A' T.nw c')).setCell (b := rb) (i := 1) q0 (by decide) (by decide) (by decide) (.slice B' T.n d'))
        clear hren hout hr q0 q3 hb hB7 p0 p1
        go_wp2
        refine bodyPost_ret (v := .tuple #[.agg #[.slice A' T.nw c', .slice B' T.n d'], .int .i64 0]) (by simp [results, Try.results35, go_sem, q4, q5]) rfl ?_
        refine ⟨(HS.out _ ((HB7.out.setCell (p := ⟨rb, 0, none⟩) (by rw [HRB.out]; exact Nat.le_refl _) _).setCell (p := ⟨rb, 1, none⟩) (by rw [HRB.out]; exact Nat.le_refl _) _)).2, .inr ⟨HS0.out, _, _, _, _, _, rfl, HREN.out, HOUT.out⟩⟩
  · obtain ⟨pe, hpe⟩ : ∃ x, x = T.properE := ⟨_, rfl⟩
    have HPE := hid hpe
    rw [← hpe] at hs ⊢
    clear hpe
    have hs' : (pe != 0) = true := by simp [hs]
    have r0 := hr5.cell (i := 0) (by omega)
    have r1 := hr5.cell (i := 1) (by omega)
    have z0 := hr5.frozen 0
    have z1 := hr5.frozen 1
    have q0 := hr5.set 0 (.slice none 0 0)
    have q1 := q0.cell (i := 1) (by omega)
    rw [if_neg (by omega)] at q1
    have q2 := q0.frozen 1
    have q3 := q0.set 1 (.slice none 0 0)
    have q4 := q3.cell (i := 0) (by omega)
    have q5 := q3.cell (i := 1) (by omega)
    rw [if_neg (by omega), if_pos rfl] at q4
    rw [if_pos rfl] at q5
    have HB5 := hid hB5
    clear q0 q3 hB5 hr5
    go_wp2
    refine bodyPost_ret (v := .tuple #[.agg #[.slice none 0 0, .slice none 0 0], .int .i64 pe]) (by simp [results, Try.results35, go_sem, q4, q5]) rfl ?_
    refine ⟨(HS.out _ ((HB5.out.setCell (p := ⟨rb, 0, none⟩) (by rw [HRB.out]; exact Nat.le_refl _) _).setCell (p := ⟨rb, 1, none⟩) (by rw [HRB.out]; exact Nat.le_refl _) _)).2, .inl ⟨by rw [← HPE.out]; exact hs, by rw [← HPE.out]⟩⟩
end Go.Proofs.Ytnocbkhnmdmfhaa
