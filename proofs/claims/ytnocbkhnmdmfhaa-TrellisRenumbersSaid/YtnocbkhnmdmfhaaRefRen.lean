/- codewrightref47.Renumber: the nodes numbered as they are met. -/
import Derived.Test.YtnocbkhnmdmfhaaVisMem
namespace Go.Proofs.Ytnocbkhnmdmfhaa
open Go.RowKit

/-- The numbers, the nodes met, the edges seen. -/
structure VisSt (T : Trel) (i u j nb m : Nat) (w : World) (base : Nat) (nv ev : Value) : Prop where
  row : w.rowIs nb 3 m (fun v => .int .i64 (numOf (T.visN i u j) v))
  next : Own w base 3 1 nv (T.visN i u j).length (fun k _ => .int .i64 ((T.visN i u j).getD k 0 : Nat))
  edges : Own w base 72 3 ev (T.visV i u j).length (edgeCell (T.visE i u j))
  ne : nv.ownBlock ≠ some nb
section
variable {T : Trel} {i u j nb m base : Nat} {w w' : World} {nv ev : Value}
theorem VisSt.on (h : VisSt T i u j nb m w base nv ev) (hb : Below w.heap.size w w') : VisSt T i u j nb m w' base nv ev :=
  ⟨h.row.of_block (hb.block nb h.row.lt), h.next.on hb, h.edges.on hb, h.ne⟩
end
/-- What has been built ahead of section i. -/
structure RenSt (T : Trel) (i : Nat) (ob wb wc rb : Nat) (w : World) (base : Nat) (ov : Value) : Prop where
  res : w.rowIs rb 25 2 (fun _ => .slice none 0 0)
  wid : Own w base 3 1 (.slice (some ⟨wb, 0, none⟩) T.nw wc) T.nw (fun k _ => .int .i64 (T.W k))
  box : ∃ EV, w.rowIs ob 25 2 (fun k => if k = 0 then .slice (some ⟨wb, 0, none⟩) T.nw wc else EV) ∧ ETab w base EV i T.el fun i p => T.tri i ((T.vis i).getD p 0)
  ord : ∃ o, OrdOk T i o ∧ Own w base 3 1 ov (T.W i).toNat (fun u _ => .int .i64 (o u : Nat))
theorem RenSt.on {T : Trel} {i ob wb wc rb base : Nat} {w w' : World} {ov : Value} (h : RenSt T i ob wb wc rb w base ov) (hb : Below w.heap.size w w') : RenSt T i ob wb wc rb w' base ov := by
  obtain ⟨h0, h1, ⟨EV, h2, h3⟩, ⟨o, h4, h5⟩⟩ := h
  exact ⟨h0.of_block (hb.block rb h0.lt), h1.on hb, ⟨EV, h2.of_block (hb.block ob h2.lt), h3.on hb⟩, ⟨o, h4, h5.on hb⟩⟩
theorem renSt_start {T : Trel} (hP : T.Proper) (X : World) {cap : Nat} {cur : Array Value} (k1 : T.nw ≤ cap) (k2 : cap ≤ maxLen) (k3 : cap * 1 ≤ cur.size) (k4 : ∀ k, k < T.nw → ∀ j, j < 1 → cur[k * 1 + j]? = some (.int .i64 (T.W k))) :
    RenSt T 0 (X.heap.size + 1 + 1 + 1) (X.heap.size + 1 + 1) cap X.heap.size (((((X.alloc (Obj.cells #[.slice none 0 0, .slice none 0 0] 25)).alloc (Obj.cells #[] 3)).alloc (Obj.cells cur 3)).alloc (Obj.cells #[.slice (some ⟨X.heap.size + 1 + 1, 0, none⟩) T.nw cap, .slice none 0 0] 25)).alloc (Obj.cells #[.int .i64 0] 3)).drew X.heap.size (.slice (some ⟨X.heap.size + 1 + 1 + 1 + 1, 0, none⟩) 1 1) := by
  obtain ⟨X1, hX1⟩ : ∃ W, W = X.alloc (Obj.cells #[.slice none 0 0, .slice none 0 0] 25) := ⟨_, rfl⟩
  obtain ⟨X2, hX2⟩ : ∃ W, W = X1.alloc (Obj.cells #[] 3) := ⟨_, rfl⟩
  obtain ⟨X3, hX3⟩ : ∃ W, W = X2.alloc (Obj.cells cur 3) := ⟨_, rfl⟩
  obtain ⟨X4, hX4⟩ : ∃ W, W = X3.alloc (Obj.cells #[.slice (some ⟨X.heap.size + 1 + 1, 0, none⟩) T.nw cap, .slice none 0 0] 25) := ⟨_, rfl⟩
  obtain ⟨X5, hX5⟩ : ∃ W, W = X4.alloc (Obj.cells #[.int .i64 0] 3) := ⟨_, rfl⟩
  have s1 : X1.heap.size = X.heap.size + 1 := by rw [hX1]; simp
  have s2 : X2.heap.size = X.heap.size + 1 + 1 := by rw [hX2]; simp [s1]
  have s3 : X3.heap.size = X.heap.size + 1 + 1 + 1 := by rw [hX3]; simp [s2]
  have s4 : X4.heap.size = X.heap.size + 1 + 1 + 1 + 1 := by rw [hX4]; simp [s3]
  have b2 : Below X1.heap.size X1 X2 := by rw [hX2]; exact (Below.refl _ _).alloc (Nat.le_refl _) _
  have b3 : Below X2.heap.size X2 X3 := by rw [hX3]; exact (Below.refl _ _).alloc (Nat.le_refl _) _
  have b4 : Below X3.heap.size X3 X4 := by rw [hX4]; exact (Below.refl _ _).alloc (Nat.le_refl _) _
  have b5 : Below X4.heap.size X4 X5 := by rw [hX5]; exact (Below.refl _ _).alloc (Nat.le_refl _) _
  have r1 : X1.rowIs X.heap.size 25 2 (fun _ => .slice none 0 0) := by rw [hX1]; exact World.rowIs_alloc X _ _ _ (fun i hi => by
    match i, hi with
    | 0, _ => rfl
    | 1, _ => rfl)
  have r3 := Own.new (w := X2) (base := X.heap.size) (e := 3) (s := 1) (f := fun k _ => .int .i64 (T.W k)) (by omega) k1 k2 k3 k4
  rw [← hX3, s2] at r3
  have r4 : X4.rowIs (X.heap.size + 1 + 1 + 1) 25 2 (fun k => if k = 0 then .slice (some ⟨X.heap.size + 1 + 1, 0, none⟩) T.nw cap else .slice none 0 0) := by
    rw [hX4, ← s3]
    exact World.rowIs_alloc X3 _ _ _ (fun i hi => by
      match i, hi with
      | 0, _ => rfl
      | 1, _ => rfl)
  have r5 := Own.new (w := X4) (base := X.heap.size) (e := 3) (s := 1) (m := 1) (cap := 1) (cur := #[.int .i64 0]) (f := fun _ _ => .int .i64 ((0 : Nat) : Nat)) (by omega) (by omega) (by unfold maxLen; omega) (by simp) (fun k hk j hj => by
    obtain rfl : k = 0 := by omega
    obtain rfl : j = 0 := by omega
    rfl)
  rw [← hX5, s4] at r5
  rw [← hX1, ← hX2, ← hX3, ← hX4, ← hX5]
  have hw0 : (T.W 0).toNat = 1 := by rw [hP.w0]; rfl
  refine ⟨?_, ((r3.on b4).on b5).drew, ⟨.slice none 0 0, ?_, ETab.nil _ _ _ _⟩, ⟨fun _ => 0, fun u hu => ⟨by show 0 < _; omega, by show 0 = u; omega⟩, ?_⟩⟩
  · have := r1.of_block (b2.block _ r1.lt)
    have := this.of_block (b3.block _ this.lt)
    have := this.of_block (b4.block _ this.lt)
    exact this.of_block (b5.block _ this.lt)
  · exact r4.of_block (b5.block _ r4.lt)
  · rw [hw0]; exact r5.drew
def RefRenPost (T : Trel) (w : World) (e : Ending) (w' : World) : Prop :=
  Below w.heap.size w w' ∧ ∃ y A' B' c' d', e = .returned (.agg #[.slice A' T.nw c', .slice B' T.n d']) ∧ IsRen T y ∧ RenOut T y w' A' B' c' d'
set_option maxRecDepth 100000 in
set_option maxHeartbeats 16000000 in
theorem refRen_any (T : Trel) (A B : Option Addr) (c d : Nat) (w : World) (h : T.Reads w A B) (hP : T.Proper) :
    Calls Try.prog 37 #[.agg #[.slice A T.nw c, .slice B T.n d]] w (RefRenPost T w) := by
  obtain ⟨RB, hRB⟩ : ∃ o, o = (Obj.cells #[.slice A T.nw c, .slice B T.n d] 25) := ⟨_, rfl⟩
  have hB0 : Below (w.heap.size + 1) (w.alloc RB) (w.alloc RB) := Below.refl _ _
  have HS : Hid (∀ w', Below (w.heap.size + 1) (w.alloc RB) w' → (w'.cell? ⟨w.heap.size, 0, none⟩ = some (.slice A T.nw c) ∧ w'.cell? ⟨w.heap.size, 1, none⟩ = some (.slice B T.n d)) ∧ Below w.heap.size w w') := fun w' hB => by
    have hB' := tbox_below hB
    subst hRB
    exact ⟨⟨tbox hB rfl, tbox hB rfl⟩, hB'⟩
  obtain ⟨⟨p0, p1⟩, hW⟩ := HS.out _ hB0
  have HP := hid hP
  have HR := hid h
  have hn64 := hP.shape.n64
  have hnw := hP.shape.nw
  have hnw0 : 0 < T.nw := by omega
  have HNW := hid hnw
  have n3 : Hid (T.nw ≤ maxLen) := by show _ ≤ _; unfold maxLen; omega
  have n4 : Hid (T.nw * 8 ≤ 140737488355328) := by show _ ≤ _; omega
  obtain ⟨i0, qi0, qz0, qz1, qz2⟩ := info_parts Try.infoInt
  have NR : Hid (∀ w', Below (w.heap.size + 1) (w.alloc RB) w' → Rd w' w'.heap.size A T.nw 1 (fun i _ => .int .i64 (T.W i))) := fun w' hB => (HR.out.on (HS.out _ hB).2).1
  clear h hP hnw
  go_enter Try.func37, Try.ntmps37
  go_upto_region 1 with fail
  rw [← hRB]
  clear hRB hW
  have kb1 : Below (w.heap.size + 1) (w.alloc RB) (((w.alloc RB).alloc (Obj.cells #[.slice none 0 0, .slice none 0 0] 25)).alloc (Obj.cells #[] 3)) := (hB0.alloc (by simp) _).alloc (by simp) _
  have NR1 := hid (NR.out _ kb1)
  go_upto_region 3 with (first | (at_builtin; (refine wpList_append_copy_some rfl (.tmp 13) (.tmp 15) _ rfl 3 i0 _ 1 8 Try.underlying22 qi0 qz0 qz1 qz2 rfl (by omega) _ rfl A T.nw c (fun i _ => .int .i64 (T.W i)) rfl NR1.out hnw0 (fun _ _ _ _ => rfl) n3.out n4.out ?_); intro cap cur k1 k2 k3 k4))
  have hst := renSt_start HP.out (w.alloc RB) k1 k2 k3 k4
  have hs1 : (w.alloc RB).heap.size = w.heap.size + 1 := by simp
  have kb2 : Below (w.alloc RB).heap.size (w.alloc RB) (((((((w.alloc RB).alloc (Obj.cells #[.slice none 0 0, .slice none 0 0] 25)).alloc (Obj.cells #[] 3)).alloc (Obj.cells cur 3)).alloc (Obj.cells #[.slice (some ⟨w.heap.size + 1 + 1 + 1, 0, none⟩) T.nw cap, .slice none 0 0] 25)).alloc (Obj.cells #[.int .i64 0] 3)).drew) := ((((((Below.refl _ _).alloc (Nat.le_refl _) _).alloc (by simp) _).alloc (by simp) _).alloc (by simp) _).alloc (by simp) _).drew
  have hB1 := tbox_on hB0 kb2
  rw [hs1] at hst
  obtain ⟨w1, hw1⟩ : ∃ W, W = ((((((w.alloc RB).alloc (Obj.cells #[.slice none 0 0, .slice none 0 0] 25)).alloc (Obj.cells #[] 3)).alloc (Obj.cells cur 3)).alloc (Obj.cells #[.slice (some ⟨w.heap.size + 1 + 1 + 1, 0, none⟩) T.nw cap, .slice none 0 0] 25)).alloc (Obj.cells #[.int .i64 0] 3)).drew := ⟨_, rfl⟩
  rw [← hw1] at hst hB1 ⊢
  have HST := hid hst
  obtain ⟨ov, hov⟩ : ∃ x : Value, x = .slice (some ⟨w.heap.size + 1 + 1 + 1 + 1 + 1, 0, none⟩) 1 1 := ⟨_, rfl⟩
  obtain ⟨ob, hob⟩ : ∃ b, b = w.heap.size + 1 + 1 + 1 + 1 := ⟨_, rfl⟩
  obtain ⟨wb, hwb⟩ : ∃ b, b = w.heap.size + 1 + 1 + 1 := ⟨_, rfl⟩
  obtain ⟨rb, hrb⟩ : ∃ b, b = w.heap.size + 1 := ⟨_, rfl⟩
  have HRB := hid hrb
  have HOB := hid hob
  rw [← hov, ← hob, ← hwb] at HST ⊢
  have HST : Hid (RenSt T 0 ob wb cap rb w1 (w.heap.size + 1) ov) := by rw [hrb]; exact HST
  rw [← hrb]
  clear hov hob hwb hrb hst hw1 kb2 hB0 hs1 kb1 NR1 k1 k2 k3 k4 p0 p1 NR
  go_wp2
  go_loopg [4, 5] T.n (fun gg ov iv wx => ∃ i : Nat, iv = .int .i64 (i : Nat) ∧ i ≤ T.n ∧ T.n ≤ i + gg ∧ Hid (RenSt T i ob wb cap rb wx (w.heap.size + 1) ov) ∧ Below (w.heap.size + 1) (w.alloc RB) wx)
  case atStart => exact ⟨0, rfl, by omega, by omega, HST, hB1⟩
  case round =>
    clear HST hB1
    obtain ⟨gI, hgI⟩ : ∃ g, g = gk := ⟨_, rfl⟩
    subst hgI
    obtain ⟨i, rfl, hi, hig, HST, hB⟩ := hrel
    obtain ⟨⟨p0, p1⟩, hW⟩ := HS.out _ hB
    have hi0 : (0 : Int) ≤ (i : Int) := by omega
    by_cases hlt : i < T.n
    · have hlt' : (i : Int) < (T.n : Int) := by omega
      obtain ⟨m, hm⟩ : ∃ m : Nat, m = (T.W (i + 1)).toNat := ⟨_, rfl⟩
      have hwid := HP.out.shape.wid (i := i + 1) (by omega)
      have hmW : T.W (i + 1) = (m : Int) := by omega
      have hm1 : 0 < m := by omega
      have hm2 : m ≤ 65536 := by omega
      obtain ⟨b, o, hA, hb, x0, _⟩ := (HR.out.on hW).width (i := i + 1) (by rw [HNW.out]; omega)
      rw [hmW] at x0
      subst hA
      have hk1' : (i : Int) + 1 < (T.nw : Int) := by have := HNW.out; omega
      have hk01 : (0 : Int) ≤ (i : Int) + 1 := by omega
      have hwk1 : IntKind.i64.wrap ((i : Int) + 1) = (i : Int) + 1 := IntWalk.i64_in _ (by omega)
      have htn1 : ((i : Int) + 1).toNat = i + 1 := by omega
      have HM := hid hm
      clear hm hmW hwid
      have hmk := fun W => run_makeI (P := Try.prog) 22 3 _ 8 Try.underlying22 Try.infoInt rfl (m : Int) (by omega) (by omega) (by omega) W
      simp only [Int.toNat_natCast] at hmk
      go_upto_region 7 with fail
      have hst := HST.out
      have HBA := hid hB
      have hwz := tbox_lt hB
      obtain ⟨wa, hwa⟩ : ∃ W, W = wr := ⟨_, rfl⟩
      subst hwa
      have hr1 := World.rowIs_made wa (.int .i64 0) m 3
      have kb1 : Below wa.heap.size wa (wa.alloc (Obj.cells (madeCells #[Value.int .i64 0] m) 3)) := (Below.refl _ _).alloc (Nat.le_refl _) _
      obtain ⟨w2, hw2⟩ : ∃ W, W = wa.alloc (Obj.cells (madeCells #[Value.int .i64 0] m) 3) := ⟨_, rfl⟩
      obtain ⟨nb, hnb⟩ : ∃ b, b = wa.heap.size := ⟨_, rfl⟩
      have HNB := hid hnb
      rw [← hw2] at kb1 ⊢
      rw [← hnb] at hr1 ⊢
      rw [← hw2] at hr1
      have hr2 : w2.rowIs nb 3 m (fun v => .int .i64 (if v < 0 then -1 else 0)) := hr1.congr fun v _ => by rw [if_neg (by omega)]
      clear hw2 hnb hmk hr1 x0 p0 p1 hW hB hst
      go_wp2
      go_loopg [7] m (fun gg vv wx => ∃ v : Nat, vv = .int .i64 (v : Nat) ∧ v ≤ m ∧ m ≤ v + gg ∧ wx.rowIs nb 3 m (fun x => .int .i64 (if x < v then -1 else 0)) ∧ Below wa.heap.size wa wx)
      case atStart => exact ⟨0, rfl, by omega, by omega, hr2, kb1⟩
      case round =>
        clear hr2 kb1
        obtain ⟨v, rfl, hv, hvg, hrow, hB⟩ := hrel
        have hv0 : (0 : Int) ≤ (v : Int) := by omega
        by_cases hltv : v < m
        · have hltv' : (v : Int) < (m : Int) := by omega
          have y0 := hrow.cell hltv
          have z0 := hrow.frozen v
          have hrs := hrow.set v (.int .i64 (-1))
          have hBs := hB.setCell (p := ⟨nb, v, none⟩) (by have := HNB.out; show _ ≤ nb; omega) (.int .i64 (-1))
          have HRS := hid hrs
          have HBS := hid hBs
          clear hrs hBs hrow hB
          go_wp2
          go_roundg (gk - 1)
          case measure => omega
          case rel =>
            refine ⟨v + 1, by go_num, by omega, by omega, HRS.out.congr fun x _ => ?_, HBS.out⟩
            show (if x = v then _ else Value.int .i64 (if x < v then -1 else 0)) = Value.int .i64 (if x < v + 1 then -1 else 0)
            by_cases e : x = v
            · rw [if_pos e, if_pos (by omega)]
            · rw [if_neg e]
              by_cases e2 : x < v
              · rw [if_pos e2, if_pos (by omega)]
              · rw [if_neg e2, if_neg (by omega)]
        · have hltv' : ¬ (v : Int) < (m : Int) := by omega
          obtain rfl : v = m := by omega
          have hrow0 : wr.rowIs nb 3 v (fun x => .int .i64 (numOf (T.visN i 0 0) x)) := hrow.congr fun x hx => by rw [if_pos hx]; rfl
          have hBm := hB
          clear hrow hB
          go_upto_region 13 with fail
          have hs2 : (wr.alloc (Obj.cells #[] 3)).heap.size = wr.heap.size + 1 := by simp
          have kb3 : Below wr.heap.size wr ((wr.alloc (Obj.cells #[] 3)).alloc (Obj.cells #[] 72)) := ((Below.refl _ _).alloc (Nat.le_refl _) _).alloc (by simp) _
          have hbz := hBm.size
          have hV0 : VisSt T i 0 0 nb v ((wr.alloc (Obj.cells #[] 3)).alloc (Obj.cells #[] 72)) wa.heap.size (.slice (some ⟨wr.heap.size, 0, none⟩) 0 0) (.slice (some ⟨wr.heap.size + 1, 0, none⟩) 0 0) :=
            ⟨hrow0.of_block (kb3.block _ hrow0.lt), (own_empty (by omega) (heap_new_at rfl)).alloc _, own_empty (by omega) (heap_new_at (by omega)), by
              have := hrow0.lt
              simp [Value.ownBlock]
              omega⟩
          obtain ⟨w3, hw3⟩ : ∃ W, W = (wr.alloc (Obj.cells #[] 3)).alloc (Obj.cells #[] 72) := ⟨_, rfl⟩
          rw [← hw3] at hV0 kb3 ⊢
          have hB3 := onS hBm kb3
          have HV0 := hid hV0
          obtain ⟨q1, hq1⟩ : ∃ x : Value, x = .slice (some ⟨wr.heap.size, 0, none⟩) 0 0 := ⟨_, rfl⟩
          obtain ⟨q2, hq2⟩ : ∃ x : Value, x = .slice (some ⟨wr.heap.size + 1, 0, none⟩) 0 0 := ⟨_, rfl⟩
          rw [← hq1, ← hq2] at HV0 ⊢
          clear hq1 hq2 hw3 hV0 kb3 hs2 hbz hrow0 hBm
          obtain ⟨o5, ho5, hov⟩ := HST.out.ord
          obtain ⟨OA, oc, rfl⟩ := hov.shape
          have HOV := hid hov
          have HO5 := hid ho5
          obtain ⟨M, hM⟩ : ∃ M, M = (T.W i).toNat := ⟨_, rfl⟩
          have hMw := HP.out.shape.wid (i := i) (by omega)
          have hM2 : M ≤ 65536 := by omega
          rw [← hM] at HOV ⊢
          have HMM := hid hM
          clear hov ho5 hM hMw
          go_wp2
          go_loopg [8, 9, 10] M (fun gg nv ev uv wx => ∃ u : Nat, uv = .int .i64 (u : Nat) ∧ u ≤ M ∧ M ≤ u + gg ∧ Hid (VisSt T i u 0 nb v wx wa.heap.size nv ev) ∧ Below wa.heap.size wa wx)
          case atStart => exact ⟨0, rfl, by omega, by omega, HV0, hB3⟩
          case round =>
            clear HV0 hB3
            obtain ⟨gU, hgU⟩ : ∃ g, g = gk := ⟨_, rfl⟩
            subst hgU
            obtain ⟨u, rfl, hu, hug, HV, hB⟩ := hrel
            have hu0 : (0 : Int) ≤ (u : Int) := by omega
            by_cases hltu : u < M
            · have hltu' : (u : Int) < (M : Int) := by omega
              have hel := HP.out.shape.elb hlt
              obtain ⟨el, hele⟩ : ∃ n, n = T.el i := ⟨_, rfl⟩
              have HEL := hid hele
              rw [← hele] at hel
              clear hele
              go_wp2
              go_loopg [8, 9, 11] el (fun gg nv ev jv wx => ∃ j : Nat, jv = .int .i64 (j : Nat) ∧ j ≤ el ∧ el ≤ j + gg ∧ Hid (VisSt T i u j nb v wx wa.heap.size nv ev) ∧ Below wa.heap.size wa wx)
              case atStart => exact ⟨0, rfl, by omega, by omega, HV, hB⟩
              case round =>
                clear HV hB
                obtain ⟨j, rfl, hj, hjg, HV, hB⟩ := hrel
                have hj0 : (0 : Int) ≤ (j : Int) := by omega
                have hBR := tbox_on HBA.out hB
                obtain ⟨⟨p0, p1⟩, hW⟩ := HS.out _ hBR
                obtain ⟨eb, eo, E, ec, heB, heb, x0, he1, he2, he3, he4⟩ := (HR.out.on hW).sec hlt
                subst heB
                rw [← HEL.out] at x0 he1 he3
                by_cases hltj : j < el
                · have hltj' : (j : Int) < (el : Int) := by omega
                  obtain ⟨b9, o9, rfl, hb9, y0, y1, y2⟩ := edge_at he3 hltj
                  have hltj2 : j < T.el i := by rw [← HEL.out]; exact hltj
                  have htl := HP.out.toL hlt hltj2
                  have hfl := HP.out.frL hlt hltj2
                  obtain ⟨tn, htn⟩ : ∃ n, n = (T.to i j).toNat := ⟨_, rfl⟩
                  obtain ⟨fn, hfn⟩ : ∃ n, n = (T.fr i j).toNat := ⟨_, rfl⟩
                  obtain ⟨lv, hlv⟩ : ∃ z, z = T.lb i j := ⟨_, rfl⟩
                  rw [← htn, ← HM.out] at htl
                  rw [← hfn, ← HMM.out] at hfl
                  rw [← htl.2] at y2
                  rw [← hfl.2] at y0
                  rw [← hlv] at y1
                  have htl1 := htl.1
                  have htl1' : (tn : Int) < (v : Int) := by omega
                  have hfl1 := hfl.1
                  have ho := HO5.out u (by rw [← HMM.out]; exact hltu)
                  obtain ⟨ou, hou⟩ : ∃ n, n = o5 u := ⟨_, rfl⟩
                  obtain ⟨bO, oO, cO, hsO, hbO, hbO2, hcO1, hcO2, hcellO⟩ := (HOV.out.on hB).form (by omega)
                  injection hsO with hsO _ hsO3
                  subst hsO hsO3
                  have xo := hcellO u hltu 0 (by omega)
                  rw [Nat.mul_one, Nat.add_zero, ← hou] at xo
                  have heqv : T.nm i (T.fr i j).toNat = u ↔ fn = ou := by
                    rw [← hfn]
                    constructor
                    · intro e
                      rw [hou]
                      refine HP.out.nm_inj (i := i) (by omega) _ _ (by rw [← HMM.out]; exact hfl1) ho.1 ?_
                      rw [e, ho.2]
                    · intro e
                      rw [e, hou, ho.2]
                  have HEQ := hid heqv
                  have HTN := hid htn
                  have HLV := hid hlv
                  clear htl hfl heqv htn hfn hlv ho hou he3 he4 hcellO hltj2
                  go_upto_region 20 with fail
                  obtain ⟨OB, hOB⟩ : ∃ o, o = (Obj.cells #[Value.int .i64 (fn : Nat), Value.int .i64 lv, Value.int .i64 (tn : Nat)] 72) := ⟨_, rfl⟩
                  rw [← hOB]
                  have kb : Below wr.heap.size wr (wr.alloc OB) := (Below.refl _ _).alloc (Nat.le_refl _) _
                  have c0 : (wr.alloc OB).cell? ⟨wr.heap.size, 0, none⟩ = some (.int .i64 (fn : Nat)) := by subst hOB; exact tbox (Below.refl _ _) rfl
                  have c1 : (wr.alloc OB).cell? ⟨wr.heap.size, 1, none⟩ = some (.int .i64 lv) := by subst hOB; exact tbox (Below.refl _ _) rfl
                  have c2 : (wr.alloc OB).cell? ⟨wr.heap.size, 2, none⟩ = some (.int .i64 (tn : Nat)) := by subst hOB; exact tbox (Below.refl _ _) rfl
                  obtain ⟨w4, hw4⟩ : ∃ W, W = wr.alloc OB := ⟨_, rfl⟩
                  have hl4 : wr.heap.size < w4.heap.size := by rw [hw4]; simp
                  have HNP : Hid (∀ q, u8.ownBlock = some q → q < wr.heap.size) := fun q e => (HV.out.next.lt q e).2
                  have hnbp : nb < wr.heap.size := HV.out.row.lt
                  obtain ⟨pb, hpb⟩ : ∃ b, b = wr.heap.size := ⟨_, rfl⟩
                  rw [← hw4] at kb c0 c1 c2 ⊢
                  have hV := HV.out.on kb
                  replace hB := onS hB kb
                  replace xo := cellS kb xo
                  rw [← hpb] at c0 c1 c2 hl4 HNP hnbp ⊢
                  have HPN : Hid (nb ≠ pb) := by show _ ≠ _; omega
                  have HEB : Hid (u9.ownBlock ≠ some pb) := fun e => by have := (HV.out.edges.lt _ e).2; omega
                  clear HV hpb hw4 hOB kb y0 y1 y2 p0 p1 hW x0 hb9 heb hBR hnbp
                  --DEV sorry
--{D
                  by_cases heq : fn = ou
                  · have heq' : ((fn : Int) != (ou : Int)) = false := by simp [heq]
                    go_wp2
                    go_quiet (fail)
                    go_upto_region 21 with fail
                    obtain ⟨w5, hw5⟩ : ∃ W, W = w4.drewN nq := ⟨_, rfl⟩
                    have kb5 : Below w4.heap.size w4 w5 := by rw [hw5]; exact below_drewN (Below.refl _ _) _
                    rw [← hw5]
                    replace hV := hV.on kb5
                    replace hB := onS hB kb5
                    replace c1 := cellS kb5 c1
                    replace c2 := cellS kb5 c2
                    clear hw5 kb5 heq' c0 xo hl4
                    obtain ⟨hrow, hnext, hedges, hne⟩ := hV
                    have hcell := hrow.cell htl1
                    by_cases hmem : tn ∈ T.visN i u j
                    · have hN : T.visN i u (j + 1) = T.visN i u j := by rw [Trel.visN_pos (HEQ.out.2 heq), ← HTN.out, if_pos hmem]
                      obtain ⟨q, hq⟩ : ∃ q, q = (T.visN i u j).idxOf tn := ⟨_, rfl⟩
                      have hqi : q = (T.visN i u (j + 1)).idxOf tn := by rw [hN]; exact hq
                      have hnq : numOf (T.visN i u j) tn = (q : Nat) := by unfold numOf; rw [if_pos hmem, hq]
                      rw [hnq] at hcell
                      have hq0 : ¬ (q : Int) < 0 := by omega
                      rw [← hN] at hrow hnext
                      have hedges := hedges.congr (f' := edgeCell (T.visE i u (j + 1))) fun p hp q' _ => by unfold edgeCell; rw [Trel.visE_old (HEQ.out.2 heq) hp]
                      clear hq hnq hN hmem
                      obtain ⟨w6, hw6⟩ : ∃ W, W = w5 := ⟨_, rfl⟩
                      subst hw6
                      go_wp2
                      have hlen := Trel.visV_len (T := T) (i := i) (u := u) (j := j) (by rw [← HEL.out]; exact hj)
                      rw [← HEL.out] at hlen
                      have HL : Hid ((T.visV i u j).length ≤ 1048576) := by show _ ≤ _; omega
                      have HVL := hid (congrArg List.length (Trel.visV_pos (T := T) (i := i) (HEQ.out.2 heq)))
                      have HLE := hid (Trel.visE_last (T := T) (i := i) (HEQ.out.2 heq))
                      rw [← HLV.out, ← HTN.out, ← hqi] at HLE
                      have HNE := hid hne
                      have HEP : Hid (u9.ownBlock ≠ some pb) := HEB.out
                      clear hlen hne hqi
                      refine wp_region_held_drew (S := fun w' => w'.cell? ⟨pb, 1, none⟩ = some (.int .i64 lv) ∧ w'.cell? ⟨pb, 2, none⟩ = some (.int .i64 (tn : Nat)) ∧ w'.cell? ⟨nb, tn, none⟩ = some (.int .i64 (q : Nat))) (by kernel_rfl) ⟨cellS (Below.refl _ _).drew c1, cellS (Below.refl _ _).drew c2, cellS (Below.refl _ _).drew hcell⟩ (fun hHeld => ?_)
                      obtain ⟨w7, hw⟩ : ∃ W, W = World.drew w6 := ⟨_, rfl⟩
                      have kb : Below w6.heap.size w6 w7 := by rw [hw]; exact (Below.refl _ _).drew
                      rw [← hw] at hHeld ⊢
                      clear hw
                      replace hrow := rowIs_on hrow kb
                      replace hB := onS hB kb
                      replace c1 := cellS kb c1
                      replace c2 := cellS kb c2
                      replace hcell := cellS kb hcell
                      replace hnext := hnext.on kb
                      replace hedges := hedges.on kb
                      clear kb
                      refine wpAnyH_take (i := 0) (v := ?_) (by simp only [List.getElem?_toArray, List.getElem?_cons_zero]; rfl) (by kernel_rfl) (by kernel_rfl) (by kernel_rfl) (by exact fun _ _ _ h => h) (Or.inl ⟨by rfl, ?_⟩) (by assumption) ?_
                      rotate_left
                      · (intro w hSw; (try dsimp only at hSw); go_simp); first | done | with_reducible rfl
                      try simp only [Act.put, List.setIfInBounds_toArray, List.set_cons_zero, List.set_cons_succ]
                      refine wpAnyH_take (i := 1) (v := ?_) (by simp only [List.getElem?_toArray, List.getElem?_cons_succ, List.getElem?_cons_zero]; rfl) (by kernel_rfl) (by kernel_rfl) (by kernel_rfl) (by exact fun _ _ _ h => h) (Or.inl ⟨by rfl, ?_⟩) (by assumption) ?_
                      rotate_left
                      · (intro w hSw; (try dsimp only at hSw); go_simp); first | done | with_reducible rfl
                      try simp only [Act.put, List.setIfInBounds_toArray, List.set_cons_zero, List.set_cons_succ]
                      refine wpAnyH_take (i := 2) (v := ?_) (by simp only [List.getElem?_toArray, List.getElem?_cons_succ, List.getElem?_cons_zero]; rfl) (by kernel_rfl) (by kernel_rfl) (by kernel_rfl) (by exact fun _ _ _ h => h) (Or.inl ⟨by rfl, ?_⟩) (by assumption) ?_
                      rotate_left
                      · (intro w hSw; (try dsimp only at hSw); go_simp); first | done | with_reducible rfl
                      try simp only [Act.put, List.setIfInBounds_toArray, List.set_cons_zero, List.set_cons_succ]
                      refine wpAnyH_take (i := 3) (v := ?_) (by simp only [List.getElem?_toArray, List.getElem?_cons_succ, List.getElem?_cons_zero]; rfl) (by kernel_rfl) (by kernel_rfl) (by kernel_rfl) (by exact fun _ _ _ h => h) (Or.inl ⟨by rfl, ?_⟩) (by assumption) ?_
                      rotate_left
                      · (intro w hSw; (try dsimp only at hSw); go_simp); first | done | with_reducible rfl
                      try simp only [Act.put, List.setIfInBounds_toArray, List.set_cons_zero, List.set_cons_succ]
                      refine wpAnyH_take (i := 4) (v := ?_) (by simp only [List.getElem?_toArray, List.getElem?_cons_succ, List.getElem?_cons_zero]; rfl) (by kernel_rfl) (by kernel_rfl) (by kernel_rfl) (by exact fun _ _ _ h => h) (Or.inl ⟨by rfl, ?_⟩) (by assumption) ?_
                      rotate_left
                      · (intro w hSw; (try dsimp only at hSw); go_simp); first | done | with_reducible rfl
                      try simp only [Act.put, List.setIfInBounds_toArray, List.set_cons_zero, List.set_cons_succ]
                      refine wpAnyH_take (i := 5) (v := ?_) (by simp only [List.getElem?_toArray, List.getElem?_cons_succ, List.getElem?_cons_zero]; rfl) (by kernel_rfl) (by kernel_rfl) (by kernel_rfl) (by exact fun _ _ _ h => h) (Or.inl ⟨by rfl, ?_⟩) (by assumption) ?_
                      rotate_left
                      · (intro w hSw; (try dsimp only at hSw); go_simp); first | done | with_reducible rfl
                      try simp only [Act.put, List.setIfInBounds_toArray, List.set_cons_zero, List.set_cons_succ]
                      refine wpAnyH_take (i := 6) (v := ?_) (by simp only [List.getElem?_toArray, List.getElem?_cons_succ, List.getElem?_cons_zero]; rfl) (by kernel_rfl) (by kernel_rfl) (by kernel_rfl) (by exact fun _ _ _ h => h) (Or.inl ⟨by rfl, ?_⟩) (by assumption) ?_
                      rotate_left
                      · (intro w hSw; (try dsimp only at hSw); go_simp); first | done | with_reducible rfl
                      try simp only [Act.put, List.setIfInBounds_toArray, List.set_cons_zero, List.set_cons_succ]
                      refine wpAnyH_take (i := 7) (v := ?_) (by simp only [List.getElem?_toArray, List.getElem?_cons_succ, List.getElem?_cons_zero]; rfl) (by kernel_rfl) (by kernel_rfl) (by kernel_rfl) (by exact fun _ _ _ h => h) (Or.inl ⟨by rfl, ?_⟩) (by assumption) ?_
                      rotate_left
                      · (intro w hSw; (try dsimp only at hSw); go_simp); first | done | with_reducible rfl
                      try simp only [Act.put, List.setIfInBounds_toArray, List.set_cons_zero, List.set_cons_succ]
                      refine wpAnyH_take (i := 8) (v := ?_) (by simp only [List.getElem?_toArray, List.getElem?_cons_succ, List.getElem?_cons_zero]; rfl) (by kernel_rfl) (by kernel_rfl) (by kernel_rfl) (by exact fun _ _ _ h => h) (Or.inl ⟨by rfl, ?_⟩) (by assumption) ?_
                      rotate_left
                      · (intro w hSw; (try dsimp only at hSw); go_simp); first | done | with_reducible rfl
                      try simp only [Act.put, List.setIfInBounds_toArray, List.set_cons_zero, List.set_cons_succ]
                      refine wpAnyH_take (i := 9) (v := ?_) (by simp only [List.getElem?_toArray, List.getElem?_cons_succ, List.getElem?_cons_zero]; rfl) (by kernel_rfl) (by kernel_rfl) (by kernel_rfl) (by exact fun _ _ _ h => h) (Or.inl ⟨by rfl, ?_⟩) (by assumption) ?_
                      rotate_left
                      · (intro w hSw; (try dsimp only at hSw); go_simp); first | done | with_reducible rfl
                      try simp only [Act.put, List.setIfInBounds_toArray, List.set_cons_zero, List.set_cons_succ]
                      refine wpAnyH_ready (rs := [10]) (by kernel_rfl) (by simp) ?_
                      refine AllReadyH.cons (by simp only [List.getElem?_toArray, List.getElem?_cons_succ, List.getElem?_cons_zero]; rfl) (fun K hK => ?_) AllReadyH.nil
                      go_simp
                      obtain ⟨w8, hw⟩ : ∃ W, W = World.alloc w7 (Obj.cells #[Value.int .i64 (u : Nat), Value.int .i64 lv, Value.int .i64 (q : Nat)] 72) := ⟨_, rfl⟩
                      have kb : Below w7.heap.size w7 w8 := by rw [hw]; exact (Below.refl _ _).alloc (Nat.le_refl _) _
                      have HC : Hid (∀ j', j' < 3 → w8.cell? ((⟨w7.heap.size, 0, none⟩ : Addr).add j') = some (edgeCell (T.visE i u (j + 1)) (T.visV i u j).length j')) := fun j' hj' => by
                        unfold edgeCell
                        rw [hw, HLE.out]
                        match j', hj' with
                        | 0, _ => exact tbox (Below.refl _ _) rfl
                        | 1, _ => exact tbox (Below.refl _ _) rfl
                        | 2, _ => exact tbox (Below.refl _ _) rfl
                      rw [← hw]
                      clear hw
                      obtain ⟨xb, hxb⟩ : ∃ b, b = w7.heap.size := ⟨_, rfl⟩
                      rw [← hxb] at HC ⊢
                      clear hxb
                      replace hrow := rowIs_on hrow kb
                      replace hB := onS hB kb
                      replace c1 := cellS kb c1
                      replace c2 := cellS kb c2
                      replace hcell := cellS kb hcell
                      replace hnext := hnext.on kb
                      replace hedges := hedges.on kb
                      clear kb
                      refine hK.out _ _ ⟨c1, c2, hcell⟩ (fun hHeld => ?_)
                      clear hK K
                      try simp only [Act.put, List.setIfInBounds_toArray, List.set_cons_zero, List.set_cons_succ]
                      refine wpAnyH_ready (rs := [11]) (by kernel_rfl) (by simp) ?_
                      refine AllReadyH.cons (by simp only [List.getElem?_toArray, List.getElem?_cons_succ, List.getElem?_cons_zero]; rfl) (fun K hK => ?_) AllReadyH.nil
                      refine step_append_edge (by rfl) (.tmp 92) (.tmp 102) (by rfl) hedges (by rfl) (ad := ⟨xb, 0, none⟩) (c := 1) (by rfl) HC.out hB.size HL.out ?_
                      intro v9 w9 o1 o2 o3
                      have hnr : u9.ownBlock ≠ some nb := own_row_ne hrow hedges (by decide)
                      replace hrow := hrow.of_block (o2.block nb hrow.lt fun e => hnr e.symm)
                      replace hnext := hnext.kept o2 (own_ne hedges hnext (by decide))
                      have hB9 := hB.grown o2 hB.size fun q e => (Own.lt hedges q e).1
                      replace c1 := cell_grown c1 o2 HEP.out
                      replace c2 := cell_grown c2 o2 HEP.out
                      replace hcell := cell_grown hcell o2 hnr
                      clear hB hedges o2 o3 hnr HC
                      refine hK.out _ _ ⟨c1, c2, hcell⟩ (fun hHeld => ?_)
                      clear hK K
                      try simp only [Act.put, List.setIfInBounds_toArray, List.set_cons_zero, List.set_cons_succ]
                      refine wpAnyH_take (i := 12) (v := ?_) (by simp only [List.getElem?_toArray, List.getElem?_cons_succ, List.getElem?_cons_zero]; rfl) (by kernel_rfl) (by kernel_rfl) (by kernel_rfl) (by exact fun _ _ _ h => h) (Or.inl ⟨by rfl, ?_⟩) (by assumption) ?_
                      rotate_left
                      · (intro w hSw; (try dsimp only at hSw); go_simp); first | done | with_reducible rfl
                      try simp only [Act.put, List.setIfInBounds_toArray, List.set_cons_zero, List.set_cons_succ]
                      refine wpAnyH_done (by kernel_rfl) ?_ _
                      clear hHeld
                      have HR9 := hid hrow
                      have HN9 := hid hnext
                      have HB9 := hid hB9
                      have HE9 := hid o1
                      clear hrow hnext hB9 o1 c1 c2 hcell
                      go_wp2
                      go_roundg (gk - 1)
                      case measure => omega
                      case rel =>
                        refine ⟨j + 1, by go_num, by omega, by omega, ⟨HR9.out, HN9.out, ?_, HNE.out⟩, HB9.out⟩
                        have h9 := HE9.out
                        have h8 := HVL.out
                        rw [List.length_append, List.length_singleton] at h8
                        rw [h8]
                        exact h9
                    · have hN : T.visN i u (j + 1) = T.visN i u j ++ [tn] := by rw [Trel.visN_pos (HEQ.out.2 heq), ← HTN.out, if_neg hmem]
                      have hnq : numOf (T.visN i u j) tn = -1 := by unfold numOf; rw [if_neg hmem]
                      rw [hnq] at hcell
                      obtain ⟨NA, nc, hNA⟩ := hnext.shape
                      subst hNA
                      have hpn0 : (Value.slice NA (T.visN i u j).length nc).ownBlock ≠ some pb := fun e => Nat.lt_irrefl _ (HNP.out _ e)
                      have hnew := numOf_new hmem
                      obtain ⟨NL, hNL⟩ : ∃ n, n = (T.visN i u j).length := ⟨_, rfl⟩
                      have hqi : NL = (T.visN i u (j + 1)).idxOf tn := by rw [hN, List.idxOf_append, if_neg hmem, hNL]; simp
                      have hnl2 : (T.visN i u (j + 1)).length = NL + 1 := by rw [hN, hNL]; simp
                      have hnNL : NL ≤ 65536 := by
                        have h1 : (T.visN i u j).length ≤ v := by
                          by_cases h : (T.visN i u j).length ≤ v
                          · exact h
                          · have hnd := T.visN_nodup i u j
                            have hsub : ∀ x, x ∈ T.visN i u j → x ∈ List.range v := fun x hx => by
                              rw [List.mem_range, HM.out]
                              exact Trel.Proper.visN_lt HP.out hlt (by rw [← HEL.out]; omega) hx
                            have := (perm_of_nodup hnd hsub (by simp; omega)).length_eq
                            simp at this
                            omega
                        omega
                      have hnext := hnext.congr (f' := fun k _ => .int .i64 ((T.visN i u (j + 1)).getD k 0 : Nat)) fun k hk _ _ => by
                        rw [hN, List.getD_eq_getElem?_getD, List.getD_eq_getElem?_getD, List.getElem?_append_left hk]
                      have hlast : (T.visN i u (j + 1)).getD NL 0 = tn := by rw [hN, hNL]; simp [List.getD_eq_getElem?_getD]
                      rw [← hNL] at hnext hnew hne hpn0 ⊢
                      have HPN0 := hid hpn0
                      clear hpn0
                      rw [← hN] at hnew
                      have hedges := hedges.congr (f' := edgeCell (T.visE i u (j + 1))) fun p hp q' _ => by unfold edgeCell; rw [Trel.visE_old (HEQ.out.2 heq) hp]
                      have z0 := hrow.frozen tn
                      have HNL := hid hnl2
                      have HQI := hid hqi
                      have HLA := hid hlast
                      have HNWn := hid hnew
                      have hm1 : ((-1 : Int) < 0) := by omega
                      clear hnl2 hqi hlast hN hnq hNL hmem hnew
                      have hrs := hrow.set tn (.int .i64 (NL : Nat))
                      have hns := hnext.setCell (a := ⟨nb, tn, none⟩) hne (.int .i64 (NL : Nat))
                      have hes := hedges.setCell (a := ⟨nb, tn, none⟩) (own_row_ne hrow hedges (by decide)) (.int .i64 (NL : Nat))
                      have hBs := hB.setCell (p := ⟨nb, tn, none⟩) (by have := HNB.out; show _ ≤ nb; omega) (.int .i64 (NL : Nat))
                      have c1s := cell_setCell_far (p := ⟨nb, tn, none⟩) (u := .int .i64 (NL : Nat)) c1 fun e => HPN.out (by exact e.symm)
                      have c2s := cell_setCell_far (p := ⟨nb, tn, none⟩) (u := .int .i64 (NL : Nat)) c2 fun e => HPN.out (by exact e.symm)
                      obtain ⟨wS, hwS⟩ : ∃ W, W = w5.setCell ⟨nb, tn, none⟩ (.int .i64 (NL : Nat)) := ⟨_, rfl⟩
                      have HWS := hid hwS
                      rw [← hwS] at hrs hns hes hBs c1s c2s
                      have HRS := hid hrs
                      have HNS := hid hns
                      have HES := hid hes
                      have HBS := hid hBs
                      have C1S := hid c1s
                      clear hrs hns hes hBs c1s hrow hnext hedges hB c1 hwS
                      go_upto_region 23 with fail
                      rw [← HWS.out]
                      have kbd : Below wS.heap.size wS (wS.alloc (Obj.cells #[Value.int .i64 (tn : Nat)] 3)) := (Below.refl _ _).alloc (Nat.le_refl _) _
                      have HN1 := hid (HNS.out.on kbd)
                      have HB1 := hid (onS HBS.out kbd)
                      have HE1 := hid (HES.out.on kbd)
                      have HR1 := hid (HRS.out.of_block (kbd.block nb HRS.out.lt))
                      have D1 := hid (cellS kbd C1S.out)
                      have D2 := hid (cellS kbd c2s)
                      have HZ : Hid (wa.heap.size ≤ (wS.alloc (Obj.cells #[Value.int .i64 (tn : Nat)] 3)).heap.size) := HB1.out.size
                      have HC : Hid ((wS.alloc (Obj.cells #[Value.int .i64 (tn : Nat)] 3)).cell? ((⟨wS.heap.size, 0, none⟩ : Addr).add 0) = some (.int .i64 ((fun k => (((T.visN i u (j + 1)).getD k 0 : Nat) : Int)) NL))) := by
                        show _ = some (Value.int .i64 (((T.visN i u (j + 1)).getD NL 0 : Nat) : Int))
                        rw [HLA.out]
                        exact tbox (Below.refl _ _) rfl
                      have HNL2 : Hid (NL ≤ 1048576) := by show _ ≤ _; omega
                      clear kbd
                      go_upto_region 24 with (first | (at_builtin; (refine wpList_append_fint rfl (.tmp 87) (.tmp 90) rfl (f := fun k => (((T.visN i u (j + 1)).getD k 0 : Nat) : Int)) HN1.out rfl (ad := ⟨wS.heap.size, 0, none⟩) (c := 1) rfl HC.out HZ.out HNL2.out ?_); intro v8 w6 o1 o2 o3))
                      have hnext := o1
                      rw [← HNL.out] at hnext
                      have hB := HB1.out.grown o2 HZ.out fun q e => (Own.lt HN1.out q e).1
                      have hedges := HE1.out.kept o2 (own_ne HN1.out HE1.out (by decide))
                      have hrow : w6.rowIs nb 3 v (fun x => .int .i64 (numOf (T.visN i u (j + 1)) x)) := (HR1.out.of_block (o2.block nb HR1.out.lt fun e => hne e.symm)).congr fun x _ => by
                        show (if x = tn then _ else _) = _
                        rw [HNWn.out x]
                        by_cases e : x = tn
                        · rw [if_pos e, if_pos e]
                        · rw [if_neg e, if_neg e]
                      have hcell : w6.cell? ⟨nb, tn, none⟩ = some (.int .i64 (NL : Nat)) := by
                        have := hrow.cell htl1
                        rw [HNWn.out tn, if_pos rfl] at this
                        exact this
                      have hpn := HPN0.out
                      have c1 := cell_grown D1.out o2 hpn
                      have c2 := cell_grown D2.out o2 hpn
                      have hne : v8.ownBlock ≠ some nb := by
                        rcases o3 with e | e
                        · rw [e]; exact hne
                        · rw [e]
                          intro e2
                          injection e2 with e2
                          have := HR1.out.lt
                          omega
                      obtain ⟨q, hq⟩ : ∃ q, q = NL := ⟨_, rfl⟩
                      have hqi := HQI.out
                      rw [← hq] at hqi hcell
                      clear o1 o2 o3 hq hpn HC HZ HN1 HB1 HE1 HR1 D1 D2 HRS HNS HES HBS C1S HWS hm1 z0 c2s
                      have hlen := Trel.visV_len (T := T) (i := i) (u := u) (j := j) (by rw [← HEL.out]; exact hj)
                      rw [← HEL.out] at hlen
                      have HL : Hid ((T.visV i u j).length ≤ 1048576) := by show _ ≤ _; omega
                      have HVL := hid (congrArg List.length (Trel.visV_pos (T := T) (i := i) (HEQ.out.2 heq)))
                      have HLE := hid (Trel.visE_last (T := T) (i := i) (HEQ.out.2 heq))
                      rw [← HLV.out, ← HTN.out, ← hqi] at HLE
                      have HNE := hid hne
                      have HEP : Hid (u9.ownBlock ≠ some pb) := HEB.out
                      clear hlen hne hqi
                      refine wp_region_held_drew (S := fun w' => w'.cell? ⟨pb, 1, none⟩ = some (.int .i64 lv) ∧ w'.cell? ⟨pb, 2, none⟩ = some (.int .i64 (tn : Nat)) ∧ w'.cell? ⟨nb, tn, none⟩ = some (.int .i64 (q : Nat))) (by kernel_rfl) ⟨cellS (Below.refl _ _).drew c1, cellS (Below.refl _ _).drew c2, cellS (Below.refl _ _).drew hcell⟩ (fun hHeld => ?_)
                      obtain ⟨w7, hw⟩ : ∃ W, W = World.drew w6 := ⟨_, rfl⟩
                      have kb : Below w6.heap.size w6 w7 := by rw [hw]; exact (Below.refl _ _).drew
                      rw [← hw] at hHeld ⊢
                      clear hw
                      replace hrow := rowIs_on hrow kb
                      replace hB := onS hB kb
                      replace c1 := cellS kb c1
                      replace c2 := cellS kb c2
                      replace hcell := cellS kb hcell
                      replace hnext := hnext.on kb
                      replace hedges := hedges.on kb
                      clear kb
                      refine wpAnyH_take (i := 0) (v := ?_) (by simp only [List.getElem?_toArray, List.getElem?_cons_zero]; rfl) (by kernel_rfl) (by kernel_rfl) (by kernel_rfl) (by exact fun _ _ _ h => h) (Or.inl ⟨by rfl, ?_⟩) (by assumption) ?_
                      rotate_left
                      · (intro w hSw; (try dsimp only at hSw); go_simp); first | done | with_reducible rfl
                      try simp only [Act.put, List.setIfInBounds_toArray, List.set_cons_zero, List.set_cons_succ]
                      refine wpAnyH_take (i := 1) (v := ?_) (by simp only [List.getElem?_toArray, List.getElem?_cons_succ, List.getElem?_cons_zero]; rfl) (by kernel_rfl) (by kernel_rfl) (by kernel_rfl) (by exact fun _ _ _ h => h) (Or.inl ⟨by rfl, ?_⟩) (by assumption) ?_
                      rotate_left
                      · (intro w hSw; (try dsimp only at hSw); go_simp); first | done | with_reducible rfl
                      try simp only [Act.put, List.setIfInBounds_toArray, List.set_cons_zero, List.set_cons_succ]
                      refine wpAnyH_take (i := 2) (v := ?_) (by simp only [List.getElem?_toArray, List.getElem?_cons_succ, List.getElem?_cons_zero]; rfl) (by kernel_rfl) (by kernel_rfl) (by kernel_rfl) (by exact fun _ _ _ h => h) (Or.inl ⟨by rfl, ?_⟩) (by assumption) ?_
                      rotate_left
                      · (intro w hSw; (try dsimp only at hSw); go_simp); first | done | with_reducible rfl
                      try simp only [Act.put, List.setIfInBounds_toArray, List.set_cons_zero, List.set_cons_succ]
                      refine wpAnyH_take (i := 3) (v := ?_) (by simp only [List.getElem?_toArray, List.getElem?_cons_succ, List.getElem?_cons_zero]; rfl) (by kernel_rfl) (by kernel_rfl) (by kernel_rfl) (by exact fun _ _ _ h => h) (Or.inl ⟨by rfl, ?_⟩) (by assumption) ?_
                      rotate_left
                      · (intro w hSw; (try dsimp only at hSw); go_simp); first | done | with_reducible rfl
                      try simp only [Act.put, List.setIfInBounds_toArray, List.set_cons_zero, List.set_cons_succ]
                      refine wpAnyH_take (i := 4) (v := ?_) (by simp only [List.getElem?_toArray, List.getElem?_cons_succ, List.getElem?_cons_zero]; rfl) (by kernel_rfl) (by kernel_rfl) (by kernel_rfl) (by exact fun _ _ _ h => h) (Or.inl ⟨by rfl, ?_⟩) (by assumption) ?_
                      rotate_left
                      · (intro w hSw; (try dsimp only at hSw); go_simp); first | done | with_reducible rfl
                      try simp only [Act.put, List.setIfInBounds_toArray, List.set_cons_zero, List.set_cons_succ]
                      refine wpAnyH_take (i := 5) (v := ?_) (by simp only [List.getElem?_toArray, List.getElem?_cons_succ, List.getElem?_cons_zero]; rfl) (by kernel_rfl) (by kernel_rfl) (by kernel_rfl) (by exact fun _ _ _ h => h) (Or.inl ⟨by rfl, ?_⟩) (by assumption) ?_
                      rotate_left
                      · (intro w hSw; (try dsimp only at hSw); go_simp); first | done | with_reducible rfl
                      try simp only [Act.put, List.setIfInBounds_toArray, List.set_cons_zero, List.set_cons_succ]
                      refine wpAnyH_take (i := 6) (v := ?_) (by simp only [List.getElem?_toArray, List.getElem?_cons_succ, List.getElem?_cons_zero]; rfl) (by kernel_rfl) (by kernel_rfl) (by kernel_rfl) (by exact fun _ _ _ h => h) (Or.inl ⟨by rfl, ?_⟩) (by assumption) ?_
                      rotate_left
                      · (intro w hSw; (try dsimp only at hSw); go_simp); first | done | with_reducible rfl
                      try simp only [Act.put, List.setIfInBounds_toArray, List.set_cons_zero, List.set_cons_succ]
                      refine wpAnyH_take (i := 7) (v := ?_) (by simp only [List.getElem?_toArray, List.getElem?_cons_succ, List.getElem?_cons_zero]; rfl) (by kernel_rfl) (by kernel_rfl) (by kernel_rfl) (by exact fun _ _ _ h => h) (Or.inl ⟨by rfl, ?_⟩) (by assumption) ?_
                      rotate_left
                      · (intro w hSw; (try dsimp only at hSw); go_simp); first | done | with_reducible rfl
                      try simp only [Act.put, List.setIfInBounds_toArray, List.set_cons_zero, List.set_cons_succ]
                      refine wpAnyH_take (i := 8) (v := ?_) (by simp only [List.getElem?_toArray, List.getElem?_cons_succ, List.getElem?_cons_zero]; rfl) (by kernel_rfl) (by kernel_rfl) (by kernel_rfl) (by exact fun _ _ _ h => h) (Or.inl ⟨by rfl, ?_⟩) (by assumption) ?_
                      rotate_left
                      · (intro w hSw; (try dsimp only at hSw); go_simp); first | done | with_reducible rfl
                      try simp only [Act.put, List.setIfInBounds_toArray, List.set_cons_zero, List.set_cons_succ]
                      refine wpAnyH_take (i := 9) (v := ?_) (by simp only [List.getElem?_toArray, List.getElem?_cons_succ, List.getElem?_cons_zero]; rfl) (by kernel_rfl) (by kernel_rfl) (by kernel_rfl) (by exact fun _ _ _ h => h) (Or.inl ⟨by rfl, ?_⟩) (by assumption) ?_
                      rotate_left
                      · (intro w hSw; (try dsimp only at hSw); go_simp); first | done | with_reducible rfl
                      try simp only [Act.put, List.setIfInBounds_toArray, List.set_cons_zero, List.set_cons_succ]
                      refine wpAnyH_ready (rs := [10]) (by kernel_rfl) (by simp) ?_
                      refine AllReadyH.cons (by simp only [List.getElem?_toArray, List.getElem?_cons_succ, List.getElem?_cons_zero]; rfl) (fun K hK => ?_) AllReadyH.nil
                      go_simp
                      obtain ⟨w8, hw⟩ : ∃ W, W = World.alloc w7 (Obj.cells #[Value.int .i64 (u : Nat), Value.int .i64 lv, Value.int .i64 (q : Nat)] 72) := ⟨_, rfl⟩
                      have kb : Below w7.heap.size w7 w8 := by rw [hw]; exact (Below.refl _ _).alloc (Nat.le_refl _) _
                      have HC : Hid (∀ j', j' < 3 → w8.cell? ((⟨w7.heap.size, 0, none⟩ : Addr).add j') = some (edgeCell (T.visE i u (j + 1)) (T.visV i u j).length j')) := fun j' hj' => by
                        unfold edgeCell
                        rw [hw, HLE.out]
                        match j', hj' with
                        | 0, _ => exact tbox (Below.refl _ _) rfl
                        | 1, _ => exact tbox (Below.refl _ _) rfl
                        | 2, _ => exact tbox (Below.refl _ _) rfl
                      rw [← hw]
                      clear hw
                      obtain ⟨xb, hxb⟩ : ∃ b, b = w7.heap.size := ⟨_, rfl⟩
                      rw [← hxb] at HC ⊢
                      clear hxb
                      replace hrow := rowIs_on hrow kb
                      replace hB := onS hB kb
                      replace c1 := cellS kb c1
                      replace c2 := cellS kb c2
                      replace hcell := cellS kb hcell
                      replace hnext := hnext.on kb
                      replace hedges := hedges.on kb
                      clear kb
                      refine hK.out _ _ ⟨c1, c2, hcell⟩ (fun hHeld => ?_)
                      clear hK K
                      try simp only [Act.put, List.setIfInBounds_toArray, List.set_cons_zero, List.set_cons_succ]
                      refine wpAnyH_ready (rs := [11]) (by kernel_rfl) (by simp) ?_
                      refine AllReadyH.cons (by simp only [List.getElem?_toArray, List.getElem?_cons_succ, List.getElem?_cons_zero]; rfl) (fun K hK => ?_) AllReadyH.nil
                      refine step_append_edge (by rfl) (.tmp 92) (.tmp 102) (by rfl) hedges (by rfl) (ad := ⟨xb, 0, none⟩) (c := 1) (by rfl) HC.out hB.size HL.out ?_
                      intro v9 w9 o1 o2 o3
                      have hnr : u9.ownBlock ≠ some nb := own_row_ne hrow hedges (by decide)
                      replace hrow := hrow.of_block (o2.block nb hrow.lt fun e => hnr e.symm)
                      replace hnext := hnext.kept o2 (own_ne hedges hnext (by decide))
                      have hB9 := hB.grown o2 hB.size fun q e => (Own.lt hedges q e).1
                      replace c1 := cell_grown c1 o2 HEP.out
                      replace c2 := cell_grown c2 o2 HEP.out
                      replace hcell := cell_grown hcell o2 hnr
                      clear hB hedges o2 o3 hnr HC
                      refine hK.out _ _ ⟨c1, c2, hcell⟩ (fun hHeld => ?_)
                      clear hK K
                      try simp only [Act.put, List.setIfInBounds_toArray, List.set_cons_zero, List.set_cons_succ]
                      refine wpAnyH_take (i := 12) (v := ?_) (by simp only [List.getElem?_toArray, List.getElem?_cons_succ, List.getElem?_cons_zero]; rfl) (by kernel_rfl) (by kernel_rfl) (by kernel_rfl) (by exact fun _ _ _ h => h) (Or.inl ⟨by rfl, ?_⟩) (by assumption) ?_
                      rotate_left
                      · (intro w hSw; (try dsimp only at hSw); go_simp); first | done | with_reducible rfl
                      try simp only [Act.put, List.setIfInBounds_toArray, List.set_cons_zero, List.set_cons_succ]
                      refine wpAnyH_done (by kernel_rfl) ?_ _
                      clear hHeld
                      have HR9 := hid hrow
                      have HN9 := hid hnext
                      have HB9 := hid hB9
                      have HE9 := hid o1
                      clear hrow hnext hB9 o1 c1 c2 hcell
                      go_wp2
                      go_roundg (gk - 1)
                      case measure => omega
                      case rel =>
                        refine ⟨j + 1, by go_num, by omega, by omega, ⟨HR9.out, HN9.out, ?_, HNE.out⟩, HB9.out⟩
                        have h9 := HE9.out
                        have h8 := HVL.out
                        rw [List.length_append, List.length_singleton] at h8
                        rw [h8]
                        exact h9
                  · have heq' : ((fn : Int) != (ou : Int)) = true := by simp; omega
                    have hne' : ¬ T.nm i (T.fr i j).toNat = u := fun e => heq (HEQ.out.1 e)
                    have HVN := hid (Trel.visN_neg (T := T) hne')
                    have HVV := hid (Trel.visV_neg (T := T) hne')
                    have HVE := hid (Trel.visE_neg (T := T) hne')
                    have HVs := hid hV
                    have HBs := hid hB
                    clear hne' hV hB
                    go_wp2
                    go_quiet (fail)
                    go_wp2
                    go_roundg (gk - 1)
                    case measure => omega
                    case rel =>
                      refine ⟨j + 1, by go_num, by omega, by omega, ?_, below_drewN HBs.out _⟩
                      obtain ⟨k1, k2, k3, k4⟩ := HVs.out.on (below_drewN (Below.refl _ _) nq)
                      rw [← HVN.out] at k1 k2
                      rw [← HVV.out, ← HVE.out] at k3
                      exact ⟨k1, k2, k3, k4⟩
--}D
                · have hltj' : ¬ (j : Int) < (el : Int) := by omega
                  obtain rfl : j = el := by omega
                  go_wp2
                  go_roundg (gU - 1)
                  case measure => omega
                  case rel =>
                    refine ⟨u + 1, by go_num, by omega, by omega, ?_, hB⟩
                    have h9 := HV.out
                    rw [HEL.out] at h9
                    obtain ⟨k1, k2, k3, k4⟩ := h9
                    rw [Trel.visN_next] at k1 k2
                    rw [Trel.visV_next, Trel.visE_next] at k3
                    exact ⟨k1, k2, k3, k4⟩
            · have hltu' : ¬ (u : Int) < (M : Int) := by omega
              obtain rfl : u = M := by omega
              obtain ⟨e1, e2, e3, e4⟩ := HP.out.vis_end hlt
              rw [← HMM.out] at e1 e2 e3 e4
              obtain ⟨k1, k2, k3, k4⟩ := HV.out
              rw [e1] at k3
              rw [e3] at k2
              have k3 := k3.congr (f' := edgeCell ((fun i p => T.tri i ((T.vis i).getD p 0)) i)) fun p hp q _ => by unfold edgeCell; rw [e2 p hp]
              obtain ⟨s0, s1, ⟨EV, s2, s3⟩, _⟩ := HST.out.on hB
              obtain ⟨EA, eec, hEA⟩ := k3.shape
              subst hEA
              have y1 := s2.cell (i := 1) (by omega)
              rw [if_neg (by omega)] at y1
              have z1 := s2.frozen 1
              have hzz := hB.size
              have k3b := k3.mono (base' := w.heap.size + 1) (by omega)
              have k2b := k2.mono (base' := w.heap.size + 1) (by omega)
              have hBw := tbox_on HBA.out hB
              obtain ⟨EL, hEL⟩ : ∃ n, n = T.el i := ⟨_, rfl⟩
              have HEL2 := hid hEL
              obtain ⟨nv, hnv⟩ : ∃ x, x = u8 := ⟨_, rfl⟩
              subst hnv
              have kbd : Below wr.heap.size wr (wr.alloc (Obj.cells #[Value.slice EA (T.el i) eec] 70)) := (Below.refl _ _).alloc (Nat.le_refl _) _
              have HT1 := hid (s3.on kbd)
              have HROB : Hid (rb ≠ ob) := by show _ ≠ _; rw [HOB.out, HRB.out]; omega
              have HE1 := hid (k3b.on kbd)
              have HN1 := hid (k2b.on kbd)
              have HW1 := hid (s1.on kbd)
              have HR1 := hid (s0.of_block (kbd.block rb s0.lt))
              have HX1 := hid (s2.of_block (kbd.block ob s2.lt))
              have HB1 := hid (tbox_on hBw kbd)
              have HC : Hid ((wr.alloc (Obj.cells #[Value.slice EA (T.el i) eec] 70)).cell? ((⟨wr.heap.size, 0, none⟩ : Addr).add 0) = some (Value.slice EA (T.el i) eec)) := tbox (Below.refl _ _) rfl
              have HZ : Hid (w.heap.size + 1 ≤ (wr.alloc (Obj.cells #[Value.slice EA (T.el i) eec] 70)).heap.size) := tbox_lt HB1.out
              have HL : Hid (i ≤ 1048576) := by show _ ≤ _; omega
              have HO4 := hid e4
              obtain ⟨RR, hA, _⟩ := s3
              have HNE2 := hid (own_row_ne s2 hA (by decide))
              have HNR2 := hid (own_row_ne s0 hA (by decide))
              have HA1 := hid (hA.on kbd)
              clear e1 e2 e3 e4 k1 k2 k3 k4 s0 s1 s2 kbd k3b k2b hBw hB HV hEL hA
              go_upto_region 26 with (first | (at_builtin; (refine wpList_append_sec rfl (.tmp 105) (.tmp 107) rfl HT1.out rfl (ad := ⟨wr.heap.size, 0, none⟩) (c := 1) rfl HC.out rfl HE1.out HZ.out HL.out ?_); intro v7 w7 o1 o2; obtain ⟨A7, c7, hs7⟩ := o1.shape; subst hs7; have hX7 := HX1.out.of_block (o2.block ob HX1.out.lt fun e => HNE2.out e.symm); have y7 := hX7.cell (i := 1) (by omega); rw [if_neg (by omega)] at y7; have z7 := hX7.frozen 1))
              have hB7 := (HB1.out.grown o2 HZ.out fun q e => (Own.lt HA1.out q e).1).setCell (p := ⟨ob, 1, none⟩) (by rw [HOB.out]; show _ ≤ w.heap.size + 1 + 1 + 1 + 1; omega) (.slice A7 (i + 1) c7)
              have hw7 := HW1.out.kept o2 (own_ne HA1.out HW1.out (by decide))
              have hn7 := HN1.out.kept o2 (own_ne HA1.out HN1.out (by decide))
              have hST7 : RenSt T (i + 1) ob wb cap rb (w7.setCell ⟨ob, 1, none⟩ (.slice A7 (i + 1) c7)) (w.heap.size + 1) nv := by
                refine ⟨(HR1.out.of_block (o2.block rb HR1.out.lt fun e => HNR2.out e.symm)).setOther (a := ⟨ob, 1, none⟩) (by simpa using HROB.out) (.slice A7 (i + 1) c7), hw7.setCell (own_row_ne hX7 hw7 (by decide)) (.slice A7 (i + 1) c7), ⟨.slice A7 (i + 1) c7, (hX7.set 1 (.slice A7 (i + 1) c7)).congr fun k hk => ?_, o1.setCell hX7 (by decide) (by decide) (.slice A7 (i + 1) c7)⟩, ⟨_, HO4.out, hn7.setCell (own_row_ne hX7 hn7 (by decide)) (.slice A7 (i + 1) c7)⟩⟩
                by_cases e : k = 0
                · subst e; rw [if_neg (by omega), if_pos rfl, if_pos rfl]
                · rw [if_pos (by omega), if_neg e]
              have HST7 := hid hST7
              have HB7 := hid hB7
              clear hST7 hB7 hw7 hn7 o1 o2 hX7 y7 z7 y1 z1 HW1 HN1 HR1 HX1 HB1 HT1 HE1 HC HZ HA1
              go_wp2
              go_roundg (gI - 1)
              case measure => omega
              case rel => exact ⟨i + 1, by go_num, by omega, by omega, HST7, HB7.out⟩
    · have hlt' : ¬ (i : Int) < (T.n : Int) := by omega
      obtain rfl : i = T.n := by omega
      obtain ⟨s0, s1, ⟨EV, s2, s3⟩, _⟩ := HST.out
      obtain ⟨EA, eec, hEA⟩ := s3.shape
      subst hEA
      have y0 := s2.cell (i := 0) (by omega)
      have y1 := s2.cell (i := 1) (by omega)
      rw [if_pos rfl] at y0
      rw [if_neg (by omega)] at y1
      have r0 := s0.cell (i := 0) (by omega)
      have r1 := s0.cell (i := 1) (by omega)
      have z0 := s0.frozen 0
      have z1 := s0.frozen 1
      have q0 := s0.set 0 (.slice (some ⟨wb, 0, none⟩) T.nw cap)
      have q1 := q0.cell (i := 1) (by omega)
      rw [if_neg (by omega)] at q1
      have q2 := q0.frozen 1
      have hren : IsRen T fun i p => T.tri i ((T.vis i).getD p 0) := fun i hi => HP.out.vis_ren hi
      have HREN := hid hren
      have HS0 := hid s0
      have HS1 := hid s1
      have HS3 := hid s3
      have HBW := hid hB
      have q3 := q0.set 1 (.slice EA T.n eec)
      have q4 := q3.cell (i := 0) (by omega)
      have q5 := q3.cell (i := 1) (by omega)
      rw [if_neg (by omega), if_pos rfl] at q4
      rw [if_pos rfl] at q5
      have HS2 := hid s2
      clear hren s0 s1 s2 s3 hB hlt q0 q3
      go_wp2
      refine bodyPost_ret (v := .agg #[.slice (some ⟨wb, 0, none⟩) T.nw cap, .slice EA T.n eec]) (by simp [results, Try.results37, go_sem, q4, q5]) rfl ?_
      have k1 := (HS1.out.setCell (own_row_ne HS0.out HS1.out (by decide)) (.slice (some ⟨wb, 0, none⟩) T.nw cap) (a := ⟨rb, 0, none⟩))
      have r1' := HS0.out.set 0 (.slice (some ⟨wb, 0, none⟩) T.nw cap)
      have k2 := k1.setCell (own_row_ne r1' k1 (by decide)) (.slice EA T.n eec) (a := ⟨rb, 1, none⟩)
      have k3 := (HS3.out.setCell (b := rb) (i := 0) HS0.out (by decide) (by decide) (.slice (some ⟨wb, 0, none⟩) T.nw cap)).setCell (b := rb) (i := 1) r1' (by decide) (by decide) (.slice EA T.n eec)
      refine ⟨?_, _, _, _, _, _, rfl, HREN.out, k3.mono (Nat.zero_le _), k2.mono (Nat.zero_le _)⟩
      exact (HS.out _ ((HBW.out.setCell (p := ⟨rb, 0, none⟩) (by rw [HRB.out]; exact Nat.le_refl _) _).setCell (p := ⟨rb, 1, none⟩) (by rw [HRB.out]; exact Nat.le_refl _) _)).2
end Go.Proofs.Ytnocbkhnmdmfhaa
