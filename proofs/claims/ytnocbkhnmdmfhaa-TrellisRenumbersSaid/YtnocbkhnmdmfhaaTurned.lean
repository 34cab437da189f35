/- codewrightlaw47.turned. -/
import Derived.Test.YtnocbkhnmdmfhaaTurnMem
namespace Go.Proofs.Ytnocbkhnmdmfhaa
open Go.RowKit

def TurnedPost (T : Trel) (s : Nat → Nat) (w : World) (e : Ending) (w' : World) : Prop :=
  Below w.heap.size w w' ∧ ∃ A' B' c' d', e = .returned (.agg #[.slice A' T.nw c', .slice B' T.n d']) ∧ RenOut T (fun i p => T.trn s i ((T.tl s i).getD p 0)) w' A' B' c' d'
set_option maxRecDepth 100000 in
set_option maxHeartbeats 16000000 in
theorem turned_any (T : Trel) (A B V : Option Addr) (c d m vc : Nat) (b : Nat → Int) (w : World) (h : T.Reads w A B) (hP : T.Proper) (hv : IntsR w w.heap.size V m b) (hbb : ∀ k, k < m → InI64 (b k)) :
    Calls Try.prog 38 #[.agg #[.slice A T.nw c, .slice B T.n d], .slice V m vc] w (TurnedPost T (T.tv m b) w) := by
  obtain ⟨RB, hRB⟩ : ∃ o, o = (Obj.cells #[.slice A T.nw c, .slice B T.n d] 25) := ⟨_, rfl⟩
  have hB0 : Below (w.heap.size + 1) (w.alloc RB) (w.alloc RB) := Below.refl _ _
  have HS : Hid (∀ w', Below (w.heap.size + 1) (w.alloc RB) w' → (w'.cell? ⟨w.heap.size, 0, none⟩ = some (.slice A T.nw c) ∧ w'.cell? ⟨w.heap.size, 1, none⟩ = some (.slice B T.n d)) ∧ Below w.heap.size w w') := fun w' hB => by
    have hB' := tbox_below hB
    subst hRB
    exact ⟨⟨tbox hB rfl, tbox hB rfl⟩, hB'⟩
  obtain ⟨⟨p0, p1⟩, hW⟩ := HS.out _ hB0
  have HP := hid hP
  have HR := hid h
  have HV := hid hv
  have HBB := hid hbb
  have hn64 := hP.shape.n64
  have HNW := hid hP.shape.nw
  have hnw0 : 0 < T.nw := by have := HNW.out; omega
  have n3 : Hid (T.nw ≤ maxLen) := by show _ ≤ _; unfold maxLen; have := HNW.out; omega
  have n4 : Hid (T.nw * 8 ≤ 140737488355328) := by show _ ≤ _; have := HNW.out; omega
  obtain ⟨i0, qi0, qz0, qz1, qz2⟩ := info_parts Try.infoInt
  have NR : Hid (∀ w', Below (w.heap.size + 1) (w.alloc RB) w' → Rd w' w'.heap.size A T.nw 1 (fun i _ => .int .i64 (T.W i))) := fun w' hB => (HR.out.on (HS.out _ hB).2).1
  obtain ⟨sf, hsf⟩ : ∃ s, s = T.tv m b := ⟨_, rfl⟩
  have HSF := hid hsf
  rw [← hsf]
  clear h hP hv hbb hsf
  go_enter Try.func38, Try.ntmps38
  go_upto_region 1 with fail
  rw [← hRB]
  clear hRB hW
  have kb1 : Below (w.heap.size + 1) (w.alloc RB) (((w.alloc RB).alloc (Obj.cells #[.slice none 0 0, .slice none 0 0] 25)).alloc (Obj.cells #[] 3)) := (hB0.alloc (by simp) _).alloc (by simp) _
  have NR1 := hid (NR.out _ kb1)
  go_upto_region 2 with (first | (at_builtin; (refine wpList_append_copy_some rfl (.tmp 13) (.tmp 15) _ rfl 3 i0 _ 1 8 Try.underlying22 qi0 qz0 qz1 qz2 rfl (by omega) _ rfl A T.nw c (fun i _ => .int .i64 (T.W i)) rfl NR1.out hnw0 (fun _ _ _ _ => rfl) n3.out n4.out ?_); intro cap cur k1 k2 k3 k4))
  have hst := tuSt_start sf (w.alloc RB) k1 k2 k3 k4
  have hs1 : (w.alloc RB).heap.size = w.heap.size + 1 := by simp
  have kb2 : Below (w.alloc RB).heap.size (w.alloc RB) ((((((w.alloc RB).alloc (Obj.cells #[.slice none 0 0, .slice none 0 0] 25)).alloc (Obj.cells #[] 3)).alloc (Obj.cells cur 3)).alloc (Obj.cells #[.slice (some ⟨w.heap.size + 1 + 1 + 1, 0, none⟩) T.nw cap, .slice none 0 0] 25)).drew) := (((((Below.refl _ _).alloc (Nat.le_refl _) _).alloc (by simp) _).alloc (by simp) _).alloc (by simp) _).drew
  have hB1 := tbox_on hB0 kb2
  rw [hs1] at hst
  obtain ⟨w1, hw1⟩ : ∃ W, W = (((((w.alloc RB).alloc (Obj.cells #[.slice none 0 0, .slice none 0 0] 25)).alloc (Obj.cells #[] 3)).alloc (Obj.cells cur 3)).alloc (Obj.cells #[.slice (some ⟨w.heap.size + 1 + 1 + 1, 0, none⟩) T.nw cap, .slice none 0 0] 25)).drew := ⟨_, rfl⟩
  rw [← hw1] at hst hB1 ⊢
  have HST := hid hst
  obtain ⟨ob, hob⟩ : ∃ b, b = w.heap.size + 1 + 1 + 1 + 1 := ⟨_, rfl⟩
  obtain ⟨wb, hwb⟩ : ∃ b, b = w.heap.size + 1 + 1 + 1 := ⟨_, rfl⟩
  obtain ⟨rb, hrb⟩ : ∃ b, b = w.heap.size + 1 := ⟨_, rfl⟩
  have HRB := hid hrb
  have HOB := hid hob
  rw [← hob, ← hwb] at HST ⊢
  have HST : Hid (TuSt T sf 0 ob wb cap rb w1 (w.heap.size + 1)) := by rw [hrb]; exact HST
  rw [← hrb]
  clear hob hwb hrb hst hw1 kb2 hB0 hs1 kb1 NR1 k1 k2 k3 k4 p0 p1 NR
  obtain ⟨⟨p0, p1⟩, hW⟩ := HS.out _ hB1
  go_wp2
  go_loopg [6] T.n (fun gg iv wx => ∃ i : Nat, iv = .int .i64 (i : Nat) ∧ i ≤ T.n ∧ T.n ≤ i + gg ∧ Hid (TuSt T sf i ob wb cap rb wx (w.heap.size + 1)) ∧ Below (w.heap.size + 1) (w.alloc RB) wx)
  case atStart => exact ⟨0, rfl, by omega, by omega, HST, hB1⟩
  case round =>
    clear HST hB1 p0 p1 hW
    obtain ⟨gI, hgI⟩ : ∃ g, g = gk := ⟨_, rfl⟩
    subst hgI
    obtain ⟨i, rfl, hi, hig, HST, hB⟩ := hrel
    obtain ⟨⟨p0, p1⟩, hW⟩ := HS.out _ hB
    have hi0 : (0 : Int) ≤ (i : Int) := by omega
    by_cases hlt : i < T.n
    · have hlt' : (i : Int) < (T.n : Int) := by omega
      have hk1' : (i : Int) + 1 < (T.nw : Int) := by have := HNW.out; omega
      have hk0' : (i : Int) < (T.nw : Int) := by omega
      have hk01 : (0 : Int) ≤ (i : Int) + 1 := by omega
      have hwk1 : IntKind.i64.wrap ((i : Int) + 1) = (i : Int) + 1 := IntWalk.i64_in _ (by omega)
      have htn1 : ((i : Int) + 1).toNat = i + 1 := by omega
      go_wp2_with fail
      refine (turn_any T A B V c d m vc i b wr (HR.out.on hW) HP.out (HV.out.on hW) HBB.out (by omega)).mono ?_
      rintro e w2 ⟨rfl, kb⟩
      replace hB := tbox_on hB kb
      replace HST := hid (HST.out.on kb)
      clear kb p0 p1 hW
      obtain ⟨⟨p0, p1⟩, hW⟩ := HS.out _ hB
      rw [← HSF.out]
      obtain ⟨s1, hs1⟩ : ∃ x, x = sf i := ⟨_, rfl⟩
      have HS1 := hid hs1
      rw [← hs1]
      clear hs1
      go_wp2_with fail
      refine (show Calls Try.prog 73 #[.agg #[.slice A T.nw c, .slice B T.n d], .slice V m vc, .int .i64 ((i : Int) + 1)] w2 _ from turn_any T A B V c d m vc (i + 1) b w2 (HR.out.on hW) HP.out (HV.out.on hW) HBB.out (by omega)).mono ?_
      rintro e w3 ⟨rfl, kb⟩
      replace hB := tbox_on hB kb
      replace HST := hid (HST.out.on kb)
      clear kb p0 p1 hW
      rw [← HSF.out]
      obtain ⟨s2, hs2⟩ : ∃ x, x = sf (i + 1) := ⟨_, rfl⟩
      have HS2 := hid hs2
      rw [← hs2]
      clear hs2
      obtain ⟨⟨p0, p1⟩, hW⟩ := HS.out _ hB
      obtain ⟨eb, eo, E, ec, heB, heb, x0, he1, he2, he3, _⟩ := HR.out.sec hlt
      obtain ⟨ab, ao, hA, hab, m0, _⟩ := HR.out.width (i := i) (by rw [HNW.out]; omega)
      obtain ⟨ab2, ao2, hA2, _, m1, _⟩ := HR.out.width (i := i + 1) (by rw [HNW.out]; omega)
      subst heB hA
      injection hA2 with hA2
      injection hA2 with hA2 hA3
      subst hA2 hA3
      have hel := HP.out.shape.elb hlt
      obtain ⟨el, hele⟩ : ∃ n, n = T.el i := ⟨_, rfl⟩
      have HEL := hid hele
      rw [← hele] at x0 he1 he3 hel
      have hwid0 := HP.out.shape.wid (i := i) (by omega)
      have hwid1 := HP.out.shape.wid (i := i + 1) (by omega)
      obtain ⟨Mi, hMi⟩ : ∃ n : Nat, n = (T.W i).toNat := ⟨_, rfl⟩
      obtain ⟨Mj, hMj⟩ : ∃ n : Nat, n = (T.W (i + 1)).toNat := ⟨_, rfl⟩
      have hMi2 : T.W i = (Mi : Int) := by omega
      have hMj2 : T.W (i + 1) = (Mj : Int) := by omega
      rw [hMi2] at m0
      rw [hMj2] at m1
      have HMI := hid hMi
      have HMJ := hid hMj
      have hMi1 : 0 < Mi := by omega
      have hMj1 : 0 < Mj := by omega
      have hMi65 : Mi ≤ 65536 := by omega
      have hMj65 : Mj ≤ 65536 := by omega
      have hs1 : s1 < Mi := by rw [HS1.out, HMI.out, HSF.out]; exact Trel.tv_lt HP.out (by omega)
      have hs2 : s2 < Mj := by rw [HS2.out, HMJ.out, HSF.out]; exact Trel.tv_lt HP.out (by omega)
      have HE3 := hid he3
      have HX0 := hid x0
      have HM0 := hid m0
      have HM1 := hid m1
      clear hele hMi hMj hMi2 hMj2 hwid0 hwid1 he3 x0 m0 m1 p0 p1 hW
      go_upto_region 8 with fail
      have hE0 := own_empty (w := w3.alloc (Obj.cells #[] 72)) (base := w3.heap.size) (e := 72) (s := 3) (f := edgeCell (T.tlE sf i 0 0)) (Nat.le_refl _) (heap_new_at rfl)
      have kb3 : Below w3.heap.size w3 (w3.alloc (Obj.cells #[] 72)) := (Below.refl _ _).alloc (Nat.le_refl _) _
      obtain ⟨wa, hwa⟩ : ∃ W, W = w3 := ⟨_, rfl⟩
      subst hwa
      obtain ⟨w4, hw4⟩ : ∃ W, W = wa.alloc (Obj.cells #[] 72) := ⟨_, rfl⟩
      rw [← hw4] at hE0 kb3 ⊢
      obtain ⟨ev, hev⟩ : ∃ x : Value, x = .slice (some ⟨wa.heap.size, 0, none⟩) 0 0 := ⟨_, rfl⟩
      rw [← hev] at hE0 ⊢
      have HE0 : Hid (Own w4 wa.heap.size 72 3 ev (T.tlA sf i 0 0).length (edgeCell (T.tlE sf i 0 0))) := hE0
      have HBA := hid hB
      clear hw4 hev hE0 hB
      go_wp2
      go_loopg [9, 10] Mi (fun gg ev vv wx => ∃ v : Nat, vv = .int .i64 (v : Nat) ∧ v ≤ Mi ∧ Mi ≤ v + gg ∧ Hid (Own wx wa.heap.size 72 3 ev (T.tlA sf i v 0).length (edgeCell (T.tlE sf i v 0))) ∧ Below wa.heap.size wa wx)
      case atStart => exact ⟨0, rfl, by omega, by omega, HE0, kb3⟩
      case round =>
        clear HE0 kb3
        obtain ⟨gV, hgV⟩ : ∃ g, g = gk := ⟨_, rfl⟩
        subst hgV
        obtain ⟨v, rfl, hvM, hvg, HE, hB⟩ := hrel
        have hv0 : (0 : Int) ≤ (v : Int) := by omega
        have hBR := tbox_on HBA.out hB
        obtain ⟨⟨p0, p1⟩, hW⟩ := HS.out _ hBR
        have m0 := (hW.cell (p := ⟨ab, ao + i, none⟩) hab).trans HM0.out
        by_cases hltv : v < Mi
        · have hltv' : (v : Int) < (Mi : Int) := by omega
          go_wp2
          go_loopg [9, 11] el (fun gg ev jv wx => ∃ j : Nat, jv = .int .i64 (j : Nat) ∧ j ≤ el ∧ el ≤ j + gg ∧ Hid (Own wx wa.heap.size 72 3 ev (T.tlA sf i v j).length (edgeCell (T.tlE sf i v j))) ∧ Below wa.heap.size wa wx)
          case atStart => exact ⟨0, rfl, by omega, by omega, HE, hB⟩
          case round =>
            clear HE hB p0 p1 m0 hW hBR
            obtain ⟨j, rfl, hj, hjg, HE, hB⟩ := hrel
            have hj0 : (0 : Int) ≤ (j : Int) := by omega
            have hBR := tbox_on HBA.out hB
            obtain ⟨⟨p0, p1⟩, hW⟩ := HS.out _ hBR
            have m0 := (hW.cell (p := ⟨ab, ao + i, none⟩) hab).trans HM0.out
            have m1 := (hW.cell (p := ⟨ab, ao + (i + 1), none⟩) hab).trans HM1.out
            have x0 := (hW.cell (p := ⟨eb, eo + i, none⟩) heb).trans HX0.out
            by_cases hltj : j < el
            · have hltj' : (j : Int) < (el : Int) := by omega
              obtain ⟨b9, o9, rfl, hb9, y0, y1, y2⟩ := edge_at ((Rd.below HE3.out hW (Nat.le_refl _)).mono hW.size) hltj
              have hltj2 : j < T.el i := by rw [← HEL.out]; exact hltj
              have htl := HP.out.toL hlt hltj2
              have hfl := HP.out.frL hlt hltj2
              obtain ⟨tn, htn⟩ : ∃ n, n = (T.to i j).toNat := ⟨_, rfl⟩
              obtain ⟨fn, hfn⟩ : ∃ n, n = (T.fr i j).toNat := ⟨_, rfl⟩
              obtain ⟨lv, hlv⟩ : ∃ z, z = T.lb i j := ⟨_, rfl⟩
              rw [← htn, ← HMJ.out] at htl
              rw [← hfn, ← HMI.out] at hfl
              rw [← htl.2] at y2
              rw [← hfl.2] at y0
              rw [← hlv] at y1
              have htl1 := htl.1
              have hfl1 := hfl.1
              have hpi : T.pi sf i (T.fr i j).toNat = (fn + s1) % Mi := by
                show ((T.fr i j).toNat + sf i) % (T.W i).toNat = _
                rw [← hfn, ← HS1.out, ← HMI.out]
              have hpj : T.pi sf (i + 1) (T.to i j).toNat = (tn + s2) % Mj := by
                show ((T.to i j).toNat + sf (i + 1)) % (T.W (i + 1)).toNat = _
                rw [← htn, ← HS2.out, ← HMJ.out]
              have HPI := hid hpi
              have HPJ := hid hpj
              have HLV := hid hlv
              clear htl hfl hpi hpj htn hfn hlv hltj2
              go_upto_region 15 with fail
              obtain ⟨OB, hOB⟩ : ∃ o, o = (Obj.cells #[Value.int .i64 (fn : Nat), Value.int .i64 lv, Value.int .i64 (tn : Nat)] 72) := ⟨_, rfl⟩
              rw [← hOB]
              have kb : Below wr.heap.size wr (wr.alloc OB) := (Below.refl _ _).alloc (Nat.le_refl _) _
              have c0 : (wr.alloc OB).cell? ⟨wr.heap.size, 0, none⟩ = some (.int .i64 (fn : Nat)) := by subst hOB; exact tbox (Below.refl _ _) rfl
              have c1 : (wr.alloc OB).cell? ⟨wr.heap.size, 1, none⟩ = some (.int .i64 lv) := by subst hOB; exact tbox (Below.refl _ _) rfl
              have c2 : (wr.alloc OB).cell? ⟨wr.heap.size, 2, none⟩ = some (.int .i64 (tn : Nat)) := by subst hOB; exact tbox (Below.refl _ _) rfl
              obtain ⟨w5, hw5⟩ : ∃ W, W = wr.alloc OB := ⟨_, rfl⟩
              have HEB : Hid (u9.ownBlock ≠ some wr.heap.size) := fun e => by have := (Own.lt HE.out _ e).2; omega
              obtain ⟨pb, hpb⟩ : ∃ b, b = wr.heap.size := ⟨_, rfl⟩
              rw [← hw5] at kb c0 c1 c2 ⊢
              rw [← hpb] at c0 c1 c2 HEB ⊢
              replace HE := hid (Own.on HE.out kb)
              replace hB := onS hB kb
              replace p0 := cellS kb p0
              replace m0 := cellS kb m0
              replace m1 := cellS kb m1
              clear hpb hw5 hOB kb y0 y1 y2 x0 p1 hb9 hBR hW
              obtain ⟨r, hr⟩ : ∃ r, r = (fn + s1) % Mi := ⟨_, rfl⟩
              have hwf : IntKind.i64.wrap ((fn : Int) + (s1 : Int)) = (fn : Int) + (s1 : Int) := IntWalk.i64_in _ (by omega)
              have hre : ((fn : Int) + (s1 : Int)) % (Mi : Int) = (r : Int) := by rw [hr]; rfl
              have hrt : ((fn : Int) + (s1 : Int)).tmod (Mi : Int) = (r : Int) := by rw [Int.tmod_eq_emod_of_nonneg (by omega)]; exact hre
              have hMn : ¬ (Mi : Int) = 0 := by omega
              have HPI2 : Hid (T.pi sf i (T.fr i j).toNat = r) := by rw [hr]; exact HPI.out
              clear hr
              by_cases heq : r = v
              · subst heq
                have hc : ((r : Int) == (r : Int)) = true := by simp
                go_wp2
                go_quiet (fail)
                go_upto_region 16 with fail
                obtain ⟨w6, hw6⟩ : ∃ W, W = w5.drewN nq := ⟨_, rfl⟩
                have kb6 : Below w5.heap.size w5 w6 := by rw [hw6]; exact below_drewN (Below.refl _ _) _
                rw [← hw6]
                have hedges := Own.on HE.out kb6
                replace hB := onS hB kb6
                replace c1 := cellS kb6 c1
                replace c2 := cellS kb6 c2
                replace p0 := cellS kb6 p0
                replace m1 := cellS kb6 m1
                clear hw6 kb6 c0 m0 hc hwf hre hrt
                obtain ⟨r2, hr2⟩ : ∃ r2, r2 = (tn + s2) % Mj := ⟨_, rfl⟩
                have hwf : IntKind.i64.wrap ((tn : Int) + (s2 : Int)) = (tn : Int) + (s2 : Int) := IntWalk.i64_in _ (by omega)
                have hre : ((tn : Int) + (s2 : Int)) % (Mj : Int) = (r2 : Int) := by rw [hr2]; rfl
                have hrt : ((tn : Int) + (s2 : Int)).tmod (Mj : Int) = (r2 : Int) := by rw [Int.tmod_eq_emod_of_nonneg (by omega)]; exact hre
                have hMn2 : ¬ (Mj : Int) = 0 := by omega
                have HPJ2 : Hid (T.pi sf (i + 1) (T.to i j).toNat = r2) := by rw [hr2]; exact HPJ.out
                clear hr2
                have hlen : (T.tlA sf i r j).length ≤ el := by rw [HEL.out]; exact grpA_len (by rw [← HEL.out]; exact hj)
                have HL : Hid ((T.tlA sf i r j).length ≤ 1048576) := by show _ ≤ _; omega
                have hMn3 : ¬ Mj = 0 := by omega
                have HLE := hid (Trel.tlE_last (T := T) (s := sf) (i := i) (v := r) (j := j) HPI2.out)
                rw [← HLV.out, HPJ2.out] at HLE
                have hedges := hedges.congr (f' := edgeCell (T.tlE sf i r (j + 1))) fun p hp q' _ => by unfold edgeCell; rw [Trel.tlE_old HPI2.out hp]
                clear hlen HE
                have hab6 : ab < w.heap.size := hab
                have HEA : Hid (u9.ownBlock ≠ some ab) := fun e => by have h1 := (Own.lt hedges _ e).1; have h2 := HBA.out.size; simp at h2; omega
                have HEW : Hid (u9.ownBlock ≠ some w.heap.size) := fun e => by have h1 := (Own.lt hedges _ e).1; have h2 := HBA.out.size; simp at h2; omega
                refine wp_region_held_drew (S := fun w' => w'.cell? ⟨pb, 1, none⟩ = some (.int .i64 lv) ∧ w'.cell? ⟨pb, 2, none⟩ = some (.int .i64 (tn : Nat)) ∧ w'.cell? ⟨w.heap.size, 0, none⟩ = some (.slice (some ⟨ab, ao, none⟩) T.nw c) ∧ w'.cell? ⟨ab, ao + (i + 1), none⟩ = some (.int .i64 (Mj : Nat))) (by kernel_rfl) ⟨cellS (Below.refl _ _).drew c1, cellS (Below.refl _ _).drew c2, cellS (Below.refl _ _).drew p0, cellS (Below.refl _ _).drew m1⟩ (fun hHeld => ?_)
                obtain ⟨w7, hw⟩ : ∃ W, W = World.drew w6 := ⟨_, rfl⟩
                have kb : Below w6.heap.size w6 w7 := by rw [hw]; exact (Below.refl _ _).drew
                rw [← hw] at hHeld ⊢
                clear hw
                replace hB := onS hB kb
                replace c1 := cellS kb c1
                replace c2 := cellS kb c2
                replace p0 := cellS kb p0
                replace m1 := cellS kb m1
                replace hedges := hedges.on kb
                clear kb
                refine wpAnyH_take (i := 0) (v := ?_) (by simp only [List.getElem?_toArray, List.getElem?_cons_zero]; rfl) (by kernel_rfl) (by kernel_rfl) (by kernel_rfl) (by exact fun _ _ _ h => h) (Or.inl ⟨by rfl, ?_⟩) (by assumption) ?_
                rotate_left
                · (intro w hSw; (try dsimp only at hSw); go_simp); first | done | with_reducible rfl
                try simp only [Act.put, List.setIfInBounds_toArray, List.set_cons_zero, List.set_cons_succ]
                refine wpAnyH_take (i := 1) (v := ?_) (by simp only [List.getElem?_toArray, List.getElem?_cons_succ, List.getElem?_cons_zero]; rfl) (by kernel_rfl) (by kernel_rfl) (by kernel_rfl) (by exact fun _ _ _ h => h) (Or.inl ⟨by rfl, ?_⟩) (by assumption) ?_
                rotate_left
                · (intro w hSw; (try dsimp only at hSw); go_simp); first | done | with_reducible rfl
                try simp only [Act.put, List.setIfInBounds_toArray, List.set_cons_zero, List.set_cons_succ]
                refine wpAnyH_take (i := 2) (v := ?_) (by simp only [List.getElem?_toArray, List.getElem?_cons_succ, List.getElem?_cons_zero]; rfl) (by kernel_rfl) (by kernel_rfl) (by kernel_rfl) (by exact fun _ _ _ h => h) (Or.inl ⟨by rfl, ?_⟩) (by assumption) ?_
                rotate_left
                · (intro w hSw; (try dsimp only at hSw); go_simp); first | done | with_reducible rfl
                try simp only [Act.put, List.setIfInBounds_toArray, List.set_cons_zero, List.set_cons_succ]
                refine wpAnyH_take (i := 3) (v := ?_) (by simp only [List.getElem?_toArray, List.getElem?_cons_succ, List.getElem?_cons_zero]; rfl) (by kernel_rfl) (by kernel_rfl) (by kernel_rfl) (by exact fun _ _ _ h => h) (Or.inl ⟨by rfl, ?_⟩) (by assumption) ?_
                rotate_left
                · (intro w hSw; (try dsimp only at hSw); go_simp); first | done | with_reducible rfl
                try simp only [Act.put, List.setIfInBounds_toArray, List.set_cons_zero, List.set_cons_succ]
                refine wpAnyH_take (i := 4) (v := ?_) (by simp only [List.getElem?_toArray, List.getElem?_cons_succ, List.getElem?_cons_zero]; rfl) (by kernel_rfl) (by kernel_rfl) (by kernel_rfl) (by exact fun _ _ _ h => h) (Or.inl ⟨by rfl, ?_⟩) (by assumption) ?_
                rotate_left
                · (intro w hSw; (try dsimp only at hSw); go_simp); first | done | with_reducible rfl
                try simp only [Act.put, List.setIfInBounds_toArray, List.set_cons_zero, List.set_cons_succ]
                refine wpAnyH_take (i := 5) (v := ?_) (by simp only [List.getElem?_toArray, List.getElem?_cons_succ, List.getElem?_cons_zero]; rfl) (by kernel_rfl) (by kernel_rfl) (by kernel_rfl) (by exact fun _ _ _ h => h) (Or.inl ⟨by rfl, ?_⟩) (by assumption) ?_
                rotate_left
                · (intro w hSw; (try dsimp only at hSw); go_simp); first | done | with_reducible rfl
                try simp only [Act.put, List.setIfInBounds_toArray, List.set_cons_zero, List.set_cons_succ]
                refine wpAnyH_take (i := 6) (v := ?_) (by simp only [List.getElem?_toArray, List.getElem?_cons_succ, List.getElem?_cons_zero]; rfl) (by kernel_rfl) (by kernel_rfl) (by kernel_rfl) (by exact fun _ _ _ h => h) (Or.inl ⟨by rfl, ?_⟩) (by assumption) ?_
                rotate_left
                · (intro w hSw; (try dsimp only at hSw); go_simp); first | done | with_reducible rfl
                try simp only [Act.put, List.setIfInBounds_toArray, List.set_cons_zero, List.set_cons_succ]
                refine wpAnyH_take (i := 7) (v := ?_) (by simp only [List.getElem?_toArray, List.getElem?_cons_succ, List.getElem?_cons_zero]; rfl) (by kernel_rfl) (by kernel_rfl) (by kernel_rfl) (by exact fun _ _ _ h => h) (Or.inl ⟨by rfl, ?_⟩) (by assumption) ?_
                rotate_left
                · (intro w hSw; (try dsimp only at hSw); go_simp); first | done | with_reducible rfl
                try simp only [Act.put, List.setIfInBounds_toArray, List.set_cons_zero, List.set_cons_succ]
                refine wpAnyH_take (i := 8) (v := ?_) (by simp only [List.getElem?_toArray, List.getElem?_cons_succ, List.getElem?_cons_zero]; rfl) (by kernel_rfl) (by kernel_rfl) (by kernel_rfl) (by exact fun _ _ _ h => h) (Or.inl ⟨by rfl, ?_⟩) (by assumption) ?_
                rotate_left
                · (intro w hSw; (try dsimp only at hSw); go_simp); first | done | with_reducible rfl
                try simp only [Act.put, List.setIfInBounds_toArray, List.set_cons_zero, List.set_cons_succ]
                refine wpAnyH_take (i := 9) (v := ?_) (by simp only [List.getElem?_toArray, List.getElem?_cons_succ, List.getElem?_cons_zero]; rfl) (by kernel_rfl) (by kernel_rfl) (by kernel_rfl) (by exact fun _ _ _ h => h) (Or.inl ⟨by rfl, ?_⟩) (by assumption) ?_
                rotate_left
                · (intro w hSw; (try dsimp only at hSw); go_simp); first | done | with_reducible rfl
                try simp only [Act.put, List.setIfInBounds_toArray, List.set_cons_zero, List.set_cons_succ]
                refine wpAnyH_take (i := 10) (v := ?_) (by simp only [List.getElem?_toArray, List.getElem?_cons_succ, List.getElem?_cons_zero]; rfl) (by kernel_rfl) (by kernel_rfl) (by kernel_rfl) (by exact fun _ _ _ h => h) (Or.inl ⟨by rfl, ?_⟩) (by assumption) ?_
                rotate_left
                · (intro w hSw; (try dsimp only at hSw); go_simp); first | done | with_reducible rfl
                try simp only [Act.put, List.setIfInBounds_toArray, List.set_cons_zero, List.set_cons_succ]
                refine wpAnyH_take (i := 11) (v := ?_) (by simp only [List.getElem?_toArray, List.getElem?_cons_succ, List.getElem?_cons_zero]; rfl) (by kernel_rfl) (by kernel_rfl) (by kernel_rfl) (by exact fun _ _ _ h => h) (Or.inl ⟨by rfl, ?_⟩) (by assumption) ?_
                rotate_left
                · (intro w hSw; (try dsimp only at hSw); go_simp); first | done | with_reducible rfl
                try simp only [Act.put, List.setIfInBounds_toArray, List.set_cons_zero, List.set_cons_succ]
                refine wpAnyH_take (i := 12) (v := ?_) (by simp only [List.getElem?_toArray, List.getElem?_cons_succ, List.getElem?_cons_zero]; rfl) (by kernel_rfl) (by kernel_rfl) (by kernel_rfl) (by exact fun _ _ _ h => h) (Or.inl ⟨by rfl, ?_⟩) (by assumption) ?_
                rotate_left
                · (intro w hSw; (try dsimp only at hSw); go_simp); first | done | with_reducible rfl
                try simp only [Act.put, List.setIfInBounds_toArray, List.set_cons_zero, List.set_cons_succ]
                refine wpAnyH_take (i := 13) (v := ?_) (by simp only [List.getElem?_toArray, List.getElem?_cons_succ, List.getElem?_cons_zero]; rfl) (by kernel_rfl) (by kernel_rfl) (by kernel_rfl) (by exact fun _ _ _ h => h) (Or.inl ⟨by rfl, ?_⟩) (by assumption) ?_
                rotate_left
                · (intro w hSw; (try dsimp only at hSw); go_simp); first | done | with_reducible rfl
                try simp only [Act.put, List.setIfInBounds_toArray, List.set_cons_zero, List.set_cons_succ]
                refine wpAnyH_take (i := 14) (v := ?_) (by simp only [List.getElem?_toArray, List.getElem?_cons_succ, List.getElem?_cons_zero]; rfl) (by kernel_rfl) (by kernel_rfl) (by kernel_rfl) (by exact fun _ _ _ h => h) (Or.inl ⟨by rfl, ?_⟩) (by assumption) ?_
                rotate_left
                · (intro w hSw; (try dsimp only at hSw); go_simp); first | done | with_reducible rfl
                try simp only [Act.put, List.setIfInBounds_toArray, List.set_cons_zero, List.set_cons_succ]
                refine wpAnyH_take (i := 15) (v := ?_) (by simp only [List.getElem?_toArray, List.getElem?_cons_succ, List.getElem?_cons_zero]; rfl) (by kernel_rfl) (by kernel_rfl) (by kernel_rfl) (by exact fun _ _ _ h => h) (Or.inl ⟨by rfl, ?_⟩) (by assumption) ?_
                rotate_left
                · (intro w hSw; (try dsimp only at hSw); go_simp); first | done | with_reducible rfl
                try simp only [Act.put, List.setIfInBounds_toArray, List.set_cons_zero, List.set_cons_succ]
                refine wpAnyH_ready (rs := [16]) (by kernel_rfl) (by simp) ?_
                refine AllReadyH.cons (by simp only [List.getElem?_toArray, List.getElem?_cons_succ, List.getElem?_cons_zero]; rfl) (fun K hK => ?_) AllReadyH.nil
                go_simp
                obtain ⟨w8, hw⟩ : ∃ W, W = World.alloc w7 (Obj.cells #[Value.int .i64 (r : Nat), Value.int .i64 lv, Value.int .i64 (r2 : Nat)] 72) := ⟨_, rfl⟩
                have kb : Below w7.heap.size w7 w8 := by rw [hw]; exact (Below.refl _ _).alloc (Nat.le_refl _) _
                have HC : Hid (∀ j', j' < 3 → w8.cell? ((⟨w7.heap.size, 0, none⟩ : Addr).add j') = some (edgeCell (T.tlE sf i r (j + 1)) (T.tlA sf i r j).length j')) := fun j' hj' => by
                  unfold edgeCell
                  rw [hw, HLE.out]
                  match j', hj' with
                  | 0, _ => exact tbox (Below.refl _ _) rfl
                  | 1, _ => exact tbox (Below.refl _ _) rfl
                  | 2, _ => exact tbox (Below.refl _ _) rfl
                rw [← hw]
                clear hw
                obtain ⟨xb, hxb⟩ : ∃ b, b = w7.heap.size := ⟨_, rfl⟩
                rw [← hxb] at HC ⊢
                clear hxb
                replace hB := onS hB kb
                replace c1 := cellS kb c1
                replace c2 := cellS kb c2
                replace p0 := cellS kb p0
                replace m1 := cellS kb m1
                replace hedges := hedges.on kb
                clear kb
                refine hK.out _ _ ⟨c1, c2, p0, m1⟩ (fun hHeld => ?_)
                clear hK K
                try simp only [Act.put, List.setIfInBounds_toArray, List.set_cons_zero, List.set_cons_succ]
                refine wpAnyH_ready (rs := [17]) (by kernel_rfl) (by simp) ?_
                refine AllReadyH.cons (by simp only [List.getElem?_toArray, List.getElem?_cons_succ, List.getElem?_cons_zero]; rfl) (fun K hK => ?_) AllReadyH.nil
                refine step_append_edge (by rfl) (.tmp 74) (.tmp 90) (by rfl) hedges (by rfl) (ad := ⟨xb, 0, none⟩) (c := 1) (by rfl) HC.out hB.size HL.out ?_
                intro v9 w9 o1 o2 o3
                have hB9 := hB.grown o2 hB.size fun q e => (Own.lt hedges q e).1
                replace c1 := cell_grown c1 o2 HEB.out
                replace c2 := cell_grown c2 o2 HEB.out
                replace p0 := cell_grown p0 o2 HEW.out
                replace m1 := cell_grown m1 o2 HEA.out
                clear hB hedges o2 o3 HC
                refine hK.out _ _ ⟨c1, c2, p0, m1⟩ (fun hHeld => ?_)
                clear hK K
                try simp only [Act.put, List.setIfInBounds_toArray, List.set_cons_zero, List.set_cons_succ]
                refine wpAnyH_take (i := 18) (v := ?_) (by simp only [List.getElem?_toArray, List.getElem?_cons_succ, List.getElem?_cons_zero]; rfl) (by kernel_rfl) (by kernel_rfl) (by kernel_rfl) (by exact fun _ _ _ h => h) (Or.inl ⟨by rfl, ?_⟩) (by assumption) ?_
                rotate_left
                · (intro w hSw; (try dsimp only at hSw); go_simp); first | done | with_reducible rfl
                try simp only [Act.put, List.setIfInBounds_toArray, List.set_cons_zero, List.set_cons_succ]
                refine wpAnyH_done (by kernel_rfl) ?_ _
                clear hHeld
                have HB9 := hid hB9
                have HE9 := hid o1
                clear hB9 o1 c1 c2 p0 m1
                go_wp2
                go_roundg (gk - 1)
                case measure => omega
                case rel =>
                  refine ⟨j + 1, by go_num, by omega, by omega, ?_, HB9.out⟩
                  have h9 := HE9.out
                  have h8 := congrArg List.length (Trel.tlA_pos (T := T) (s := sf) (i := i) (v := r) (j := j) HPI2.out)
                  rw [List.length_append, List.length_singleton] at h8
                  rw [h8]
                  exact h9
              · have hc : ((r : Int) == (v : Int)) = false := by simp; omega
                have HNE : Hid (¬ T.pi sf i (T.fr i j).toNat = v) := by rw [HPI2.out]; exact heq
                have HBs := hid hB
                clear hB
                go_wp2
                go_quiet (fail)
                go_wp2
                go_roundg (gk - 1)
                case measure => omega
                case rel =>
                  refine ⟨j + 1, by go_num, by omega, by omega, ?_, below_drewN HBs.out _⟩
                  have h9 := Own.drewN HE.out nq
                  rw [← Trel.tlA_neg HNE.out, ← Trel.tlE_neg HNE.out] at h9
                  exact h9
            · have hltj' : ¬ (j : Int) < (el : Int) := by omega
              obtain rfl : j = el := by omega
              go_wp2
              go_roundg (gV - 1)
              case measure => omega
              case rel =>
                refine ⟨v + 1, by go_num, by omega, by omega, ?_, hB⟩
                have h9 := HE.out
                rw [HEL.out, Trel.tlA_next, Trel.tlE_next] at h9
                exact h9
        · have hltv' : ¬ (v : Int) < (Mi : Int) := by omega
          obtain rfl : v = Mi := by omega
          have hV : T.tlA sf i v 0 = T.tl sf i := by rw [HMI.out]; exact grpA_end _ _ _
          have k3 := HE.out
          rw [hV, HP.out.tl_len sf hlt] at k3
          have k3 := k3.congr (f' := edgeCell ((fun i p => T.trn sf i ((T.tl sf i).getD p 0)) i)) fun p hp q _ => by
            unfold edgeCell Trel.tlE
            rw [hV]
          obtain ⟨s0, s1', ⟨EV, s2', s3⟩⟩ := HST.out.on hB
          obtain ⟨EA, eec, hEA⟩ := k3.shape
          subst hEA
          have y1 := s2'.cell (i := 1) (by omega)
          rw [if_neg (by omega)] at y1
          have z1 := s2'.frozen 1
          have hzz := hB.size
          have hzb := HBA.out.size
          simp at hzb
          have k3b := k3.mono (base' := w.heap.size + 1) (by omega)
          have hBw := tbox_on HBA.out hB
          have kbd : Below wr.heap.size wr (wr.alloc (Obj.cells #[Value.slice EA (T.el i) eec] 70)) := (Below.refl _ _).alloc (Nat.le_refl _) _
          have HT1 := hid (s3.on kbd)
          have HROB : Hid (rb ≠ ob) := by show _ ≠ _; rw [HOB.out, HRB.out]; omega
          have HE1 := hid (k3b.on kbd)
          have HW1 := hid (s1'.on kbd)
          have HR1 := hid (s0.of_block (kbd.block rb s0.lt))
          have HX1 := hid (s2'.of_block (kbd.block ob s2'.lt))
          have HB1 := hid (tbox_on hBw kbd)
          have HC : Hid ((wr.alloc (Obj.cells #[Value.slice EA (T.el i) eec] 70)).cell? ((⟨wr.heap.size, 0, none⟩ : Addr).add 0) = some (Value.slice EA (T.el i) eec)) := tbox (Below.refl _ _) rfl
          have HZ : Hid (w.heap.size + 1 ≤ (wr.alloc (Obj.cells #[Value.slice EA (T.el i) eec] 70)).heap.size) := tbox_lt HB1.out
          have HL : Hid (i ≤ 1048576) := by show _ ≤ _; omega
          obtain ⟨RR, hA, _⟩ := s3
          have HNE2 := hid (own_row_ne s2' hA (by decide))
          have HNR2 := hid (own_row_ne s0 hA (by decide))
          have HA1 := hid (hA.on kbd)
          clear k3 s0 s1' s2' kbd k3b hBw hB HE hA hV hBR hzz hzb
          go_upto_region 4 with (first | (at_builtin; (refine wpList_append_sec rfl (.tmp 93) (.tmp 95) rfl HT1.out rfl (ad := ⟨wr.heap.size, 0, none⟩) (c := 1) rfl HC.out rfl HE1.out HZ.out HL.out ?_); intro v7 w7 o1 o2; obtain ⟨A7, c7, hs7⟩ := o1.shape; subst hs7; have hX7 := HX1.out.of_block (o2.block ob HX1.out.lt fun e => HNE2.out e.symm); have y7 := hX7.cell (i := 1) (by omega); rw [if_neg (by omega)] at y7; have z7 := hX7.frozen 1))
          have hB7 := (HB1.out.grown o2 HZ.out fun q e => (Own.lt HA1.out q e).1).setCell (p := ⟨ob, 1, none⟩) (by rw [HOB.out]; show _ ≤ w.heap.size + 1 + 1 + 1 + 1; omega) (.slice A7 (i + 1) c7)
          have hw7 := HW1.out.kept o2 (own_ne HA1.out HW1.out (by decide))
          have hST7 : TuSt T sf (i + 1) ob wb cap rb (w7.setCell ⟨ob, 1, none⟩ (.slice A7 (i + 1) c7)) (w.heap.size + 1) := by
            refine ⟨(HR1.out.of_block (o2.block rb HR1.out.lt fun e => HNR2.out e.symm)).setOther (a := ⟨ob, 1, none⟩) (by simpa using HROB.out) (.slice A7 (i + 1) c7), hw7.setCell (own_row_ne hX7 hw7 (by decide)) (.slice A7 (i + 1) c7), ⟨.slice A7 (i + 1) c7, (hX7.set 1 (.slice A7 (i + 1) c7)).congr fun k hk => ?_, o1.setCell hX7 (by decide) (by decide) (.slice A7 (i + 1) c7)⟩⟩
            by_cases e : k = 0
            · subst e; rw [if_neg (by omega), if_pos rfl, if_pos rfl]
            · rw [if_pos (by omega), if_neg e]
          have HST7 := hid hST7
          have HB7 := hid hB7
          clear hST7 hB7 hw7 o1 o2 hX7 y7 z7 y1 z1 HW1 HR1 HX1 HB1 HT1 HE1 HC HZ HA1 p0 p1 m0 hW
          go_wp2
          go_roundg (gI - 1)
          case measure => omega
          case rel => exact ⟨i + 1, by go_num, by omega, by omega, HST7, HB7.out⟩
    · have hlt' : ¬ (i : Int) < (T.n : Int) := by omega
      obtain rfl : i = T.n := by omega
      obtain ⟨s0, s1, ⟨EV, s2, s3⟩⟩ := HST.out
      obtain ⟨EA, eec, hEA⟩ := s3.shape
      subst hEA
      have y0 := s2.cell (i := 0) (by omega)
      have y1 := s2.cell (i := 1) (by omega)
      rw [if_pos rfl] at y0
      rw [if_neg (by omega)] at y1
      have r0 := s0.cell (i := 0) (by omega)
      have r1 := s0.cell (i := 1) (by omega)
      have z0 := s0.frozen 0
      have z1 := s0.frozen 1
      have q0 := s0.set 0 (.slice (some ⟨wb, 0, none⟩) T.nw cap)
      have q1 := q0.cell (i := 1) (by omega)
      rw [if_neg (by omega)] at q1
      have q2 := q0.frozen 1
      have q3 := q0.set 1 (.slice EA T.n eec)
      have q4 := q3.cell (i := 0) (by omega)
      have q5 := q3.cell (i := 1) (by omega)
      rw [if_neg (by omega), if_pos rfl] at q4
      rw [if_pos rfl] at q5
      have HS0 := hid s0
      have HS1 := hid s1
      have HS3 := hid s3
      have HBW := hid hB
      clear s0 s1 s2 s3 hB hlt q0 q3 hW
      go_wp2
      refine bodyPost_ret (v := .agg #[.slice (some ⟨wb, 0, none⟩) T.nw cap, .slice EA T.n eec]) (by simp [results, Try.results38, go_sem, q4, q5]) rfl ?_
      have k1 := (HS1.out.setCell (own_row_ne HS0.out HS1.out (by decide)) (.slice (some ⟨wb, 0, none⟩) T.nw cap) (a := ⟨rb, 0, none⟩))
      have r1' := HS0.out.set 0 (.slice (some ⟨wb, 0, none⟩) T.nw cap)
      have k2 := k1.setCell (own_row_ne r1' k1 (by decide)) (.slice EA T.n eec) (a := ⟨rb, 1, none⟩)
      have k3 := (HS3.out.setCell (b := rb) (i := 0) HS0.out (by decide) (by decide) (.slice (some ⟨wb, 0, none⟩) T.nw cap)).setCell (b := rb) (i := 1) r1' (by decide) (by decide) (.slice EA T.n eec)
      refine ⟨?_, _, _, _, _, rfl, k3.mono (Nat.zero_le _), k2.mono (Nat.zero_le _)⟩
      exact (HS.out _ ((HBW.out.setCell (p := ⟨rb, 0, none⟩) (by rw [HRB.out]; exact Nat.le_refl _) _).setCell (p := ⟨rb, 1, none⟩) (by rw [HRB.out]; exact Nat.le_refl _) _)).2
end Go.Proofs.Ytnocbkhnmdmfhaa
