/- codewrightref55.Eval. -/
import Derived.Test.YtlfmnaepcndhiaaRefPMul
namespace Go.Proofs.Ytlfmnaepcndhiaa
open Go.RowKit

def powR (x : Rat) : Nat → Rat
  | 0 => ((1 : Int) : Rat)
  | k + 1 => powR x k * x
/-- The value, from below. -/
def evR (rs : Nat → Rat) (x : Rat) : Nat → Rat
  | 0 => ((0 : Int) : Rat)
  | k + 1 => evR rs x k + rs k * powR x k

set_option maxRecDepth 100000 in
set_option maxHeartbeats 8000000 in
theorem refEval_any (T : Option Addr) (m c N : Nat) (rs : Nat → Rat) (v : Value) (x : Rat) (w : World) (h : RatTab w w.heap.size T m rs N) (hx : RatRaw w w.heap.size v x N) (hm : m ≤ 1048576) (hN : N ≤ 33554432) (hsx : rsz x N) (hs : Hid (∀ k, k ≤ m → rsz (evR rs x k) N ∧ rsz (powR x k) N)) (hsp : Hid (∀ k, k < m → rsz (rs k * powR x k) N)) (hr : Hid (∀ k, k < m → rsz (rs k) N)) :
    Calls Try.prog 19 #[.slice T m c, v] w (RatPost (evR rs x m) w) := by
  have hv : ∃ s A n c A2 m c2, v = .agg #[.bool s, .slice A n c, .slice A2 m c2] := by obtain ⟨s, A, n, c, A2, m, c2, x, y, rfl, _⟩ := hx; exact ⟨s, A, n, c, A2, m, c2, rfl⟩
  obtain ⟨s, A, n, c1, A2, n2, c2, rfl⟩ := hv
  have hb0 := below_one w (.cells #[.bool s, .slice A n c1, .slice A2 n2 c2] 32)
  have hb1 := below_one (w.alloc (.cells #[.bool s, .slice A n c1, .slice A2 n2 c2] 32)) (.cells #[.bool false, .slice none 0 0, .slice none 0 0] 32)
  have s0 : (w.alloc (.cells #[.bool s, .slice A n c1, .slice A2 n2 c2] 32)).heap.size = w.heap.size + 1 := by simp
  have ra := rowIs_on (box_row (w := w) (a := .bool s) (b := .slice A n c1) (c := .slice A2 n2 c2) (T := 32)) hb1
  have rz := box_row (w := w.alloc (.cells #[.bool s, .slice A n c1, .slice A2 n2 c2] 32)) (a := .bool false) (b := .slice none 0 0) (c := .slice none 0 0) (T := 32)
  rw [s0] at rz
  have hB := onS hb0 hb1
  clear s0 hb0 hb1
  obtain ⟨w0, hw0⟩ : ∃ W, W = ((w.alloc (.cells #[.bool s, .slice A n c1, .slice A2 n2 c2] 32)).alloc (.cells #[.bool false, .slice none 0 0, .slice none 0 0] 32)) := ⟨_, rfl⟩
  rw [← hw0] at ra rz hB
  go_enter Try.func19, Try.ntmps19
  go_upto_region 1 with fail
  rw [← hw0]
  clear hw0
  go_wp2_with fail
  refine (refInt_any 0 _ (by omega) (by omega)).mono ?_
  rintro e w1 ⟨Ao, co, Bo, do_, rfl, mo1, mo2, mo3, mo4, mo5, mo6, kb⟩
  replace ra := rowIs_on ra kb
  replace rz := rowIs_on rz kb
  replace hB := onS hB kb
  clear kb
  obtain ⟨qo, hq0⟩ : ∃ q : Rat, q = ((0 : Int) : Rat) := ⟨_, rfl⟩
  rw [← hq0] at mo1 mo2 mo3 mo5 ⊢
  have HQo := hid hq0
  clear hq0
  have kb := below_one w1 (.cells #[.bool (rneg qo), .slice Ao (dl qo.num.natAbs) co, .slice Bo (dl qo.den) do_] 32)
  have ro := box_row (w := w1) (a := .bool (rneg qo)) (b := .slice Ao (dl qo.num.natAbs) co) (c := .slice Bo (dl qo.den) do_) (T := 32)
  have hszo := hB.size
  have hlao := rz.lt
  replace ra := rowIs_on ra kb
  replace rz := rowIs_on rz kb
  replace hB := onS hB kb
  replace mo1 := mo1.on kb
  replace mo2 := mo2.on kb
  clear kb
  obtain ⟨w2, hw2⟩ : ∃ W, W = w1.alloc (.cells #[.bool (rneg qo), .slice Ao (dl qo.num.natAbs) co, .slice Bo (dl qo.den) do_] 32) := ⟨_, rfl⟩
  rw [← hw2] at ra rz hB mo1 mo2 ro
  obtain ⟨go, hg⟩ : ∃ g, g = w1.heap.size := ⟨_, rfl⟩
  rw [← hg] at ro hszo hlao
  go_upto_region 2 with fail
  rw [← hg, ← hw2]
  clear hw2 hg
  go_wp2_with fail
  refine (refInt_any 1 _ (by omega) (by omega)).mono ?_
  rintro e w3 ⟨Ap, cp, Bp, dp, rfl, mp1, mp2, mp3, mp4, mp5, mp6, kb⟩
  replace ra := rowIs_on ra kb
  replace rz := rowIs_on rz kb
  replace hB := onS hB kb
  replace mo1 := mo1.on kb
  replace mo2 := mo2.on kb
  replace ro := rowIs_on ro kb
  clear kb
  obtain ⟨qp, hq0⟩ : ∃ q : Rat, q = ((1 : Int) : Rat) := ⟨_, rfl⟩
  rw [← hq0] at mp1 mp2 mp3 mp5 ⊢
  have HQp := hid hq0
  clear hq0
  have kb := below_one w3 (.cells #[.bool (rneg qp), .slice Ap (dl qp.num.natAbs) cp, .slice Bp (dl qp.den) dp] 32)
  have rp := box_row (w := w3) (a := .bool (rneg qp)) (b := .slice Ap (dl qp.num.natAbs) cp) (c := .slice Bp (dl qp.den) dp) (T := 32)
  have hszp := hB.size
  have hlap := rz.lt
  have hoop := ro.lt
  replace ra := rowIs_on ra kb
  replace rz := rowIs_on rz kb
  replace hB := onS hB kb
  replace mo1 := mo1.on kb
  replace mo2 := mo2.on kb
  replace ro := rowIs_on ro kb
  replace mp1 := mp1.on kb
  replace mp2 := mp2.on kb
  clear kb
  obtain ⟨w4, hw2⟩ : ∃ W, W = w3.alloc (.cells #[.bool (rneg qp), .slice Ap (dl qp.num.natAbs) cp, .slice Bp (dl qp.den) dp] 32) := ⟨_, rfl⟩
  rw [← hw2] at ra rz hB mo1 mo2 ro mp1 mp2 rp
  obtain ⟨gp, hg⟩ : ∃ g, g = w3.heap.size := ⟨_, rfl⟩
  rw [← hg] at rp hszp hlap hoop
  go_wp2
  rw [← hg, ← hw2]
  clear hw2 hg
  go_loopg [7] m (fun gg iv wx => ∃ k : Nat, ∃ Sa Sc Sb Sd Pa Pc Pb Pd, iv = .int .i64 (k : Nat) ∧ k ≤ m ∧ m ≤ k + gg ∧ dl (evR rs x k).num.natAbs ≤ Sc ∧ Sc ≤ maxLen ∧ dl (evR rs x k).den ≤ Sd ∧ Sd ≤ maxLen ∧ NatOk wx wx.heap.size Sa (evR rs x k).num.natAbs ∧ NatOk wx wx.heap.size Sb (evR rs x k).den ∧ wx.rowIs go 32 3 (ratCell (.bool (rneg ((evR rs x k)))) (.slice (Sa) (dl ((evR rs x k)).num.natAbs) (Sc)) (.slice (Sb) (dl ((evR rs x k)).den) (Sd))) ∧ dl (powR x k).num.natAbs ≤ Pc ∧ Pc ≤ maxLen ∧ dl (powR x k).den ≤ Pd ∧ Pd ≤ maxLen ∧ NatOk wx wx.heap.size Pa (powR x k).num.natAbs ∧ NatOk wx wx.heap.size Pb (powR x k).den ∧ wx.rowIs gp 32 3 (ratCell (.bool (rneg ((powR x k)))) (.slice (Pa) (dl ((powR x k)).num.natAbs) (Pc)) (.slice (Pb) (dl ((powR x k)).den) (Pd))) ∧ wx.rowIs w.heap.size 32 3 (ratCell (.bool (s)) (.slice (A) (n) (c1)) (.slice (A2) (n2) (c2))) ∧ wx.rowIs (w.heap.size + 1) 32 3 (ratCell (.bool false) (.slice none 0 0) (.slice none 0 0)) ∧ Below w.heap.size w wx)
  case atStart => rw [HQo.out] at mo1 mo2 mo3 mo5 ro; rw [HQp.out] at mp1 mp2 mp3 mp5 rp; exact ⟨0, Ao, co, Bo, do_, Ap, cp, Bp, dp, rfl, by omega, by omega, mo3, mo4, mo5, mo6, mo1, mo2, ro, mp3, mp4, mp5, mp6, mp1, mp2, rp, ra, rz, hB⟩
  case round =>
    clear mo1 mo2 mo3 mo4 mo5 mo6 mp1 mp2 mp3 mp4 mp5 mp6 ra rz ro rp hB HQo HQp
    obtain ⟨k, Sa, Sc, Sb, Sd, Pa, Pc, Pb, Pd, rfl, hk, hkg, c3, c4, c5, c6, s1, s2, ro, p3, p4, p5, p6, s3, s4, rp, ra, rz, hB⟩ := hrel
    have hk0 : (0 : Int) ≤ (k : Int) := by omega
    by_cases hlt : k < m
    · have hkm : (k : Int) < (m : Int) := by omega
      have HSK := (hs.out k hk).1
      have HPK := (hs.out k hk).2
      have HSN := (hs.out (k + 1) (by omega)).1
      have HPN := (hs.out (k + 1) (by omega)).2
      have HSP := hsp.out k hlt
      have HRK := hr.out k hlt
      obtain ⟨b, off, s5, A5, n5, c5', A6, n6, c6', rfl, hb, t0, t1, t2, hraw⟩ := h k hlt
      replace hraw := hraw.on hB
      obtain ⟨S, hS⟩ : ∃ S, S = evR rs x k := ⟨_, rfl⟩
      obtain ⟨P, hP⟩ : ∃ S, S = powR x k := ⟨_, rfl⟩
      obtain ⟨rk, hrk⟩ : ∃ S, S = rs k := ⟨_, rfl⟩
      have hnext : evR rs x (k + 1) = S + rk * P := by rw [hS, hrk, hP]; rfl
      have hnextp : powR x (k + 1) = P * x := by rw [hP]; rfl
      rw [← hS] at c3 c5 s1 s2 ro HSK
      rw [← hP] at p3 p5 s3 s4 rp HPK HSP
      rw [← hrk] at hraw HRK HSP
      have HNX := hid hnext
      have HNP := hid hnextp
      rw [hnext] at HSN
      rw [hnextp] at HPN
      clear hS hP hrk hnext hnextp
      go_upto_region 6 with fail
      have hxr := hx.on hB
      have HS : Hid (∀ w' : World, w'.rowIs gp 32 3 (ratCell (.bool (rneg (P))) (.slice (Pa) (dl (P).num.natAbs) (Pc)) (.slice (Pb) (dl (P).den) (Pd))) → Below w.heap.size w w' → w'.cell? ⟨gp, 0, none⟩ = some (.bool (rneg (P))) ∧ w'.cell? ⟨gp, 1, none⟩ = some (.slice (Pa) (dl (P).num.natAbs) (Pc)) ∧ w'.cell? ⟨gp, 2, none⟩ = some (.slice (Pb) (dl (P).den) (Pd)) ∧ w'.cell? ⟨b, off + k * 3, none⟩ = some (.bool (s5)) ∧ w'.cell? ⟨b, off + k * 3 + 1, none⟩ = some (.slice (A5) (n5) (c5')) ∧ w'.cell? ⟨b, off + k * 3 + 2, none⟩ = some (.slice (A6) (n6) (c6'))) := fun w' h2 kb => ⟨h2.cell (i := 0) (by omega), h2.cell (i := 1) (by omega), h2.cell (i := 2) (by omega), cellS kb t0, cellS kb t1, cellS kb t2⟩
      refine wp_region_held_drew (S := fun w' => w'.cell? ⟨gp, 0, none⟩ = some (.bool (rneg (P))) ∧ w'.cell? ⟨gp, 1, none⟩ = some (.slice (Pa) (dl (P).num.natAbs) (Pc)) ∧ w'.cell? ⟨gp, 2, none⟩ = some (.slice (Pb) (dl (P).den) (Pd)) ∧ w'.cell? ⟨b, off + k * 3, none⟩ = some (.bool (s5)) ∧ w'.cell? ⟨b, off + k * 3 + 1, none⟩ = some (.slice (A5) (n5) (c5')) ∧ w'.cell? ⟨b, off + k * 3 + 2, none⟩ = some (.slice (A6) (n6) (c6'))) (by kernel_rfl) (HS.out _ (show World.rowIs (World.drew _) _ _ _ _ from rp) hB.drew) (fun hHeld => ?_)
      clear t0 t1 t2
      obtain ⟨w3, hw⟩ : ∃ W, W = World.drew wr := ⟨_, rfl⟩
      have kb : Below wr.heap.size wr w3 := by rw [hw]; exact (Below.refl _ _).drew
      rw [← hw] at hHeld ⊢
      clear hw
      replace s1 := s1.on kb
      replace s2 := s2.on kb
      replace s3 := s3.on kb
      replace s4 := s4.on kb
      replace ro := rowIs_on ro kb
      replace rp := rowIs_on rp kb
      replace ra := rowIs_on ra kb
      replace rz := rowIs_on rz kb
      replace hB := onS hB kb
      replace hraw := hraw.on kb
      replace hxr := hxr.on kb
      clear kb
      refine wpAnyH_take (i := 1) (v := ?_) (by simp only [List.getElem?_toArray, List.getElem?_cons_succ, List.getElem?_cons_zero]; rfl) (by kernel_rfl) (by kernel_rfl) (by kernel_rfl) (by exact fun _ _ _ h => h) (Or.inl ⟨by rfl, ?_⟩) (by assumption) ?_
      rotate_left
      · (intro w hSw; (try dsimp only at hSw); go_simp); first | done | with_reducible rfl
      try simp only [Act.put, List.setIfInBounds_toArray, List.set_cons_zero, List.set_cons_succ]
      refine wpAnyH_take (i := 2) (v := ?_) (by simp only [List.getElem?_toArray, List.getElem?_cons_succ, List.getElem?_cons_zero]; rfl) (by kernel_rfl) (by kernel_rfl) (by kernel_rfl) (by exact fun _ _ _ h => h) (Or.inl ⟨by rfl, ?_⟩) (by assumption) ?_
      rotate_left
      · (intro w hSw; (try dsimp only at hSw); go_simp); first | done | with_reducible rfl
      try simp only [Act.put, List.setIfInBounds_toArray, List.set_cons_zero, List.set_cons_succ]
      refine wpAnyH_take (i := 3) (v := ?_) (by simp only [List.getElem?_toArray, List.getElem?_cons_succ, List.getElem?_cons_zero]; rfl) (by kernel_rfl) (by kernel_rfl) (by kernel_rfl) (by exact fun _ _ _ h => h) (Or.inl ⟨by rfl, ?_⟩) (by assumption) ?_
      rotate_left
      · (intro w hSw; (try dsimp only at hSw); go_simp); first | done | with_reducible rfl
      try simp only [Act.put, List.setIfInBounds_toArray, List.set_cons_zero, List.set_cons_succ]
      refine wpAnyH_take (i := 4) (v := ?_) (by simp only [List.getElem?_toArray, List.getElem?_cons_succ, List.getElem?_cons_zero]; rfl) (by kernel_rfl) (by kernel_rfl) (by kernel_rfl) (by exact fun _ _ _ h => h) (Or.inl ⟨by rfl, ?_⟩) (by assumption) ?_
      rotate_left
      · (intro w hSw; (try dsimp only at hSw); go_simp); first | done | with_reducible rfl
      try simp only [Act.put, List.setIfInBounds_toArray, List.set_cons_zero, List.set_cons_succ]
      refine wpAnyH_take (i := 5) (v := ?_) (by simp only [List.getElem?_toArray, List.getElem?_cons_succ, List.getElem?_cons_zero]; rfl) (by kernel_rfl) (by kernel_rfl) (by kernel_rfl) (by exact fun _ _ _ h => h) (Or.inl ⟨by rfl, ?_⟩) (by assumption) ?_
      rotate_left
      · (intro w hSw; (try dsimp only at hSw); go_simp); first | done | with_reducible rfl
      try simp only [Act.put, List.setIfInBounds_toArray, List.set_cons_zero, List.set_cons_succ]
      refine wpAnyH_ready (rs := [0, 6]) (by kernel_rfl) (by simp) ?_
      refine AllReadyH.cons (by simp only [List.getElem?_toArray, List.getElem?_cons_zero]; rfl) (fun K hK => ?_) (AllReadyH.cons (by simp only [List.getElem?_toArray, List.getElem?_cons_succ, List.getElem?_cons_zero]; rfl) (fun K hK => ?_) AllReadyH.nil)
      · have lg0 : w3.cell? ⟨go, 0, none⟩ = some (.bool (rneg (S))) := ro.cell (i := 0) (by omega)
        have lg1 : w3.cell? ⟨go, 1, none⟩ = some (.slice (Sa) (dl (S).num.natAbs) (Sc)) := ro.cell (i := 1) (by omega)
        have lg2 : w3.cell? ⟨go, 2, none⟩ = some (.slice (Sb) (dl (S).den) (Sd)) := ro.cell (i := 2) (by omega)
        go_simp
        clear lg0 lg1 lg2
        refine hK.out _ _ (HS.out _ rp hB) (fun hHeld => ?_)
        clear hK K
        try simp only [Act.put, List.setIfInBounds_toArray, List.set_cons_zero, List.set_cons_succ]
        refine wpAnyH_ready (rs := [6]) (by kernel_rfl) (by simp) ?_
        refine AllReadyH.cons (by simp only [List.getElem?_toArray, List.getElem?_cons_succ, List.getElem?_cons_zero]; rfl) (fun K hK => ?_) AllReadyH.nil
        go_simp
        go_wp2_with fail
        refine (refMul02_any _ _ rk P N _ hraw (ratPost_raw s3 s4 p3 p4 p5 p6 HPK) hN HRK HPK).mono ?_
        rintro e w4 ⟨Ae, ce, Be, de, rfl, me1, me2, me3, me4, me5, me6, kb⟩
        replace s1 := s1.on kb
        replace s2 := s2.on kb
        replace s3 := s3.on kb
        replace s4 := s4.on kb
        replace ro := rowIs_on ro kb
        replace rp := rowIs_on rp kb
        replace ra := rowIs_on ra kb
        replace rz := rowIs_on rz kb
        replace hB := onS hB kb
        replace hraw := hraw.on kb
        replace hxr := hxr.on kb
        clear kb
        obtain ⟨z, hz⟩ : ∃ p, p = rk * P := ⟨_, rfl⟩
        rw [← hz] at me1 me2 me3 me5 HSP HSN HNX ⊢
        clear hz
        refine hK.out _ _ (HS.out _ rp hB) (fun hHeld => ?_)
        clear hK K
        try simp only [Act.put, List.setIfInBounds_toArray, List.set_cons_zero, List.set_cons_succ]
        refine wpAnyH_ready (rs := [7]) (by kernel_rfl) (by simp) ?_
        refine AllReadyH.cons (by simp only [List.getElem?_toArray, List.getElem?_cons_succ, List.getElem?_cons_zero]; rfl) (fun K hK => ?_) AllReadyH.nil
        go_simp
        go_wp2_with fail
        refine (refAdd02_any _ _ S z N _ (ratPost_raw s1 s2 c3 c4 c5 c6 HSK) (ratPost_raw me1 me2 me3 me4 me5 me6 HSP) hN HSK HSP).mono ?_
        rintro e w5 ⟨Am, cm, Bm, dm, rfl, mm1, mm2, mm3, mm4, mm5, mm6, kb⟩
        replace s1 := s1.on kb
        replace s2 := s2.on kb
        replace s3 := s3.on kb
        replace s4 := s4.on kb
        replace ro := rowIs_on ro kb
        replace rp := rowIs_on rp kb
        replace ra := rowIs_on ra kb
        replace rz := rowIs_on rz kb
        replace hB := onS hB kb
        replace hraw := hraw.on kb
        replace hxr := hxr.on kb
        replace me1 := me1.on kb
        replace me2 := me2.on kb
        clear kb
        obtain ⟨q, hq⟩ : ∃ q, q = S + z := ⟨_, rfl⟩
        rw [← hq] at mm1 mm2 mm3 mm5 HNX HSN ⊢
        clear hq
        refine hK.out _ _ (HS.out _ rp hB) (fun hHeld => ?_)
        clear hK K
        try simp only [Act.put, List.setIfInBounds_toArray, List.set_cons_zero, List.set_cons_succ]
        have hsz := hB.size
        have hgs := ro.lt
        have za0 := ro.frozen 0
        have za1 := ro.frozen 1
        have za2 := ro.frozen 2
        have ya0 : w5.cell? ⟨go, 0, none⟩ = some _ := ro.cell (i := 0) (by omega)
        have ya1 : w5.cell? ⟨go, 1, none⟩ = some _ := ro.cell (i := 1) (by omega)
        have ya2 : w5.cell? ⟨go, 2, none⟩ = some _ := ro.cell (i := 2) (by omega)
        refine wpAnyH_ready (rs := [8]) (by kernel_rfl) (by simp) ?_
        refine AllReadyH.cons (by simp only [List.getElem?_toArray, List.getElem?_cons_succ, List.getElem?_cons_zero]; rfl) (fun K hK => ?_) AllReadyH.nil
        go_simp
        generalize hw3 : World.setCell _ _ _ = w6
        have hst : RatStored w5 (go) 32 (rneg (q)) (Am) (dl (q).num.natAbs) (cm) (Bm) (dl (q).den) (dm) w6 := by rw [← hw3]; exact rat_stored ro _ _ _ _ _ _ _
        clear hw3
        replace s1 := hst.nat _ _ _ s1
        rw [← hst.size] at s1
        replace s2 := hst.nat _ _ _ s2
        rw [← hst.size] at s2
        replace s3 := hst.nat _ _ _ s3
        rw [← hst.size] at s3
        replace s4 := hst.nat _ _ _ s4
        rw [← hst.size] at s4
        replace ro := hst.row
        replace rp := rowIs_grown rp hst.grown (by omega)
        replace ra := rowIs_grown ra hst.grown (by omega)
        replace rz := rowIs_grown rz hst.grown (by omega)
        replace hB := hst.below hB (by omega) (by omega)
        replace hraw := hst.raw hraw
        rw [← hst.size] at hraw
        replace hxr := hst.raw hxr
        rw [← hst.size] at hxr
        replace me1 := hst.nat _ _ _ me1
        rw [← hst.size] at me1
        replace me2 := hst.nat _ _ _ me2
        rw [← hst.size] at me2
        replace mm1 := hst.nat _ _ _ mm1
        rw [← hst.size] at mm1
        replace mm2 := hst.nat _ _ _ mm2
        rw [← hst.size] at mm2
        clear hst
        refine hK.out _ _ (HS.out _ rp hB) (fun hHeld => ?_)
        clear hK K
        try simp only [Act.put, List.setIfInBounds_toArray, List.set_cons_zero, List.set_cons_succ]
        refine wpAnyH_done (by kernel_rfl) ?_ _
        clear hHeld
        clear hsz hgs za0 za1 za2 ya0 ya1 ya2 HS s1 s2 me1 me2 me3 me4 me5 me6
        have lp0 : w6.cell? ⟨gp, 0, none⟩ = some (.bool (rneg (P))) := rp.cell (i := 0) (by omega)
        have lp1 : w6.cell? ⟨gp, 1, none⟩ = some (.slice (Pa) (dl (P).num.natAbs) (Pc)) := rp.cell (i := 1) (by omega)
        have lp2 : w6.cell? ⟨gp, 2, none⟩ = some (.slice (Pb) (dl (P).den) (Pd)) := rp.cell (i := 2) (by omega)
        have lx0 : w6.cell? ⟨w.heap.size, 0, none⟩ = some (.bool (s)) := ra.cell (i := 0) (by omega)
        have lx1 : w6.cell? ⟨w.heap.size, 1, none⟩ = some (.slice (A) (n) (c1)) := ra.cell (i := 1) (by omega)
        have lx2 : w6.cell? ⟨w.heap.size, 2, none⟩ = some (.slice (A2) (n2) (c2)) := ra.cell (i := 2) (by omega)
        go_wp2_with fail
        refine (refMul02_any _ _ P x N _ (ratPost_raw s3 s4 p3 p4 p5 p6 HPK) hxr hN HPK hsx).mono ?_
        rintro e w7 ⟨Au, cu, Bu, du, rfl, mu1, mu2, mu3, mu4, mu5, mu6, kb⟩
        replace s3 := s3.on kb
        replace s4 := s4.on kb
        replace ro := rowIs_on ro kb
        replace rp := rowIs_on rp kb
        replace ra := rowIs_on ra kb
        replace rz := rowIs_on rz kb
        replace hB := onS hB kb
        replace hraw := hraw.on kb
        replace hxr := hxr.on kb
        replace mm1 := mm1.on kb
        replace mm2 := mm2.on kb
        clear kb
        obtain ⟨u, hu⟩ : ∃ q, q = P * x := ⟨_, rfl⟩
        rw [← hu] at mu1 mu2 mu3 mu5 HNP HPN ⊢
        clear hu lp0 lp1 lp2 lx0 lx1 lx2
        have hsz := hB.size
        have hgs := rp.lt
        have za0 := rp.frozen 0
        have za1 := rp.frozen 1
        have za2 := rp.frozen 2
        have ya0 : w7.cell? ⟨gp, 0, none⟩ = some _ := rp.cell (i := 0) (by omega)
        have ya1 : w7.cell? ⟨gp, 1, none⟩ = some _ := rp.cell (i := 1) (by omega)
        have ya2 : w7.cell? ⟨gp, 2, none⟩ = some _ := rp.cell (i := 2) (by omega)
        go_upto_region 5 with fail
        generalize hw3 : World.setCell _ _ _ = w8
        have hst : RatStored w7 (gp) 32 (rneg (u)) (Au) (dl (u).num.natAbs) (cu) (Bu) (dl (u).den) (du) w8 := by rw [← hw3]; exact rat_stored rp _ _ _ _ _ _ _
        clear hw3
        replace s3 := hst.nat _ _ _ s3
        rw [← hst.size] at s3
        replace s4 := hst.nat _ _ _ s4
        rw [← hst.size] at s4
        replace ro := rowIs_grown ro hst.grown (by omega)
        replace rp := hst.row
        replace ra := rowIs_grown ra hst.grown (by omega)
        replace rz := rowIs_grown rz hst.grown (by omega)
        replace hB := hst.below hB (by omega) (by omega)
        replace hraw := hst.raw hraw
        rw [← hst.size] at hraw
        replace hxr := hst.raw hxr
        rw [← hst.size] at hxr
        replace mm1 := hst.nat _ _ _ mm1
        rw [← hst.size] at mm1
        replace mm2 := hst.nat _ _ _ mm2
        rw [← hst.size] at mm2
        replace mu1 := hst.nat _ _ _ mu1
        rw [← hst.size] at mu1
        replace mu2 := hst.nat _ _ _ mu2
        rw [← hst.size] at mu2
        clear hst
        clear hsz hgs za0 za1 za2 ya0 ya1 ya2
        rw [← HNX.out] at mm1 mm2 mm3 mm5 ro
        rw [← HNP.out] at mu1 mu2 mu3 mu5 rp
        clear HNX HSN HNP HPN
        go_wp2
        go_roundg (gk - 1)
        case measure => omega
        case rel => exact ⟨k + 1, Am, cm, Bm, dm, Au, cu, Bu, du, by go_num, by omega, by omega, mm3, mm4, mm5, mm6, mm1, mm2, ro, mu3, mu4, mu5, mu6, mu1, mu2, rp, ra, rz, hB⟩
      · go_simp
        go_wp2_with fail
        refine (refMul02_any _ _ rk P N _ hraw (ratPost_raw s3 s4 p3 p4 p5 p6 HPK) hN HRK HPK).mono ?_
        rintro e w4 ⟨Ae, ce, Be, de, rfl, me1, me2, me3, me4, me5, me6, kb⟩
        replace s1 := s1.on kb
        replace s2 := s2.on kb
        replace s3 := s3.on kb
        replace s4 := s4.on kb
        replace ro := rowIs_on ro kb
        replace rp := rowIs_on rp kb
        replace ra := rowIs_on ra kb
        replace rz := rowIs_on rz kb
        replace hB := onS hB kb
        replace hraw := hraw.on kb
        replace hxr := hxr.on kb
        clear kb
        obtain ⟨z, hz⟩ : ∃ p, p = rk * P := ⟨_, rfl⟩
        rw [← hz] at me1 me2 me3 me5 HSP HSN HNX ⊢
        clear hz
        refine hK.out _ _ (HS.out _ rp hB) (fun hHeld => ?_)
        clear hK K
        try simp only [Act.put, List.setIfInBounds_toArray, List.set_cons_zero, List.set_cons_succ]
        refine wpAnyH_ready (rs := [0]) (by kernel_rfl) (by simp) ?_
        refine AllReadyH.cons (by simp only [List.getElem?_toArray, List.getElem?_cons_zero]; rfl) (fun K hK => ?_) AllReadyH.nil
        have lg0 : w4.cell? ⟨go, 0, none⟩ = some (.bool (rneg (S))) := ro.cell (i := 0) (by omega)
        have lg1 : w4.cell? ⟨go, 1, none⟩ = some (.slice (Sa) (dl (S).num.natAbs) (Sc)) := ro.cell (i := 1) (by omega)
        have lg2 : w4.cell? ⟨go, 2, none⟩ = some (.slice (Sb) (dl (S).den) (Sd)) := ro.cell (i := 2) (by omega)
        go_simp
        clear lg0 lg1 lg2
        refine hK.out _ _ (HS.out _ rp hB) (fun hHeld => ?_)
        clear hK K
        try simp only [Act.put, List.setIfInBounds_toArray, List.set_cons_zero, List.set_cons_succ]
        refine wpAnyH_ready (rs := [7]) (by kernel_rfl) (by simp) ?_
        refine AllReadyH.cons (by simp only [List.getElem?_toArray, List.getElem?_cons_succ, List.getElem?_cons_zero]; rfl) (fun K hK => ?_) AllReadyH.nil
        go_simp
        go_wp2_with fail
        refine (refAdd02_any _ _ S z N _ (ratPost_raw s1 s2 c3 c4 c5 c6 HSK) (ratPost_raw me1 me2 me3 me4 me5 me6 HSP) hN HSK HSP).mono ?_
        rintro e w5 ⟨Am, cm, Bm, dm, rfl, mm1, mm2, mm3, mm4, mm5, mm6, kb⟩
        replace s1 := s1.on kb
        replace s2 := s2.on kb
        replace s3 := s3.on kb
        replace s4 := s4.on kb
        replace ro := rowIs_on ro kb
        replace rp := rowIs_on rp kb
        replace ra := rowIs_on ra kb
        replace rz := rowIs_on rz kb
        replace hB := onS hB kb
        replace hraw := hraw.on kb
        replace hxr := hxr.on kb
        replace me1 := me1.on kb
        replace me2 := me2.on kb
        clear kb
        obtain ⟨q, hq⟩ : ∃ q, q = S + z := ⟨_, rfl⟩
        rw [← hq] at mm1 mm2 mm3 mm5 HNX HSN ⊢
        clear hq
        refine hK.out _ _ (HS.out _ rp hB) (fun hHeld => ?_)
        clear hK K
        try simp only [Act.put, List.setIfInBounds_toArray, List.set_cons_zero, List.set_cons_succ]
        have hsz := hB.size
        have hgs := ro.lt
        have za0 := ro.frozen 0
        have za1 := ro.frozen 1
        have za2 := ro.frozen 2
        have ya0 : w5.cell? ⟨go, 0, none⟩ = some _ := ro.cell (i := 0) (by omega)
        have ya1 : w5.cell? ⟨go, 1, none⟩ = some _ := ro.cell (i := 1) (by omega)
        have ya2 : w5.cell? ⟨go, 2, none⟩ = some _ := ro.cell (i := 2) (by omega)
        refine wpAnyH_ready (rs := [8]) (by kernel_rfl) (by simp) ?_
        refine AllReadyH.cons (by simp only [List.getElem?_toArray, List.getElem?_cons_succ, List.getElem?_cons_zero]; rfl) (fun K hK => ?_) AllReadyH.nil
        go_simp
        generalize hw3 : World.setCell _ _ _ = w6
        have hst : RatStored w5 (go) 32 (rneg (q)) (Am) (dl (q).num.natAbs) (cm) (Bm) (dl (q).den) (dm) w6 := by rw [← hw3]; exact rat_stored ro _ _ _ _ _ _ _
        clear hw3
        replace s1 := hst.nat _ _ _ s1
        rw [← hst.size] at s1
        replace s2 := hst.nat _ _ _ s2
        rw [← hst.size] at s2
        replace s3 := hst.nat _ _ _ s3
        rw [← hst.size] at s3
        replace s4 := hst.nat _ _ _ s4
        rw [← hst.size] at s4
        replace ro := hst.row
        replace rp := rowIs_grown rp hst.grown (by omega)
        replace ra := rowIs_grown ra hst.grown (by omega)
        replace rz := rowIs_grown rz hst.grown (by omega)
        replace hB := hst.below hB (by omega) (by omega)
        replace hraw := hst.raw hraw
        rw [← hst.size] at hraw
        replace hxr := hst.raw hxr
        rw [← hst.size] at hxr
        replace me1 := hst.nat _ _ _ me1
        rw [← hst.size] at me1
        replace me2 := hst.nat _ _ _ me2
        rw [← hst.size] at me2
        replace mm1 := hst.nat _ _ _ mm1
        rw [← hst.size] at mm1
        replace mm2 := hst.nat _ _ _ mm2
        rw [← hst.size] at mm2
        clear hst
        refine hK.out _ _ (HS.out _ rp hB) (fun hHeld => ?_)
        clear hK K
        try simp only [Act.put, List.setIfInBounds_toArray, List.set_cons_zero, List.set_cons_succ]
        refine wpAnyH_done (by kernel_rfl) ?_ _
        clear hHeld
        clear hsz hgs za0 za1 za2 ya0 ya1 ya2 HS s1 s2 me1 me2 me3 me4 me5 me6
        have lp0 : w6.cell? ⟨gp, 0, none⟩ = some (.bool (rneg (P))) := rp.cell (i := 0) (by omega)
        have lp1 : w6.cell? ⟨gp, 1, none⟩ = some (.slice (Pa) (dl (P).num.natAbs) (Pc)) := rp.cell (i := 1) (by omega)
        have lp2 : w6.cell? ⟨gp, 2, none⟩ = some (.slice (Pb) (dl (P).den) (Pd)) := rp.cell (i := 2) (by omega)
        have lx0 : w6.cell? ⟨w.heap.size, 0, none⟩ = some (.bool (s)) := ra.cell (i := 0) (by omega)
        have lx1 : w6.cell? ⟨w.heap.size, 1, none⟩ = some (.slice (A) (n) (c1)) := ra.cell (i := 1) (by omega)
        have lx2 : w6.cell? ⟨w.heap.size, 2, none⟩ = some (.slice (A2) (n2) (c2)) := ra.cell (i := 2) (by omega)
        go_wp2_with fail
        refine (refMul02_any _ _ P x N _ (ratPost_raw s3 s4 p3 p4 p5 p6 HPK) hxr hN HPK hsx).mono ?_
        rintro e w7 ⟨Au, cu, Bu, du, rfl, mu1, mu2, mu3, mu4, mu5, mu6, kb⟩
        replace s3 := s3.on kb
        replace s4 := s4.on kb
        replace ro := rowIs_on ro kb
        replace rp := rowIs_on rp kb
        replace ra := rowIs_on ra kb
        replace rz := rowIs_on rz kb
        replace hB := onS hB kb
        replace hraw := hraw.on kb
        replace hxr := hxr.on kb
        replace mm1 := mm1.on kb
        replace mm2 := mm2.on kb
        clear kb
        obtain ⟨u, hu⟩ : ∃ q, q = P * x := ⟨_, rfl⟩
        rw [← hu] at mu1 mu2 mu3 mu5 HNP HPN ⊢
        clear hu lp0 lp1 lp2 lx0 lx1 lx2
        have hsz := hB.size
        have hgs := rp.lt
        have za0 := rp.frozen 0
        have za1 := rp.frozen 1
        have za2 := rp.frozen 2
        have ya0 : w7.cell? ⟨gp, 0, none⟩ = some _ := rp.cell (i := 0) (by omega)
        have ya1 : w7.cell? ⟨gp, 1, none⟩ = some _ := rp.cell (i := 1) (by omega)
        have ya2 : w7.cell? ⟨gp, 2, none⟩ = some _ := rp.cell (i := 2) (by omega)
        go_upto_region 5 with fail
        generalize hw3 : World.setCell _ _ _ = w8
        have hst : RatStored w7 (gp) 32 (rneg (u)) (Au) (dl (u).num.natAbs) (cu) (Bu) (dl (u).den) (du) w8 := by rw [← hw3]; exact rat_stored rp _ _ _ _ _ _ _
        clear hw3
        replace s3 := hst.nat _ _ _ s3
        rw [← hst.size] at s3
        replace s4 := hst.nat _ _ _ s4
        rw [← hst.size] at s4
        replace ro := rowIs_grown ro hst.grown (by omega)
        replace rp := hst.row
        replace ra := rowIs_grown ra hst.grown (by omega)
        replace rz := rowIs_grown rz hst.grown (by omega)
        replace hB := hst.below hB (by omega) (by omega)
        replace hraw := hst.raw hraw
        rw [← hst.size] at hraw
        replace hxr := hst.raw hxr
        rw [← hst.size] at hxr
        replace mm1 := hst.nat _ _ _ mm1
        rw [← hst.size] at mm1
        replace mm2 := hst.nat _ _ _ mm2
        rw [← hst.size] at mm2
        replace mu1 := hst.nat _ _ _ mu1
        rw [← hst.size] at mu1
        replace mu2 := hst.nat _ _ _ mu2
        rw [← hst.size] at mu2
        clear hst
        clear hsz hgs za0 za1 za2 ya0 ya1 ya2
        rw [← HNX.out] at mm1 mm2 mm3 mm5 ro
        rw [← HNP.out] at mu1 mu2 mu3 mu5 rp
        clear HNX HSN HNP HPN
        go_wp2
        go_roundg (gk - 1)
        case measure => omega
        case rel => exact ⟨k + 1, Am, cm, Bm, dm, Au, cu, Bu, du, by go_num, by omega, by omega, mm3, mm4, mm5, mm6, mm1, mm2, ro, mu3, mu4, mu5, mu6, mu1, mu2, rp, ra, rz, hB⟩
    · obtain rfl : k = m := by omega
      have hge : ¬ (k : Int) < (k : Int) := by omega
      obtain ⟨w19, hw19⟩ : ∃ W, W = wr := ⟨_, rfl⟩
      rw [← hw19] at s1 s2 ro rz hB ⊢
      clear hw19 h ra rp s3 s4
      have mm1 := s1
      have mm2 := s2
      have mm3 := c3
      have mm4 := c4
      have mm5 := c5
      have mm6 := c6
      clear s1 s2 c3 c4 c5 c6
      obtain ⟨q, hq⟩ : ∃ q, q = evR rs x k := ⟨_, rfl⟩
      rw [← hq] at mm1 mm2 mm3 mm5 ro ⊢
      have HQL := hid hq
      obtain ⟨ngq, hngq⟩ : ∃ b, b = rneg q := ⟨_, rfl⟩
      rw [← hngq] at ro
      have HNG := hid hngq
      clear hq hngq
      have eg0 : w19.cell? ⟨go, 0, none⟩ = some (.bool (ngq)) := ro.cell (i := 0) (by omega)
      have eg1 : w19.cell? ⟨go, 1, none⟩ = some (.slice (Sa) (dl q.num.natAbs) (Sc)) := ro.cell (i := 1) (by omega)
      have eg2 : w19.cell? ⟨go, 2, none⟩ = some (.slice (Sb) (dl q.den) (Sd)) := ro.cell (i := 2) (by omega)
      clear ro
      have hsz := hB.size
      have za0 := rz.frozen 0
      have za1 := rz.frozen 1
      have za2 := rz.frozen 2
      have ya0 : w19.cell? ⟨w.heap.size + 1, 0, none⟩ = some _ := rz.cell (i := 0) (by omega)
      have ya1 : w19.cell? ⟨w.heap.size + 1, 1, none⟩ = some _ := rz.cell (i := 1) (by omega)
      have ya2 : w19.cell? ⟨w.heap.size + 1, 2, none⟩ = some _ := rz.cell (i := 2) (by omega)
      go_wp2
      generalize hw3 : World.setCell _ _ _ = w20
      have hst : RatStored w19 (w.heap.size + 1) 32 (ngq) (Sa) (dl q.num.natAbs) (Sc) (Sb) (dl q.den) (Sd) w20 := by rw [← hw3]; exact rat_stored rz _ _ _ _ _ _ _
      clear hw3
      replace mm1 := hst.nat _ _ _ mm1
      rw [← hst.size] at mm1
      replace mm2 := hst.nat _ _ _ mm2
      rw [← hst.size] at mm2
      replace rz := hst.row
      replace hB := hst.below hB (by omega) (by omega)
      clear hst
      clear hsz za0 za1 za2 ya0 ya1 ya2
      have e0 : w20.cell? ⟨w.heap.size + 1, 0, none⟩ = some (.bool (ngq)) := rz.cell (i := 0) (by omega)
      have e1 : w20.cell? ⟨w.heap.size + 1, 1, none⟩ = some (.slice (Sa) (dl q.num.natAbs) (Sc)) := rz.cell (i := 1) (by omega)
      have e2 : w20.cell? ⟨w.heap.size + 1, 2, none⟩ = some (.slice (Sb) (dl q.den) (Sd)) := rz.cell (i := 2) (by omega)
      refine bodyPost_ret (v := .agg #[.bool (ngq), .slice (Sa) (dl q.num.natAbs) (Sc), .slice (Sb) (dl q.den) (Sd)]) (by simp [results, Try.results19, go_sem, e0, e1, e2]) rfl ?_
      rw [← HQL.out]
      exact ⟨Sa, Sc, Sb, Sd, by rw [HNG.out], mm1, mm2, mm3, mm4, mm5, mm6, hB⟩

end Go.Proofs.Ytlfmnaepcndhiaa
