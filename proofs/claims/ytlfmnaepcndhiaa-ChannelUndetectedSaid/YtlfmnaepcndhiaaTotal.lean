/- ChannelTotal returns true. -/
import Derived.Test.YtlfmnaepcndhiaaTotalMath
import Derived.Test.YtlfmnaepcndhiaaPatterns
namespace Go.Proofs.Ytlfmnaepcndhiaa
open Go.RowKit Go.ChangeShapes Go.WideShapes Go.ChangeAt

theorem refMul_ok {A A2 : Option Addr} {c c2 x y : Nat} {w : World} (h : NatOk w w.heap.size A x) (h2 : NatOk w w.heap.size A2 y) (hn : dl x ≤ 536870912) (hm : dl y ≤ 536870912) :
    Calls Try.prog 28 #[.slice A (dl x) c, .slice A2 (dl y) c2] w (NatPost (x * y) w) := by
  have := refMul_any A A2 (dl x) c (dl y) c2 (dg x) (dg y) w h h2 (hid fun i _ => dg_lt x i) (hid fun i _ => dg_lt y i) hn hm
  rwa [nv_dg, nv_dg] at this
theorem rsz_nat {x : Nat} {L : Nat} (h : dl x ≤ L) (hL : 1 ≤ L) : rsz (x : Rat) L := by
  refine ⟨?_, ?_⟩
  · show dl (x : Int).natAbs ≤ L
    simpa using h
  · show dl 1 ≤ L
    rw [dl_one]; exact hL

set_option maxRecDepth 100000 in
set_option maxHeartbeats 16000000 in
theorem channelTotal_any (q n : Nat) (w : World) (hq8 : q ≤ 255) (hn8 : n ≤ 255) :
    Calls Try.prog 6 #[.int .u8 (q : Nat), .int .u8 (n : Nat)] w fun e w' => e = .returned (.bool true) ∧ Below w.heap.size w w' := by
  by_cases hq : q < 2
  · have hq' : (q : Int) < 2 := by omega
    go_enter Try.func6, Try.ntmps6
    go_wp2
    go_ret
    exact ⟨rfl, Below.refl _ _⟩
  by_cases hn : 16 < n
  · have hq' : ¬ (q : Int) < 2 := by omega
    have hn' : (16 : Int) < (n : Int) := by omega
    go_enter Try.func6, Try.ntmps6
    go_wp2
    go_ret
    exact ⟨rfl, Below.refl _ _⟩
  have hq2 : 2 ≤ q := by omega
  have hn16 : n ≤ 16 := by omega
  have hq' : (2 : Int) ≤ (q : Int) := by omega
  have hq3 : (q : Int) ≤ 255 := by omega
  have hn' : (n : Int) ≤ 16 := by omega
  have hn0 : (0 : Int) ≤ (n : Int) := by omega
  have hq1 : ((q : Int) - 1) = ((q - 1 : Nat) : Int) := by omega
  have hLEN : Hid (∀ k, (totP q n k).1 ≤ n + 2) := totP_len q n
  have hRSZ : Hid (∀ k, k ≤ n + 1 → ∀ i, i < (totP q n k).1 → rsz ((totP q n k).2 i) 2) := fun k hk => rsz_tot hq2 hn16 k hk
  have hEND := hid (totP_end (n := n) hq2)
  clear hq hn
  go_enter Try.func6, Try.ntmps6
  go_wp2
  go_loopg [5, 6] (n + 1) (fun gg sv iv wx => ∃ k : Nat, ∃ A d, iv = .int .i64 (k : Nat) ∧ k ≤ n + 1 ∧ n + 1 ≤ k + gg ∧ sv = .slice A (totP q n k).1 d ∧ RatList wx wx.heap.size A (totP q n k).1 (totP q n k).2 ∧ Below w.heap.size w wx)
  case atStart => exact ⟨0, none, 0, rfl, by omega, by omega, rfl, fun i hi => absurd hi (Nat.not_lt_zero i), Below.refl _ _⟩
  case round =>
    obtain ⟨k, A, d, rfl, hk, hkg, rfl, hl, hB⟩ := hrel
    have hk0 : (0 : Int) ≤ (k : Int) := by omega
    have hLk := hLEN.out k
    have ht := hl.tab (hRSZ.out k hk)
    have hrk := hRSZ.out k hk
    by_cases hlt : k ≤ n
    · have hlt' : (k : Int) ≤ (n : Int) := by omega
      have hPO : Hid (∀ (W : World) (e : Ending) (W' : World), PolyPost (clen (sumP (totP q n k).2 (totP q n k).1 (mulP (fun _ => (((q - 1) ^ k * chs n k : Nat) : Rat)) 1 (patR q n k) (n + 1)) (clen (mulP (fun _ => (((q - 1) ^ k * chs n k : Nat) : Rat)) 1 (patR q n k) (n + 1)) (1 + (n + 1)))) (max (totP q n k).1 (clen (mulP (fun _ => (((q - 1) ^ k * chs n k : Nat) : Rat)) 1 (patR q n k) (n + 1)) (1 + (n + 1))))) (sumP (totP q n k).2 (totP q n k).1 (mulP (fun _ => (((q - 1) ^ k * chs n k : Nat) : Rat)) 1 (patR q n k) (n + 1)) (clen (mulP (fun _ => (((q - 1) ^ k * chs n k : Nat) : Rat)) 1 (patR q n k) (n + 1)) (1 + (n + 1)))) W e W' → PolyPost (totP q n (k + 1)).1 (totP q n (k + 1)).2 W e W') := fun _ _ _ h => h
      have hcl := clen_le (mulP (fun _ => (((q - 1) ^ k * chs n k : Nat) : Rat)) 1 (patR q n k) (n + 1)) (1 + (n + 1))
      have hdq := dl_qpow (q := q - 1) (n := k) (by omega) (by omega)
      have hdc := dl_chs n k (by omega)
      have hdm := dl_mul_le' hdq hdc
      have hpat : ∀ i, i < n + 1 → rsz (patR q n k i) 200 := fun i _ => by
        unfold patR
        split
        · exact rsz_zero.mono (by omega)
        · exact rsz_rv (by have := dl_chs (n - k) (i - k) (by omega); omega) (by omega) (by omega)
      have hc1 : ∀ i, i < 1 → rsz ((fun _ => (((q - 1) ^ k * chs n k : Nat) : Rat)) i : Rat) 200 := fun i _ => rsz_nat (by omega) (by omega)
      have hpr : ∀ i, i < clen (mulP (fun _ => (((q - 1) ^ k * chs n k : Nat) : Rat)) 1 (patR q n k) (n + 1)) (1 + (n + 1)) → rsz (mulP (fun _ => (((q - 1) ^ k * chs n k : Nat) : Rat)) 1 (patR q n k) (n + 1) i) 500 := fun i _ => (rsz_outP hc1 hpat 1 (Nat.le_refl _) i).mono (by omega)
      obtain ⟨L, hL⟩ : ∃ L, L = (totP q n k).1 := ⟨_, rfl⟩
      obtain ⟨S, hS⟩ : ∃ S, S = (totP q n k).2 := ⟨_, rfl⟩
      rw [← hL] at hLk
      rw [← hL, ← hS] at ht hrk hPO
      rw [← hL]
      clear hl hL hS
      obtain ⟨x, hx⟩ : ∃ x, x = (q - 1) ^ k * chs n k := ⟨_, rfl⟩
      rw [← hx] at hPO hcl hdm hc1 hpr
      have HX := hid hx
      clear hx
      obtain ⟨pc, hpc⟩ : ∃ l, l = clen (mulP (fun _ => ((x : Nat) : Rat)) 1 (patR q n k) (n + 1)) (1 + (n + 1)) := ⟨_, rfl⟩
      obtain ⟨PR, hPR⟩ : ∃ P, P = mulP (fun _ => ((x : Nat) : Rat)) 1 (patR q n k) (n + 1) := ⟨_, rfl⟩
      have hMU : Hid (∀ (W : World) (e : Ending) (W' : World), PolyPost (clen (mulP (fun _ => ((x : Nat) : Rat)) 1 (patR q n k) (n + 1)) (1 + (n + 1))) (mulP (fun _ => ((x : Nat) : Rat)) 1 (patR q n k) (n + 1)) W e W' → PolyPost pc PR W e W') := fun _ _ _ h => by rw [hpc, hPR]; exact h
      rw [← hpc] at hcl
      rw [← hpc, ← hPR] at hpr hPO
      clear hpc hPR
      obtain ⟨M, hM⟩ : ∃ M, M = n + 1 := ⟨_, rfl⟩
      have hPT : Hid (∀ (W : World) (e : Ending) (W' : World), PolyOk (n + 1) (patR q n k) W e W' → PolyOk M (patR q n k) W e W') := fun _ _ _ h => by rw [hM]; exact h
      rw [← hM] at hMU hpat hcl
      have hMb : M ≤ 17 := by omega
      clear hM
      have HPAT := hid hpat
      have HC1 := hid hc1
      have HPR := hid hpr
      have HRK := hid (fun i hi => (hrk i hi).mono (show 2 ≤ 500 by omega))
      clear hpat hc1 hpr hrk
      go_wp2_with fail
      refine ((chPattern_ok q n k _ (by omega) (by omega) (by omega) hlt).mono (fun e W' => hPT.out _ e W')).mono ?_
      rintro e w1 ⟨Ta, ca, rfl, l1, l2, l3, kb⟩
      replace ht := ht.on kb
      replace hB := onS hB kb
      clear kb
      go_wp2_with fail
      refine (refOf_any (q - 1) _ (by omega)).mono ?_
      rintro e w2 ⟨B1, b1, rfl, e1, e2, e3, kb⟩
      replace ht := ht.on kb
      replace l3 := l3.on kb
      replace hB := onS hB kb
      clear kb
      have hq1d : dl (q - 1) ≤ 1 := dl_le (by omega)
      go_wp2_with fail
      refine (refPow_any B1 b1 (q - 1) k _ e3 e1 e2 (by omega) (by omega) (by omega)).mono ?_
      rintro e w3 ⟨B2, b2, rfl, f1, f2, f3, kb⟩
      replace ht := ht.on kb
      replace l3 := l3.on kb
      replace hB := onS hB kb
      clear kb e1 e2 e3 hq1d
      obtain ⟨pw, hpw⟩ : ∃ z, z = (q - 1) ^ k := ⟨_, rfl⟩
      have HX2 : Hid (x = pw * chs n k) := by rw [hpw]; exact HX.out
      rw [← hpw] at f1 f3 hdq ⊢
      clear hpw
      go_wp2_with fail
      refine (refChoose_any n k _ (by omega) hlt).mono ?_
      rintro e w4 ⟨B3, b3, rfl, g1, g2, g3, kb⟩
      replace ht := ht.on kb
      replace l3 := l3.on kb
      replace f3 := f3.on kb
      replace hB := onS hB kb
      clear kb
      obtain ⟨ch, hch⟩ : ∃ z, z = chs n k := ⟨_, rfl⟩
      rw [← hch] at g1 g3 hdc HX2 ⊢
      clear hch
      go_wp2_with fail
      refine (refMul_ok f3 g3 (by omega) (by omega)).mono ?_
      rintro e w5 ⟨B4, b4, rfl, m1, m2, m3, kb⟩
      rw [← HX2.out] at m1 m3 ⊢
      replace ht := ht.on kb
      replace l3 := l3.on kb
      replace hB := onS hB kb
      clear kb f1 f2 f3 g1 g2 g3
      go_wp2_with fail
      refine (refNat02_any B4 (dl x) b4 x _ m3.raw m1 m2 (by omega)).mono ?_
      rintro e w6 ⟨Aa, cc, Ba, da, rfl, a1, a2, a3, a4, a5, a6, kb⟩
      replace ht := ht.on kb
      replace l3 := l3.on kb
      replace hB := onS hB kb
      clear kb m1 m2 m3
      obtain ⟨rx, hrx⟩ : ∃ z : Rat, z = (x : Rat) := ⟨_, rfl⟩
      rw [← hrx] at a1 a2 a3 a5 hMU HC1 ⊢
      clear hrx
      have hone := ratList_one 32 (rs := fun _ => rx) rfl a1 a2 a3 a4 a5 a6
      have kb := below_one w6 (.cells #[.bool (rneg rx), .slice Aa (dl rx.num.natAbs) cc, .slice Ba (dl rx.den) da] 32)
      replace ht := ht.on kb
      replace l3 := l3.on kb
      replace hB := onS hB kb
      have t1 := hone.tab HC1.out
      have t2 := l3.tab HPAT.out
      clear kb a1 a2 a3 a4 a5 a6 hone l3
      go_wp2_with fail
      refine ((chPMul_any _ Ta 1 1 M ca 200 500 (fun _ => rx) (patR q n k) _ t1 t2 (by omega) (by omega) (by omega) (by omega) HC1 HPAT).mono (fun e W' => hMU.out _ e W')).mono ?_
      rintro e w7 ⟨Tb, cb, rfl, o1, o2, o3, kb⟩
      replace ht := ht.on kb
      replace hB := onS hB kb
      have t3 := o3.tab HPR.out
      have t4 := ht.mono (show 2 ≤ 500 by omega)
      clear kb t1 t2 o3 ht
      go_wp2_with fail
      refine ((chPAdd_any A Tb L d pc cb 500 S PR _ t4 t3 (by omega) (by omega) (by omega) HRK HPR).mono (fun e W' => hPO.out _ e W')).mono ?_
      rintro e w8 ⟨Tc, cd, rfl, s1, s2, s3, kb⟩
      replace hB := onS hB kb
      obtain ⟨L', hL'⟩ : ∃ L, L = (totP q n (k + 1)).1 := ⟨_, rfl⟩
      rw [← hL'] at s1 s3 ⊢
      have HL := hid hL'
      clear kb t3 t4 hL'
      go_wp2
      go_roundg (gk - 1)
      case measure => omega
      case rel => exact ⟨k + 1, Tc, cd, by go_num, by omega, by omega, by rw [HL.out], by rw [HL.out] at s3; exact s3, hB⟩
    · obtain rfl : k = n + 1 := by omega
      have hlt' : ¬ ((n + 1 : Nat) : Int) ≤ (n : Int) := by omega
      obtain ⟨M, hM⟩ : ∃ M, M = n + 1 := ⟨_, rfl⟩
      rw [← hM] at hlt' hl
      have hE := hEND.out
      rw [← hM] at hE ⊢
      obtain ⟨hE1, hE2⟩ := hE
      rw [hE1] at hl ⊢
      obtain ⟨S, hS⟩ : ∃ S, S = (totP q n M).2 := ⟨_, rfl⟩
      rw [← hS] at hl hE2
      clear hM hS ht hrk hLk hE1 hk0
      have HE2 := hid hE2
      clear hE2
      go_wp2_with fail
      refine (refInt_any 1 _ (by omega) (by omega)).mono ?_
      rintro e w1 ⟨Aa, cc, Ba, da, rfl, a1, a2, a3, a4, a5, a6, kb⟩
      replace hl := hl.on kb
      replace hB := onS hB kb
      clear kb
      obtain ⟨q1, hq1'⟩ : ∃ q : Rat, q = ((1 : Int) : Rat) := ⟨_, rfl⟩
      rw [← hq1'] at a1 a2 a3 a5 ⊢
      have hone := ratList_one 32 (rs := S) (r := q1) (by rw [HE2.out, hq1']; rfl) a1 a2 a3 a4 a5 a6
      have kb := below_one w1 (.cells #[.bool (rneg q1), .slice Aa (dl q1.num.natAbs) cc, .slice Ba (dl q1.den) da] 32)
      replace hl := hl.on kb
      replace hB := onS hB kb
      clear kb a1 a2 a3 a4 a5 a6 hq1'
      go_wp2_with fail
      refine (lawSame_any _ _ 1 _ _ 4 S _ hl hone (by omega) (by omega) (hid fun i hi => by obtain rfl : i = 0 := by omega
                                                                                            rw [HE2.out]; exact rsz_one.mono (by omega))).mono ?_
      rintro e w3 ⟨rfl, kb⟩
      replace hB := onS hB kb
      clear kb hl hone
      go_wp2
      go_ret
      exact ⟨rfl, hB⟩
theorem wf_u8 {n : Int} (h : (Lit.int .u8 n).wf = true) : 0 ≤ n ∧ n ≤ 255 := by
  simpa [Lit.wf, IntKind.min, IntKind.max, IntKind.signed, IntKind.bits] using h
theorem channelTotal_law {w : World} {q n : Int} (hq : (Lit.int .u8 q).wf = true) (hn : (Lit.int .u8 n).wf = true) :
    Calls Try.prog 6 #[.int .u8 q, .int .u8 n] w fun e w' => e = .returned (.bool true) ∧ Below w.heap.size w w' := by
  obtain ⟨h1, h2⟩ := wf_u8 hq
  obtain ⟨h3, h4⟩ := wf_u8 hn
  obtain ⟨q, rfl⟩ := Int.eq_ofNat_of_zero_le h1
  obtain ⟨n, rfl⟩ := Int.eq_ofNat_of_zero_le h3
  exact channelTotal_any q n w (by omega) (by omega)
end Go.Proofs.Ytlfmnaepcndhiaa
