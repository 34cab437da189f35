/- codewrightref55.Times, Undetected; channel.weighted. -/
import Derived.Test.YtlfmnaepcndhiaaUndetMath
namespace Go.Proofs.Ytlfmnaepcndhiaa
open Go.RowKit Go.ChangeShapes Go.WideShapes Go.ChangeAt

theorem ratTab_one {w : World} (T : TypeId) {s : Bool} {A A2 : Option Addr} {n c k c2 N : Nat} {r : Rat} {rs : Nat → Rat} (hr : rs 0 = r)
    (h : RatRaw w w.heap.size (.agg #[.bool s, .slice A n c, .slice A2 k c2]) r N) :
    RatTab (w.alloc (.cells #[.bool s, .slice A n c, .slice A2 k c2] T)) (w.alloc (.cells #[.bool s, .slice A n c, .slice A2 k c2] T)).heap.size (some ⟨w.heap.size, 0, none⟩) 1 rs N := fun i hi => by
  obtain rfl : i = 0 := by omega
  subst hr
  have hb := below_one w (.cells #[.bool s, .slice A n c, .slice A2 k c2] T)
  have hg := heap_alloc_new w (.cells #[.bool s, .slice A n c, .slice A2 k c2] T)
  exact ⟨w.heap.size, 0, s, A, n, c, A2, k, c2, rfl, by simp, by rw [cell_of_row _ _ _ _ T (0, 0) hg]; rfl, by rw [cell_of_row _ _ _ _ T (0, 0) hg]; rfl, by rw [cell_of_row _ _ _ _ T (0, 0) hg]; rfl, h.on hb⟩

set_option maxRecDepth 100000 in
set_option maxHeartbeats 4000000 in
theorem refTimes_any (A T : Option Addr) (l d m c x N : Nat) (rs : Nat → Rat) (w : World) (hx : NatRaw w w.heap.size A l x) (hl : l ≤ d) (hd : d ≤ maxLen) (hl8 : l ≤ 8) (h : RatTab w w.heap.size T m rs N) (hm : m ≤ 65) (hrs : Hid (∀ i, i < m → rsz (rs i) N)) (hN : N ≤ 1000) (hN8 : 8 ≤ N) :
    Calls Try.prog 57 #[.slice A l d, .slice T m c] w (PolyPost (clen (mulP (fun _ => (x : Rat)) 1 rs m) (1 + m)) (mulP (fun _ => (x : Rat)) 1 rs m) w) := by
  have hxl := hx.dl
  have hc1 : Hid (∀ i, i < 1 → rsz ((fun _ => (x : Rat)) i : Rat) N) := fun i _ => rsz_nat (by omega) (by omega)
  have hPO : Hid (∀ (W : World) (e : Ending) (W' : World), PolyPost (clen (mulP (fun _ => (x : Rat)) 1 rs m) (1 + m)) (mulP (fun _ => (x : Rat)) 1 rs m) W e W' → PolyPost (clen (mulP (fun _ => (x : Rat)) 1 rs m) (1 + m)) (mulP (fun _ => (x : Rat)) 1 rs m) W e W') := fun _ _ _ h => h
  obtain ⟨pc, hpc⟩ : ∃ l, l = clen (mulP (fun _ => ((x : Nat) : Rat)) 1 rs m) (1 + m) := ⟨_, rfl⟩
  obtain ⟨PR, hPR⟩ : ∃ P, P = mulP (fun _ => ((x : Nat) : Rat)) 1 rs m := ⟨_, rfl⟩
  have hMU : Hid (∀ (W : World) (e : Ending) (W' : World), PolyPost (clen (mulP (fun _ => ((x : Nat) : Rat)) 1 rs m) (1 + m)) (mulP (fun _ => ((x : Nat) : Rat)) 1 rs m) W e W' → PolyPost pc PR W e W') := fun _ _ _ h => by rw [hpc, hPR]; exact h
  rw [← hpc, ← hPR]
  clear hpc hPR hPO
  go_enter Try.func57, Try.ntmps57
  go_wp2_with fail
  refine (refNat02_any A l d x _ hx hl hd (by omega)).mono ?_
  rintro e w6 ⟨Aa, cc, Ba, da, rfl, a1, a2, a3, a4, a5, a6, kb⟩
  replace h := h.on kb
  have hB := kb
  clear kb
  obtain ⟨rx, hrx⟩ : ∃ z : Rat, z = (x : Rat) := ⟨_, rfl⟩
  rw [← hrx] at a1 a2 a3 a5 hMU hc1 ⊢
  clear hrx
  have hone := ratList_one 32 (rs := fun _ => rx) rfl a1 a2 a3 a4 a5 a6
  have kb := below_one w6 (.cells #[.bool (rneg rx), .slice Aa (dl rx.num.natAbs) cc, .slice Ba (dl rx.den) da] 32)
  replace h := h.on kb
  replace hB := onS hB kb
  have t1 := hone.tab hc1.out
  clear kb a1 a2 a3 a4 a5 a6 hone
  go_wp2_with fail
  refine ((refPMul_any _ T 1 1 m c N (N + N + 1) (fun _ => rx) rs _ t1 h (by omega) (by omega) (by omega) (by omega) hc1 hrs).mono (fun e W' => hMU.out _ e W')).mono ?_
  rintro e w7 ⟨Tb, cb, rfl, o1, o2, o3, kb⟩
  replace hB := onS hB kb
  clear kb t1 h
  go_wp2
  go_ret
  exact ⟨_, _, rfl, o1, o2, o3, hB⟩

set_option maxRecDepth 100000 in
set_option maxHeartbeats 8000000 in
theorem weighted_any (q n : Nat) (T : Option Addr) (M c : Nat) (xs : Nat → Nat) (w : World) (h : NatRTab w w.heap.size T M xs 8) (hq : 2 ≤ q) (hq2 : q ≤ 256) (hn : n ≤ 64) (hM : M = n + 1) :
    Calls Try.prog 56 #[.int .i64 (q : Nat), .slice T M c] w (PolyPost (wtP q n xs (n + 1)).1 (wtP q n xs (n + 1)).2 w) := by
  have hdx : Hid (∀ k, k ≤ n → dl (xs k) ≤ 8) := fun k hk => by
    obtain ⟨b, off, A, l, d, _, _, _, h3, _, _, h5⟩ := h k (by omega)
    have := h3.dl
    omega
  have hRS : Hid (∀ k, k ≤ n + 1 → ∀ i, rsz (cl2 (wtP q n xs k) i) (1 + k * 501)) := rsz_wt hq hq2 hn hdx.out
  have hMi : (M : Int) - 1 = (n : Int) := by omega
  rw [← hM]
  have hM1 : M ≤ n + 1 := by omega
  have hM2 : n + 1 ≤ M := by omega
  have HM := hid hM
  clear hM
  go_enter Try.func56, Try.ntmps56
  go_wp2
  go_loopg [5, 10] M (fun gg ov iv wx => ∃ k : Nat, ∃ A d, iv = .int .i64 (k : Nat) ∧ k ≤ M ∧ M ≤ k + gg ∧ ov = .slice A (wtP q n xs k).1 d ∧ (wtP q n xs k).1 ≤ d ∧ d ≤ maxLen ∧ RatList wx wx.heap.size A (wtP q n xs k).1 (wtP q n xs k).2 ∧ Below w.heap.size w wx)
  case atStart => exact ⟨0, none, 0, rfl, by omega, by omega, rfl, Nat.le_refl 0, by unfold maxLen; omega, fun i hi => absurd hi (Nat.not_lt_zero i), Below.refl _ _⟩
  case round =>
    obtain ⟨k, A, d, rfl, hk, hkg, rfl, hd1, hd2, hl, hB⟩ := hrel
    have hk0 : (0 : Int) ≤ (k : Int) := by omega
    have hLk := wtP_len q n xs k
    have ht := hl.tab (rsz_cl2 (hRS.out k (by omega)))
    have hrk := rsz_cl2 (hRS.out k (by omega))
    by_cases hlt : k < M
    · have hlt' : (k : Int) < (M : Int) := by omega
      obtain ⟨b, off, A1, l1, d1, rfl, hb, t0, hx0, g1, g2, g3⟩ := h k hlt
      have t1 := cellS hB t0
      have hx := hx0.on hB
      by_cases hx0' : xs k = 0
      · have hnx : Hid (wtP q n xs (k + 1) = wtP q n xs k) := by show (if xs k = 0 then _ else _) = _; rw [if_pos hx0']
        rw [hx0'] at hx
        have hnl : nlen 0 = 0 := nlen_zero
        obtain ⟨L, hL⟩ : ∃ L, L = (wtP q n xs k).1 := ⟨_, rfl⟩
        rw [← hL]
        have HL := hid hL
        clear ht hrk hL hx0' hx0
        go_wp2_with fail
        refine (natBits_raw A1 l1 d1 0 _ hx g1 g2 (by omega)).mono ?_
        rintro e w1 ⟨rfl, rfl⟩
        rw [hnl]
        clear hnl t1 t0
        go_wp2
        go_roundg (gk - 1)
        case measure => omega
        case rel => exact ⟨k + 1, A, d, by go_num, by omega, by omega, by rw [hnx.out, HL.out], by rw [hnx.out]; exact hd1, hd2, by rw [hnx.out]; exact hl, hB⟩
      · have hxp : 0 < nlen (xs k) := Nat.pos_of_ne_zero fun e => hx0' (nlen_eq_zero.1 e)
        have hxp' : (0 : Int) < ((nlen (xs k) : Nat) : Int) := by omega
        have hpo : Hid (∀ (W : World) (e : Ending) (W' : World), PolyPost (clen (sumP (wtP q n xs k).2 (wtP q n xs k).1 (tmP q n (xs k) k).2 (tmP q n (xs k) k).1) (max (wtP q n xs k).1 (tmP q n (xs k) k).1)) (sumP (wtP q n xs k).2 (wtP q n xs k).1 (tmP q n (xs k) k).2 (tmP q n (xs k) k).1) W e W' → PolyPost (wtP q n xs (k + 1)).1 (wtP q n xs (k + 1)).2 W e W') := fun _ _ _ h => by
          have e : wtP q n xs (k + 1) = adP (wtP q n xs k) (tmP q n (xs k) k) := by show (if xs k = 0 then _ else _) = _; rw [if_neg hx0']
          rw [e]; exact h
        have hmu : Hid (∀ (W : World) (e : Ending) (W' : World), PolyPost (clen (mulP (fun _ => ((xs k : Nat) : Rat)) 1 (patR q n k) (n + 1)) (1 + (n + 1))) (mulP (fun _ => ((xs k : Nat) : Rat)) 1 (patR q n k) (n + 1)) W e W' → PolyPost (tmP q n (xs k) k).1 (tmP q n (xs k) k).2 W e W') := fun _ _ _ h => h
        have htm : Hid (∀ i, i < (tmP q n (xs k) k).1 → rsz ((tmP q n (xs k) k).2 i) 33000) := fun i _ => (rsz_tm hq hq2 hn (by omega) (hdx.out k (by omega)) i).mono (by omega)
        have htl : (tmP q n (xs k) k).1 ≤ n + 2 := by have := clen_le (mulP (fun _ => ((xs k : Nat) : Rat)) 1 (patR q n k) (n + 1)) (1 + (n + 1)); show clen _ _ ≤ _; omega
        have hdx1 := hdx.out k (by omega)
        have hpat : Hid (∀ i, i < n + 1 → rsz (patR q n k i) 200) := fun i _ => rsz_pat hq hq2 hn (by omega) i
        have hrk' : Hid (∀ i, i < (wtP q n xs k).1 → rsz ((wtP q n xs k).2 i) 33000) := fun i hi => (hrk i hi).mono (by omega)
        have ht' := ht.mono (show 1 + k * 501 ≤ 33000 by omega)
        obtain ⟨L, hL⟩ : ∃ L, L = (wtP q n xs k).1 := ⟨_, rfl⟩
        obtain ⟨S, hS⟩ : ∃ S, S = (wtP q n xs k).2 := ⟨_, rfl⟩
        obtain ⟨tl, hTL⟩ : ∃ L, L = (tmP q n (xs k) k).1 := ⟨_, rfl⟩
        obtain ⟨ts, hTS⟩ : ∃ S, S = (tmP q n (xs k) k).2 := ⟨_, rfl⟩
        rw [← hL] at hLk hd1
        rw [← hL, ← hS] at ht' hrk' hpo
        rw [← hTL, ← hTS] at hpo hmu htm
        rw [← hTL] at htl
        rw [← hL]
        clear hl ht hrk hL hS hTL hTS hx0'
        obtain ⟨x, hxe⟩ : ∃ x, x = xs k := ⟨_, rfl⟩
        rw [← hxe] at hx hmu hdx1 hxp hxp'
        clear hxe hx0
        obtain ⟨P, hP⟩ : ∃ P, P = n + 1 := ⟨_, rfl⟩
        have hpp : Hid (∀ (W : World) (e : Ending) (W' : World), PolyPost (n + 1) (patR q n k) W e W' → PolyPost P (patR q n k) W e W') := fun _ _ _ h => by rw [hP]; exact h
        rw [← hP] at hmu hpat
        have hP65 : P ≤ 65 := by omega
        clear hP
        have hc1 : Hid (∀ i, i < 1 → rsz ((fun _ => (x : Rat)) i : Rat) 200) := fun i _ => rsz_nat (by omega) (by omega)
        go_wp2_with fail
        refine (natBits_raw A1 l1 d1 x _ hx g1 g2 (by omega)).mono ?_
        rintro e w1 ⟨rfl, hw1⟩
        rw [← hw1]
        clear hw1 t0
        have o1 := natOk_one (w := wr) 68 (x := 1) (by omega) (by omega)
        have kb := below_one wr (.cells #[.int .u32 1] 68)
        replace hx := hx.on kb
        replace ht' := ht'.on kb
        replace hB := onS hB kb
        have hd1' := dl_one
        have hraw : RatRaw _ _ (.agg #[.bool false, .slice A1 l1 d1, .slice (some ⟨wr.heap.size, 0, none⟩) 1 1]) (x : Rat) 200 := ⟨false, A1, l1, d1, some ⟨wr.heap.size, 0, none⟩, 1, 1, x, 1, rfl, hx, by have := o1.raw; rw [hd1'] at this; exact this, g1, g2, by omega, by unfold maxLen; omega, by omega, by omega, by rw [rv_one]; rfl⟩
        have tb := ratTab_one 32 (rs := fun _ => (x : Rat)) rfl hraw
        have esz : (wr.alloc (.cells #[.int .u32 1] 68)).heap.size = wr.heap.size + 1 := by simp
        rw [esz] at tb
        clear esz
        have kb2 := below_one (wr.alloc (.cells #[.int .u32 1] 68)) (.cells #[.bool false, .slice A1 l1 d1, .slice (some ⟨wr.heap.size, 0, none⟩) 1 1] 32)
        replace ht' := ht'.on kb2
        replace hB := onS hB kb2
        clear kb kb2 o1 hraw hx hd1'
        go_wp2_with fail
        obtain ⟨wz, hwz⟩ : ∃ W, W = (wr.alloc (.cells #[.int .u32 1] 68)).alloc (.cells #[.bool false, .slice A1 l1 d1, .slice (some ⟨wr.heap.size, 0, none⟩) 1 1] 32) := ⟨_, rfl⟩
        obtain ⟨gz, hgz⟩ : ∃ g, g = wr.heap.size + 1 := ⟨_, rfl⟩
        rw [← hwz] at tb ht' hB ⊢
        rw [← hgz] at tb ⊢
        clear hwz hgz
        refine ((chPattern_any q n k _ hq hq2 hn (by omega)).mono (fun e W' => hpp.out _ e W')).mono ?_
        rintro e w2 ⟨Ta, ca, rfl, p1, p2, l3, kb⟩
        replace ht' := ht'.on kb
        replace tb := tb.on kb
        replace hB := onS hB kb
        have t2 := l3.tab hpat.out
        clear kb l3 t1
        go_wp2_with fail
        refine ((chPMul_any _ Ta 1 1 P ca 200 401 (fun _ => (x : Rat)) (patR q n k) _ tb t2 (by omega) (by omega) (by omega) (by omega) hc1 hpat).mono (fun e W' => hmu.out _ e W')).mono ?_
        rintro e w3 ⟨Tb, cb, rfl, q1, q2, l4, kb⟩
        replace ht' := ht'.on kb
        replace hB := onS hB kb
        have t3 := l4.tab htm.out
        clear kb tb t2 l4
        go_wp2_with fail
        refine ((chPAdd_any A Tb L d tl cb 33000 S ts _ ht' t3 (by omega) (by omega) (by omega) hrk' htm).mono (fun e W' => hpo.out _ e W')).mono ?_
        rintro e w4 ⟨Tc, cc, rfl, s1, s2, l5, kb⟩
        replace hB := onS hB kb
        obtain ⟨L', hL'⟩ : ∃ L, L = (wtP q n xs (k + 1)).1 := ⟨_, rfl⟩
        rw [← hL'] at s1 l5 ⊢
        have HL := hid hL'
        clear kb t3 ht' hL'
        go_wp2
        go_roundg (gk - 1)
        case measure => omega
        case rel => exact ⟨k + 1, Tc, cc, by go_num, by omega, by omega, by rw [HL.out], by rw [HL.out] at s1; exact s1, s2, by rw [HL.out] at l5; exact l5, hB⟩
    · obtain rfl : k = M := by omega
      have hlt' : ¬ (k : Int) < (k : Int) := by omega
      obtain ⟨L, hL⟩ : ∃ L, L = (wtP q n xs k).1 := ⟨_, rfl⟩
      rw [← hL] at hd1 hl ⊢
      have HL := hid hL
      clear hL ht hrk hlt
      go_wp2
      go_ret
      rw [← HL.out]
      exact ⟨_, _, rfl, hd1, hd2, hl, hB⟩


set_option maxRecDepth 100000 in
set_option maxHeartbeats 8000000 in
theorem refUndet_any (q n : Nat) (T : Option Addr) (M c : Nat) (xs : Nat → Nat) (w : World) (h : NatRTab w w.heap.size T M xs 8) (hq : 2 ≤ q) (hq2 : q ≤ 256) (hn : n ≤ 64) (hM : M = n + 1) :
    Calls Try.prog 34 #[.int .i64 (q : Nat), .slice T M c] w (PolyPost (ruP q n xs n).1 (ruP q n xs n).2 w) := by
  have hdx : Hid (∀ k, k ≤ n → dl (xs k) ≤ 8) := fun k hk => by
    obtain ⟨b, off, A, l, d, _, _, _, h3, _, _, h5⟩ := h k (by omega)
    have := h3.dl
    omega
  have hRS : Hid (∀ k, k ≤ n → ∀ i, rsz (cl2 (ruP q n xs k) i) (1 + k * 501)) := rsz_ru hq hq2 hn hdx.out
  have hCA : Hid (clen (ruP q n xs n).2 (ruP q n xs n).1 = (ruP q n xs n).1) := ruP_canon q n xs n
  have hMi : (M : Int) - 1 = (n : Int) := by omega
  have hM1 : M ≤ n + 1 := by omega
  have hM2 : n + 1 ≤ M := by omega
  clear hM
  go_enter Try.func34, Try.ntmps34
  go_wp2
  go_loopg [5, 6] n (fun gg ov iv wx => ∃ j : Nat, ∃ A d, iv = .int .i64 ((j : Int) + 1) ∧ j ≤ n ∧ n ≤ j + gg ∧ ov = .slice A (ruP q n xs j).1 d ∧ RatList wx wx.heap.size A (ruP q n xs j).1 (ruP q n xs j).2 ∧ Below w.heap.size w wx)
  case atStart => exact ⟨0, none, 0, by go_num, by omega, by omega, rfl, fun i hi => absurd hi (Nat.not_lt_zero i), Below.refl _ _⟩
  case round =>
    obtain ⟨j, A, d, rfl, hj, hjg, rfl, hl, hB⟩ := hrel
    have hj0 : (0 : Int) ≤ (j : Int) := by omega
    have hLj := ruP_len q n xs j
    have ht := hl.tab (rsz_cl2 (hRS.out j hj))
    have hrk := rsz_cl2 (hRS.out j hj)
    have hji : (j : Int) + 1 = ((j + 1 : Nat) : Int) := by omega
    rw [hji]
    by_cases hlt : j < n
    · have hlt' : ((j + 1 : Nat) : Int) < (M : Int) := by omega
      have hjp : (0 : Int) ≤ ((j + 1 : Nat) : Int) := by omega
      obtain ⟨b, off, A1, l1, d1, rfl, hb, t0, hx, g1, g2, g3⟩ := h (j + 1) (by omega)
      have hpo : Hid (∀ (W : World) (e : Ending) (W' : World), PolyPost (clen (sumP (ruP q n xs j).2 (ruP q n xs j).1 (tmP q n (xs (j + 1)) (j + 1)).2 (tmP q n (xs (j + 1)) (j + 1)).1) (max (ruP q n xs j).1 (tmP q n (xs (j + 1)) (j + 1)).1)) (sumP (ruP q n xs j).2 (ruP q n xs j).1 (tmP q n (xs (j + 1)) (j + 1)).2 (tmP q n (xs (j + 1)) (j + 1)).1) W e W' → PolyPost (ruP q n xs (j + 1)).1 (ruP q n xs (j + 1)).2 W e W') := fun _ _ _ h => h
      have hmu : Hid (∀ (W : World) (e : Ending) (W' : World), PolyPost (clen (mulP (fun _ => ((xs (j + 1) : Nat) : Rat)) 1 (patR q n (j + 1)) (n + 1)) (1 + (n + 1))) (mulP (fun _ => ((xs (j + 1) : Nat) : Rat)) 1 (patR q n (j + 1)) (n + 1)) W e W' → PolyPost (tmP q n (xs (j + 1)) (j + 1)).1 (tmP q n (xs (j + 1)) (j + 1)).2 W e W') := fun _ _ _ h => h
      have htm : Hid (∀ i, i < (tmP q n (xs (j + 1)) (j + 1)).1 → rsz ((tmP q n (xs (j + 1)) (j + 1)).2 i) 33000) := fun i _ => (rsz_tm hq hq2 hn (by omega) (hdx.out (j + 1) (by omega)) i).mono (by omega)
      have htl : (tmP q n (xs (j + 1)) (j + 1)).1 ≤ n + 2 := by have := clen_le (mulP (fun _ => ((xs (j + 1) : Nat) : Rat)) 1 (patR q n (j + 1)) (n + 1)) (1 + (n + 1)); show clen _ _ ≤ _; omega
      have hdx1 := hdx.out (j + 1) (by omega)
      have hpat : Hid (∀ i, i < n + 1 → rsz (patR q n (j + 1) i) 200) := fun i _ => rsz_pat hq hq2 hn (by omega) i
      have hrk' : Hid (∀ i, i < (ruP q n xs j).1 → rsz ((ruP q n xs j).2 i) 33000) := fun i hi => (hrk i hi).mono (by omega)
      have ht' := ht.mono (show 1 + j * 501 ≤ 33000 by omega)
      obtain ⟨L, hL⟩ : ∃ L, L = (ruP q n xs j).1 := ⟨_, rfl⟩
      obtain ⟨S, hS⟩ : ∃ S, S = (ruP q n xs j).2 := ⟨_, rfl⟩
      obtain ⟨tl, hTL⟩ : ∃ L, L = (tmP q n (xs (j + 1)) (j + 1)).1 := ⟨_, rfl⟩
      obtain ⟨ts, hTS⟩ : ∃ S, S = (tmP q n (xs (j + 1)) (j + 1)).2 := ⟨_, rfl⟩
      rw [← hL] at hLj
      rw [← hL, ← hS] at ht' hrk' hpo
      rw [← hTL, ← hTS] at hpo hmu htm
      rw [← hTL] at htl
      rw [← hL]
      clear hl ht hrk hL hS hTL hTS
      obtain ⟨x, hxe⟩ : ∃ x, x = xs (j + 1) := ⟨_, rfl⟩
      rw [← hxe] at hx hmu hdx1
      clear hxe
      obtain ⟨J, hJ⟩ : ∃ J, J = j + 1 := ⟨_, rfl⟩
      rw [← hJ] at hlt' hjp t0 hmu hpat hji
      rw [← hJ]
      have hJn : J ≤ n := by omega
      have hJM : J < M := by omega
      have HJ := hid hJ
      clear hJ hji
      obtain ⟨P, hP⟩ : ∃ P, P = n + 1 := ⟨_, rfl⟩
      have hpp : Hid (∀ (W : World) (e : Ending) (W' : World), PolyPost (n + 1) (patR q n J) W e W' → PolyPost P (patR q n J) W e W') := fun _ _ _ h => by rw [hP]; exact h
      rw [← hP] at hmu hpat
      have hP65 : P ≤ 65 := by omega
      clear hP
      have HS : Hid (∀ w' : World, Below w.heap.size w w' → w'.cell? ⟨b, off + J, none⟩ = some (.slice A1 l1 d1)) := fun w' kb => cellS kb t0
      clear t0
      obtain ⟨w0, hw0⟩ : ∃ W, W = wr := ⟨_, rfl⟩
      rw [← hw0] at ht' hB ⊢
      clear hw0
      go_upto_region 5 with fail
      have hnw : IntKind.i64.wrap (n : Int) = (n : Int) := by rw [IntWalk.i64_in _ (by omega)]
      refine wp_region_held_drew (S := fun w' => w'.cell? ⟨b, off + J, none⟩ = some (.slice A1 l1 d1)) (by kernel_rfl) (HS.out _ hB.drew) (fun hHeld => ?_)
      obtain ⟨w1, hw⟩ : ∃ W, W = World.drew w0 := ⟨_, rfl⟩
      have kb : Below w0.heap.size w0 w1 := by rw [hw]; exact (Below.refl _ _).drew
      rw [← hw] at hHeld ⊢
      clear hw
      replace ht' := ht'.on kb
      replace hB := onS hB kb
      clear kb
      refine wpAnyH_take (i := 0) (v := ?_) (by simp only [List.getElem?_toArray, List.getElem?_cons_zero]; rfl) (by kernel_rfl) (by kernel_rfl) (by kernel_rfl) (by exact fun _ _ _ h => h) (Or.inl ⟨by rfl, ?_⟩) (by assumption) ?_
      rotate_left
      · (intro w hSw; (try dsimp only at hSw); go_simp); first | done | with_reducible rfl
      try simp only [Act.put, List.setIfInBounds_toArray, List.set_cons_zero, List.set_cons_succ]
      refine wpAnyH_take (i := 1) (v := ?_) (by simp only [List.getElem?_toArray, List.getElem?_cons_succ, List.getElem?_cons_zero]; rfl) (by kernel_rfl) (by kernel_rfl) (by kernel_rfl) (by exact fun _ _ _ h => h) (Or.inl ⟨by rfl, ?_⟩) (by assumption) ?_
      rotate_left
      · (intro w hSw; (try dsimp only at hSw); go_simp); first | done | with_reducible rfl
      try simp only [Act.put, List.setIfInBounds_toArray, List.set_cons_zero, List.set_cons_succ]
      refine wpAnyH_take (i := 2) (v := ?_) (by simp only [List.getElem?_toArray, List.getElem?_cons_succ, List.getElem?_cons_zero]; rfl) (by kernel_rfl) (by kernel_rfl) (by kernel_rfl) (by exact fun _ _ _ h => h) (Or.inl ⟨by rfl, ?_⟩) (by assumption) ?_
      rotate_left
      · (intro w hSw; (try dsimp only at hSw); go_simp); first | done | with_reducible rfl
      try simp only [Act.put, List.setIfInBounds_toArray, List.set_cons_zero, List.set_cons_succ]
      refine wpAnyH_take (i := 3) (v := ?_) (by simp only [List.getElem?_toArray, List.getElem?_cons_succ, List.getElem?_cons_zero]; rfl) (by kernel_rfl) (by kernel_rfl) (by kernel_rfl) (by exact fun _ _ _ h => h) (Or.inl ⟨by rfl, ?_⟩) (by assumption) ?_
      rotate_left
      · (intro w hSw; (try dsimp only at hSw); go_simp); first | done | with_reducible rfl
      try simp only [Act.put, List.setIfInBounds_toArray, List.set_cons_zero, List.set_cons_succ]
      refine wpAnyH_take (i := 4) (v := ?_) (by simp only [List.getElem?_toArray, List.getElem?_cons_succ, List.getElem?_cons_zero]; rfl) (by kernel_rfl) (by kernel_rfl) (by kernel_rfl) (by exact fun _ _ _ h => h) (Or.inl ⟨by rfl, ?_⟩) (by assumption) ?_
      rotate_left
      · (intro w hSw; (try dsimp only at hSw); go_simp); first | done | with_reducible rfl
      try simp only [Act.put, List.setIfInBounds_toArray, List.set_cons_zero, List.set_cons_succ]
      refine wpAnyH_take (i := 5) (v := ?_) (by simp only [List.getElem?_toArray, List.getElem?_cons_succ, List.getElem?_cons_zero]; rfl) (by kernel_rfl) (by kernel_rfl) (by kernel_rfl) (by exact fun _ _ _ h => h) (Or.inl ⟨by rfl, ?_⟩) (by assumption) ?_
      rotate_left
      · (intro w hSw; (try dsimp only at hSw); go_simp); first | done | with_reducible rfl
      try simp only [Act.put, List.setIfInBounds_toArray, List.set_cons_zero, List.set_cons_succ]
      refine wpAnyH_take (i := 6) (v := ?_) (by simp only [List.getElem?_toArray, List.getElem?_cons_succ, List.getElem?_cons_zero]; rfl) (by kernel_rfl) (by kernel_rfl) (by kernel_rfl) (by exact fun _ _ _ h => h) (Or.inl ⟨by rfl, ?_⟩) (by assumption) ?_
      rotate_left
      · (intro w hSw; (try dsimp only at hSw); go_simp); first | done | with_reducible rfl
      try simp only [Act.put, List.setIfInBounds_toArray, List.set_cons_zero, List.set_cons_succ]
      refine wpAnyH_take (i := 7) (v := ?_) (by simp only [List.getElem?_toArray, List.getElem?_cons_succ, List.getElem?_cons_zero]; rfl) (by kernel_rfl) (by kernel_rfl) (by kernel_rfl) (by exact fun _ _ _ h => h) (Or.inl ⟨by rfl, ?_⟩) (by assumption) ?_
      rotate_left
      · (intro w hSw; (try dsimp only at hSw); go_simp); first | done | with_reducible rfl
      try simp only [Act.put, List.setIfInBounds_toArray, List.set_cons_zero, List.set_cons_succ]
      refine wpAnyH_take (i := 8) (v := ?_) (by simp only [List.getElem?_toArray, List.getElem?_cons_succ, List.getElem?_cons_zero]; rfl) (by kernel_rfl) (by kernel_rfl) (by kernel_rfl) (by exact fun _ _ _ h => h) (Or.inl ⟨by rfl, ?_⟩) (by assumption) ?_
      rotate_left
      · (intro w hSw; (try dsimp only at hSw); go_simp); first | done | with_reducible rfl
      try simp only [Act.put, List.setIfInBounds_toArray, List.set_cons_zero, List.set_cons_succ]
      refine wpAnyH_take (i := 9) (v := ?_) (by simp only [List.getElem?_toArray, List.getElem?_cons_succ, List.getElem?_cons_zero]; rfl) (by kernel_rfl) (by kernel_rfl) (by kernel_rfl) (by exact fun _ _ _ h => h) (Or.inl ⟨by rfl, ?_⟩) (by assumption) ?_
      rotate_left
      · (intro w hSw; (try dsimp only at hSw); go_simp); first | done | with_reducible rfl
      try simp only [Act.put, List.setIfInBounds_toArray, List.set_cons_zero, List.set_cons_succ]
      refine wpAnyH_ready (rs := [10]) (by kernel_rfl) (by simp) ?_
      refine AllReadyH.cons (by simp only [List.getElem?_toArray, List.getElem?_cons_succ, List.getElem?_cons_zero]; rfl) (fun K hK => ?_) AllReadyH.nil
      go_simp
      go_wp2_with fail
      refine ((refPattern_any q n J _ hq hq2 hn hJn).mono (fun e W' => hpp.out _ e W')).mono ?_
      rintro e w2 ⟨Ta, ca, rfl, l1_, l2_, l3, kb⟩
      replace ht' := ht'.on kb
      replace hB := onS hB kb
      clear kb
      clear l1_ l2_
      refine hK.out _ _ (HS.out _ hB) (fun hHeld => ?_)
      clear hK K
      try simp only [Act.put, List.setIfInBounds_toArray, List.set_cons_zero, List.set_cons_succ]
      refine wpAnyH_ready (rs := [11]) (by kernel_rfl) (by simp) ?_
      refine AllReadyH.cons (by simp only [List.getElem?_toArray, List.getElem?_cons_succ, List.getElem?_cons_zero]; rfl) (fun K hK => ?_) AllReadyH.nil
      go_simp
      go_wp2_with fail
      refine ((refTimes_any A1 Ta l1 d1 P ca x 200 (patR q n J) _ (hx.on hB) g1 g2 g3 (l3.tab hpat.out) hP65 hpat (by omega) (by omega)).mono (fun e W' => hmu.out _ e W')).mono ?_
      rintro e w3 ⟨Tb, cb, rfl, l1_, l2_, l4, kb⟩
      replace ht' := ht'.on kb
      replace hB := onS hB kb
      replace l3 := l3.on kb
      clear kb
      clear l1_ l2_ l3
      refine hK.out _ _ (HS.out _ hB) (fun hHeld => ?_)
      clear hK K
      try simp only [Act.put, List.setIfInBounds_toArray, List.set_cons_zero, List.set_cons_succ]
      refine wpAnyH_ready (rs := [12]) (by kernel_rfl) (by simp) ?_
      refine AllReadyH.cons (by simp only [List.getElem?_toArray, List.getElem?_cons_succ, List.getElem?_cons_zero]; rfl) (fun K hK => ?_) AllReadyH.nil
      go_simp
      go_wp2_with fail
      refine ((refPAdd_any A Tb L d tl cb 33000 S ts _ ht' (l4.tab htm.out) (by omega) (by omega) (by omega) hrk' htm).mono (fun e W' => hpo.out _ e W')).mono ?_
      rintro e w4 ⟨Tc, cc, rfl, l1_, l2_, l5, kb⟩
      replace ht' := ht'.on kb
      replace hB := onS hB kb
      replace l4 := l4.on kb
      clear kb
      clear l1_ l2_ l4 ht'
      obtain ⟨L', hL'⟩ : ∃ L, L = (ruP q n xs (j + 1)).1 := ⟨_, rfl⟩
      rw [← hL'] at l5 ⊢
      have HL := hid hL'
      clear hL'
      refine hK.out _ _ (HS.out _ hB) (fun hHeld => ?_)
      clear hK K
      try simp only [Act.put, List.setIfInBounds_toArray, List.set_cons_zero, List.set_cons_succ]
      refine wpAnyH_take (i := 13) (v := ?_) (by simp only [List.getElem?_toArray, List.getElem?_cons_succ, List.getElem?_cons_zero]; rfl) (by kernel_rfl) (by kernel_rfl) (by kernel_rfl) (by exact fun _ _ _ h => h) (Or.inl ⟨by rfl, ?_⟩) (by assumption) ?_
      rotate_left
      · (intro w hSw; (try dsimp only at hSw); go_simp); first | done | with_reducible rfl
      try simp only [Act.put, List.setIfInBounds_toArray, List.set_cons_zero, List.set_cons_succ]
      refine wpAnyH_done (by kernel_rfl) ?_ _
      clear hHeld
      clear HS hnw
      go_wp2
      go_roundg (gk - 1)
      case measure => omega
      case rel => exact ⟨j + 1, Tc, cc, by have := HJ.out; go_num, by omega, by omega, by rw [HL.out], by rw [HL.out] at l5; exact l5, hB⟩
    · obtain rfl : j = n := by omega
      have hlt' : ¬ ((j + 1 : Nat) : Int) < (M : Int) := by omega
      obtain ⟨J, hJ⟩ : ∃ J, J = j + 1 := ⟨_, rfl⟩
      rw [← hJ] at hlt'
      rw [← hJ]
      have hca := hCA.out
      obtain ⟨L, hL⟩ : ∃ L, L = (ruP q j xs j).1 := ⟨_, rfl⟩
      obtain ⟨S, hS⟩ : ∃ S, S = (ruP q j xs j).2 := ⟨_, rfl⟩
      rw [← hL] at hLj
      rw [← hL, ← hS] at ht hca
      rw [← hL]
      clear hl hrk hJ hji
      have HC := hid hca
      have HL := hid hL
      have HS := hid hS
      clear hca hL hS
      go_wp2_with fail
      refine (refCanon55_any A L d (1 + j * 501) S _ ht (by omega) (by omega)).mono ?_
      rintro e w2 ⟨Ar, cr, rfl, e1, e2, e3, kb⟩
      rw [HC.out] at e1 e3 ⊢
      replace hB := onS hB kb
      clear kb ht
      go_wp2
      go_ret
      rw [← HL.out, ← HS.out]
      exact ⟨_, _, rfl, e1, e2, e3, hB⟩
end Go.Proofs.Ytlfmnaepcndhiaa
