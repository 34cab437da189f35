/- nat.long. -/
import Derived.Test.YtgininddoalenaaLongMath
import Derived.Test.YtgininddoalenaaShift
import Derived.Test.YtgininddoalenaaStep
import Derived.StillTailTactics
namespace Go.Proofs.Ytgininddoalenaa
open Go.RowKit

/-- What long leaves. -/
def LongPost (x y : Nat) (w : World) (e : Ending) (w' : World) : Prop :=
  ∃ A n o A2 m r, e = .returned (.tuple #[.slice A n n, .slice A2 m m]) ∧ n ≤ 268435457 ∧ m ≤ 268435457 ∧ Lims w' w'.heap.size A n o ∧ Lims w' w'.heap.size A2 m r ∧ (∀ i, i < n → o i < 4294967296) ∧ (∀ i, i < m → r i < 4294967296) ∧
    nv o n = x / y ∧ nv r m = x % y ∧ Below w.heap.size w w'

theorem rowIs_grown {w w' : World} {g g2 : Nat} {t : TypeId} {n : Nat} {f : Nat → Value} (h : w.rowIs g2 t n f) (hg : w.grownBy w' (some g)) (hne : g2 ≠ g) : w'.rowIs g2 t n f :=
  h.of_block (hg.block g2 h.lt (by simp; omega))

set_option maxRecDepth 100000 in
set_option maxHeartbeats 8000000 in
theorem long_any (A A2 : Option Addr) (c c2 x y m : Nat) (w : World) (h : NatOk w w.heap.size A x) (h2 : NatOk w w.heap.size A2 y) (hm : dl y = m + 2) (hle : y ≤ x) (hn : dl x ≤ 268435456) :
    Calls Try.prog 130 #[.slice A (dl x) c, .slice A2 (dl y) c2] w (LongPost x y w) := by
  have h0 : y ≠ 0 := fun e => by rw [e, dl_zero] at hm; omega
  have hdl := dl_mono hle
  obtain ⟨top, ht⟩ : ∃ t, t = dg y (dl y - 1) := ⟨_, rfl⟩
  have ht0 : top ≠ 0 := by rw [ht]; exact dg_last h0
  have ht1 : top < 4294967296 := by rw [ht]; exact dg_lt _ _
  have hb0 := bitLen_nlen (x := top) (by omega)
  have hb1 : nlen top ≤ 32 := nlen_le (by omega)
  have hb2 := nlen_pos ht0
  obtain ⟨s, hs⟩ : ∃ s, s = 32 - nlen top := ⟨_, rfl⟩
  have hs31 : s ≤ 31 := by omega
  have hlz : (32 - (Lib.bitLen top : Int)) = (s : Int) := by rw [hb0, hs]; omega
  have HS : Hid (s + nlen (dg y (dl y - 1)) = 32) := by show _ = _; rw [← ht]; omega
  have t0 : ∃ b o, A2 = some ⟨b, o, none⟩ ∧ b < w.heap.size ∧ w.cell? ⟨b, o + (m + 1), none⟩ = some (.int .u32 (top : Nat)) := by
    obtain ⟨b, o, e, h1, h3⟩ := h2.at (i := dl y - 1) (by omega)
    rw [← ht] at h3
    rw [hm] at h3
    exact ⟨b, o, e, h1, h3⟩
  obtain ⟨b, o, rfl, hbw, t0⟩ := t0
  have HLZ := hid (Try.bits_LeadingZeros32 (top : Int))
  have i1 : ((m : Int) + 2 - 1).toNat = m + 1 := by omega
  have hmn : m + 2 ≤ dl x := by omega
  have HM := hid hm
  have e64 : ((top : Int).toNat) = top := by omega
  rw [hm]
  have HX0 := hid (fun (u : Nat → Nat) (hu : nv u (dl x + 1) = x * 2 ^ s) => long_start (u := u) (s := s) h0 rfl rfl hdl hu)
  have HVk := hid (shl_lt h0 HS.out)
  have HV0 : Hid (0 < y * 2 ^ s) := Nat.mul_pos (by omega) (Nat.pow_pos (by omega))
  have HVd := hid (nv_dg_ge (x := y * 2 ^ s) (n := m + 2) (by rw [dl_shl h0 HS.out, hm]; exact Nat.le_refl _))
  have HVt : Hid (0 < dg (y * 2 ^ s) (m + 1)) := by
    have := dg_last (x := y * 2 ^ s) (by have := HV0.out; omega)
    rw [dl_shl h0 HS.out, hm] at this
    exact Nat.pos_of_ne_zero this
  have HEND := hid (fun (u qo : Nat → Nat) (nq : Nat) => long_end (u := u) (qo := qo) (x := x) (y := y) (s := s) (k := m + 2) (L := dl x + 1) (nq := nq))
  rw [hm] at HX0 HVk
  obtain ⟨nq, hnq⟩ : ∃ nq, dl x + 1 = nq + (m + 2) := ⟨dl x + 1 - (m + 2), by omega⟩
  have enq : ((dl x : Int) + 1 - ((m : Int) + 2)) = (nq : Int) := by omega
  have hmk := fun W => run_makeI (P := Try.prog) 39 77 _ 4 Try.underlying39 Try.infoU32 rfl (nq : Int) (by omega) (by omega) (by omega) W
  have hmk2 := fun W => run_makeI (P := Try.prog) 39 77 _ 4 Try.underlying39 Try.infoU32 rfl ((m : Int) + 2) (by omega) (by omega) (by omega) W
  have em2 : ((m : Int) + 2).toNat = m + 2 := by omega
  clear ht hb0 hb1 hb2 hs hm
  go_enter Try.func130, Try.ntmps130
  go_wp2_with fail
  refine (HLZ.out _ (by omega) (by omega)).mono ?_
  rintro e w1 ⟨rfl, hw1⟩
  obtain rfl := hw1.symm
  rw [e64, hlz]
  clear HLZ hlz e64 t0
  have g2 : Lims w w.heap.size (some ⟨b, o, none⟩) (m + 2) (dg y) := by rw [← HM.out]; exact h2
  go_wp2_with fail
  refine (shift_any (some ⟨b, o, none⟩) (m + 2) c2 s (dg y) w g2 (hid fun i _ => dg_lt y i) (by omega) hs31).mono ?_
  rintro e w1 ⟨o1, rfl, r1, r2, r3, r4⟩
  rw [nv_dg_ge (by rw [HM.out]; exact Nat.le_refl _)] at r3
  have hw1 := r1.lt
  go_wp2_with fail
  refine (short_any (some ⟨w.heap.size, 0, none⟩) (m + 2 + 1) (m + 2 + 1) o1 w1 (lims_row r1) (hid fun i _ => r2 i) (Nat.le_refl _) (by unfold maxLen; omega)).mono ?_
  rintro e w2 ⟨rfl, r5, rfl⟩
  rw [r3] at r5 ⊢
  have HD := hid (dl_shl h0 HS.out)
  rw [HD.out, HM.out]
  have hV : Lims w1 (w.heap.size + 1) (some ⟨w.heap.size, 0, none⟩) (m + 2) (dg (y * 2 ^ s)) := by
    unfold NatOk at r5
    rw [HD.out, HM.out] at r5
    intro i hi
    obtain ⟨b', o', e', _, h'⟩ := r5 i hi
    injection e' with e'
    injection e' with e1 e2
    subst e1 e2
    exact ⟨_, _, rfl, by omega, h'⟩
  have hA := h.on r4
  clear r1 r2 r3 r5 g2 h h2 hbw
  go_wp2_with fail
  refine (shift_any A (dl x) c s (dg x) w1 hA (hid fun i _ => dg_lt x i) (by omega) hs31).mono ?_
  rintro e w2 ⟨u, rfl, r1, r2, r3, r5⟩
  rw [nv_dg] at r3
  have hw2 := r1.lt
  obtain ⟨g, hg⟩ : ∃ g, g = w1.heap.size := ⟨_, rfl⟩
  have hV2 : Lims w2 g (some ⟨w.heap.size, 0, none⟩) (m + 2) (dg (y * 2 ^ s)) := by
    rw [hg]
    exact (Rd.below hV r5 (by omega)).mono (by omega)
  have hB2 := onS r4 r5
  rw [← hg] at hw1 hw2 r1 ⊢
  clear hV r4 r5 hA hg
  have hrow0 := World.rowIs_made w2 (.int .u32 0) nq 77
  have hru0 := r1.of_block (Below.heap_alloc w2 (.cells (madeCells #[Value.int .u32 0] nq) 77) g hw2)
  have hVa := (Rd.alloc hV2 (by omega) (.cells (madeCells #[Value.int .u32 0] nq) 77))
  have hB0 := hB2.alloc (by have := hB2.size; omega) (.cells (madeCells #[Value.int .u32 0] nq) 77)
  obtain ⟨g2, hg2⟩ : ∃ g2, g2 = w2.heap.size := ⟨_, rfl⟩
  have HS0 := hid (HX0.out u r3)
  have HR3 := hid r3
  have HR2 := hid r2
  clear r1 hV2 hB2 r2 r3
  have hB2s := hB0.size
  go_wp2
  rw [← hg2] at hrow0 ⊢
  have hgg0 : g < g2 := by omega
  clear hg2 hw2
  go_loopg [10] nq (fun gg jv wx => ∃ J : Nat, ∃ u' qo : Nat → Nat, jv = .int .i64 ((J : Nat) - 1 : Int) ∧ J ≤ nq ∧ J ≤ gg ∧ Below w.heap.size w wx ∧ wx.rowIs g 77 (dl x + 1) (fun i => .int .u32 (u' i : Nat)) ∧ wx.rowIs g2 77 nq (fun i => .int .u32 (qo i : Nat)) ∧
    Lims wx g (some ⟨w.heap.size, 0, none⟩) (m + 2) (dg (y * 2 ^ s)) ∧ Hid (∀ i, u' i < 4294967296) ∧ Hid (∀ i, qo i < 4294967296) ∧ Hid (∀ i, J + (m + 2) ≤ i → i < dl x + 1 → u' i = 0) ∧ Hid (nv (seg u' J) (m + 2) < y * 2 ^ s) ∧
    Hid (x * 2 ^ s = y * 2 ^ s * (hv qo J nq * 4294967296 ^ J) + nv u' (dl x + 1)))
  case atStart =>
    refine ⟨nq, u, fun _ => 0, by rw [← enq], by omega, by omega, hB0, hru0, hrow0, hVa, HR2, hid fun _ => by show 0 < _; omega, hid fun i h1 h2 => by omega, ?_, ?_⟩
    · have := HS0.out
      rw [show dl x + 1 - (m + 2) = nq by omega] at this
      exact this
    · show _ = _
      rw [hv_end, HR3.out]; omega
  case round =>
    clear hrow0 hru0 hVa hB0 hmk HS0 HR3 HR2
    obtain ⟨J, u', qo, rfl, hJ, hJg, hB, hru, hrq, hV, HU, HQ, HZ, HSG, HXX⟩ := hrel
    by_cases hJ0 : 0 < J
    · obtain ⟨j, rfl⟩ : ∃ j, J = j + 1 := ⟨J - 1, by omega⟩
      have ek : (((j + 1 : Nat) : Int) - 1) = (j : Int) := by omega
      rw [ek]
      have hj0 : (0 : Int) ≤ (j : Int) := by omega
      have hpre : Hid (nv (seg u' j) (m + 3) < nv (dg (y * 2 ^ s)) (m + 2) * 4294967296) := by
        show _ < _
        rw [HVd.out, show m + 3 = m + 2 + 1 from rfl, seg_low]
        have h1 := HSG.out
        have h2 := HU.out j
        have h3 : (nv (seg u' (j + 1)) (m + 2) + 1) * 4294967296 ≤ y * 2 ^ s * 4294967296 := Nat.mul_le_mul_right _ h1
        omega
      have hwj : w.heap.size ≤ g := by omega
      go_wp2_with fail
      rw [show j + (m + 2) + 1 - j = m + 3 by omega]
      refine (step_any g j m (dl x + 1) (nq + (m + 2) - j) (m + 2) (some ⟨w.heap.size, 0, none⟩) u' (dg (y * 2 ^ s)) wr hru (by omega) (by omega) HU hV (hid fun i _ => dg_lt _ i) HVt.out hpre).mono ?_
      rintro e w3 ⟨f', rfl, r1, r2, r3, r4, r5⟩
      rw [HVd.out] at r4 ⊢
      have hru3 := r1
      have hrq3 := rowIs_grown hrq r5 (by omega)
      have hV3 := lims_grown hV r5 (by have := hru.lt; omega)
      have hB3 : Below w.heap.size w w3 := hB.grown r5 (by have := hB.size; omega) (fun q e => by injection e with e; omega)
      have hd1 : nv (seg u' j) (m + 3) / (y * 2 ^ s) < 4294967296 := by
        refine Nat.div_lt_of_lt_mul ?_
        have := hpre.out
        rwa [HVd.out] at this
      obtain ⟨z1, z2, z3⟩ := long_step (u := u') (u' := f') (qo := qo) (j := j) (k := m + 2) (L := dl x + 1) (nq := nq) (V := y * 2 ^ s) (X := x * 2 ^ s) (by omega) (fun i h1 h2 => HZ.out i h1 h2) HXX.out (by omega) r3 r4 HVk.out HV0.out
      obtain ⟨d, hd⟩ : ∃ d, d = nv (seg u' j) (m + 3) / (y * 2 ^ s) := ⟨_, rfl⟩
      rw [show m + 2 + 1 = m + 3 from rfl, ← hd] at z3
      rw [show m + 2 + 1 = m + 3 from rfl, ← hd]
      rw [← hd] at hd1
      have K1 := hid z1
      have K2 := hid z2
      have K3 := hid z3
      have K4 : Hid (∀ i, upd qo j d i < 4294967296) := fun i => by
        unfold upd
        split
        · exact hd1
        · exact HQ.out i
      have K5 : Hid ((w3.setCell ⟨g2, j, none⟩ (.int .u32 (d : Nat))).rowIs g2 77 nq (fun i => .int .u32 (upd qo j d i : Nat))) := by
        refine (hrq3.set j _).congr fun i _ => ?_
        unfold upd
        by_cases e : i = j
        · rw [if_pos e, if_pos e]
        · rw [if_neg e, if_neg e]
      have y0 := hrq3.cell (i := j) (by omega)
      have z0 := hrq3.frozen j
      have hjn : (j : Int) < (nq : Int) := by omega
      have HU' := hid r2
      have hgg : g < g2 := by omega
      have hru4 : (w3.setCell ⟨g2, j, none⟩ (.int .u32 (d : Nat))).rowIs g 77 (dl x + 1) (fun i => .int .u32 (f' i : Nat)) := rowIs_grown hru3 (grown_setCell (grown_refl w3 (some g2)) _) (by omega)
      have hV4 := hV3.setCell (p := ⟨g2, j, none⟩) (by show g ≤ g2; omega) (.int .u32 (d : Nat))
      have hB4 : Below w.heap.size w (w3.setCell ⟨g2, j, none⟩ (.int .u32 (d : Nat))) := hB3.setCell (by show w.heap.size ≤ g2; omega) _
      clear z1 z2 z3 r1 r2 r3 r4 r5 hrq hV hru hB hd hru3 hrq3 hV3 hB3 hpre
      go_wp2
      go_roundg (gk - 1)
      case measure => omega
      case rel => exact ⟨j, f', _, rfl, by omega, by omega, hB4, hru4, K5.out, hV4, HU', K4, K1, K2, K3⟩
    · obtain rfl : J = 0 := by omega
      obtain ⟨e1, e2, e3⟩ := HEND.out u' qo nq (by omega) (fun i h1 h2 => HZ.out i (by omega) h2) HXX.out HSG.out
      obtain ⟨Y, hY⟩ : ∃ Y, Y = nv u' (dl x + 1) := ⟨_, rfl⟩
      have HDG : Hid (∀ t, t < m + 2 → dg (Y / 2 ^ s) t = (u' t + 4294967296 * u' (t + 1)) / 2 ^ s % 4294967296) := fun t ht => by
        rw [shr_limb _ _ _ (by omega), hY, dg_of (fun i _ => HU.out i) t (by omega), dg_of (fun i _ => HU.out i) (t + 1) (by omega)]
      have HYd : Hid (dl (Y / 2 ^ s) ≤ m + 2) := by
        have : Y / 2 ^ s ≤ Y := Nat.div_le_self _ _
        refine dl_le (Nat.lt_of_le_of_lt this ?_)
        have := HVk.out
        omega
      rw [← hY] at e2 e3
      have E1 := hid e1
      have E2 := hid e2
      have hrr0 := World.rowIs_made wr (.int .u32 0) (m + 2) 77
      have hg3 := hru.lt
      have hg4 := hrq.lt
      have hru0 := hru.of_block (Below.heap_alloc wr (.cells (madeCells #[Value.int .u32 0] (m + 2)) 77) g hg3)
      have hrq0 := hrq.of_block (Below.heap_alloc wr (.cells (madeCells #[Value.int .u32 0] (m + 2)) 77) g2 hg4)
      have hB0 := hB.alloc hB.size (.cells (madeCells #[Value.int .u32 0] (m + 2)) 77)
      obtain ⟨g5, hg5⟩ : ∃ g5, g5 = wr.heap.size := ⟨_, rfl⟩
      have hB5 := hB.size
      clear e1 e2 e3 hY hru hrq hV HZ HSG HXX hB
      go_wp2
      rw [← hg5] at hrr0 ⊢
      have hg25 : g2 < g5 := by omega
      have hgw5 : w.heap.size ≤ g5 := by omega
      clear hmk2 hg5 hg3 hg4 hB5
      go_loopg [58] (m + 2) (fun gg iv wx => ∃ t : Nat, ∃ ro : Nat → Nat, iv = .int .i64 (t : Nat) ∧ t ≤ m + 2 ∧ m + 2 ≤ t + gg ∧ Below w.heap.size w wx ∧ wx.rowIs g 77 (dl x + 1) (fun i => .int .u32 (u' i : Nat)) ∧ wx.rowIs g2 77 nq (fun i => .int .u32 (qo i : Nat)) ∧
        wx.rowIs g5 77 (m + 2) (fun i => .int .u32 (ro i : Nat)) ∧ Hid (∀ i, ro i < 4294967296) ∧ Hid (∀ i, i < t → ro i = dg (Y / 2 ^ s) i))
      case atStart => exact ⟨0, fun _ => 0, rfl, by omega, by omega, hB0, hru0, hrq0, hrr0, hid fun _ => by show 0 < _; omega, hid fun i hi => absurd hi (by omega)⟩
      case round =>
        clear hB0 hru0 hrq0 hrr0
        obtain ⟨t, ro, rfl, ht, htg, hB, hru, hrq, hrr, HRO, HRD⟩ := hrel
        by_cases hlt : t < m + 2
        · have y0 := hru.cell (i := t) (by omega)
          have y1 := hru.cell (i := t + 1) (by omega)
          have y5 := hrr.cell (i := t) (by omega)
          have z5 := hrr.frozen t
          have q0 := HU.out t
          have q1 := HU.out (t + 1)
          have hd := HDG.out t hlt
          obtain ⟨a, ha⟩ : ∃ a, a = u' t := ⟨_, rfl⟩
          obtain ⟨b, hb⟩ : ∃ b, b = u' (t + 1) := ⟨_, rfl⟩
          rw [← ha] at y0 q0 hd
          rw [← hb] at y1 q1 hd
          obtain ⟨z, hz⟩ : ∃ z, z = a + 4294967296 * b := ⟨_, rfl⟩
          have hor : bits .or .u64 (a : Int) ((b : Int) * 4294967296) = (z : Int) := by rw [hz]; exact or_limbs2 q1 q0
          rw [← hz] at hd
          have HD2 := hid hd
          have hti : (t : Int) < (m : Int) + 2 := by omega
          have hta : (t : Int) < (nq : Int) + ((m : Int) + 2) := by omega
          have htx : (t : Int) + 1 < (nq : Int) + ((m : Int) + 2) := by omega
          have ht0' : (0 : Int) ≤ (t : Int) := by omega
          have ht1' : (0 : Int) ≤ (t : Int) + 1 := by omega
          have htw : IntKind.i64.wrap ((t : Int) + 1) = (t : Int) + 1 := IntWalk.i64_in _ (by omega)
          have hbw2 : IntKind.u64.wrap ((b : Int) * 4294967296) = (b : Int) * 4294967296 := IntWalk.u64_in _ (by omega)
          have ht1 : ((t : Int) + 1).toNat = t + 1 := by omega
          obtain ⟨d, hdd⟩ : ∃ d, d = z / 2 ^ s % 4294967296 := ⟨_, rfl⟩
          have hdz : Hid ((z : Int) / 2 ^ s % 4294967296 = (d : Int)) := by
            show _ = _
            rw [hdd]
            simp [Int.natCast_pow]
          rw [← hdd] at hd
          have HD2 := hid hd
          have hdb : d < 4294967296 := by rw [hdd]; exact Nat.mod_lt _ (by omega)
          have K2 : Hid ((wr.setCell ⟨g5, t, none⟩ (.int .u32 (d : Nat))).rowIs g5 77 (m + 2) (fun i => .int .u32 (upd ro t d i : Nat))) := by
            refine (hrr.set t _).congr fun i _ => ?_
            unfold upd
            by_cases e : i = t
            · rw [if_pos e, if_pos e]
            · rw [if_neg e, if_neg e]
          have K3 : Hid (∀ i, upd ro t d i < 4294967296) := fun i => by
            unfold upd
            split
            · exact hdb
            · exact HRO.out i
          have K4 : Hid (∀ i, i < t + 1 → upd ro t d i = dg (Y / 2 ^ s) i) := fun i hi => by
            unfold upd
            by_cases e : i = t
            · rw [if_pos e, e, HD2.out]
            · rw [if_neg e]; exact HRD.out i (by omega)
          have K5 := hid (rowIs_grown hru (grown_setCell (i := t) (grown_refl wr (some g5)) (.int .u32 (d : Nat))) (by omega))
          have K6 := hid (rowIs_grown hrq (grown_setCell (i := t) (grown_refl wr (some g5)) (.int .u32 (d : Nat))) (by omega))
          clear ha hb hz hd hdd hru hrq hrr
          go_wp2
          go_still_tail 19, (by kernel_rfl)
          change wpList _ _ _ _ _ wr.drew
          go_wp2
          rw [hdz.out]
          go_roundg (gk - 1)
          case measure => omega
          case rel => exact ⟨t + 1, _, by go_num, by omega, by omega, (hB.setCell (by show w.heap.size ≤ g5; omega) _).drew, K5.out, K6.out, K2.out, K3, K4⟩
        · obtain rfl : t = m + 2 := by omega
          have HR : Hid (nv ro (m + 2) = x % y) := by
            show _ = _
            rw [nv_congr (g := dg (Y / 2 ^ s)) HRD.out, nv_dg_ge HYd.out, E2.out]
          go_wp2
          go_ret2
          exact ⟨_, nq, qo, _, m + 2, ro, rfl, by omega, by omega, lims_row hrq, lims_row hrr, fun i _ => HQ.out i, fun i _ => HRO.out i, E1.out, HR.out, hB⟩
end Go.Proofs.Ytgininddoalenaa
