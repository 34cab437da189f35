/- nat.step: one limb of the quotient. -/
import Derived.Test.YtgininddoalenaaDivMath
import Derived.Test.YtgininddoalenaaDigit
import Derived.Test.YtgininddoalenaaTimes
import Derived.Deep.QuietTactic
import Derived.BigQuiet
import Derived.Deep.CutBlock
import Derived.Deep.DeepCutAuto
import Derived.Deep.LoopGhost
namespace Go.Proofs.Ytgininddoalenaa
open Go.RowKit

theorem grown_drewN {w w1 : World} {r : Option Nat} (h : w.grownBy w1 r) (n : Nat) : w.grownBy (w1.drewN n) r := ⟨h.os, h.tape, h.output, h.size, h.block⟩
theorem grown_setCell {w w1 : World} {g i : Nat} (h : w.grownBy w1 (some g)) (v : Value) : w.grownBy (w1.setCell ⟨g, i, none⟩ v) (some g) := by
  refine ⟨h.os, h.tape, h.output, by simpa using h.size, fun k hk hne => ?_⟩
  rw [← h.block k hk hne]
  simp only [World.setCell, Array.getElem?_modify]
  rw [if_neg (fun e => hne (by rw [e]))]
theorem grown_refl (w : World) (r : Option Nat) : w.grownBy w r := ⟨rfl, rfl, rfl, Nat.le_refl _, fun _ _ _ => rfl⟩
theorem below_grown {w w1 : World} {g : Nat} (h : w.grownBy w1 (some g)) (hg : g ≤ w.heap.size) : Below g w w1 := by
  refine ⟨h.os, h.tape, h.output, h.size, fun k hk => ?_⟩
  exact h.block k (by omega) (by simp; omega)

theorem lims_grown {w w1 : World} {g n : Nat} {A : Option Addr} {f : Nat → Nat} (h : Lims w g A n f) (hg : w.grownBy w1 (some g)) (hs : g ≤ w.heap.size) : Lims w1 g A n f :=
  Rd.below h (below_grown hg hs) (Nat.le_refl _)

theorem Lims.cell {w : World} {B b off n i : Nat} {f : Nat → Nat} (h : Lims w B (some ⟨b, off, none⟩) n f) (hi : i < n) : w.cell? ⟨b, off + i, none⟩ = some (.int .u32 (f i : Nat)) := by
  obtain ⟨b3, o3, ee, _, t0⟩ := h.at hi
  cases ee
  exact t0

/-- The three numbers of a step. -/
def StepPost (g off k N : Nat) (f fv : Nat → Nat) (w : World) (e : Ending) (w' : World) : Prop :=
  ∃ f', e = .returned (.int .u32 (nv (seg f off) (k + 1) / nv fv k : Nat)) ∧ w'.rowIs g 77 N (fun i => .int .u32 (f' i : Nat)) ∧ (∀ i, f' i < 4294967296) ∧ (∀ i, i < off ∨ off + k < i → f' i = f i) ∧
    nv (seg f' off) (k + 1) = nv (seg f off) (k + 1) % nv fv k ∧ w.grownBy w' (some g)

set_option maxRecDepth 100000 in
set_option maxHeartbeats 8000000 in
theorem step_any (g off m N cap c2 : Nat) (A2 : Option Addr) (f fv : Nat → Nat) (w : World) (hrow : w.rowIs g 77 N (fun i => .int .u32 (f i : Nat))) (hN : off + (m + 2) + 1 ≤ N) (hNm : N ≤ 1073741824)
    (hf : Hid (∀ i, f i < 4294967296)) (h2 : Lims w g A2 (m + 2) fv) (hfv : Hid (∀ i, i < m + 2 → fv i < 4294967296)) (htop : 0 < fv (m + 1)) (hlt : Hid (nv (seg f off) (m + 3) < nv fv (m + 2) * 4294967296)) :
    Calls Try.prog 145 #[.slice (some ⟨g, off, none⟩) (m + 3) cap, .slice A2 (m + 2) c2] w (StepPost g off (m + 2) N f fv w) := by
  obtain ⟨b2, o2, rfl, hb2, t1⟩ := h2.at (i := m + 1) (by omega)
  have t0 := h2.cell (i := m) (by omega)
  have y2 := hrow.cell (i := off + (m + 2)) (by omega)
  have y1 := hrow.cell (i := off + (m + 1)) (by omega)
  have y0 := hrow.cell (i := off + m) (by omega)
  have T3 := nv_top3 (seg f off) m
  have T2 := nv_top2 fv m
  have HX := nv_lt (f := seg f off) (n := m) fun i _ => hf.out _
  have HY := nv_lt (f := fv) (n := m) fun i _ => hfv.out _ (by omega)
  obtain ⟨u2, hu2⟩ : ∃ x, x = f (off + (m + 2)) := ⟨_, rfl⟩
  obtain ⟨u1, hu1⟩ : ∃ x, x = f (off + (m + 1)) := ⟨_, rfl⟩
  obtain ⟨u0, hu0⟩ : ∃ x, x = f (off + m) := ⟨_, rfl⟩
  obtain ⟨v1, hv1⟩ : ∃ x, x = fv (m + 1) := ⟨_, rfl⟩
  obtain ⟨v0, hv0⟩ : ∃ x, x = fv m := ⟨_, rfl⟩
  have q2 := hf.out (off + (m + 2))
  have q1 := hf.out (off + (m + 1))
  have q0 := hf.out (off + m)
  have p1 := hfv.out (m + 1) (by omega)
  have p0 := hfv.out m (by omega)
  rw [← hu2] at y2 q2
  rw [← hu1] at y1 q1
  rw [← hu0] at y0 q0
  rw [← hv1] at t1 p1 htop
  rw [← hv0] at t0 p0
  have hx3 : nv (seg f off) (m + 3) = nv (seg f off) m + u0 * 4294967296 ^ m + (u2 * 4294967296 + u1) * (4294967296 * 4294967296 ^ m) := by rw [T3, hu0, hu1, hu2]; rfl
  have hx2 : nv fv (m + 2) = nv fv m + v0 * 4294967296 ^ m + v1 * (4294967296 * 4294967296 ^ m) := by rw [T2, hv0, hv1]
  have hle : u2 ≤ v1 := top_le (x0 := nv (seg f off) m) (u0 := u0) (u1 := u1) HY p0 (by rw [← hx3, ← hx2]; exact hlt.out)
  have HQ0 : Hid (∀ q, q = (u2 * 4294967296 + u1) / v1 → nv (seg f off) (m + 3) < (q + 1) * nv fv (m + 2)) := fun q hq => by
    rw [hx3, hx2]; exact guess_start HX q0 htop hq
  have HQ1 : Hid (∀ q r, q * v1 + r = u2 * 4294967296 + u1 → r * 4294967296 + u0 < q * v0 → nv (seg f off) (m + 3) < q * nv fv (m + 2)) := fun q r h1 h2 => by
    rw [hx3, hx2]; exact guess_less HX h1 h2
  have HQ2 : Hid (∀ q r, q < 4294967296 → q * v1 + r = u2 * 4294967296 + u1 → (4294967296 ≤ r ∨ q * v0 ≤ r * 4294967296 + u0) → q * nv fv (m + 2) ≤ nv (seg f off) (m + 3) + nv fv (m + 2)) := fun q r h0 h1 h2 => by
    rw [hx3, hx2]; exact guess_end HY p0 htop h0 h1 h2
  have HU := hid hu2
  obtain ⟨top, ht⟩ : ∃ x, x = u2 * 4294967296 + u1 := ⟨_, rfl⟩
  have hor : bits .or .u64 ((u2 : Int) * 4294967296) (u1 : Int) = (top : Int) := by rw [ht]; exact or_limbs q2 q1
  have htv : top < v1 * 4294967296 + 4294967296 := by omega
  have htb : top < 18446744073709551616 := by omega
  have hqq : top / v1 ≤ 8589934591 := by
    have : top / v1 < 8589934592 := Nat.div_lt_of_lt_mul (by rw [Nat.mul_comm]; omega)
    omega
  have hrr : top % v1 < v1 := Nat.mod_lt _ htop
  have hdm : top / v1 * v1 + top % v1 = top := Nat.div_add_mod' _ _
  have hqs : Hid (nv (seg f off) (m + 3) < (top / v1 + 1) * nv fv (m + 2)) := HQ0.out _ (by rw [ht])
  obtain ⟨q, hq⟩ : ∃ q, q = top / v1 := ⟨_, rfl⟩
  obtain ⟨r, hr⟩ : ∃ r, r = top % v1 := ⟨_, rfl⟩
  have hq1 : (top : Int).tdiv (v1 : Int) = (q : Int) := by rw [hq, Int.tdiv_eq_ediv_of_nonneg (by omega)]; rfl
  have hr1 : (top : Int).tmod (v1 : Int) = (r : Int) := by rw [hr, Int.tmod_eq_emod_of_nonneg (by omega)]; rfl
  rw [← hq] at hqq hdm hqs
  rw [← hr] at hrr hdm
  have HDM := hid hdm
  have HT := hid ht
  have hwq : IntKind.u64.wrap (q : Int) = (q : Int) := IntWalk.u64_in _ (by omega)
  have hvne : ((v1 : Int) == 0) = false := by simp; omega
  have i2 : ((m : Int) + 2).toNat = m + 2 := by omega
  have i1 : ((m : Int) + 2 - 1).toNat = m + 1 := by omega
  have i0 : ((m : Int) + 2 - 2).toNat = m := by omega
  clear T3 T2 HX HY hu2 hu1 hu0 hv1 hv0 hx3 hx2 hq hr hdm ht HQ0
  go_enter Try.func145, Try.ntmps145
  go_wp2
  go_quiet (fail)
  go_upto_block 0 with fail
  go_cut [7, 8] (fun v7 v8 wx => ∃ q : Nat, v7 = .int .u64 (q : Nat) ∧ q < 4294967296 ∧ Hid (nv (seg f off) (m + 3) < (q + 1) * nv fv (m + 2)) ∧ Hid (q * nv fv (m + 2) ≤ nv (seg f off) (m + 3) + nv fv (m + 2)) ∧ ∃ n, wx = w.drewN n)
  case first =>
    have hr0 : r < 8589934592 := by omega
    clear hq1 hr1 hwq hrr
    go_wp2_with fail
    go_loopg [7, 8] 4294967296 (fun gg qv rv wx => ∃ q r n : Nat, qv = .int .u64 (q : Nat) ∧ rv = .int .u64 (r : Nat) ∧ 4294967296 ≤ r + gg ∧ q ≤ 8589934591 ∧ r < 8589934592 ∧ Hid (q * v1 + r = top) ∧ Hid (nv (seg f off) (m + 3) < (q + 1) * nv fv (m + 2)) ∧ wx = w.drewN n)
    case atStart => exact ⟨q, r, _, rfl, rfl, by omega, hqq, hr0, HDM, hqs, rfl⟩
    case round =>
      clear hqq hqs HDM hr0
      obtain ⟨q, r, n, rfl, rfl, hgg, hq, hr, HE, HL, rfl⟩ := hrel
      have W1 : IntKind.u64.wrap ((q : Int) - 1) = (q : Int) - 1 ∨ q = 0 := by
        rcases Nat.eq_zero_or_pos q with e | e
        · exact .inr e
        · exact .inl (IntWalk.u64_in _ (by omega))
      by_cases hrB : r < 4294967296
      · have d1 : decide ((r : Int) < 4294967296) = true := by simp; omega
        have E1 : Hid (q ≠ 0 → (q - 1) * v1 + (r + v1) = top) := fun hq0 => by
          have h1 := HE.out
          obtain ⟨q', rfl⟩ : ∃ q', q = q' + 1 := ⟨q - 1, by omega⟩
          rw [Nat.add_mul, Nat.one_mul] at h1
          rw [Nat.add_sub_cancel]
          omega
        by_cases hqB : 4294967296 ≤ q
        · have d2 : decide ((4294967296 : Int) ≤ (q : Int)) = true := by simp; omega
          have E2 : Hid (nv (seg f off) (m + 3) < (q - 1 + 1) * nv fv (m + 2)) := by
            have h1 : 4294967296 * nv fv (m + 2) ≤ q * nv fv (m + 2) := Nat.mul_le_mul_right _ hqB
            have h2 := hlt.out
            show _ < _
            rw [Nat.sub_add_cancel (by omega)]
            omega
          have ep : ((q : Int) - 1) = ((q - 1 : Nat) : Int) := by omega
          clear W1
          go_wp2
          go_quiet (fail)
          go_wp2
          go_roundg (gk - 1)
          case measure => omega
          case rel => exact ⟨q - 1, r + v1, _, rfl, by go_num, by omega, by omega, by omega, E1.out (by omega), E2, rfl⟩
        · have d2 : decide ((4294967296 : Int) ≤ (q : Int)) = false := by simp; omega
          have hpr := limb_mul (show q < 4294967296 by omega) p0
          obtain ⟨pr, ep⟩ : ∃ pr, pr = q * v0 := ⟨_, rfl⟩
          have ep' : (q : Int) * (v0 : Int) = (pr : Int) := by rw [ep, Int.natCast_mul]
          rw [← ep] at hpr
          obtain ⟨x, ex⟩ : ∃ x, x = r * 4294967296 + u0 := ⟨_, rfl⟩
          have hor2 : bits .or .u64 ((r : Int) * 4294967296) (u0 : Int) = (x : Int) := by rw [ex]; exact or_limbs hrB q0
          have hwp : IntKind.u64.wrap (pr : Int) = (pr : Int) := IntWalk.u64_in _ (by omega)
          by_cases hc : x < pr
          · have d3 : decide ((x : Int) < (pr : Int)) = true := by simp; omega
            have hL := HQ1.out q r (by rw [HE.out, HT.out]) (by rw [← ex, ← ep]; exact hc)
            have hq0 : 0 < q := by
              rcases Nat.eq_zero_or_pos q with e | e
              · rw [e] at hL; omega
              · exact e
            have E2 : Hid (nv (seg f off) (m + 3) < (q - 1 + 1) * nv fv (m + 2)) := by
              show _ < _
              rw [Nat.sub_add_cancel hq0]
              exact hL
            have ep2 : ((q : Int) - 1) = ((q - 1 : Nat) : Int) := by omega
            clear W1 hL ep ex
            go_wp2
            go_quiet (fail)
            go_wp2
            go_roundg (gk - 1)
            case measure => omega
            case rel => exact ⟨q - 1, r + v1, _, rfl, by go_num, by omega, by omega, by omega, E1.out (by omega), E2, rfl⟩
          · have d3 : decide ((x : Int) < (pr : Int)) = false := by simp; omega
            have E3 := hid (HQ2.out q r (by omega) (by rw [HE.out, HT.out]) (.inr (by rw [← ex, ← ep]; omega)))
            clear W1 ep ex
            go_wp2
            go_quiet (fail)
            go_wp2
            go_meet
            exact ⟨q, rfl, by omega, HL, E3, _, World.drewN_drewN _ _ _⟩
      · have d1 : decide ((r : Int) < 4294967296) = false := by simp; omega
        have hq4 := guess_lt (u2 := u2) (u1 := u1) (by rw [HE.out, HT.out]) hle q1 (by omega)
        have E3 := hid (HQ2.out q r hq4 (by rw [HE.out, HT.out]) (.inl (by omega)))
        clear W1
        go_wp2
        go_quiet (fail)
        go_wp2
        go_meet
        exact ⟨q, rfl, hq4, HL, E3, _, World.drewN_drewN _ _ _⟩
  case rest =>
    obtain ⟨q, rfl, hq, HL, HE, n, rfl⟩ := hcut
    clear HQ1 HQ2 hqs HDM HT hq1 hr1 hwq hrr hqq htv htb hor hle t0 t1 y0 y1 y2
    have hgs := hrow.lt
    have hrow0 := rowIs_drewN hrow n
    have hg0 := grown_drewN (grown_refl w (some g)) n
    clear hrow
    go_wp2
    go_loopg [86, 9, 10] (m + 2) (fun gg iv bv cv wx => ∃ k bo ca : Nat, ∃ o : Nat → Nat, iv = .int .i64 (k : Nat) ∧ bv = .int .u64 (bo : Nat) ∧ cv = .int .u64 (ca : Nat) ∧ k ≤ m + 2 ∧ m + 2 ≤ k + gg ∧ bo ≤ 1 ∧ ca < 4294967296 ∧
      wx.rowIs g 77 N (fun i => .int .u32 (o i : Nat)) ∧ w.grownBy wx (some g) ∧ Hid (∀ i, o i < 4294967296) ∧ Hid (∀ i, i < off ∨ off + k ≤ i → o i = f i) ∧ Hid (nv (seg o off) k + q * nv fv k = nv (seg f off) k + (ca + bo) * 4294967296 ^ k))
    case atStart => exact ⟨0, 0, 0, f, rfl, rfl, rfl, by omega, by omega, by omega, by omega, hrow0, hg0, hf, hid fun _ _ => rfl, hid rfl⟩
    case round =>
      clear hrow0 hg0
      obtain ⟨k, bo, ca, o, rfl, rfl, rfl, hk, hkg, hbo, hca, hrow, hgr, HO, HU2, HV⟩ := hrel
      by_cases hklt : k < m + 2
      · have t0 := (lims_grown h2 hgr (by omega)).cell hklt
        have y0 := hrow.cell (i := off + k) (by omega)
        have z0 := hrow.frozen (off + k)
        have p0 := hfv.out k hklt
        have q0 := HO.out (off + k)
        obtain ⟨pv, epv⟩ : ∃ pv, pv = q * fv k := ⟨_, rfl⟩
        have hpv := limb_mul hq p0
        rw [← epv] at hpv
        obtain ⟨v, hv⟩ : ∃ v, v = fv k := ⟨_, rfl⟩
        rw [← hv] at t0 p0
        have epv' : (q : Int) * (v : Int) = (pv : Int) := by rw [epv, ← hv, Int.natCast_mul]
        obtain ⟨u, hu⟩ : ∃ u, u = o (off + k) := ⟨_, rfl⟩
        rw [← hu] at y0 q0
        obtain ⟨s, hs⟩ : ∃ s, s = u + 4294967296 - (pv + ca) % 4294967296 - bo := ⟨_, rfl⟩
        have hus : seg f off k = u := by rw [hu, HU2.out (off + k) (.inr (Nat.le_refl _))]; rfl
        obtain ⟨s1, s2, s3⟩ := msub_step (p := pv + ca) (s := s) HV.out (by rw [hus]; exact q0) hbo (by rw [epv]) (by rw [hus]; exact hs)
        have K1 := hid s1
        have hc2 : (pv + ca) / 4294967296 < 4294967296 := by omega
        obtain ⟨pl, hpl⟩ : ∃ pl, pl = (pv + ca) % 4294967296 := ⟨_, rfl⟩
        have hpl' : ((pv : Int) + (ca : Int)) % 4294967296 = (pl : Int) := by omega
        rw [← hpl] at hs
        have hpl2 : pl < 4294967296 := by omega
        obtain ⟨D1, d1, d2, d3, d4, d5⟩ := wrap_diff ((u : Int) - pl) (by omega) (by omega)
        obtain ⟨D, e1, e2, e3, e4, e5⟩ := wrap_diff ((u : Int) - pl - bo) (by omega) (by omega)
        have e6 := d5 bo
        rw [e1] at e6
        have K5 : Hid ((D : Int) / 9223372036854775808 = ((1 - s / 4294967296 : Nat) : Int)) := by
          show _ = _
          split at e4 <;> omega
        have K6 : Hid ((D : Int) % 4294967296 = ((s % 4294967296 : Nat) : Int)) := by show _ = _; omega
        have K7 : Hid (((pv : Int) + (ca : Int)) / 4294967296 = (((pv + ca) / 4294967296 : Nat) : Int)) := by show _ = _; omega
        have K2 : Hid (∀ z : Int, z = ((s % 4294967296 : Nat) : Int) → (wr.setCell ⟨g, off + k, none⟩ (.int .u32 z)).rowIs g 77 N (fun i => .int .u32 (upd o (off + k) (s % 4294967296) i : Nat))) := fun z hz => by
          refine (hrow.set (off + k) _).congr fun i _ => ?_
          unfold upd
          by_cases e : i = off + k
          · rw [if_pos e, if_pos e, hz]
          · rw [if_neg e, if_neg e]
        have K3 : Hid (∀ i, upd o (off + k) (s % 4294967296) i < 4294967296) := fun i => by
          unfold upd
          split
          · omega
          · exact HO.out i
        have K4 : Hid (∀ i, i < off ∨ off + (k + 1) ≤ i → upd o (off + k) (s % 4294967296) i = f i) := fun i hi => by rw [upd_other (by omega)]; exact HU2.out i (by omega)
        have K8 : Hid (nv (seg (upd o (off + k) (s % 4294967296)) off) (k + 1) + q * nv fv (k + 1) = nv (seg f off) (k + 1) + ((pv + ca) / 4294967296 + (1 - s / 4294967296)) * 4294967296 ^ (k + 1)) := by rw [seg_upd]; exact s1
        have hD0 : (0 : Int) ≤ D := by omega
        have hD1 : (D : Int) ≤ 18446744073709551615 := by omega
        have hki : (k : Int) < (m : Int) + 2 := by omega
        clear hs hu hus s1 s2 s3 e1 d3 d4 d5 e3 e4 e5 epv hv hpl K1 hrow
        go_wp2
        go_roundg (gk - 1)
        case measure => omega
        case rel => exact ⟨k + 1, 1 - s / 4294967296, (pv + ca) / 4294967296, _, by go_num, by rw [K5.out], by rw [K7.out], by omega, by omega, by omega, hc2, K2.out _ K6.out, grown_setCell hgr _, K3, K4, K8⟩
      · obtain rfl : k = m + 2 := by omega
        have y2 := hrow.cell (i := off + (m + 2)) (by omega)
        have z2 := hrow.frozen (off + (m + 2))
        have hO2 : o (off + (m + 2)) = u2 := by rw [HU2.out _ (.inr (Nat.le_refl _)), HU.out]
        rw [hO2] at y2
        have hU : nv (seg f off) (m + 2 + 1) = nv (seg f off) (m + 2) + u2 * 4294967296 ^ (m + 2) := by
          show nv (seg f off) (m + 2) + seg f off (m + 2) * _ = _
          rw [HU.out]; rfl
        have HUU := hid hU
        obtain ⟨D1, d1, d2, d3, d4, d5⟩ := wrap_diff ((u2 : Int) - ca) (by omega) (by omega)
        obtain ⟨D, e1, e2, e3, e4, e5⟩ := wrap_diff ((u2 : Int) - ca - bo) (by omega) (by omega)
        have e6 := d5 bo
        rw [e1] at e6
        obtain ⟨s, hs⟩ : ∃ s, s = D % 4294967296 := ⟨_, rfl⟩
        have hs' : (D : Int) % 4294967296 = (s : Int) := by omega
        have K2 : Hid ((wr.setCell ⟨g, off + (m + 2), none⟩ (.int .u32 (s : Nat))).rowIs g 77 N (fun i => .int .u32 (upd o (off + (m + 2)) s i : Nat))) := by
          refine (hrow.set (off + (m + 2)) _).congr fun i _ => ?_
          unfold upd
          by_cases e : i = off + (m + 2)
          · rw [if_pos e, if_pos e]
          · rw [if_neg e, if_neg e]
        have hsb : s < 4294967296 := by omega
        have K3 : Hid (∀ i, upd o (off + (m + 2)) s i < 4294967296) := fun i => by
          unfold upd
          split
          · exact hsb
          · exact HO.out i
        have hD0 : (0 : Int) ≤ D := by omega
        have hD1 : (D : Int) ≤ 18446744073709551615 := by omega
        have hqm : (q : Int) % 4294967296 = (q : Int) := by omega
        have hgr2 := grown_setCell (i := off + (m + 2)) hgr (.int .u32 (s : Nat))
        by_cases hneg : ca + bo ≤ u2
        · rw [if_neg (by omega)] at e4
          have hz : ((D : Int) / 9223372036854775808 == 0) = true := by simp; omega
          have hsv : s = u2 - (ca + bo) := by omega
          obtain ⟨g1, g2⟩ := step_ge HV.out hneg (by rw [← hU]; exact HL.out)
          have G1 : Hid (nv (seg f off) (m + 2 + 1) / nv fv (m + 2) = q) := by show _ = _; rw [HUU.out]; exact g1
          have G2 : Hid (nv (seg (upd o (off + (m + 2)) s) off) (m + 2 + 1) = nv (seg f off) (m + 2 + 1) % nv fv (m + 2)) := by
            show _ = _
            rw [HUU.out, g2, seg_upd, nv_upd_top, hsv]
          have G3 : Hid (∀ i, i < off ∨ off + (m + 2) < i → upd o (off + (m + 2)) s i = f i) := fun i hi => by rw [upd_other (by omega)]; exact HU2.out i (by omega)
          clear hU hs hsv g1 g2 d3 d4 d5 e1 e3 e4 e5 hrow
          go_wp2
          go_ret
          exact ⟨_, by rw [G1.out]; rfl, K2.out, K3.out, G3.out, G2.out, hgr2⟩
        · rw [if_pos (by omega)] at e4
          have hz : ((D : Int) / 9223372036854775808 == 0) = false := by simp; omega
          have hX : nv (seg o off) (m + 2) < 4294967296 ^ (m + 2) := nv_lt fun i _ => HO.out _
          have hV : nv fv (m + 2) < 4294967296 ^ (m + 2) := nv_lt hfv.out
          have hkey : ∀ (o' : Nat → Nat) (cc : Nat), (∀ i, o' i < 4294967296) → nv (seg o' off) (m + 2) + cc * 4294967296 ^ (m + 2) = nv (seg o off) (m + 2) + nv fv (m + 2) →
              ca + bo = u2 + 1 ∧ cc = 1 ∧ 1 ≤ q ∧ nv (seg f off) (m + 2 + 1) / nv fv (m + 2) = q - 1 ∧ nv (seg f off) (m + 2 + 1) % nv fv (m + 2) = nv (seg o' off) (m + 2) := fun o' cc h1 h2 => by
            rw [HUU.out]
            exact step_less HV.out (by omega) hX (by rw [← hU]; exact HE.out) h2 (nv_lt fun i _ => h1 _) hV
          have HKEY := hid hkey
          obtain ⟨sd, hsd⟩ : ∃ t, t = (4294967296 + u2 - (ca + bo)) % 4294967296 := ⟨_, rfl⟩
          have hs2 : s = sd := by omega
          have HSD := hid hsd
          have hrow2 := K2.out
          obtain ⟨W2, hW2⟩ : ∃ W2, W2 = wr.setCell ⟨g, off + (m + 2), none⟩ (.int .u32 (s : Nat)) := ⟨_, rfl⟩
          have HU3 : Hid (∀ i, i < off ∨ off + (m + 2) < i → upd o (off + (m + 2)) s i = f i) := fun i hi => by rw [upd_other (by omega)]; exact HU2.out i (by omega)
          have HO3 : Hid (∀ i, i < m + 2 → seg (upd o (off + (m + 2)) s) off i = seg o off i) := fun i hi => by rw [seg_upd]; exact upd_other (by omega)
          have HO4 : Hid (upd o (off + (m + 2)) s (off + (m + 2)) = s) := upd_same _ _ _
          have HST : Hid (s = sd) := hs2
          clear hU hs d3 d4 d5 e1 e3 e4 e5 hrow hX hV hkey hsd hs2
          rw [← hW2] at hrow2 hgr2
          have HW2 := hid hW2
          clear hW2
          obtain ⟨o1, ho1⟩ : ∃ o1, o1 = upd o (off + (m + 2)) s := ⟨_, rfl⟩
          rw [← ho1] at hrow2 K3 HU3 HO3 HO4
          clear ho1 K2
          go_wp2
          rw [← HW2.out]
          clear hgr y2 z2
          go_loopg [140, 10] (m + 2) (fun gg iv cv wx => ∃ k cc : Nat, ∃ o' : Nat → Nat, iv = .int .i64 (k : Nat) ∧ cv = .int .u64 (cc : Nat) ∧ k ≤ m + 2 ∧ m + 2 ≤ k + gg ∧ cc ≤ 1 ∧
            wx.rowIs g 77 N (fun i => .int .u32 (o' i : Nat)) ∧ w.grownBy wx (some g) ∧ Hid (∀ i, o' i < 4294967296) ∧ Hid (∀ i, i < off ∨ off + k ≤ i → o' i = o1 i) ∧ Hid (nv (seg o' off) k + cc * 4294967296 ^ k = nv (seg o1 off) k + nv fv k))
          case atStart => exact ⟨0, 0, o1, rfl, rfl, by omega, by omega, by omega, hrow2, hgr2, K3, hid fun _ _ => rfl, hid rfl⟩
          case round =>
            clear hrow2 hgr2
            obtain ⟨k, cc, o', rfl, rfl, hk, hkg, hcc, hrow, hgr, HO', HU', HV'⟩ := hrel
            by_cases hklt : k < m + 2
            · have t0 := (lims_grown h2 hgr (by omega)).cell hklt
              have y0 := hrow.cell (i := off + k) (by omega)
              have z0 := hrow.frozen (off + k)
              have p0 := hfv.out k hklt
              have q0 := HO'.out (off + k)
              obtain ⟨v, hv⟩ : ∃ v, v = fv k := ⟨_, rfl⟩
              rw [← hv] at t0 p0
              obtain ⟨u, hu⟩ : ∃ u, u = o' (off + k) := ⟨_, rfl⟩
              rw [← hu] at y0 q0
              have hus : seg o1 off k = u := by rw [hu, HU'.out (off + k) (.inr (Nat.le_refl _))]; rfl
              have s1 := add_step (s := u + v + cc) HV'.out (by rw [hus, hv])
              have K2 : Hid (∀ (nq : Nat) (z : Int), z = (((u + v + cc) % 4294967296 : Nat) : Int) → ((wr.drewN nq).setCell ⟨g, off + k, none⟩ (.int .u32 z)).rowIs g 77 N (fun i => .int .u32 (upd o' (off + k) ((u + v + cc) % 4294967296) i : Nat))) := fun nq z hz => by
                refine ((rowIs_drewN hrow nq).set (off + k) _).congr fun i _ => ?_
                unfold upd
                by_cases e : i = off + k
                · rw [if_pos e, if_pos e, hz]
                · rw [if_neg e, if_neg e]
              have K3' : Hid (∀ i, upd o' (off + k) ((u + v + cc) % 4294967296) i < 4294967296) := fun i => by
                unfold upd
                split
                · omega
                · exact HO'.out i
              have K4 : Hid (∀ i, i < off ∨ off + (k + 1) ≤ i → upd o' (off + k) ((u + v + cc) % 4294967296) i = o1 i) := fun i hi => by rw [upd_other (by omega)]; exact HU'.out i (by omega)
              have K8 : Hid (nv (seg (upd o' (off + k) ((u + v + cc) % 4294967296)) off) (k + 1) + (u + v + cc) / 4294967296 * 4294967296 ^ (k + 1) = nv (seg o1 off) (k + 1) + nv fv (k + 1)) := by rw [seg_upd]; exact s1
              have K6 : Hid (((u : Int) + v + cc) % 4294967296 = (((u + v + cc) % 4294967296 : Nat) : Int)) := by show _ = _; omega
              have K7 : Hid (((u : Int) + v + cc) / 4294967296 = (((u + v + cc) / 4294967296 : Nat) : Int)) := by show _ = _; omega
              have hki : (k : Int) < (m : Int) + 2 := by omega
              have hc2 : (u + v + cc) / 4294967296 ≤ 1 := by omega
              clear hu hv hus s1 hrow
              go_wp2
              go_quiet (fail)
              go_wp2
              go_roundg (gk - 1)
              case measure => omega
              case rel => exact ⟨k + 1, (u + v + cc) / 4294967296, _, by go_num, by rw [K7.out], by omega, by omega, hc2, K2.out _ _ K6.out, grown_setCell (grown_drewN hgr _) _, K3', K4, K8⟩
            · obtain rfl : k = m + 2 := by omega
              have y2 := hrow.cell (i := off + (m + 2)) (by omega)
              have z2 := hrow.frozen (off + (m + 2))
              have hO2 : o' (off + (m + 2)) = s := by rw [HU'.out _ (.inr (Nat.le_refl _)), HO4.out]
              rw [hO2] at y2
              obtain ⟨g0, g1, g2, g3, g4⟩ := HKEY.out o' cc HO'.out (by rw [HV'.out, nv_congr HO3.out])
              have hsB : s = 4294967295 := by rw [HST.out, HSD.out, g0]; omega
              have hw0 : IntKind.u32.wrap ((s : Int) + (cc : Int)) = 0 := by rw [hsB, g1]; rfl
              have hcm : (cc : Int) % 4294967296 = (cc : Int) := by omega
              have hq5 : ((q : Int) - 1) % 4294967296 = ((q - 1 : Nat) : Int) := by omega
              have hq6 : ((q : Int) - 1) = ((q - 1 : Nat) : Int) := by omega
              have hq7 : ((q - 1 : Nat) : Int) % 4294967296 = ((q - 1 : Nat) : Int) := by omega
              have G1 : Hid (nv (seg f off) (m + 2 + 1) / nv fv (m + 2) = q - 1) := g3
              have G2 : Hid (nv (seg (upd o' (off + (m + 2)) 0) off) (m + 2 + 1) = nv (seg f off) (m + 2 + 1) % nv fv (m + 2)) := by
                show _ = _
                rw [g4, seg_upd, nv_upd_top]
                omega
              have G3 : Hid (∀ i, i < off ∨ off + (m + 2) < i → upd o' (off + (m + 2)) 0 i = f i) := fun i hi => by rw [upd_other (by omega), HU'.out i (by omega)]; exact HU3.out i hi
              have K2' : Hid ((wr.setCell ⟨g, off + (m + 2), none⟩ (.int .u32 0)).rowIs g 77 N (fun i => .int .u32 (upd o' (off + (m + 2)) 0 i : Nat))) := by
                refine (hrow.set (off + (m + 2)) _).congr fun i _ => ?_
                unfold upd
                by_cases e : i = off + (m + 2)
                · rw [if_pos e, if_pos e]; rfl
                · rw [if_neg e, if_neg e]
              have K3' : Hid (∀ i, upd o' (off + (m + 2)) 0 i < 4294967296) := fun i => by
                unfold upd
                split
                · omega
                · exact HO'.out i
              have hgr3 := grown_setCell (i := off + (m + 2)) hgr (.int .u32 0)
              clear g0 g1 g3 g4 hsB hrow
              go_wp2
              go_ret
              exact ⟨_, by rw [G1.out]; rfl, K2'.out, K3'.out, G3.out, G2.out, hgr3⟩
end Go.Proofs.Ytgininddoalenaa
