/- codewrightref01.Mul, small, Choose. -/
import Derived.Test.YtgininddoalenaaRefNat
import Derived.Test.YtgininddoalenaaDigit
import Derived.Test.YtgininddoalenaaBinomial
namespace Go.Proofs.Ytgininddoalenaa
open Go.RowKit

set_option maxRecDepth 100000 in
set_option maxHeartbeats 4000000 in
theorem refMul_any (A A2 : Option Addr) (n c m c2 : Nat) (f g : Nat → Nat) (w : World) (h : Lims w w.heap.size A n f) (h2 : Lims w w.heap.size A2 m g) (hf : Hid (∀ i, i < n → f i < 4294967296)) (hg : Hid (∀ i, i < m → g i < 4294967296)) (hn : n ≤ 536870912) (hm : m ≤ 536870912) :
    Calls Try.prog 69 #[.slice A n c, .slice A2 m c2] w (NatPost (nv f n * nv g m) w) := by
  have hmk := fun W => run_makeI (P := Try.prog) 39 77 _ 4 Try.underlying39 Try.infoU32 rfl ((n : Int) + (m : Int)) (by omega) (by omega) (by omega) W
  have e1 : ((n : Int) + (m : Int)).toNat = n + m := by omega
  have hrow0 := World.rowIs_made w (.int .u32 0) (n + m) 77
  go_enter Try.func69, Try.ntmps69
  go_wp2
  go_loopg [6] n (fun gg iv wx => ∃ k : Nat, ∃ o : Nat → Nat, iv = .int .i64 (k : Nat) ∧ k ≤ n ∧ n ≤ k + gg ∧ Below w.heap.size w wx ∧ wx.rowIs w.heap.size 77 (n + m) (fun i => .int .u32 (o i : Nat)) ∧ Hid (∀ i, o i < 4294967296) ∧ Hid (∀ i, k + m ≤ i → o i = 0) ∧ Hid (nv o (n + m) = nv f k * nv g m))
  case atStart => exact ⟨0, fun _ => 0, rfl, by omega, by omega, (Below.refl _ _).alloc (Nat.le_refl _) _, hrow0, hid fun _ => by show 0 < _; omega, hid fun _ _ => rfl, hid (by rw [nv_zero fun _ _ => rfl]; simp [nv])⟩
  case round =>
    clear hrow0 hmk e1
    obtain ⟨k, o, rfl, hk, hkg, hB, hrow, HO, HZ, HV⟩ := hrel
    by_cases hlt : k < n
    · have q1 := hf.out k hlt
      have hlt' : (k : Int) < (n : Int) := by omega
      obtain ⟨x, hx⟩ : ∃ x, x = f k := ⟨_, rfl⟩
      rw [← hx] at q1
      have HX := hid hx
      obtain ⟨wo, rfl⟩ : ∃ wo : World, wo = wr := ⟨_, rfl⟩
      obtain ⟨K, rfl⟩ : ∃ K : Nat, K = gk := ⟨_, rfl⟩
      clear hx
      go_wp2
      go_loopg [8, 7] m (fun gg jv cv wx => ∃ j cc : Nat, ∃ o' : Nat → Nat, jv = .int .i64 (j : Nat) ∧ cv = .int .u64 (cc : Nat) ∧ j ≤ m ∧ m ≤ j + gg ∧ cc < 4294967296 ∧ Below w.heap.size w wx ∧ wx.rowIs w.heap.size 77 (n + m) (fun i => .int .u32 (o' i : Nat)) ∧ Hid (∀ i, o' i < 4294967296) ∧ Hid (∀ i, k + m ≤ i → o' i = 0) ∧ Hid (nv o' (n + m) + cc * 4294967296 ^ (k + j) = nv o (n + m) + x * nv g j * 4294967296 ^ k))
      case atStart => exact ⟨0, 0, o, rfl, rfl, by omega, by omega, by omega, hB, hrow, HO, HZ, hid (by simp [nv])⟩
      case round =>
        clear hB hrow
        obtain ⟨j, cc, o', rfl, rfl, hj, hjg, hcc, hB, hrow, HO', HZ', HV'⟩ := hrel
        have hz := hrow.lt
        by_cases hjlt : j < m
        · obtain ⟨b, o1, rfl, hb, e0⟩ := (h.on hB).at hlt
          rw [← HX.out] at e0
          obtain ⟨b2, o2, rfl, hb2, e2⟩ := (h2.on hB).at hjlt
          have hk0 : (0 : Int) ≤ (k : Int) := by omega
          have hj0 : (0 : Int) ≤ (j : Int) := by omega
          have hkj0 : (0 : Int) ≤ (k : Int) + (j : Int) := by omega
          have hkj1 : (k : Int) + (j : Int) < (n : Int) + (m : Int) := by omega
          have hkj2 : IntKind.i64.wrap ((k : Int) + (j : Int)) = (k : Int) + (j : Int) := IntWalk.i64_in _ (by omega)
          have q2 := hg.out j hjlt
          have hjlt' : (j : Int) < (m : Int) := by omega
          have y0 := hrow.cell (i := k + j) (by omega)
          have z0 := hrow.frozen (k + j)
          have q3 := HO'.out (k + j)
          have hix : ((k : Int) + (j : Int)).toNat = k + j := by omega
          obtain ⟨y, hy⟩ : ∃ y, y = g j := ⟨_, rfl⟩
          obtain ⟨u, hu⟩ : ∃ u, u = o' (k + j) := ⟨_, rfl⟩
          rw [← hy] at e2 q2
          have K1 := hid (times_step (y := y) (show k + j < n + m by omega) HV'.out hy)
          rw [← hu] at y0 q3 K1
          have p0 : (0 : Int) ≤ (x : Int) * (y : Int) := by rw [← Int.natCast_mul]; omega
          have p1 : (x : Int) * (y : Int) ≤ 18446744065119617025 := by rw [← Int.natCast_mul]; have := limb_mul q1 q2; omega
          have p2 : (x : Int) * (y : Int) = ((x * y : Nat) : Int) := by rw [Int.natCast_mul]
          have p3 := limb_mul q1 q2
          have K2 : Hid ((wr.setCell ⟨w.heap.size, k + j, none⟩ (.int .u32 (((x : Int) * y + u + cc) % 4294967296))).rowIs w.heap.size 77 (n + m) (fun i => .int .u32 (upd o' (k + j) ((x * y + u + cc) % 4294967296) i : Nat))) := by
            refine (hrow.set (k + j) _).congr fun i _ => ?_
            unfold upd
            by_cases e : i = k + j
            · rw [if_pos e, if_pos e]; congr 1 <;> omega
            · rw [if_neg e, if_neg e]
          have K3 : Hid (∀ i, upd o' (k + j) ((x * y + u + cc) % 4294967296) i < 4294967296) := fun i => by
            unfold upd
            split
            · omega
            · exact HO'.out i
          have K4 : Hid (∀ i, k + m ≤ i → upd o' (k + j) ((x * y + u + cc) % 4294967296) i = 0) := fun i hi => by
            rw [upd_other (by omega)]; exact HZ'.out i hi
          have K5 : Hid ((((x : Int) * y + u + cc) / 4294967296) = (((x * y + u + cc) / 4294967296 : Nat) : Int)) := by show _ = _; omega
          have K6 : Hid ((x * y + u + cc) / 4294967296 < 4294967296) := by show _ < _; omega
          have p4 : IntKind.u64.wrap ((x : Int) * (y : Int)) = (x : Int) * (y : Int) := IntWalk.u64_in _ (by omega)
          have p5 : IntKind.u64.wrap ((x : Int) * (y : Int) + (u : Int)) = (x : Int) * (y : Int) + (u : Int) := IntWalk.u64_in _ (by omega)
          have p6 : IntKind.u64.wrap ((x : Int) * (y : Int) + (u : Int) + (cc : Int)) = (x : Int) * (y : Int) + (u : Int) + (cc : Int) := IntWalk.u64_in _ (by omega)
          have KD : Hid (∀ dn, ((wr.drewN dn).setCell ⟨w.heap.size, k + j, none⟩ (.int .u32 (((x : Int) * y + u + cc) % 4294967296))).rowIs w.heap.size 77 (n + m) (fun i => .int .u32 (upd o' (k + j) ((x * y + u + cc) % 4294967296) i : Nat))) := fun dn => K2.out
          clear hy hu p2 hrow
          go_wp2
          go_quiet (fail)
          go_wp2
          go_roundg (gk - 1)
          case measure => omega
          case rel => exact ⟨j + 1, (x * y + u + cc) / 4294967296, _, by go_num, by rw [← K5.out], by omega, by omega, K6.out, (below_drewN hB _).setCell (Nat.le_refl _) _, KD.out _, K3, K4, K1⟩
        · obtain rfl : j = m := by omega
          have y0 := hrow.cell (i := k + j) (by omega)
          have z0 := hrow.frozen (k + j)
          have hix : ((k : Int) + (j : Int)).toNat = k + j := by omega
          have K1 : Hid (nv (upd o' (k + j) cc) (n + j) = nv f (k + 1) * nv g j) := by
            have h1 := nv_upd (f := o') (v := cc) (show k + j < n + j by omega)
            rw [HZ'.out (k + j) (Nat.le_refl _)] at h1
            have h3 := HV'.out
            rw [HV.out, HX.out] at h3
            show _ = _
            simp only [nv]
            grind
          have K2 : Hid ((wr.setCell ⟨w.heap.size, k + j, none⟩ (.int .u32 (cc : Nat))).rowIs w.heap.size 77 (n + j) (fun i => .int .u32 (upd o' (k + j) cc i : Nat))) := by
            refine (hrow.set (k + j) _).congr fun i _ => ?_
            unfold upd
            by_cases e : i = k + j
            · rw [if_pos e, if_pos e]
            · rw [if_neg e, if_neg e]
          have K3 : Hid (∀ i, upd o' (k + j) cc i < 4294967296) := fun i => by
            unfold upd
            split
            · omega
            · exact HO'.out i
          have K4 : Hid (∀ i, k + 1 + j ≤ i → upd o' (k + j) cc i = 0) := fun i hi => by
            rw [upd_other (by omega)]; exact HZ'.out i (by omega)
          clear hrow
          go_wp2
          go_roundg (K - 1)
          case measure => omega
          case rel => exact ⟨k + 1, _, by go_num, by omega, by omega, hB.setCell (Nat.le_refl _) _, K2.out, K3, K4, K1⟩
    · obtain rfl : k = n := by omega
      have hob : Hid (∀ i, i < k + m → o i < 4294967296) := fun i _ => HO.out i
      go_wp2_with fail
      refine (refTrim_any (some ⟨w.heap.size, 0, none⟩) (k + m) (k + m) o wr (lims_row hrow) hob (Nat.le_refl _) (by unfold maxLen; omega) (by omega)).mono ?_
      rintro e w1 ⟨A', c', rfl, g1, g2, g3, g4⟩
      rw [HV.out] at g1 g3 ⊢
      have hB2 := onS hB g4
      clear hrow HO HZ hB g4
      go_wp2
      go_ret
      exact ⟨A', c', rfl, g1, g2, g3, hB2⟩

theorem refMul_nat (A A2 : Option Addr) (c c2 x y : Nat) (w : World) (h : NatOk w w.heap.size A x) (h2 : NatOk w w.heap.size A2 y) (hn : dl x ≤ 536870912) (hn2 : dl y ≤ 536870912) :
    Calls Try.prog 69 #[.slice A (dl x) c, .slice A2 (dl y) c2] w (NatPost (x * y) w) := by
  have := refMul_any A A2 (dl x) c (dl y) c2 (dg x) (dg y) w h h2 (dg_all x) (dg_all y) hn hn2
  rwa [nv_dg, nv_dg] at this

theorem dl_mul_limb {x n L : Nat} (h : dl x ≤ L) (hn : n < 4294967296) : dl (x * n) ≤ L + 1 := by
  refine dl_le ?_
  have h1 := lt_pow_dl x
  have h2 : (4294967296 : Nat) ^ dl x ≤ 4294967296 ^ L := Nat.pow_le_pow_right (by omega) h
  rw [Nat.pow_succ]
  exact Nat.mul_lt_mul_of_lt_of_le (Nat.lt_of_lt_of_le h1 h2) (by omega) (by omega)

set_option maxRecDepth 100000 in
set_option maxHeartbeats 4000000 in
theorem small_any (A : Option Addr) (c x0 n b : Nat) (w : World) (h : NatOk w w.heap.size A x0) (hn : n < 4294967296) (hl : dl x0 ≤ 268435456) (hb0 : 0 < b) (hb1 : b < 4294967296) :
    Calls Try.prog 105 #[.slice A (dl x0) c, .int .i64 (n : Nat), .int .i64 (b : Nat)] w (NatPost (x0 * n / b) w) := by
  have hdn : dl n ≤ 1 := dl_le (by omega)
  have hdx : dl (x0 * n) ≤ 268435456 + 1 := dl_mul_limb hl hn
  go_enter Try.func105, Try.ntmps105
  go_wp2_with fail
  refine (refOf_any n w (by omega)).mono ?_
  rintro e w1 ⟨A1, c1, rfl, f1, f2, f3, f4⟩
  have hA1 := h.on f4
  go_wp2_with fail
  refine (refMul_nat A A1 c c1 x0 n w1 hA1 f3 (by omega) (by omega)).mono ?_
  rintro e w2 ⟨A2, c2, rfl, g1, g2, g3, g4⟩
  have hB0 := onS f4 g4
  obtain ⟨l, hl2⟩ : ∃ l, l = dl (x0 * n) := ⟨_, rfl⟩
  have HL := hid hl2
  have hlb : l ≤ 268435457 := by omega
  have hLi : Lims w2 w2.heap.size A2 l (dg (x0 * n)) := by rw [hl2]; exact g3
  rw [← hl2] at g1 ⊢
  clear hl2 f1 f2 f3 f4 g3 g4 hA1 h hdx
  have hmk := fun W => run_makeI (P := Try.prog) 39 77 _ 4 Try.underlying39 Try.infoU32 rfl (l : Int) (by omega) (by omega) (by omega) W
  have hrow0 := World.rowIs_made w2 (.int .u32 0) l 77
  have hsz := hB0.size
  go_wp2
  go_loopg [9, 8] l (fun gg iv rv wx => ∃ k r : Nat, ∃ o : Nat → Nat, iv = .int .i64 ((k : Nat) - 1 : Int) ∧ rv = .int .u64 (r : Nat) ∧ k ≤ l ∧ k ≤ gg ∧ r < b ∧ Below w2.heap.size w2 wx ∧ wx.rowIs w2.heap.size 77 l (fun i => .int .u32 (o i : Nat)) ∧ Hid (∀ i, o i < 4294967296) ∧ Hid (hv (dg (x0 * n)) k l = b * hv o k l + r))
  case atStart => exact ⟨l, 0, fun _ => 0, rfl, rfl, by omega, by omega, hb0, (Below.refl _ _).alloc (Nat.le_refl _) _, hrow0, hid fun _ => by show 0 < _; omega, hid (by rw [hv_end, hv_end]; rfl)⟩
  case round =>
    clear hrow0 hmk
    obtain ⟨k, r, o, rfl, rfl, hk, hkg, hr, hB, hrow, HO, HV⟩ := hrel
    have hz := hrow.lt
    by_cases h0 : 0 < k
    · obtain ⟨k, rfl⟩ : ∃ k', k = k' + 1 := ⟨k - 1, by omega⟩
      have ek : (((k + 1 : Nat) : Int) - 1) = (k : Int) := by omega
      rw [ek]
      obtain ⟨b1, o1, rfl, hb2, e0⟩ := (hLi.on hB).at (i := k) (by omega)
      have q1 := dg_lt (x0 * n) k
      have hlt' : (k : Int) < (l : Int) := by omega
      have y0 := hrow.cell (i := k) (by omega)
      have z0 := hrow.frozen k
      have K1 := hid (digit_step (show k < l by omega) HV.out)
      obtain ⟨x, hx⟩ : ∃ x, x = dg (x0 * n) k := ⟨_, rfl⟩
      rw [← hx] at e0 q1 K1
      have K4 := hid (digit_lt hr q1)
      obtain ⟨t, ht⟩ : ∃ t, t = r * 4294967296 + x := ⟨_, rfl⟩
      have hor : (r : Int) * 4294967296 + (x : Int) = (t : Int) := by omega
      rw [← ht] at K1 K4
      obtain ⟨q, hq⟩ : ∃ q, q = t / b := ⟨_, rfl⟩
      obtain ⟨s, hs⟩ : ∃ s, s = t % b := ⟨_, rfl⟩
      have hsb : s < b := by rw [hs]; exact Nat.mod_lt _ hb0
      have hq1 : (t : Int).tdiv (b : Int) = (q : Int) := by rw [hq, Int.tdiv_eq_ediv_of_nonneg (by omega)]; rfl
      have hs1 : (t : Int).tmod (b : Int) = (s : Int) := by rw [hs, Int.tmod_eq_emod_of_nonneg (by omega)]; rfl
      rw [← hq, ← hs] at K1
      rw [← hq] at K4
      have hqb := K4.out
      have hwq : IntKind.u64.wrap (q : Int) = (q : Int) := IntWalk.u64_in _ (by omega)
      have hwm : (q : Int) % 4294967296 = (q : Int) := by omega
      have K2 : Hid ((wr.setCell ⟨w2.heap.size, k, none⟩ (.int .u32 (q : Nat))).rowIs w2.heap.size 77 l (fun i => .int .u32 (upd o k q i : Nat))) := by
        refine (hrow.set k _).congr fun i _ => ?_
        unfold upd
        by_cases e : i = k
        · rw [if_pos e, if_pos e]
        · rw [if_neg e, if_neg e]
      have K3 : Hid (∀ i, upd o k q i < 4294967296) := fun i => by
        unfold upd
        split
        · exact hqb
        · exact HO.out i
      have hbne : ((b : Int) == 0) = false := by simp; omega
      have htb : (t : Int) ≤ 18446744073709551615 := by omega
      clear hx ek hq hs ht
      go_wp2
      go_roundg (gk - 1)
      case measure => omega
      case rel => exact ⟨k, s, _, rfl, rfl, by omega, by omega, hsb, hB.setCell (Nat.le_refl _) _, K2.out, K3, K1⟩
    · obtain rfl : k = 0 := by omega
      have HQ : Hid (nv o l = x0 * n / b) := by
        have := HV.out
        rw [hv_all, hv_all, HL.out, nv_dg] at this
        show _ = _
        rw [this, Nat.mul_add_div hb0, Nat.div_eq_of_lt hr, Nat.add_zero, HL.out]
      have hob : Hid (∀ i, i < l → o i < 4294967296) := fun i _ => HO.out i
      go_wp2_with fail
      refine (refTrim_any (some ⟨w2.heap.size, 0, none⟩) l l o wr (lims_row hrow) hob (Nat.le_refl _) (by unfold maxLen; omega) (by omega)).mono ?_
      rintro e w3 ⟨A', c', rfl, g1, g2, g3, g4⟩
      rw [HQ.out] at g1 g3 ⊢
      have hB2 := onS (onS hB0 hB) g4
      clear hrow HO HV g4
      go_wp2
      go_ret
      exact ⟨A', c', rfl, g1, g2, g3, hB2⟩

set_option maxHeartbeats 4000000 in
theorem refChoose_any (n k : Nat) (w : World) (hn : n ≤ 4096) (hk : k ≤ n) :
    Calls Try.prog 70 #[.int .i64 (n : Nat), .int .i64 (k : Nat)] w (NatPost (chs n k) w) := by
  have hone := natOk_one (w := w) 77 (x := 1) (by omega) (by omega)
  have d1 := hid (dl_small (x := 1) (by omega) (by omega))
  have c0 := hid (chs_zero n)
  have b3 : decide ((k : Int) < 0) = false := by simp
  have b4 : decide (n < k) = false := by simp; omega
  go_enter Try.func70, Try.ntmps70
  go_wp2
  go_loopg [6, 5] k (fun gg iv ov wx => ∃ i : Nat, ∃ A c, iv = .int .i64 (i : Nat) ∧ ov = .slice A (dl (chs n i)) c ∧ i ≤ k ∧ k ≤ i + gg ∧ dl (chs n i) ≤ c ∧ c ≤ maxLen ∧ NatOk wx wx.heap.size A (chs n i) ∧ Below w.heap.size w wx)
  case atStart => exact ⟨0, _, 1, rfl, by rw [c0.out, d1.out], by omega, by omega, by rw [c0.out, d1.out]; omega, by unfold maxLen; omega, by rw [c0.out]; exact hone, (Below.refl _ _).alloc (Nat.le_refl _) _⟩
  case round =>
    clear hone
    obtain ⟨i, A, c, rfl, rfl, hi, hig, hc, hcm, hA, hB⟩ := hrel
    have hd := dl_chs n i hn
    by_cases hlt : i < k
    · have e1 : ((n - i : Nat) : Int) = (n : Int) - (i : Int) := by omega
      have CS := small_any A c (chs n i) (n - i) (i + 1) wr hA (by omega) (by omega) (by omega) (by omega)
      rw [chs_div, e1] at CS
      have HCS := hid CS
      clear CS e1
      go_wp2_with fail
      refine HCS.out.mono ?_
      rintro e w3 ⟨A3, c3, rfl, f1, f2, f3, f4⟩
      have hB3 := onS hB f4
      clear f4 hA HCS
      go_wp2
      go_roundg (gk - 1)
      case measure => omega
      case rel => exact ⟨i + 1, A3, c3, by go_num, rfl, by omega, by omega, f1, f2, f3, hB3⟩
    · obtain rfl : i = k := by omega
      go_wp2
      go_ret
      exact ⟨A, c, rfl, hc, hcm, hA, hB⟩
end Go.Proofs.Ytgininddoalenaa
