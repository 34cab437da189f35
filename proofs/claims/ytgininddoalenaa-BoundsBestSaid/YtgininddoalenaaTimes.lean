/- nat.times and nat.Mul. -/
import Derived.Test.YtgininddoalenaaPlus
namespace Go.Proofs.Ytgininddoalenaa
open Go.RowKit

theorem limb_mul {x y : Nat} (hx : x < 4294967296) (hy : y < 4294967296) : x * y ≤ 18446744065119617025 := by
  have : x * y ≤ 4294967295 * 4294967295 := Nat.mul_le_mul (by omega) (by omega)
  omega
theorem times_step {o g : Nat → Nat} {N k j x cc y : Nat} {v : Nat} (hkj : k + j < N) (hv : nv o N + cc * 4294967296 ^ (k + j) = v + x * nv g j * 4294967296 ^ k) (hy : y = g j) :
    nv (upd o (k + j) ((x * y + o (k + j) + cc) % 4294967296)) N + (x * y + o (k + j) + cc) / 4294967296 * 4294967296 ^ (k + (j + 1)) = v + x * nv g (j + 1) * 4294967296 ^ k := by
  have h1 := nv_upd (f := o) (v := (x * y + o (k + j) + cc) % 4294967296) hkj
  have h2 := carry_step1 (x * y + o (k + j) + cc) (k + j)
  have h3 : (4294967296 : Nat) ^ (k + j) = 4294967296 ^ k * 4294967296 ^ j := Nat.pow_add _ _ _
  simp only [nv]
  rw [show k + (j + 1) = k + j + 1 by omega, ← hy]
  generalize (x * y + o (k + j) + cc) % 4294967296 = r at *
  generalize (x * y + o (k + j) + cc) / 4294967296 * 4294967296 ^ (k + j + 1) = q at *
  generalize nv (upd o (k + j) r) N = u at *
  grind

set_option maxRecDepth 100000 in
set_option maxHeartbeats 4000000 in
theorem times_any (A A2 : Option Addr) (n c m c2 : Nat) (f g : Nat → Nat) (w : World) (h : Lims w w.heap.size A n f) (h2 : Lims w w.heap.size A2 m g) (hf : Hid (∀ i, i < n → f i < 4294967296)) (hg : Hid (∀ i, i < m → g i < 4294967296)) (hn : n ≤ 536870912) (hm : m ≤ 536870912) :
    Calls Try.prog 110 #[.slice A n c, .slice A2 m c2] w (NatPost (nv f n * nv g m) w) := by
  have hmk := fun W => run_makeI (P := Try.prog) 39 77 _ 4 Try.underlying39 Try.infoU32 rfl ((n : Int) + (m : Int)) (by omega) (by omega) (by omega) W
  have e1 : ((n : Int) + (m : Int)).toNat = n + m := by omega
  have hrow0 := World.rowIs_made w (.int .u32 0) (n + m) 77
  go_enter Try.func110, Try.ntmps110
  go_wp2
  go_loopg [20] n (fun gg iv wx => ∃ k : Nat, ∃ o : Nat → Nat, iv = .int .i64 (k : Nat) ∧ k ≤ n ∧ n ≤ k + gg ∧ Below w.heap.size w wx ∧ wx.rowIs w.heap.size 77 (n + m) (fun i => .int .u32 (o i : Nat)) ∧ Hid (∀ i, o i < 4294967296) ∧ Hid (∀ i, k + m ≤ i → o i = 0) ∧ Hid (nv o (n + m) = nv f k * nv g m))
  case atStart => exact ⟨0, fun _ => 0, rfl, by omega, by omega, (Below.refl _ _).alloc (Nat.le_refl _) _, hrow0, hid fun _ => by show 0 < _; omega, hid fun _ _ => rfl, hid (by rw [nv_zero fun _ _ => rfl]; simp [nv])⟩
  case round =>
    clear hrow0 hmk e1
    obtain ⟨k, o, rfl, hk, hkg, hB, hrow, HO, HZ, HV⟩ := hrel
    by_cases hlt : k < n
    · obtain ⟨b, o1, rfl, hb, e0⟩ := (h.on hB).at hlt
      have q1 := hf.out k hlt
      have hlt' : (k : Int) < (n : Int) := by omega
      obtain ⟨x, hx⟩ : ∃ x, x = f k := ⟨_, rfl⟩
      rw [← hx] at e0 q1
      have HX := hid hx
      obtain ⟨wo, rfl⟩ : ∃ wo : World, wo = wr := ⟨_, rfl⟩
      obtain ⟨K, rfl⟩ : ∃ K : Nat, K = gk := ⟨_, rfl⟩
      clear hx
      go_wp2
      go_loopg [27, 8] m (fun gg jv cv wx => ∃ j cc : Nat, ∃ o' : Nat → Nat, jv = .int .i64 (j : Nat) ∧ cv = .int .u64 (cc : Nat) ∧ j ≤ m ∧ m ≤ j + gg ∧ cc < 4294967296 ∧ Below w.heap.size w wx ∧ wx.rowIs w.heap.size 77 (n + m) (fun i => .int .u32 (o' i : Nat)) ∧ Hid (∀ i, o' i < 4294967296) ∧ Hid (∀ i, k + m ≤ i → o' i = 0) ∧ Hid (nv o' (n + m) + cc * 4294967296 ^ (k + j) = nv o (n + m) + x * nv g j * 4294967296 ^ k))
      case atStart => exact ⟨0, 0, o, rfl, rfl, by omega, by omega, by omega, hB, hrow, HO, HZ, hid (by simp [nv])⟩
      case round =>
        clear hB hrow e0
        obtain ⟨j, cc, o', rfl, rfl, hj, hjg, hcc, hB, hrow, HO', HZ', HV'⟩ := hrel
        have hz := hrow.lt
        by_cases hjlt : j < m
        · obtain ⟨b2, o2, rfl, hb2, e2⟩ := (h2.on hB).at hjlt
          have q2 := hg.out j hjlt
          have hjlt' : (j : Int) < (m : Int) := by omega
          have y0 := hrow.cell (i := k + j) (by omega)
          have z0 := hrow.frozen (k + j)
          have q3 := HO'.out (k + j)
          have hix : ((k : Int) + (j : Int)).toNat = k + j := by omega
          obtain ⟨y, hy⟩ : ∃ y, y = g j := ⟨_, rfl⟩
          obtain ⟨u, hu⟩ : ∃ u, u = o' (k + j) := ⟨_, rfl⟩
          rw [← hy] at e2 q2
          have K1 := hid (times_step (y := y) (show k + j < n + m by omega) HV'.out hy)
          rw [← hu] at y0 q3 K1
          have p0 : (0 : Int) ≤ (x : Int) * (y : Int) := by rw [← Int.natCast_mul]; omega
          have p1 : (x : Int) * (y : Int) ≤ 18446744065119617025 := by rw [← Int.natCast_mul]; have := limb_mul q1 q2; omega
          have p2 : (x : Int) * (y : Int) = ((x * y : Nat) : Int) := by rw [Int.natCast_mul]
          have p3 := limb_mul q1 q2
          have K2 : Hid ((wr.setCell ⟨w.heap.size, k + j, none⟩ (.int .u32 (((x : Int) * y + u + cc) % 4294967296))).rowIs w.heap.size 77 (n + m) (fun i => .int .u32 (upd o' (k + j) ((x * y + u + cc) % 4294967296) i : Nat))) := by
            refine (hrow.set (k + j) _).congr fun i _ => ?_
            unfold upd
            by_cases e : i = k + j
            · rw [if_pos e, if_pos e]; congr 1 <;> omega
            · rw [if_neg e, if_neg e]
          have K3 : Hid (∀ i, upd o' (k + j) ((x * y + u + cc) % 4294967296) i < 4294967296) := fun i => by
            unfold upd
            split
            · omega
            · exact HO'.out i
          have K4 : Hid (∀ i, k + m ≤ i → upd o' (k + j) ((x * y + u + cc) % 4294967296) i = 0) := fun i hi => by
            rw [upd_other (by omega)]; exact HZ'.out i hi
          have K5 : Hid ((((x : Int) * y + u + cc) / 4294967296) = (((x * y + u + cc) / 4294967296 : Nat) : Int)) := by show _ = _; omega
          have K6 : Hid ((x * y + u + cc) / 4294967296 < 4294967296) := by show _ < _; omega
          clear hy hu p2 hrow
          go_wp2
          go_roundg (gk - 1)
          case measure => omega
          case rel => exact ⟨j + 1, (x * y + u + cc) / 4294967296, _, by go_num, by rw [← K5.out], by omega, by omega, K6.out, hB.setCell (Nat.le_refl _) _, K2.out, K3, K4, K1⟩
        · obtain rfl : j = m := by omega
          have y0 := hrow.cell (i := k + j) (by omega)
          have z0 := hrow.frozen (k + j)
          have hix : ((k : Int) + (j : Int)).toNat = k + j := by omega
          have K1 : Hid (nv (upd o' (k + j) cc) (n + j) = nv f (k + 1) * nv g j) := by
            have h1 := nv_upd (f := o') (v := cc) (show k + j < n + j by omega)
            rw [HZ'.out (k + j) (Nat.le_refl _)] at h1
            have h3 := HV'.out
            rw [HV.out, HX.out] at h3
            show _ = _
            simp only [nv]
            grind
          have K2 : Hid ((wr.setCell ⟨w.heap.size, k + j, none⟩ (.int .u32 (cc : Nat))).rowIs w.heap.size 77 (n + j) (fun i => .int .u32 (upd o' (k + j) cc i : Nat))) := by
            refine (hrow.set (k + j) _).congr fun i _ => ?_
            unfold upd
            by_cases e : i = k + j
            · rw [if_pos e, if_pos e]
            · rw [if_neg e, if_neg e]
          have K3 : Hid (∀ i, upd o' (k + j) cc i < 4294967296) := fun i => by
            unfold upd
            split
            · omega
            · exact HO'.out i
          have K4 : Hid (∀ i, k + 1 + j ≤ i → upd o' (k + j) cc i = 0) := fun i hi => by
            rw [upd_other (by omega)]; exact HZ'.out i (by omega)
          clear hrow
          go_wp2
          go_roundg (K - 1)
          case measure => omega
          case rel => exact ⟨k + 1, _, by go_num, by omega, by omega, hB.setCell (Nat.le_refl _) _, K2.out, K3, K4, K1⟩
    · obtain rfl : k = n := by omega
      have hob : Hid (∀ i, i < k + m → o i < 4294967296) := fun i _ => HO.out i
      go_wp2_with fail
      refine (short_any (some ⟨w.heap.size, 0, none⟩) (k + m) (k + m) o wr (lims_row hrow) hob (Nat.le_refl _) (by unfold maxLen; omega)).mono ?_
      rintro e w1 ⟨rfl, hR, rfl⟩
      rw [HV.out] at hR ⊢
      have hdl : dl (nv f k * nv g m) ≤ k + m := by rw [← HV.out]; exact dl_le (nv_lt hob.out)
      clear hrow HO HZ
      go_wp2
      go_ret
      exact ⟨_, _, rfl, Nat.le_refl _, by unfold maxLen; omega, hR, hB⟩

theorem times_nat (A A2 : Option Addr) (c c2 x y : Nat) (w : World) (h : NatOk w w.heap.size A x) (h2 : NatOk w w.heap.size A2 y) (hn : dl x ≤ 536870912) (hn2 : dl y ≤ 536870912) :
    Calls Try.prog 110 #[.slice A (dl x) c, .slice A2 (dl y) c2] w (NatPost (x * y) w) := by
  have := times_any A A2 (dl x) c (dl y) c2 (dg x) (dg y) w h h2 (dg_all x) (dg_all y) hn hn2
  rwa [nv_dg, nv_dg] at this

/-- A number below 2^32 that is not 0 has one limb. -/
theorem dl_small {x : Nat} (h : 0 < x) (h1 : x < 4294967296) : dl x = 1 := by
  rw [dl_pos (by omega), Nat.div_eq_of_lt h1, dl_zero]
theorem dg_small {x : Nat} (h1 : x < 4294967296) : dg x 0 = x := by rw [dg_first, Nat.mod_eq_of_lt h1]
/-- A slice literal of one limb that is not 0. -/
theorem natOk_one {w : World} {x : Nat} (T : TypeId) (h : 0 < x) (h1 : x < 4294967296) : NatOk (w.alloc (Obj.cells #[Value.int .u32 (x : Nat)] T)) (w.alloc (Obj.cells #[Value.int .u32 (x : Nat)] T)).heap.size (some ⟨w.heap.size, 0, none⟩) x := by
  refine lims_row (t := T) ⟨_, heap_alloc_new _ _, by rw [dl_small h h1]; rfl, fun i hi => ?_⟩
  rw [dl_small h h1] at hi
  obtain rfl : i = 0 := by omega
  show _ = some (Value.int .u32 (dg x 0 : Nat))
  rw [dg_small h1]
  rfl

/-- The product of the first k. -/
def prodN (x : Nat → Nat) : Nat → Nat
  | 0 => 1
  | k + 1 => prodN x k * x k

set_option maxHeartbeats 4000000 in
theorem natMul_any (T : Option Addr) (m c : Nat) (x : Nat → Nat) (w : World) (h : NatTab w w.heap.size T m x) (hm : m ≤ 1048576) (hs : Hid (∀ k, k ≤ m → dl (prodN x k) ≤ 536870912)) (hx : Hid (∀ k, k < m → dl (x k) ≤ 536870912)) :
    Calls Try.prog 79 #[.slice T m c] w (NatPost (prodN x m) w) := by
  have d1 : Hid (dl (prodN x 0) = 1) := dl_small (by show 0 < 1; omega) (by show 1 < _; omega)
  have hone := natOk_one (w := w) 77 (x := 1) (by omega) (by omega)
  go_enter Try.func79, Try.ntmps79
  go_wp2
  go_loopg [9, 3] m (fun g iv sv wx => ∃ k : Nat, ∃ A c, iv = .int .i64 (k : Nat) ∧ sv = .slice A (dl (prodN x k)) c ∧ k ≤ m ∧ m ≤ k + g ∧ dl (prodN x k) ≤ c ∧ c ≤ maxLen ∧ NatOk wx wx.heap.size A (prodN x k) ∧ Below w.heap.size w wx)
  case atStart => exact ⟨0, _, 1, rfl, by rw [d1.out], by omega, by omega, by rw [d1.out]; omega, by unfold maxLen; omega, hone, (Below.refl _ _).alloc (Nat.le_refl _) _⟩
  case round =>
    clear hone
    obtain ⟨k, A, cA, rfl, rfl, hk, hkg, hc, hcm, hA, hB⟩ := hrel
    by_cases hlt : k < m
    · obtain ⟨b, off, B, cB, rfl, hb, e0, hcB, hcB2, hBk⟩ := (h.on hB) k hlt
      have hlt' : (k : Int) < (m : Int) := by omega
      have H1 := hs.out k hk
      have H2 := hx.out k hlt
      go_wp2_with fail
      refine (short_nat B cB (x k) wr hBk hcB hcB2).mono ?_
      rintro e w1 ⟨rfl, rfl⟩
      go_wp2_with fail
      refine (times_nat A B cA (dl (x k)) (prodN x k) (x k) wr hA hBk H1 H2).mono ?_
      rintro e w1 ⟨A', c', rfl, g1, g2, g3, g4⟩
      have hB2 := onS hB g4
      clear g4 hA hB hBk e0
      go_wp2
      go_roundg (gk - 1)
      case measure => omega
      case rel => exact ⟨k + 1, A', c', by go_num, rfl, by omega, by omega, g1, g2, g3, hB2⟩
    · obtain rfl : k = m := by omega
      have H1 := hs.out k (Nat.le_refl _)
      go_wp2_with fail
      refine (trim_nat A cA (prodN x k) wr hA hc hcm (by omega)).mono ?_
      rintro e w1 ⟨A', c', rfl, g1, g2, g3, g4⟩
      have hB2 := onS hB g4
      clear g4
      go_wp2
      go_ret
      exact ⟨A', c', rfl, g1, g2, g3, hB2⟩
end Go.Proofs.Ytgininddoalenaa
