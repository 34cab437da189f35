/- codewrightref01.shift and DivMod. -/
import Derived.Test.YtgininddoalenaaSub
import Derived.Test.YtgininddoalenaaCmp
import Derived.Test.YtgininddoalenaaShift
import Derived.Test.YtgininddoalenaaNatSub
namespace Go.Proofs.Ytgininddoalenaa
open Go.RowKit

theorem nv_lead {o : Nat → Nat} {q k : Nat} (h : ∀ i, i < q → o i = 0) : nv o (q + k) = nv (seg o q) k * 4294967296 ^ q := by
  rw [nv_seg, nv_zero h, Nat.zero_add]

set_option maxRecDepth 100000 in
set_option maxHeartbeats 4000000 in
theorem refShift_any (A : Option Addr) (c x n : Nat) (w : World) (h : NatOk w w.heap.size A x) (hn : n ≤ 8589934592) (hd : dl x ≤ 268435456) :
    Calls Try.prog 131 #[.slice A (dl x) c, .int .i64 (n : Nat)] w (NatPost (x * 2 ^ n) w) := by
  obtain ⟨i0, qi0, qz0, qz1, qz2⟩ := info_parts Try.infoU32
  obtain ⟨q, hq⟩ : ∃ q, q = n / 32 := ⟨_, rfl⟩
  obtain ⟨s, hs⟩ : ∃ s, s = n % 32 := ⟨_, rfl⟩
  have hs31 : s ≤ 31 := by omega
  have hqn : q ≤ 268435456 := by omega
  have eq1 : (n : Int) / 32 = (q : Int) := by omega
  have eq2 : (n : Int) % 32 = (s : Int) := by omega
  have HXN : Hid (x * 2 ^ s * 4294967296 ^ q = x * 2 ^ n) := by
    show _ = _
    rw [Nat.mul_assoc, show (4294967296 : Nat) = 2 ^ 32 from rfl, ← Nat.pow_mul, ← Nat.pow_add]
    congr 2
    omega
  have hmk := fun W => run_makeI (P := Try.prog) 39 77 _ 4 Try.underlying39 Try.infoU32 rfl (q : Int) (by omega) (by omega) (by omega) W
  obtain ⟨P, hP⟩ : ∃ P, P = 2 ^ s := ⟨_, rfl⟩
  have hP0 : 0 < P := by rw [hP]; exact Nat.pow_pos (by omega)
  have hP1 : P ≤ 2147483648 := by rw [hP]; exact Nat.pow_le_pow_right (n := 2) (by omega) hs31
  have HP := hid hP
  have hO0 : Own (w.alloc (.cells (madeCells #[Value.int .u32 0] q) 77)) w.heap.size 77 1 (.slice (some ⟨w.heap.size, 0, none⟩) q q) q (fun i _ => .int .u32 ((fun _ : Nat => 0) i : Nat)) := by
    have hr := World.rowIs_made w (.int .u32 0) q 77
    obtain ⟨cc, g1, g2, g3⟩ := hr
    refine .inr ⟨w.heap.size, 0, q, cc, rfl, Nat.le_refl _, g1, Nat.le_refl _, by unfold maxLen; omega, by omega, fun i hi j hj => ?_⟩
    obtain rfl : j = 0 := by omega
    rw [Nat.zero_add, Nat.mul_one, Nat.add_zero]
    exact g3 i hi
  clear hP hq hs
  go_enter Try.func131, Try.ntmps131
  go_wp2
  go_loopg [7, 5, 6] (dl x) (fun gg iv ov cv wx => ∃ k ca : Nat, ∃ o : Nat → Nat, iv = .int .i64 (k : Nat) ∧ cv = .int .u64 (ca : Nat) ∧ dl x ≤ k + gg ∧ k ≤ dl x ∧ ca < P ∧ Below w.heap.size w wx ∧ Own wx w.heap.size 77 1 ov (q + k) (fun i _ => .int .u32 (o i : Nat)) ∧ Hid (∀ i, o i < 4294967296) ∧ Hid (∀ i, i < q → o i = 0) ∧ Hid (nv (seg o q) k + ca * 4294967296 ^ k = nv (dg x) k * 2 ^ s))
  case atStart => exact ⟨0, 0, fun _ => 0, rfl, rfl, by omega, by omega, hP0, (Below.refl _ _).alloc (Nat.le_refl _) _, hO0, hid fun _ => by show 0 < _; omega, hid fun _ _ => rfl, hid (by simp [nv])⟩
  case round =>
    clear hO0 hmk
    obtain ⟨k, ca, o, rfl, rfl, hkg, hk, hca, hB, hO, HO, HZ, HV⟩ := hrel
    by_cases hlt : k < dl x
    · have hlt' : (k : Int) < ((dl x : Nat) : Int) := by omega
      obtain ⟨b1, o1, rfl, hb2, e0⟩ := (h.on hB).at (i := k) hlt
      obtain ⟨a, ha⟩ : ∃ a, a = dg x k := ⟨_, rfl⟩
      have q1 := dg_lt x k
      rw [← ha] at e0 q1
      have HA := hid ha
      have ht1 : a * P + ca < 4294967296 * P := by
        have : (a + 1) * P ≤ 4294967296 * P := Nat.mul_le_mul_right _ q1
        rw [Nat.add_mul, Nat.one_mul] at this
        omega
      obtain ⟨aP, haP⟩ : ∃ aP, aP = a * P := ⟨_, rfl⟩
      rw [← haP] at ht1
      have hwr : (a : Int) * 2 ^ s = (aP : Int) := by rw [haP, HP.out, Int.natCast_mul, Int.natCast_pow]; rfl
      have hwr2 : IntKind.u64.wrap (aP : Int) = (aP : Int) := IntWalk.u64_in _ (by omega)
      have hsb : (aP : Int) + ca ≤ 18446744073709551615 := by omega
      have s1 := shl_step (s := aP + ca) HV.out (by rw [haP, HA.out, HP.out])
      rw [← seg_upd] at s1
      have K1 := hid s1
      have hO1 : Own wr w.heap.size 77 1 u5 (q + k) (fun i _ => .int .u32 (upd o (q + k) ((aP + ca) % 4294967296) i : Nat)) := hO.congr fun i hi _ _ => by rw [upd_other (by omega)]
      have N1 : Hid (∀ z : Int, z = (((aP + ca) % 4294967296 : Nat) : Int) → ∀ j, j < 1 → (wr.alloc (Obj.cells #[Value.int .u32 z] 77)).cell? ((⟨wr.heap.size, 0, none⟩ : Addr).add j) = some (.int .u32 (upd o (q + k) ((aP + ca) % 4294967296) (q + k) : Nat))) := fun z hz j hj => by
        obtain rfl : j = 0 := by omega
        rw [upd_same, hz]
        exact World.cell?_alloc_at _ _ _ _ rfl
      have N2 : Hid (∀ j, j < 1 → (Value.int .u32 (upd o (q + k) ((aP + ca) % 4294967296) (q + k) : Nat)).oneCell' = true) := fun _ _ => rfl
      have n3 : Hid (q + k + 1 ≤ maxLen) := by show _ ≤ _; unfold maxLen; omega
      have n4 : Hid ((q + k + 1) * 4 ≤ 140737488355328) := by show _ ≤ _; omega
      have hQb : Hid (∀ k, u5.ownBlock = some k → w.heap.size ≤ k) := fun k e => (hO.lt k e).1
      have K3 : Hid (∀ i, upd o (q + k) ((aP + ca) % 4294967296) i < 4294967296) := fun i => by
        unfold upd
        split
        · omega
        · exact HO.out i
      have K4 : Hid (∀ i, i < q → upd o (q + k) ((aP + ca) % 4294967296) i = 0) := fun i hi => by rw [upd_other (by omega)]; exact HZ.out i hi
      have K5 : Hid (((aP : Int) + ca) / 4294967296 = (((aP + ca) / 4294967296 : Nat) : Int)) := by show _ = _; omega
      have K6 : Hid (((aP : Int) + ca) % 4294967296 = (((aP + ca) % 4294967296 : Nat) : Int)) := by show _ = _; omega
      have K7 : Hid ((aP + ca) / 4294967296 < P) := by show _ < _; omega
      have hsz := hB.size
      have hBA := hid fun z : Int => hB.alloc hB.size (Obj.cells #[Value.int .u32 z] 77)
      clear ha haP hO s1 ht1
      go_upto_region 7 with fail
      go_wp2_with (first | (at_builtin; (refine wpList_append_one _ rfl (.tmp 28) (.tmp 32) _ rfl w.heap.size 77 i0 _ 1 4 Try.underlying39 qi0 qz0 qz1 qz2 rfl (by omega) u5 (q + k) _ rfl (hO1.alloc _) ⟨wr.heap.size, 0, none⟩ 1 rfl (N1.out _ K6.out) N2.out n3.out n4.out (by simp; omega) ?_); intro v' w3 hown3 hg3 hat3))
      have hB3 := (hBA.out _).grown hg3 (by simp; omega) (fun q e => hQb.out q e)
      go_roundg (gk - 1)
      case measure => omega
      case rel => exact ⟨k + 1, (aP + ca) / 4294967296, _, by go_num, by rw [← K5.out], by omega, by omega, K7.out, hB3, hown3, K3, K4, K1⟩
    · obtain rfl : k = dl x := by omega
      have hcm : (ca : Int) % 4294967296 = (ca : Int) := by omega
      have hO1 : Own wr w.heap.size 77 1 u5 (q + dl x) (fun i _ => .int .u32 (upd o (q + dl x) ca i : Nat)) := hO.congr fun i hi _ _ => by rw [upd_other (by omega)]
      have N1 : Hid (∀ z : Int, z = ((ca : Nat) : Int) → ∀ j, j < 1 → (wr.alloc (Obj.cells #[Value.int .u32 z] 77)).cell? ((⟨wr.heap.size, 0, none⟩ : Addr).add j) = some (.int .u32 (upd o (q + dl x) ca (q + dl x) : Nat))) := fun z hz j hj => by
        obtain rfl : j = 0 := by omega
        rw [upd_same, hz]
        exact World.cell?_alloc_at _ _ _ _ rfl
      have N2 : Hid (∀ j, j < 1 → (Value.int .u32 (upd o (q + dl x) ca (q + dl x) : Nat)).oneCell' = true) := fun _ _ => rfl
      have n3 : Hid (q + dl x + 1 ≤ maxLen) := by show _ ≤ _; unfold maxLen; omega
      have n4 : Hid ((q + dl x + 1) * 4 ≤ 140737488355328) := by show _ ≤ _; omega
      have hQb : Hid (∀ k, u5.ownBlock = some k → w.heap.size ≤ k) := fun k e => (hO.lt k e).1
      have K3 : Hid (∀ i, i < q + dl x + 1 → upd o (q + dl x) ca i < 4294967296) := fun i _ => by
        unfold upd
        split
        · omega
        · exact HO.out i
      have K1 : Hid (nv (upd o (q + dl x) ca) (q + dl x + 1) = x * 2 ^ n) := by
        show _ = _
        rw [show q + dl x + 1 = q + (dl x + 1) by omega, nv_lead (fun i hi => by rw [upd_other (by omega)]; exact HZ.out i hi), seg_upd, nv_upd_top, HV.out, nv_dg, HXN.out]
      have hsz := hB.size
      have hBA := hid fun z : Int => hB.alloc hB.size (Obj.cells #[Value.int .u32 z] 77)
      clear hO
      go_wp2_with (first | (at_builtin; (refine wpList_append_one _ rfl (.tmp 36) (.tmp 39) _ rfl w.heap.size 77 i0 _ 1 4 Try.underlying39 qi0 qz0 qz1 qz2 rfl (by omega) u5 (q + dl x) _ rfl (hO1.alloc _) ⟨wr.heap.size, 0, none⟩ 1 rfl (N1.out _ rfl) N2.out n3.out n4.out (by simp; omega) ?_); intro v' w3 hown3 hg3 hat3))
      have hB3 := (hBA.out _).grown hg3 (by simp; omega) (fun q e => hQb.out q e)
      obtain ⟨oa, oc, rfl⟩ := hown3.shape
      have hcap := hown3.cap
      have hI : Lims w3 w3.heap.size oa (q + dl x + 1) (upd o (q + dl x) ca) := hown3.rd rfl
      clear hown3 hg3 hat3 hO1
      refine (refTrim_any oa (q + dl x + 1) oc _ w3 hI K3 hcap.1 hcap.2 (by omega)).mono ?_
      rintro e w4 ⟨A', c', rfl, g1, g2, g3, g4⟩
      rw [K1.out] at g1 g3 ⊢
      have hB4 := onS hB3 g4
      clear g4 hI
      go_wp2
      go_ret
      exact ⟨A', c', rfl, g1, g2, g3, hB4⟩

/-- What the reference's DivMod leaves. -/
def RefDivPost (x y : Nat) (w : World) (e : Ending) (w' : World) : Prop :=
  ∃ A c A2 c2, e = .returned (.tuple #[.slice A (dl (x / y)) c, .slice A2 (dl (x % y)) c2]) ∧ dl (x / y) ≤ c ∧ c ≤ maxLen ∧ dl (x % y) ≤ c2 ∧ c2 ≤ maxLen ∧ NatOk w' w'.heap.size A (x / y) ∧ NatOk w' w'.heap.size A2 (x % y) ∧ Below w.heap.size w w'

theorem div_head {x y : Nat} (hy : 0 < y) : x < y * 2 ^ (nlen x + 1 - nlen y) := by
  have h1 := lt_pow_nlen x
  have h2 := pow_nlen_le (x := y) (by omega)
  have h3 : 2 ^ nlen x ≤ 2 ^ (nlen y - 1 + (nlen x + 1 - nlen y)) := Nat.pow_le_pow_right (by omega) (by have := nlen_pos (x := y) (by omega); omega)
  rw [Nat.pow_add] at h3
  have h4 : 2 ^ (nlen y - 1) * 2 ^ (nlen x + 1 - nlen y) ≤ y * 2 ^ (nlen x + 1 - nlen y) := Nat.mul_le_mul_right _ h2
  omega
theorem nlen_dl_le {x L : Nat} (h : dl x ≤ L) : nlen x ≤ 32 * L := by
  refine nlen_le (Nat.lt_of_lt_of_le (lt_pow_dl x) ?_)
  rw [show (4294967296 : Nat) = 2 ^ 32 from rfl, ← Nat.pow_mul]
  exact Nat.pow_le_pow_right (by omega) (by omega)
theorem dl_of_nlen {x L : Nat} (h : nlen x ≤ 32 * L) : dl x ≤ L := by
  refine dl_le (Nat.lt_of_lt_of_le (lt_pow_nlen x) ?_)
  rw [show (4294967296 : Nat) = 2 ^ 32 from rfl, ← Nat.pow_mul]
  exact Nat.pow_le_pow_right (by omega) h
theorem shl_le {x y j : Nat} (h : j + nlen y ≤ nlen x) : nlen (y * 2 ^ j) ≤ nlen x := by
  refine nlen_le ?_
  have h1 := lt_pow_nlen y
  have h2 : y * 2 ^ j < 2 ^ nlen y * 2 ^ j := Nat.mul_lt_mul_of_pos_right h1 (Nat.pow_pos (by omega))
  rw [← Nat.pow_add] at h2
  exact Nat.lt_of_lt_of_le h2 (Nat.pow_le_pow_right (by omega) (by omega))

set_option maxRecDepth 100000 in
set_option maxHeartbeats 4000000 in
theorem refDivMod_any (A A2 : Option Addr) (c c2 x y : Nat) (w : World) (h : NatOk w w.heap.size A x) (h2 : NatOk w w.heap.size A2 y) (hc : dl x ≤ c) (hm : c ≤ maxLen) (hc2 : dl y ≤ c2) (hm2 : c2 ≤ maxLen) (hn : dl x ≤ 134217728) (hn2 : dl y ≤ 134217728) (hy : 0 < y) :
    Calls Try.prog 113 #[.slice A (dl x) c, .slice A2 (dl y) c2] w (RefDivPost x y w) := by
  have HH := hid (div_head (x := x) hy)
  have hxl := nlen_dl_le hn
  have hyl := nlen_dl_le hn2
  go_enter Try.func113, Try.ntmps113
  go_wp2_with fail
  refine (refTrim_nat A c x w h hc hm (by omega)).mono ?_
  rintro e w1 ⟨A3, c3, rfl, f1, f2, f3, f4⟩
  have g1 := h.on f4
  have g2 := h2.on f4
  have hB1 := onS (Below.refl _ w) f4
  clear f4 h h2
  go_wp2_with fail
  refine (refBits_any A c x w1 g1 hc hm (by omega)).mono ?_
  rintro e w2 ⟨rfl, hb2⟩
  have f4 := f3.on hb2
  have g3 := g2.on hb2
  have hB2 := onS hB1 hb2
  clear hb2 f3 g2 g1 hB1
  go_wp2_with fail
  refine (refBits_any A2 c2 y w2 g3 hc2 hm2 (by omega)).mono ?_
  rintro e w3 ⟨rfl, hb3⟩
  have f5 := f4.on hb3
  have g4 := g3.on hb3
  have hB3 := onS hB2 hb3
  clear hb3 f4 g3 hB2
  go_wp2
  go_loopg [7, 5, 4] (nlen x + 1 - nlen y) (fun gg iv rv qv wx => ∃ i : Int, ∃ J r Q : Nat, ∃ Ar cr Aq cq, iv = .int .i64 i ∧ rv = .slice Ar (dl r) cr ∧ qv = .slice Aq (dl Q) cq ∧ (0 ≤ i ∧ i + 1 = (J : Nat) ∨ i < 0 ∧ J = 0) ∧ -8589934592 ≤ i ∧ J ≤ gg ∧ (J = 0 ∨ J + nlen y ≤ nlen x + 1) ∧
    dl r ≤ cr ∧ cr ≤ maxLen ∧ dl Q ≤ cq ∧ cq ≤ maxLen ∧ NatOk wx wx.heap.size Ar r ∧ NatOk wx wx.heap.size Aq Q ∧ NatOk wx wx.heap.size A2 y ∧ Below w.heap.size w wx ∧ Hid (r < y * 2 ^ J) ∧ Hid (x = Q * y + r))
  case atStart =>
    refine ⟨_, nlen x + 1 - nlen y, x, 0, A3, c3, none, 0, rfl, rfl, by rw [dl_zero], by omega, by omega, by omega, by omega, f1, f2, by rw [dl_zero]; omega, by unfold maxLen; omega, f5, fun i hi => absurd hi (by rw [dl_zero]; omega), g4, hB3, HH, ?_⟩
    show x = 0 * y + x
    omega
  case round =>
    clear f5 g4 hB3
    obtain ⟨i, J, r, Q, Ar, cr, Aq, cq, rfl, rfl, rfl, hiJ, hi0, hJg, hJx, hcr, hcr2, hcq, hcq2, hR, hQ, hY, hB, HR, HE⟩ := hrel
    have hrx : r ≤ x := by have := HE.out; omega
    have hQx : Q ≤ x := by
      have h1 := HE.out
      have h2 : Q * 1 ≤ Q * y := Nat.mul_le_mul_left _ hy
      omega
    have hdr := dl_mono hrx
    have hdQ := dl_mono hQx
    by_cases hi : 0 ≤ i
    · obtain ⟨j, rfl⟩ := Int.eq_ofNat_of_zero_le hi
      obtain rfl : J = j + 1 := by omega
      have htn := shl_le (x := x) (y := y) (j := j) (by omega)
      have htd : dl (y * 2 ^ j) ≤ 134217728 := dl_of_nlen (by omega)
      clear hi
      go_wp2_with fail
      refine (refShift_any A2 c2 y j wr hY (by omega) (by omega)).mono ?_
      rintro e w4 ⟨At, ct, rfl, k1, k2, k3, k4⟩
      obtain ⟨t, ht⟩ : ∃ t, t = y * 2 ^ j := ⟨_, rfl⟩
      rw [← ht] at k1 k3 htd ⊢
      have HT := hid ht
      have hR4 := hR.on k4
      have hQ4 := hQ.on k4
      have hY4 := hY.on k4
      have hB4 := onS hB k4
      clear k4 hR hQ hY hB ht htn
      go_wp2_with fail
      refine (refCmp_any Ar At cr ct r t w4 hR4 k3 (by omega) (by omega)).mono ?_
      rintro e w5 ⟨rfl, rfl⟩
      by_cases hle : t ≤ r
      · have hc : (0 : Int) ≤ cmpN r t := by
          rcases Nat.lt_or_ge t r with e | e
          · rw [cmpN_gt e]; omega
          · rw [cmpN_eq (by omega)]; omega
        obtain ⟨z, hz⟩ : ∃ z, z = cmpN r t := ⟨_, rfl⟩
        rw [← hz] at hc ⊢
        clear hz
        have H1 : Hid (r - t < y * 2 ^ j) := by
          have h1 := HR.out
          rw [Nat.pow_succ, ← Nat.mul_assoc, ← HT.out] at h1
          show _ < _
          rw [← HT.out]
          omega
        have H2 : Hid (x = (Q + 1 * 2 ^ j) * y + (r - t)) := by
          have h1 := HE.out
          have h2 := HT.out
          show _ = _
          rw [Nat.one_mul, Nat.add_mul, Nat.mul_comm (2 ^ j) y, ← h2]
          omega
        have hdq : dl (1 * 2 ^ j) ≤ 134217728 := by
          refine Nat.le_trans (dl_mono ?_) htd
          rw [HT.out]
          exact Nat.mul_le_mul_right _ hy
        have hj5 : j ≤ 8589934592 := by omega
        go_wp2_with fail
        refine (refSub_any Ar At cr ct r t w4 hR4 k3 hle (by omega)).mono ?_
        rintro e w6 ⟨A6, c6, rfl, m1, m2, m3, m4⟩
        have hQ6 := hQ4.on m4
        have hY6 := hY4.on m4
        have hB6 := onS hB4 m4
        clear m4 hR4 hQ4 hY4 hB4 k3
        have hone := natOk_one (w := w6) 77 (x := 1) (by omega) (by omega)
        have hd1 : dl 1 = 1 := dl_small (by omega) (by omega)
        have hbx := box1_below w6 (Obj.cells #[Value.int .u32 ((1 : Nat) : Int)] 77)
        have hm7 := m3.on hbx
        have hQ7 := hQ6.on hbx
        have hY7 := hY6.on hbx
        have hB7 := onS hB6 hbx
        obtain ⟨e2, he2⟩ : ∃ e2, e2 = 1 * 2 ^ j := ⟨_, rfl⟩
        rw [← he2] at hdq H2
        have HSH := hid (fun W (h : NatOk W W.heap.size (some ⟨w6.heap.size, 0, none⟩) 1) => refShift_any (some ⟨w6.heap.size, 0, none⟩) 1 1 j W h hj5 (by rw [hd1]; omega))
        rw [hd1, ← he2] at HSH
        clear he2
        clear hbx m3 hQ6 hY6 hB6 hd1
        go_wp2_with fail
        refine (HSH.out _ hone).mono ?_
        rintro e w7 ⟨A7, c7, rfl, p1, p2, p3, p4⟩
        have hm8 := hm7.on p4
        have hQ8 := hQ7.on p4
        have hY8 := hY7.on p4
        have hB8 := onS hB7 p4
        clear hm7 hQ7 hY7 hB7 p4 hone
        go_wp2_with fail
        refine (refAdd_nat Aq A7 cq c7 Q e2 w7 hQ8 p3 (by omega) (by omega)).mono ?_
        rintro e w8 ⟨A8, c8, rfl, q1, q2, q3, q4⟩
        have hm9 := hm8.on q4
        have hY9 := hY8.on q4
        have hB9 := onS hB8 q4
        clear hm8 hQ8 hY8 hB8 q4 p3
        go_wp2
        go_roundg (gk - 1)
        case measure => omega
        case rel => exact ⟨_, j, r - t, Q + e2, A6, c6, A8, c8, rfl, rfl, rfl, by omega, by omega, by omega, by omega, m1, m2, q1, q2, hm9, q3, hY9, hB9, H1, H2⟩
      · have hc : ¬ (0 : Int) ≤ cmpN r t := by rw [cmpN_lt (by omega)]; omega
        obtain ⟨z, hz⟩ : ∃ z, z = cmpN r t := ⟨_, rfl⟩
        rw [← hz] at hc ⊢
        clear hz
        have H1 : Hid (r < y * 2 ^ j) := by show _ < _; rw [← HT.out]; omega
        go_wp2
        go_roundg (gk - 1)
        case measure => omega
        case rel => exact ⟨_, j, r, Q, Ar, cr, Aq, cq, rfl, rfl, rfl, by omega, by omega, by omega, by omega, hcr, hcr2, hcq, hcq2, hR4, hQ4, hY4, hB4, H1, HE⟩
    · obtain rfl : J = 0 := by omega
      have hry : r < y := by simpa using HR.out
      have HD : Hid (x / y = Q ∧ x % y = r) := by
        have h1 := HE.out
        show _ ∧ _
        rw [h1, Nat.mul_comm Q y]
        exact ⟨by rw [Nat.mul_add_div hy, Nat.div_eq_of_lt hry, Nat.add_zero], by rw [Nat.mul_add_mod, Nat.mod_eq_of_lt hry]⟩
      go_wp2_with fail
      refine (refTrim_nat Aq cq Q wr hQ hcq hcq2 (by omega)).mono ?_
      rintro e w4 ⟨A4, c4, rfl, k1, k2, k3, k4⟩
      have hR4 := hR.on k4
      have hB4 := onS hB k4
      clear k4 hR hQ hY hB
      go_wp2
      go_ret2
      exact ⟨A4, c4, Ar, cr, by rw [HD.out.1, HD.out.2]; rfl, by rw [HD.out.1]; exact k1, k2, by rw [HD.out.2]; exact hcr, hcr2, by rw [HD.out.1]; exact k3, by rw [HD.out.2]; exact hR4, hB4⟩

set_option maxHeartbeats 2000000 in
theorem floor_any (A A2 : Option Addr) (c c2 x y : Nat) (w : World) (h : NatOk w w.heap.size A x) (h2 : NatOk w w.heap.size A2 y) (hc : dl x ≤ c) (hm : c ≤ maxLen) (hc2 : dl y ≤ c2) (hm2 : c2 ≤ maxLen) (hn : dl x ≤ 134217728) (hn2 : dl y ≤ 134217728) (hy : 0 < y) :
    Calls Try.prog 81 #[.slice A (dl x) c, .slice A2 (dl y) c2] w (NatPost (x / y) w) := by
  go_enter Try.func81, Try.ntmps81
  go_wp2_with fail
  refine (refDivMod_any A A2 c c2 x y w h h2 hc hm hc2 hm2 hn hn2 hy).mono ?_
  rintro e w1 ⟨A3, c3, A4, c4, rfl, k1, k2, k3, k4, k5, k6, k7⟩
  clear h h2
  go_wp2
  go_ret
  exact ⟨A3, c3, rfl, k1, k2, k5, k7⟩
end Go.Proofs.Ytgininddoalenaa
