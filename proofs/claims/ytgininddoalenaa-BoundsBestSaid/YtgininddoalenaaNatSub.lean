/- nat.Sub. -/
import Derived.Test.YtgininddoalenaaDivMath
import Derived.Test.YtgininddoalenaaCmp
namespace Go.Proofs.Ytgininddoalenaa
open Go.RowKit

set_option maxHeartbeats 2000000 in
theorem trimOwn_any (A : Option Addr) (c x : Nat) (w : World) (h : NatOk w w.heap.size A x) (hc : dl x ≤ c) (hm : c ≤ maxLen) (hn : dl x ≤ 1073741824) :
    Calls Try.prog 111 #[.slice A (dl x) c] w fun e w' => ∃ A' c', e = .returned (.slice A' (dl x) c') ∧ Own w' w.heap.size 77 1 (.slice A' (dl x) c') (dl x) (fun i _ => .int .u32 (dg x i : Nat)) ∧ Below w.heap.size w w' := by
  obtain ⟨i0, qi0, qz0, qz1, qz2⟩ := info_parts Try.infoU32
  go_enter Try.func111, Try.ntmps111
  go_wp2_with fail
  refine (short_nat A c x w h hc hm).mono ?_
  rintro e w1 ⟨rfl, rfl⟩
  rcases Nat.eq_zero_or_pos (dl x) with h0 | h0
  · have H0 := hid h0
    rw [h0]
    clear h0
    go_wp2_with (first | (at_builtin; (refine wpList_append_nil_none rfl (.const (.slice none 0 0)) (.tmp 4) _ rfl 77 i0 Try.underlying39 qi0 rfl A 0 rfl ?_)))
    go_ret
    exact ⟨none, 0, by rw [H0.out]; rfl, by rw [H0.out]; exact Own.nil _ _ _ _ _, Below.refl _ _⟩
  · have n3 : Hid (dl x ≤ maxLen) := by show _ ≤ _; unfold maxLen; omega
    have n4 : Hid (dl x * 4 ≤ 140737488355328) := by show _ ≤ _; omega
    go_wp2_with (first | (at_builtin; (refine wpList_append_copy_some rfl (.const (.slice none 0 0)) (.tmp 4) _ rfl 77 i0 _ 1 4 Try.underlying39 qi0 qz0 qz1 qz2 rfl (by omega) none rfl A (dl x) (dl x) (fun i _ => .int .u32 (dg x i : Nat)) rfl h h0 (fun _ _ _ _ => rfl) n3.out n4.out ?_); intro cap cur k1 k2 k3 k4))
    go_ret
    have hO := Own.new (w := w) (base := w.heap.size) (e := 77) (Nat.le_refl _) k1 k2 k3 k4
    exact ⟨_, cap, rfl, hO.drew, ((Below.refl _ _).alloc (Nat.le_refl _) _).drew⟩

/-- What Sub leaves where the first is not less. -/
def SubPost (x : Nat) (w : World) (e : Ending) (w' : World) : Prop :=
  ∃ A c, e = .returned (.tuple #[.slice A (dl x) c, .int .i64 0]) ∧ dl x ≤ c ∧ c ≤ maxLen ∧ NatOk w' w'.heap.size A x ∧ Below w.heap.size w w'

theorem Own.cap {w : World} {base e s n : Nat} {A : Option Addr} {c : Nat} {f : Nat → Nat → Value} (h : Own w base e s (.slice A n c) n f) : n ≤ c ∧ c ≤ maxLen := by
  rcases h with ⟨e1, e2⟩ | ⟨g1, o1, cap, cur, e1, _, _, h3, h4, _⟩
  · injection e1 with _ _ e3; subst e3; exact ⟨by omega, by unfold maxLen; omega⟩
  · injection e1 with _ _ e3; subst e3; exact ⟨h3, h4⟩

set_option maxRecDepth 100000 in
set_option maxHeartbeats 4000000 in
theorem natSub_ok (A A2 : Option Addr) (c c2 x y : Nat) (w : World) (h : NatOk w w.heap.size A x) (h2 : NatOk w w.heap.size A2 y) (hc : dl x ≤ c) (hm : c ≤ maxLen) (hc2 : dl y ≤ c2) (hm2 : c2 ≤ maxLen) (hle : y ≤ x) (hn : dl x ≤ 268435456) :
    Calls Try.prog 84 #[.slice A (dl x) c, .slice A2 (dl y) c2] w (SubPost (x - y) w) := by
  have hdl := dl_mono hle
  have HX : Hid (nv (dg x) (dl x) = x) := nv_dg x
  have HY : Hid (nv (padded (dg y) (dl y)) (dl x) = y) := by show _ = _; rw [nv_padded _ hdl, nv_dg]
  have hcmp : (cmpN x y < 0) = False := by
    rw [eq_iff_iff]
    rcases Nat.lt_or_ge y x with e | e
    · rw [cmpN_gt e]; simp
    · rw [cmpN_eq (by omega)]; simp
  have hcmp' : ¬ cmpN x y < 0 := by rw [hcmp]; simp
  obtain ⟨z, hz⟩ : ∃ z, z = cmpN x y := ⟨_, rfl⟩
  rw [← hz] at hcmp'
  have HZ := hid hz
  clear hz hcmp
  go_enter Try.func84, Try.ntmps84
  go_wp2_with fail
  refine (natCmp_any A A2 c c2 x y w h h2 hc hm hc2 hm2 (by omega)).mono ?_
  rintro e w1 ⟨rfl, hb1⟩
  rw [← HZ.out]
  have g1 := h.on hb1
  have g2 := h2.on hb1
  have hB1 := onS (Below.refl _ w) hb1
  clear hb1 h
  go_wp2_with fail
  refine (trimOwn_any A c x w1 g1 hc hm (by omega)).mono ?_
  rintro e w2 ⟨A', c', rfl, hO, hb2⟩
  have g3 := g2.on hb2
  have hO0 : Own w2 w.heap.size 77 1 (.slice A' (dl x) c') (dl x) (fun i _ => .int .u32 (dg x i : Nat)) := hO.mono hB1.size
  have hB2 := onS hB1 hb2
  have hcap := hO.cap
  clear hb2 hB1 g1 g2 hO
  go_wp2
  go_loopg [18, 7] (dl x) (fun gg iv cv wx => ∃ k bo : Nat, ∃ o : Nat → Nat, iv = .int .i64 (k : Nat) ∧ cv = .int .u64 (bo : Nat) ∧ dl x ≤ k + gg ∧ k ≤ dl x ∧ bo ≤ 1 ∧ Below w.heap.size w wx ∧ NatOk wx w.heap.size A2 y ∧ Own wx w.heap.size 77 1 (.slice A' (dl x) c') (dl x) (fun i _ => .int .u32 (o i : Nat)) ∧ Hid (∀ i, o i < 4294967296) ∧ Hid (∀ i, k ≤ i → o i = dg x i) ∧ Hid (nv o k + nv (padded (dg y) (dl y)) k = nv (dg x) k + bo * 4294967296 ^ k))
  case atStart => exact ⟨0, 0, dg x, rfl, rfl, by omega, by omega, by omega, hB2, Rd.below h2 hB2 (Nat.le_refl _), hO0, hid fun i => dg_lt x i, hid fun _ _ => rfl, hid rfl⟩
  case round =>
    clear hO0 g3 hB2 h2
    obtain ⟨k, bo, o, rfl, rfl, hkg, hk, hbo, hB, hR, hO, HO, HU, HV⟩ := hrel
    by_cases hlt : k < dl x
    · obtain ⟨g, og, cap, hv, hg1, hg2, hg3, hg4, hg5⟩ := hO.form (by omega)
      injection hv with hv1 _ hv3
      subst hv1 hv3
      have y0 := hg5 k hlt 0 (by omega)
      rw [Nat.mul_one, Nat.add_zero] at y0
      have z0 := hO.frozen (og + k)
      have hlt' : (k : Int) < ((dl x : Nat) : Int) := by omega
      obtain ⟨u, hu⟩ : ∃ u, u = o k := ⟨_, rfl⟩
      have q1 := HO.out k
      rw [← hu] at y0 q1
      obtain ⟨v, hv⟩ : ∃ v, v = padded (dg y) (dl y) k := ⟨_, rfl⟩
      have q2 := padded_lt (dg_all y).out k
      rw [← hv] at q2
      obtain ⟨s, hs⟩ : ∃ s, s = u + 4294967296 - v - bo := ⟨_, rfl⟩
      have hs' : s = dg x k + 4294967296 - padded (dg y) (dl y) k - bo := by rw [hs, hu, hv, HU.out k (Nat.le_refl _)]
      obtain ⟨s1, s2, s3⟩ := sub_step HV.out (dg_lt x k) (padded_lt (dg_all y).out k) hbo hs'
      have K1 := hid s1
      obtain ⟨D1, d1, d2, d3, d4, d5⟩ := wrap_diff ((u : Int) - bo) (by omega) (by omega)
      obtain ⟨D, e1, e2, e3, e4, e5⟩ := wrap_diff ((u : Int) - bo - v) (by omega) (by omega)
      have e6 := d5 v
      rw [e1] at e6
      have K5 : Hid ((D : Int) / 9223372036854775808 = ((1 - s / 4294967296 : Nat) : Int)) := by
        show _ = _
        split at e4 <;> omega
      have K6 : Hid ((D : Int) % 4294967296 = ((s % 4294967296 : Nat) : Int)) := by show _ = _; omega
      have K2 : Hid (∀ z : Int, z = ((s % 4294967296 : Nat) : Int) → Own (wr.setCell ⟨g, og + k, none⟩ (.int .u32 z)) w.heap.size 77 1 (.slice (some ⟨g, og, none⟩) (dl x) c') (dl x) (fun i _ => .int .u32 (upd o k (s % 4294967296) i : Nat))) := fun z hz => by
        have := hO.set hlt (show 0 < 1 by omega) (.int .u32 z)
        rw [Nat.mul_one, Nat.add_zero] at this
        refine this.congr fun i _ j hj => ?_
        unfold upd
        by_cases e : i = k
        · rw [if_pos ⟨e, by omega⟩, if_pos e, hz]
        · rw [if_neg (fun c => e c.1), if_neg e]
      have K3 : Hid (∀ i, upd o k (s % 4294967296) i < 4294967296) := fun i => by
        unfold upd
        split
        · omega
        · exact HO.out i
      have K4 : Hid (∀ i, k + 1 ≤ i → upd o k (s % 4294967296) i = dg x i) := fun i hi => by rw [upd_other (by omega)]; exact HU.out i (by omega)
      have K7 : Hid (∀ z, NatOk (wr.setCell ⟨g, og + k, none⟩ z) w.heap.size A2 y) := fun z => hR.setCell hg1 z
      have D5 := hid d5
      have hD0 : (0 : Int) ≤ D := by omega
      have hD1 : (D : Int) ≤ 18446744073709551615 := by omega
      by_cases hy : k < dl y
      · have hv2 : v = dg y k := by rw [hv]; unfold padded; rw [if_pos hy]
        obtain ⟨b2, o2, rfl, hb2, t0⟩ := Lims.at hR hy
        rw [← hv2] at t0
        have hy' : (k : Int) < ((dl y : Nat) : Int) := by omega
        clear hv hu hs hs' s1 s2 s3 e1 d3 d4 d5 e3 e4 e5 hv2 hg5 hO
        go_wp2
        go_roundg (gk - 1)
        case measure => omega
        case rel => exact ⟨k + 1, 1 - s / 4294967296, _, by go_num, by rw [K5.out], by omega, by omega, by omega, hB.setCell hg1 _, K7.out _, K2.out _ K6.out, K3, K4, K1⟩
      · have hy' : ¬ (k : Int) < ((dl y : Nat) : Int) := by omega
        have hv2 : v = 0 := by rw [hv]; unfold padded; rw [if_neg hy]
        have hDD : D = D1 := by
          rw [hv2] at e1
          have : IntKind.u64.wrap ((u : Int) - bo - ((0 : Nat) : Int)) = IntKind.u64.wrap ((u : Int) - bo) := by congr 1; omega
          rw [this, d1] at e1
          omega
        subst hDD
        clear hv hu hs hs' s1 s2 s3 e1 d3 d4 d5 e3 e4 e5 hv2 hg5 hO e6
        go_wp2
        go_roundg (gk - 1)
        case measure => omega
        case rel => exact ⟨k + 1, 1 - s / 4294967296, _, by go_num, by rw [K5.out], by omega, by omega, by omega, hB.setCell hg1 _, K7.out _, K2.out _ K6.out, K3, K4, K1⟩
    · obtain rfl : k = dl x := by omega
      have HS : Hid (nv o (dl x) = x - y) := by
        have := sub_end HV.out (fun i _ => HO.out i) (by rw [HX.out, HY.out]; exact hle) hbo
        rwa [HX.out, HY.out] at this
      have hI : Lims wr wr.heap.size A' (dl x) o := hO.rd rfl
      have hob : Hid (∀ i, i < dl x → o i < 4294967296) := fun i _ => HO.out i
      go_wp2_with fail
      refine (short_any A' (dl x) c' o wr hI hob hcap.1 hcap.2).mono ?_
      rintro e w3 ⟨rfl, hR3, rfl⟩
      rw [HS.out] at hR3 ⊢
      have hd3 : dl (x - y) ≤ dl x := dl_mono (by omega)
      go_wp2
      go_ret2
      exact ⟨_, _, rfl, Nat.le_refl _, by unfold maxLen; omega, hR3, hB⟩

set_option maxRecDepth 100000 in
set_option maxHeartbeats 4000000 in
theorem natSub_err (A A2 : Option Addr) (c c2 x y : Nat) (w : World) (h : NatOk w w.heap.size A x) (h2 : NatOk w w.heap.size A2 y) (hc : dl x ≤ c) (hm : c ≤ maxLen) (hc2 : dl y ≤ c2) (hm2 : c2 ≤ maxLen) (hlt : x < y) (hn : dl y ≤ 268435456) :
    Calls Try.prog 84 #[.slice A (dl x) c, .slice A2 (dl y) c2] w fun e w' => e = .returned (.tuple #[.slice none 0 0, .int .i64 6]) ∧ Below w.heap.size w w' := by
  have HC := hid (cmpN_lt hlt)
  go_enter Try.func84, Try.ntmps84
  go_wp2_with fail
  refine (natCmp_any A A2 c c2 x y w h h2 hc hm hc2 hm2 (by omega)).mono ?_
  rintro e w1 ⟨rfl, hb1⟩
  rw [HC.out]
  go_wp2
  go_ret2
  exact ⟨rfl, hb1⟩
end Go.Proofs.Ytgininddoalenaa
