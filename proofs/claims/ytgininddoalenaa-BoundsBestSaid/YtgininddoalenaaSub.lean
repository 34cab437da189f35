/- codewrightref01.Sub. -/
import Derived.Test.YtgininddoalenaaSubMath
import Derived.Test.YtgininddoalenaaRefNat
namespace Go.Proofs.Ytgininddoalenaa
open Go.RowKit

set_option maxRecDepth 100000 in
set_option maxHeartbeats 4000000 in
theorem refSub_any (A A2 : Option Addr) (c c2 x y : Nat) (w : World) (h : NatOk w w.heap.size A x) (h2 : NatOk w w.heap.size A2 y) (hle : y ≤ x) (hn : dl x ≤ 268435456) :
    Calls Try.prog 88 #[.slice A (dl x) c, .slice A2 (dl y) c2] w (NatPost (x - y) w) := by
  obtain ⟨i0, qi0, qz0, qz1, qz2⟩ := info_parts Try.infoU32
  have hdl := dl_mono hle
  have HX : Hid (nv (padded (dg x) (dl x)) (dl x) = x) := by show _ = _; rw [nv_padded _ (Nat.le_refl _), nv_dg]
  have HY : Hid (nv (padded (dg y) (dl y)) (dl x) = y) := by show _ = _; rw [nv_padded _ hdl, nv_dg]
  go_enter Try.func88, Try.ntmps88
  go_wp2
  go_loopg [7, 5, 6] (dl x) (fun gg iv ov cv wx => ∃ k bo : Nat, ∃ o : Nat → Nat, iv = .int .i64 (k : Nat) ∧ cv = .int .u64 (bo : Nat) ∧ dl x ≤ k + gg ∧ k ≤ dl x ∧ bo ≤ 1 ∧ Below w.heap.size w wx ∧ Own wx w.heap.size 77 1 ov k (fun i _ => .int .u32 (o i : Nat)) ∧ Hid (∀ i, o i < 4294967296) ∧ Hid (nv o k + nv (padded (dg y) (dl y)) k = nv (padded (dg x) (dl x)) k + bo * 4294967296 ^ k))
  case atStart => exact ⟨0, 0, fun _ => 0, rfl, rfl, by omega, by omega, by omega, Below.refl _ _, Own.nil _ _ _ _ _, hid fun _ => by show 0 < _; omega, hid rfl⟩
  case round =>
    obtain ⟨k, bo, o, rfl, rfl, hkg, hk, hbo, hB, hO, HO, HV⟩ := hrel
    by_cases hlt : k < dl x
    · have hlt' : (k : Int) < ((dl x : Nat) : Int) := by omega
      have hf1 := padded_lt (dg_all x).out k
      have hg1 := padded_lt (dg_all y).out k
      obtain ⟨s, hs⟩ : ∃ s, s = padded (dg x) (dl x) k + 4294967296 - padded (dg y) (dl y) k - bo := ⟨_, rfl⟩
      obtain ⟨s1, s2, s3⟩ := sub_step HV.out hf1 hg1 hbo hs
      have K1 := hid s1
      have HL1 := hid (limb_in A (dl x) c k (dg x) wr (NatOk.on h hB) (dg_all x))
      have HL2 := hid (limb_in A2 (dl y) c2 k (dg y) wr (NatOk.on h2 hB) (dg_all y))
      obtain ⟨u, hu⟩ : ∃ u, u = padded (dg x) (dl x) k := ⟨_, rfl⟩
      obtain ⟨v, hv⟩ : ∃ v, v = padded (dg y) (dl y) k := ⟨_, rfl⟩
      rw [← hu] at hf1 hs HL1
      rw [← hv] at hg1 hs HL2
      have es : ((u : Int) + 4294967296 - v - bo) = (s : Int) := by omega
      have hO1 : Own wr w.heap.size 77 1 u5 k (fun i _ => .int .u32 (upd o k (s % 4294967296) i : Nat)) := hO.congr fun i hi _ _ => by rw [upd_other (by omega)]
      have N1 : Hid (∀ z : Int, z = ((s % 4294967296 : Nat) : Int) → ∀ j, j < 1 → (wr.alloc (Obj.cells #[Value.int .u32 z] 77)).cell? ((⟨wr.heap.size, 0, none⟩ : Addr).add j) = some (.int .u32 (upd o k (s % 4294967296) k : Nat))) := fun z hz j hj => by
        obtain rfl : j = 0 := by omega
        rw [upd_same, hz]
        exact World.cell?_alloc_at _ _ _ _ rfl
      have N2 : Hid (∀ j, j < 1 → (Value.int .u32 (upd o k (s % 4294967296) k : Nat)).oneCell' = true) := fun _ _ => rfl
      have n3 : Hid (k + 1 ≤ maxLen) := by show _ ≤ _; unfold maxLen; omega
      have n4 : Hid ((k + 1) * 4 ≤ 140737488355328) := by show _ ≤ _; omega
      have hQb : Hid (∀ k, u5.ownBlock = some k → w.heap.size ≤ k) := fun k e => (hO.lt k e).1
      have K3 : Hid (∀ i, upd o k (s % 4294967296) i < 4294967296) := fun i => by
        unfold upd
        split
        · omega
        · exact HO.out i
      have K5 : Hid ((1 - (s : Int) / 4294967296) = ((1 - s / 4294967296 : Nat) : Int)) := by show _ = _; omega
      have K6 : Hid ((s : Int) % 4294967296 = ((s % 4294967296 : Nat) : Int)) := by show _ = _; omega
      have hsb : (s : Int) ≤ 8589934591 := by omega
      have hsz := hB.size
      have ES := hid es
      clear hu hv hs s1 es hO
      go_wp2_with fail
      refine HL1.out.mono ?_
      rintro e w2 ⟨rfl, rfl⟩
      go_wp2_with fail
      refine HL2.out.mono ?_
      rintro e w2 ⟨rfl, rfl⟩
      go_upto_region 7 with fail
      rw [ES.out]
      have hs4 : (s : Int) / 4294967296 ≤ 1 := by omega
      have hs5 : (0 : Int) ≤ (s : Int) / 4294967296 := by omega
      have hBA := hid fun z : Int => hB.alloc hB.size (Obj.cells #[Value.int .u32 z] 77)
      go_wp2_with (first | (at_builtin; (refine wpList_append_one _ rfl (.tmp 25) (.tmp 29) _ rfl w.heap.size 77 i0 _ 1 4 Try.underlying39 qi0 qz0 qz1 qz2 rfl (by omega) u5 k _ rfl (hO1.alloc _) ⟨wr.heap.size, 0, none⟩ 1 rfl (N1.out _ K6.out) N2.out n3.out n4.out (by simp; omega) ?_); intro v' w3 hown3 hg3 hat3))
      have hB3 := (hBA.out _).grown hg3 (by simp; omega) (fun q e => hQb.out q e)
      go_roundg (gk - 1)
      case measure => omega
      case rel => exact ⟨k + 1, 1 - s / 4294967296, _, by go_num, by rw [K5.out], by omega, by omega, by omega, hB3, hown3, K3, K1⟩
    · obtain rfl : k = dl x := by omega
      have HS : Hid (nv o (dl x) = x - y) := by
        have := sub_end HV.out (fun i _ => HO.out i) (by rw [HX.out, HY.out]; exact hle) hbo
        rwa [HX.out, HY.out] at this
      obtain ⟨oa, oc, rfl⟩ := hO.shape
      have hI : Lims wr wr.heap.size oa (dl x) o := hO.rd rfl
      have hob : Hid (∀ i, i < dl x → o i < 4294967296) := fun i _ => HO.out i
      have hcap : dl x ≤ oc ∧ oc ≤ maxLen := by
        rcases hO with ⟨e1, e2⟩ | ⟨g1, o1, cap, cur, e1, _, _, h3, h4, _⟩
        · injection e1 with _ _ e3; subst e3; exact ⟨by omega, by unfold maxLen; omega⟩
        · injection e1 with _ _ e3; subst e3; exact ⟨h3, h4⟩
      go_wp2_with fail
      refine (refTrim_any oa (dl x) oc o wr hI hob hcap.1 hcap.2 (by omega)).mono ?_
      rintro e w2 ⟨A', c', rfl, g1, g2, g3, g4⟩
      rw [HS.out] at g1 g3 ⊢
      have hB2 := onS hB g4
      clear g4 hI hO hB
      go_wp2
      go_ret
      exact ⟨A', c', rfl, g1, g2, g3, hB2⟩
end Go.Proofs.Ytgininddoalenaa
