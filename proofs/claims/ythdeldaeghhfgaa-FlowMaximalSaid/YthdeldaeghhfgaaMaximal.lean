/- FlowMaximal returns true. -/
import Derived.Test.YthdeldaeghhfgaaRefMax
import Derived.Test.YthdeldaeghhfgaaAccept
import Derived.Test.YthdeldaeghhfgaaRawOpen
namespace Go.Proofs.Ythdeldaeghhfgaa
open Go.RowKit

set_option maxRecDepth 100000 in
set_option maxHeartbeats 8000000 in
theorem flowMaximal_any (N : Net) (A : Option Addr) (c : Nat) (s t : Int) (w : World) (h : N.Reads w w.heap.size A) :
    Calls Try.prog 9 #[.agg #[.int .i64 N.V, .slice A N.n c, .int .i64 s, .int .i64 t]] w fun e w' => e = .returned (.bool true) ∧ Below w.heap.size w w' := by
  have hB : Below (w.heap.size + 1) (w.alloc (.cells #[.int .i64 N.V, .slice A N.n c, .int .i64 s, .int .i64 t] 48)) (w.alloc (.cells #[.int .i64 N.V, .slice A N.n c, .int .i64 s, .int .i64 t] 48)) := Below.refl _ _
  have hB' := box_below hB
  go_enter Try.func9, Try.ntmps9
  go_wp2_with fail
  refine (few_any N A c _ (h.on hB')).mono ?_
  rintro e w2 ⟨⟨b, hbb, rfl⟩, hb⟩
  have hB2 := box_on hB hb
  have hB2' := box_below hB2
  clear hb hB hB' hbb
  have p0 := box_cell hB2 0 rfl
  have p1 := box_cell hB2 1 rfl
  have p2 := box_cell hB2 2 rfl
  have p3 := box_cell hB2 3 rfl
  cases b
  · go_wp2_with fail
    refine (alive_any _).mono ?_
    rintro e w3 ⟨rfl, hb⟩
    have hB3 := onS hB2' hb
    clear hb p0 p1 p2 p3
    go_wp2
    go_ret
    exact ⟨rfl, hB3⟩
  · by_cases he : N.endsE s t = 0
    · have HE := hid (ends_of he)
      have HE0 := hid he
      have he' : (N.endsE s t != 0) = false := by simp [he]
      clear he
      have v1 := HE.out.good.v1
      have v2 := HE.out.good.v2
      go_wp2_with fail
      refine (max_ok N A c s t _ (h.on hB2') HE0.out).mono ?_
      rintro e w3 ⟨val, f, seen, arc, back, rk, cnt, A1, A2, hF, hR, hst, rfl, hb, k1, k2, k3, k4⟩
      have hB3 := box_on hB2 hb
      have hB3' := box_below hB3
      have HC := hid (certified_of HE.out hF hR hst)
      have HF := hid hF
      have HR := hid hR
      have HST := hid hst
      have hB5 : Below (w.heap.size + 1) (w.alloc (.cells #[.int .i64 N.V, .slice A N.n c, .int .i64 s, .int .i64 t] 48)) (w3.alloc (Obj.cells #[.int .i64 val, .slice A1 N.n N.n, .slice A2 N.V.toNat N.V.toNat] 39)) := hB3.alloc (by have := box_lt hB3; omega) _
      have K1 := k1.on ((Below.refl _ _).alloc (Nat.le_refl _) (Obj.cells #[.int .i64 val, .slice A1 N.n N.n, .slice A2 N.V.toNat N.V.toNat] 39))
      have K2 := k2.on ((Below.refl _ _).alloc (Nat.le_refl _) (Obj.cells #[.int .i64 val, .slice A1 N.n N.n, .slice A2 N.V.toNat N.V.toNat] 39))
      clear hb p0 p1 p2 p3 hB2 hB2' hF hR hst k1 k2 k3 k4
      have p0 := box_cell hB3 0 rfl
      have p1 := box_cell hB3 1 rfl
      have p2 := box_cell hB3 2 rfl
      have p3 := box_cell hB3 3 rfl
      have hlt3 := box_lt hB3
      go_wp2_with fail
      refine (refEnds_any N A c s t _ (h.on (box_below hB5))).mono ?_
      rintro e w4 ⟨rfl, hb⟩
      have hB4 := box_on hB5 hb
      have f0 : w4.cell? ⟨w3.heap.size, 0, none⟩ = some (.int .i64 val) := cellS hb (World.cell?_alloc_at _ _ _ _ rfl)
      have f1 : w4.cell? ⟨w3.heap.size, 1, none⟩ = some (.slice A1 N.n N.n) := cellS hb (World.cell?_alloc_at _ _ _ _ rfl)
      have f2 : w4.cell? ⟨w3.heap.size, 2, none⟩ = some (.slice A2 N.V.toNat N.V.toNat) := cellS hb (World.cell?_alloc_at _ _ _ _ rfl)
      replace K1 := K1.on hb
      replace K2 := K2.on hb
      clear hb p0 p1 p2 p3 hB5 hB3 hB3'
      have p0 := box_cell hB4 0 rfl
      have p1 := box_cell hB4 1 rfl
      have p2 := box_cell hB4 2 rfl
      have p3 := box_cell hB4 3 rfl
      have he2 : N.endsE s t = 0 := HE0.out
      go_wp2_with fail
      clear he2
      refine (accept_any N A A1 A2 c N.n N.n N.V.toNat N.V.toNat s t val f seen w4 (h.on (box_below hB4)) K1 K2).mono ?_
      rintro e w5 ⟨⟨x, hx, rfl⟩, hb⟩
      obtain rfl : x = 0 := hx.zero.2 ⟨HE0.out, HC.out⟩
      have hB6 := box_on hB4 hb
      replace f0 := cellS hb f0
      replace f1 := cellS hb f1
      replace f2 := cellS hb f2
      replace K2 := K2.on hb
      clear hb p0 p1 p2 p3 hB4 hx K1
      have p0 := box_cell hB6 0 rfl
      have p1 := box_cell hB6 1 rfl
      have p2 := box_cell hB6 2 rfl
      have p3 := box_cell hB6 3 rfl
      go_wp2_with fail
      refine (refMax_any N A c s t w5 (h.on (box_below hB6)) HE.out).mono ?_
      rintro e w6 ⟨val', f', seen', arc', back', rk', cnt', A3, A4, hF', hR', hst', rfl, hb, j1, j2, j3, j4⟩
      obtain ⟨hv, hs⟩ := reached_same HE.out HF.out hF' HR.out hR' HST.out hst'
      obtain rfl : seen = seen' := funext hs
      subst hv
      have hB7 := box_on hB6 hb
      replace f0 := cellS hb f0
      replace f1 := cellS hb f1
      replace f2 := cellS hb f2
      replace K2 := K2.on hb
      clear hb p0 p1 p2 p3 hB6 hF' hR' hst' hs j1 j3 j4
      have hB8 : Below (w.heap.size + 1) (w.alloc (.cells #[.int .i64 N.V, .slice A N.n c, .int .i64 s, .int .i64 t] 48)) (w6.alloc (Obj.cells #[.int .i64 val, .slice A3 N.n N.n, .slice A4 N.V.toNat N.V.toNat] 39)) := hB7.alloc (by have := box_lt hB7; omega) _
      go_wp2
      go_loopg [7] N.V.toNat (fun n iv wx => ∃ k : Nat, k ≤ N.V.toNat ∧ N.V.toNat ≤ k + n ∧ iv = .int .i64 (k : Nat) ∧ Below (w6.alloc (Obj.cells #[.int .i64 val, .slice A3 N.n N.n, .slice A4 N.V.toNat N.V.toNat] 39)).heap.size (w6.alloc (Obj.cells #[.int .i64 val, .slice A3 N.n N.n, .slice A4 N.V.toNat N.V.toNat] 39)) wx)
      case atStart => exact ⟨0, by omega, by omega, rfl, Below.refl _ _⟩
      case round =>
        obtain ⟨k, hk, hkn, rfl, hX⟩ := hrel
        have hB9 := box_on hB8 hX
        have p0 := box_cell hB9 0 rfl
        have g0 : wr.cell? ⟨w6.heap.size, 0, none⟩ = some (.int .i64 val) := cellS hX (World.cell?_alloc_at _ _ _ _ rfl)
        have g2 : wr.cell? ⟨w6.heap.size, 2, none⟩ = some (.slice A4 N.V.toNat N.V.toNat) := cellS hX (World.cell?_alloc_at _ _ _ _ rfl)
        have e0 := cellS hX (cellS (below_one w6 (Obj.cells #[.int .i64 val, .slice A3 N.n N.n, .slice A4 N.V.toNat N.V.toNat] 39)) f0)
        have e2 := cellS hX (cellS (below_one w6 (Obj.cells #[.int .i64 val, .slice A3 N.n N.n, .slice A4 N.V.toNat N.V.toNat] 39)) f2)
        by_cases hkV : (k : Int) < N.V
        · have hkV2 : k < N.V.toNat := by omega
          have hk3 : (k : Int) < (N.V.toNat : Int) := by omega
          have hk4 : (k : Int) < max N.V 0 := by omega
          obtain ⟨ba, oa, rfl, hba, s1⟩ := ((K2.on (below_one w6 (Obj.cells #[.int .i64 val, .slice A3 N.n N.n, .slice A4 N.V.toNat N.V.toNat] 39))).on hX).at hkV2
          obtain ⟨bc, oc, rfl, hbc, s2⟩ := ((j2.on (below_one w6 (Obj.cells #[.int .i64 val, .slice A3 N.n N.n, .slice A4 N.V.toNat N.V.toNat] 39))).on hX).at hkV2
          have hk5 : (0 : Int) ≤ (k : Int) := by omega
          go_wp2
          go_quiet (fail)
          go_wp2
          go_roundg (gk - 1)
          case measure => omega
          case rel => exact ⟨k + 1, by omega, by omega, by go_num, below_drewN hX _⟩
        · obtain rfl : k = N.V.toNat := by omega
          have hBe := box_below hB9
          go_wp2
          go_ret
          exact ⟨rfl, hBe⟩
    · have he' : (N.endsE s t != 0) = true := by simpa using he
      have HE := hid he
      clear he
      go_wp2_with fail
      refine (max_err N A c s t _ (h.on hB2') HE.out).mono ?_
      rintro e w3 ⟨rfl, hb⟩
      have hB3 := box_on hB2 hb
      have hB3' := box_below hB3
      have hlt := box_lt hB3
      clear hb p0 p1 p2 p3 hB2 hB2'
      have p0 := box_cell hB3 0 rfl
      have p1 := box_cell hB3 1 rfl
      have p2 := box_cell hB3 2 rfl
      have p3 := box_cell hB3 3 rfl
      go_wp2_with fail
      refine (refEnds_any N A c s t _ (h.on (onS hB3' ((Below.refl _ _).alloc (Nat.le_refl _) _)))).mono ?_
      rintro e w4 ⟨rfl, hb⟩
      have f0 : w4.cell? ⟨w3.heap.size, 0, none⟩ = some (.int .i64 0) := cellS hb (World.cell?_alloc_at _ _ _ _ rfl)
      have f1 : w4.cell? ⟨w3.heap.size, 1, none⟩ = some (.slice none 0 0) := cellS hb (World.cell?_alloc_at _ _ _ _ rfl)
      have f2 : w4.cell? ⟨w3.heap.size, 2, none⟩ = some (.slice none 0 0) := cellS hb (World.cell?_alloc_at _ _ _ _ rfl)
      have hB4 := onS (onS hB3' ((Below.refl _ _).alloc (Nat.le_refl _) _)) hb
      clear hb
      go_wp2_with fail
      refine (alive_any _).mono ?_
      rintro e w5 ⟨rfl, hb⟩
      have hB5 := onS hB4 hb
      clear hb
      go_wp2
      go_ret
      exact ⟨rfl, hB5⟩

theorem flowMaximal_law {H : Type} {enc : TypeId × Value → H} {w : World} {cs : Array Value} (h : Sees enc Try.prog w 0 (fun _ => true) true 48 cs.toList) :
    Calls Try.prog 9 #[.agg cs] w fun e w' => e = .returned (.bool true) ∧ Below w.heap.size w w' := by
  obtain ⟨cs⟩ := cs
  obtain ⟨N, A, c, s, t, rfl, hN, _, _, ⟨_, _⟩, _⟩ := sees_ends h
  exact flowMaximal_any N A c s t w hN
end Go.Proofs.Ythdeldaeghhfgaa
