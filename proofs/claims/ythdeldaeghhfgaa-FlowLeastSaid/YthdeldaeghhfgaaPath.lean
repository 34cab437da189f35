/- codewrightref51.path: the steps from s to t, the last one first. -/
import Derived.Test.YthdeldaeghhfgaaReach
namespace Go.Proofs.Ythdeldaeghhfgaa
open Go.RowKit

/-- What path leaves. -/
def PathPost (N : Net) (f : Nat → Int) (s t : Nat) (rk : Nat → Nat) (w : World) (e : Ending) (w' : World) : Prop :=
  ∃ len pa pb A c, Path N f rk t len pa pb s ∧ len ≤ 256 ∧ e = .returned (.slice A len c) ∧ Below w.heap.size w w' ∧ Ints w' w'.heap.size A len (fun j => codeOf (pa j, pb j)) ∧ ∀ a, A = some a → w.heap.size ≤ a.block

theorem cellAl {X : World} {p : Addr} {v : Value} {o : Obj} (h : X.cell? p = some v) : (X.alloc o).cell? p = some v := (World.cell?_alloc_lt X o p (World.block_lt_of_cell? X p h)).trans h

theorem below_one (X : World) (o : Obj) : Below X.heap.size X (X.alloc o) := (Below.refl _ _).alloc (Nat.le_refl _) _

set_option maxRecDepth 100000 in
set_option maxHeartbeats 8000000 in
theorem path_any (N : Net) (A SA : Option Addr) (c d : Nat) (t : Int) (s : Nat) (f : Nat → Int) (seen : Nat → Bool) (arc : Nat → Nat) (back : Nat → Bool) (rk : Nat → Nat) (cnt : Nat) (w : World) (h : N.Reads w w.heap.size A) (hg : N.Good) (hR : Reached N f s seen arc back rk cnt)
    (hS : Ints w w.heap.size SA N.V.toNat (stepOf s seen arc back)) (t0 : 0 ≤ t) (hst : seen t.toNat = true) :
    Calls Try.prog 42 #[.agg #[.int .i64 N.V, .slice A N.n c], .slice SA N.V.toNat d, .int .i64 t] w (PathPost N f s t.toNat rk w) := by
  have hn := hg.n2
  have v1 := hg.v1
  have v2 := hg.v2
  obtain ⟨i0, qi0, qz0, qz1, qz2⟩ := info_parts Try.infoInt
  have hrkt := (hR.found.lt _ hst).2
  have hfew := hR.few
  go_enter Try.func42, Try.ntmps42
  go_wp2
  go_loopg [7, 8] (rk t.toNat) (fun n ov vv wr => ∃ len pa pb, ∃ v : Nat, vv = .int .i64 (v : Nat) ∧ Hid (seen v = true) ∧ Path N f rk t.toNat len pa pb v ∧ rk v ≤ n ∧ Own wr (w.heap.size + 1) 3 1 ov len (fun j _ => .int .i64 (codeOf (pa j, pb j))) ∧
      Below (w.heap.size + 1) (w.alloc (Obj.cells #[Value.int IntKind.i64 N.V, Value.slice A N.n c] 24)) wr)
  case atStart =>
    refine ⟨0, fun _ => 0, fun _ => false, t.toNat, by rw [show ((t.toNat : Nat) : Int) = t by omega], hst, path_start _ _ _ _ _ _, Nat.le_refl _, ?_, (Below.refl _ _).alloc (by simp) _⟩
    exact .inr ⟨_, 0, 0, #[], rfl, by simp, heap_new_at (by simp), Nat.le_refl _, by unfold maxLen; omega, by simp, fun i hi => absurd hi (by omega)⟩
  case round =>
    obtain ⟨len, pa, pb, v, rfl, hsv, hP, hrk, hO, hB⟩ := hrel
    obtain ⟨hvV, hrv⟩ := hR.found.lt _ hsv.out
    have hB' := box_below hB
    obtain ⟨sb, so, rfl, hsb, s0w⟩ := hS.at hvV
    have s0 := (hB'.cell (p := ⟨sb, so + v, none⟩) hsb).trans s0w
    have hvV' : (v : Int) < (N.V.toNat : Int) := by omega
    by_cases e : v = s
    · subst e
      have hsv1 : stepOf v seen arc back v = -1 := by simp [stepOf]
      rw [hsv1] at s0
      obtain ⟨oa, oc, rfl⟩ := hO.shape
      have hPl := hP.few
      have hI := hO.rd rfl
      have hO1 := hid fun a e => (hO.lt a e).1
      clear hsv1
      go_wp2
      go_ret
      exact ⟨len, pa, pb, _, _, hP, by omega, rfl, hB', hI, fun a e => by subst e; have := hO1.out a.block rfl; omega⟩
    · have hsv2 : stepOf s seen arc back v = codeOf (arc v, back v) := by simp [stepOf, e, hsv.out]
      obtain ⟨b1, b2, b3, b4, b5⟩ := hR.found.by_ v hsv.out e
      rw [hsv2] at s0 s0w
      have HP := hid (path_step hP b1 b3 b2 b5)
      obtain ⟨ba, oa, rfl, hba, a0, a1, a2⟩ := h.at b1
      obtain ⟨g0, g1, g2, g3, g4, g5⟩ := hg.arc _ b1
      have hi' : ((arc v : Nat) : Int) < (N.n : Int) := by omega
      have hPl := hP.few
      obtain ⟨i, hi⟩ : ∃ i, i = arc v := ⟨_, rfl⟩
      obtain ⟨b, hb⟩ : ∃ b, b = back v := ⟨_, rfl⟩
      rw [← hi, ← hb] at s0 s0w HP b4 b5
      rw [← hi] at a0 a1 a2 hi' b1 g0 g1 g2 g3 g4 g5
      clear hsv2 hi hb b2 b3
      have hC2 := codeOf_half i b
      have hCm := codeOf_mod i b
      obtain ⟨hC0, hC1⟩ := codeOf_bd i b
      have HB4 := hid b4
      obtain ⟨C, hC⟩ : ∃ C, C = codeOf (i, b) := ⟨_, rfl⟩
      rw [← hC] at s0 s0w hC2 hCm hC0 hC1
      have HO1 : Own wr (w.heap.size + 1) 3 1 u7 len (fun j _ => .int .i64 (codeOf ((if j = len then i else pa j), (if j = len then b else pb j)))) := hO.congr fun j hj _ _ => by rw [if_neg (by omega), if_neg (by omega)]
      have N1 : Hid (∀ k, k < 1 → (wr.alloc (Obj.cells #[Value.int IntKind.i64 C] 3)).cell? ((⟨wr.heap.size, 0, none⟩ : Addr).add k) = some (.int .i64 (codeOf ((if len = len then i else pa len), (if len = len then b else pb len))))) := fun k hk => by
        obtain rfl : k = 0 := by omega
        rw [if_pos rfl, if_pos rfl, ← hC]
        exact World.cell?_alloc_at _ _ _ _ rfl
      have N2 : Hid (∀ k, k < 1 → (Value.int .i64 (codeOf ((if len = len then i else pa len), (if len = len then b else pb len)))).oneCell' = true) := fun _ _ => rfl
      have n3 : Hid (len + 1 ≤ maxLen) := by show _ ≤ _; unfold maxLen; omega
      have n4 : Hid ((len + 1) * 8 ≤ 140737488355328) := by show _ ≤ _; omega
      have hlt := box_lt hB
      have hQb : Hid (∀ k, u7.ownBlock = some k → w.heap.size + 1 ≤ k ∧ k < wr.heap.size) := fun k e => hO.lt k e
      have hBW := hid (hB.alloc (by omega) (Obj.cells #[Value.int IntKind.i64 C] 3))
      have hct : C.tdiv 2 = (i : Int) := by rw [Int.tdiv_eq_ediv_of_nonneg hC0]; exact hC2
      have HR := hid hrk
      have HE := hid e
      have HB5 := hid b5
      have HS := hid (cellS (p := ⟨sb, so + v, none⟩) (below_one wr (Obj.cells #[Value.int IntKind.i64 C] 3)) s0)
      clear hC hP hO b4 b5 hsv e hrk
      go_wp2_with (first | (at_builtin; (refine wpList_append_one _ rfl (.tmp 17) (.tmp 22) _ rfl (w.heap.size + 1) 3 i0 _ 1 8 Try.underlying33 qi0 qz0 qz1 qz2 rfl (by omega) u7 len _ rfl (HO1.alloc _) ⟨wr.heap.size, 0, none⟩ 1 rfl N1.out N2.out n3.out n4.out (by simp; omega) ?_); intro v' w3 hown3 hg3 hat3))
      have hB3 : Below (w.heap.size + 1) (w.alloc (Obj.cells #[Value.int IntKind.i64 N.V, Value.slice (some ⟨ba, oa, none⟩) N.n c] 24)) w3 := hBW.out.grown hg3 (by simp; omega) (fun q e => (hQb.out q e).1)
      have hB3' := box_below hB3
      have p1 := box_cell hB3 1 rfl
      have s3 := (hB3'.cell (p := ⟨sb, so + v, none⟩) hsb).trans s0w
      have a3 := (hB3'.cell (p := ⟨ba, oa + i * 3, none⟩) hba).trans a0
      have a4 := (hB3'.cell (p := ⟨ba, oa + i * 3 + 1, none⟩) hba).trans a1
      have a5 := (hB3'.cell (p := ⟨ba, oa + i * 3 + 2, none⟩) hba).trans a2
      have hz := box_lt hB3
      have hx0 : (0 : Int) ≤ (v : Int) := by omega
      have hx1 : (v : Int) < max N.V 0 := by omega
      have hx2 : (0 : Int) ≤ (i : Int) := by omega
      have hwi : IntKind.i64.wrap (i : Int) = (i : Int) := IntWalk.i64_in _ (by omega)
      clear s0 s0w a0 a1 a2 hB hB'
      go_wp2_with fail
      go_region_held3 (fun w' => w'.cell? ⟨w.heap.size, 1, none⟩ = some (.slice (some ⟨ba, oa, none⟩) N.n c) ∧ w'.cell? ⟨sb, so + v, none⟩ = some (.int .i64 C) ∧ w'.cell? ⟨ba, oa + i * 3, none⟩ = some (.int .i64 (N.fr i)) ∧ w'.cell? ⟨ba, oa + i * 3 + 1, none⟩ = some (.int .i64 (N.to i)) ∧ w'.cell? ⟨ba, oa + i * 3 + 2, none⟩ = some (.int .i64 (N.cp i)))
        (first | exact ⟨p1, s3, a3, a4, a5⟩ | exact ⟨cellAl p1, cellAl s3, cellAl a3, cellAl a4, cellAl a5⟩) (fail)
      all_goals
        cases b
        · simp only [Bool.false_eq_true, if_false] at hCm
          have HC : Hid ((((N.src i false : Nat)) : Int) = N.fr i) := by show _ = _; simp only [Net.src, Bool.false_eq_true, if_false]; omega
          go_wp2
          go_roundg (rk (N.src i false))
          case measure => have := HB5.out; have := HR.out; omega
          case rel => exact ⟨len + 1, _, _, _, by rw [HC.out], HB4, HP.out, Nat.le_refl _, (hown3.alloc _).drew, (hB3.alloc (by omega) _).drew⟩
        · simp only [if_true] at hCm
          have HC : Hid ((((N.src i true : Nat)) : Int) = N.to i) := by show _ = _; simp only [Net.src, if_true]; omega
          go_wp2
          go_roundg (rk (N.src i true))
          case measure => have := HB5.out; have := HR.out; omega
          case rel => exact ⟨len + 1, _, _, _, by rw [HC.out], HB4, HP.out, Nat.le_refl _, (hown3.alloc _).drew, (hB3.alloc (by omega) _).drew⟩
end Go.Proofs.Ythdeldaeghhfgaa
