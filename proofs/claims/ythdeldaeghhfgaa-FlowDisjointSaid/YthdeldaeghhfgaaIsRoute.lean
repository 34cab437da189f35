/- codewrightref51.IsRoute at a route that is right. -/
import Derived.Test.YthdeldaeghhfgaaRouteMem
import Derived.Test.YthdeldaeghhfgaaTab
import Derived.Deep.LoopGhost
import Derived.Deep.QuietTactic
namespace Go.Proofs.Ythdeldaeghhfgaa
open Go.RowKit

/-- The vertices that the first k arcs leave. -/
def metB (N : Net) (ra : Nat → Nat) : Nat → Nat → Bool
  | 0, _ => false
  | k + 1, v => if v = (N.fr (ra k)).toNat then true else metB N ra k v
theorem metB_no {N : Net} {ra : Nat → Nat} {v : Nat} : ∀ k, (∀ i, i < k → (N.fr (ra i)).toNat ≠ v) → metB N ra k v = false := by
  intro k
  induction k with
  | zero => exact fun _ => rfl
  | succ k ih =>
    intro h
    show (if _ then _ else _) = _
    rw [if_neg (fun e => h k (by omega) e.symm)]
    exact ih fun i hi => h i (by omega)

set_option maxRecDepth 100000 in
set_option maxHeartbeats 8000000 in
theorem isRoute_any (N : Net) (A RT : Option Addr) (c rl rc : Nat) (s t am : Int) (ra : Nat → Nat) (path : Bool) (w : World) (h : N.Reads w w.heap.size A) (hr : Ints w w.heap.size RT rl (fun i => (ra i : Nat))) (he : N.Ends s t) (hok : RouteOk N s t ra rl path) (ham : 1 ≤ am) :
    Calls Try.prog 31 #[.agg #[.int .i64 N.V, .slice A N.n c], .int .i64 s, .int .i64 t, .agg #[.slice RT rl rc, .int .i64 am]] w (fun e w' => e = .returned (.tuple #[.bool true, .bool path]) ∧ Below w.heap.size w w') := by
  have HEN := hid he
  have HOK := hid hok
  have hn := he.good.n2
  have v1 := he.good.v1
  have v2 := he.good.v2
  have hne := he.ne
  have ht0 := he.t0
  have ht1 := he.t1
  have hrl := hok.1
  have hrlV := hok.few he.good
  have hrz : ((rl : Int) == 0) = false := by simp; omega
  have hmk := fun W => run_makeI (P := Try.prog) 28 4 _ 1 Try.underlying28 Try.infoBool rfl N.V (by omega) (by omega) (by omega) W
  clear he hok
  go_enter Try.func31, Try.ntmps31
  go_wp2
  go_loopg [10] rl (fun gg iv wx => ∃ j : Nat, iv = .int .i64 (j : Nat) ∧ j ≤ rl ∧ rl ≤ j + gg ∧ Below (w.heap.size + 2) ((w.alloc (Obj.cells #[Value.int IntKind.i64 N.V, Value.slice A N.n c] 24)).alloc (Obj.cells #[Value.slice RT rl rc, .int .i64 am] 63)) wx)
  case atStart => exact ⟨0, rfl, by omega, by omega, Below.refl _ _⟩
  case round =>
    obtain ⟨j, rfl, hj, hjg, hB⟩ := hrel
    have hB1 := box2_one hB
    have p0 := box_cell hB1 0 rfl
    have p1 := box_cell hB1 1 rfl
    have q0 : wr.cell? ⟨w.heap.size + 1, 0, none⟩ = some (.slice RT rl rc) := (box2_two hB).cell (i := 0) (by simp)
    have hB' := box_below hB1
    have hj0 : (0 : Int) ≤ (j : Int) := by omega
    by_cases hlt : j < rl
    · have hlt' : (j : Int) < (rl : Int) := by omega
      obtain ⟨rb, ro, hRT, hrb, x0⟩ := (hr.on hB').at hlt
      have hrj := HOK.out.2.1 j hlt
      obtain ⟨rj, hrje⟩ : ∃ r, r = ra j := ⟨_, rfl⟩
      rw [← hrje] at x0 hrj
      have HRJ := hid hrje
      have hrj0 : (0 : Int) ≤ (rj : Int) := by omega
      have hrj1 : ¬ (rj : Int) < 0 := by omega
      have hrj2 : (rj : Int) < (N.n : Int) := by omega
      clear hrje hmk
      by_cases hz : j = 0
      · subst hz
        subst hRT
        rw [Nat.add_zero] at x0
        go_wp2
        go_quiet (fail)
        go_wp2
        go_quiet (fail)
        go_wp2
        go_roundg (gk - 1)
        case measure => omega
        case rel => exact ⟨1, by go_num, by omega, by omega, below_drewN hB _⟩
      · have hpos : (0 : Int) < (j : Int) := by omega
        have hpos' : 0 < j := by omega
        have hlp : j - 1 < rl := by omega
        obtain ⟨rb', ro', hRT', hrb', y0⟩ := (hr.on hB').at hlp
        rw [hRT] at hRT'
        injection hRT' with e1
        injection e1 with e1 e2
        subst e1 e2 hRT
        have hri := HOK.out.2.1 (j - 1) hlp
        have hto := HOK.out.2.2.1 (j - 1) (by omega)
        rw [show j - 1 + 1 = j by omega, ← HRJ.out] at hto
        obtain ⟨ri, hrie⟩ : ∃ r, r = ra (j - 1) := ⟨_, rfl⟩
        rw [← hrie] at y0 hri hto
        have hri0 : (0 : Int) ≤ (ri : Int) := by omega
        have hri2 : (ri : Int) < (N.n : Int) := by omega
        have i1 : ((j : Int) - 1).toNat = j - 1 := by omega
        have i2 : (0 : Int) ≤ (j : Int) - 1 := by omega
        have i3 : (j : Int) - 1 < (rl : Int) := by omega
        obtain ⟨ba, oa, hA, hba, a0, a1, a2⟩ := (h.on hB').at hri
        obtain ⟨ba', oa', hA', hba', b0, b1, b2⟩ := (h.on hB').at hrj
        rw [hA] at hA'
        injection hA' with e1
        injection e1 with e1 e2
        subst e1 e2 hA
        have hnb : (N.to ri != N.fr rj) = false := by rw [hto]; simp
        clear hrie hto
        go_wp2
        go_quiet (fail)
        go_wp2
        go_quiet (fail)
        go_wp2
        go_roundg (gk - 1)
        case measure => omega
        case rel => exact ⟨j + 1, by go_num, by omega, by omega, below_drewN hB _⟩
    · obtain rfl : j = rl := by omega
      have hl0 : 0 < j := by omega
      have hlp : j - 1 < j := by omega
      obtain ⟨rb, ro, hRT, hrb, x0⟩ := (hr.on hB').at hl0
      obtain ⟨rb', ro', hRT', hrb', y0⟩ := (hr.on hB').at hlp
      rw [hRT] at hRT'
      injection hRT' with e1
      injection e1 with e1 e2
      subst e1 e2 hRT
      rw [Nat.add_zero] at x0
      have hr0 := HOK.out.2.1 0 hl0
      have hri := HOK.out.2.1 (j - 1) hlp
      obtain ⟨r0, hr0e⟩ : ∃ r, r = ra 0 := ⟨_, rfl⟩
      obtain ⟨ri, hrie⟩ : ∃ r, r = ra (j - 1) := ⟨_, rfl⟩
      rw [← hrie] at y0 hri
      rw [← hr0e] at x0 hr0
      have HR0 := hid hr0e
      have HRI := hid hrie
      have hr00 : (0 : Int) ≤ (r0 : Int) := by omega
      have hr02 : (r0 : Int) < (N.n : Int) := by omega
      have hri0 : (0 : Int) ≤ (ri : Int) := by omega
      have hri2 : (ri : Int) < (N.n : Int) := by omega
      have i1 : ((j : Int) - 1).toNat = j - 1 := by omega
      have i2 : (0 : Int) ≤ (j : Int) - 1 := by omega
      have i3 : (j : Int) - 1 < (j : Int) := by omega
      have i4 : (0 : Int) < (j : Int) := by omega
      obtain ⟨ba, oa, hA, hba, a0, a1, a2⟩ := (h.on hB').at hri
      obtain ⟨ba', oa', hA', hba', b0, b1, b2⟩ := (h.on hB').at hr0
      rw [hA] at hA'
      injection hA' with e1
      injection e1 with e1 e2
      subst e1 e2 hA
      clear hrie hr0e
      go_wp2
      go_quiet (fail)
      go_wp2
      go_quiet (fail)
      go_wp2
      have HHO := hid (h.on hB')
      clear a0 a1 a2 b0 b1 b2 x0 y0 p0 p1 q0 i1 i2 i3
      have hrown := fun n => World.rowIs_made (wr.drewN n) (.bool false) N.V.toNat 4
      have hBn := fun n o => (below_drewN hB n).alloc (o := o) (by have := hB.size; simp at this ⊢; omega)
      have hszw : w.heap.size + 2 ≤ wr.heap.size := by have := hB.size; simp at this; omega
      simp only [World.heap_drewN] at hrown
      obtain ⟨mb, hmb⟩ : ∃ b, b = wr.heap.size := ⟨_, rfl⟩
      rw [← hmb] at hszw hrown ⊢
      clear hmb
      go_loopg [14] j (fun gg iv wx => ∃ k : Nat, iv = .int .i64 (k : Nat) ∧ k ≤ j ∧ j ≤ k + gg ∧ Below (w.heap.size + 2) ((w.alloc (Obj.cells #[Value.int IntKind.i64 N.V, Value.slice (some ⟨ba, oa, none⟩) N.n c] 24)).alloc (Obj.cells #[Value.slice (some ⟨rb, ro, none⟩) j rc, .int .i64 am] 63)) wx ∧
          wx.rowIs mb 4 N.V.toNat (fun v => .bool (metB N ra k v)))
      case atStart => exact ⟨0, rfl, by omega, by omega, hBn _ _, hrown _⟩
      case round =>
        obtain ⟨k, rfl, hk, hkg, hB2, hrow⟩ := hrel
        clear hrown hBn hB hB' HHO hmk
        have hB1 := box2_one hB2
        have p1 := box_cell hB1 1 rfl
        have q0 : wr.cell? ⟨w.heap.size + 1, 0, none⟩ = some (.slice (some ⟨rb, ro, none⟩) j rc) := (box2_two hB2).cell (i := 0) (by simp)
        have hB' := box_below hB1
        have hk0 : (0 : Int) ≤ (k : Int) := by omega
        by_cases hlt : k < j
        · have hlt' : (k : Int) < (j : Int) := by omega
          obtain ⟨rb', ro', hRT, hrb2, x0⟩ := (hr.on hB').at hlt
          injection hRT with e1
          injection e1 with e1 e2
          subst e1 e2
          have hrk := HOK.out.2.1 k hlt
          have hno := metB_no (N := N) (ra := ra) (v := (N.fr (ra k)).toNat) k fun i hi e => by
            have h1 := HEN.out.good.arc _ (HOK.out.2.1 i (by omega))
            have h2 := HEN.out.good.arc _ hrk
            exact HOK.out.2.2.2.1 i k hi hlt (by omega)
          obtain ⟨rk, hrke⟩ : ∃ r, r = ra k := ⟨_, rfl⟩
          rw [← hrke] at x0 hrk hno
          have HRK := hid hrke
          obtain ⟨g0, g1, g2, g3, g4, g5⟩ := HEN.out.good.arc rk hrk
          obtain ⟨ba', oa', hA, hba2, a0, a1, a2⟩ := (h.on hB').at hrk
          injection hA with e1
          injection e1 with e1 e2
          subst e1 e2
          have hrk0 : (0 : Int) ≤ (rk : Int) := by omega
          have hrk2 : (rk : Int) < (N.n : Int) := by omega
          have g1' : N.fr rk < (N.V.toNat : Int) := by omega
          have g1'' : N.fr rk < max N.V 0 := by omega
          have c0 : wr.cell? ⟨mb, (N.fr rk).toNat, none⟩ = some (.bool false) := by rw [hrow.cell (by omega), hno]
          have z0 : wr.frozen? ⟨mb, (N.fr rk).toNat, none⟩ = false := hrow.frozen _
          have hset := hid fun n => ((rowIs_drewN hrow n).set (N.fr rk).toNat (.bool true)).congr (g := fun v => .bool (metB N ra (k + 1) v)) fun v hv => by
            show (if v = (N.fr rk).toNat then _ else _) = Value.bool (if v = (N.fr (ra k)).toNat then true else metB N ra k v)
            rw [← hrke]
            by_cases e : v = (N.fr rk).toNat
            · rw [if_pos e, if_pos e]
            · rw [if_neg e, if_neg e]
          have HB2 := hid hB2
          clear hrke hno hrow
          go_wp2
          go_quiet (fail)
          go_wp2
          go_roundg (gk - 1)
          case measure => omega
          case rel => exact ⟨k + 1, by go_num, by omega, by omega, (below_drewN HB2.out _).setCell (by show _ ≤ mb; omega) _, hset.out _⟩
        · obtain rfl : k = j := by omega
          rcases HOK.out.2.2.2.2 with ⟨rfl, hto⟩ | ⟨rfl, hs, hto, hnt⟩
          · rw [← HRI.out, ← HR0.out] at hto
            have hb : (N.fr r0 == N.to ri) = true := by rw [hto]; simp
            clear hto
            go_wp2
            go_ret2
            exact ⟨rfl, hB'⟩
          · rw [← HRI.out] at hto
            rw [← HR0.out] at hs
            have hno := metB_no (N := N) (ra := ra) (v := (N.to ri).toNat) k fun i hi e => by
              have h1 := HEN.out.good.arc _ (HOK.out.2.1 i hi)
              exact hnt i hi (by omega)
            have c0 : wr.cell? ⟨mb, (N.to ri).toNat, none⟩ = some (.bool false) := by rw [hrow.cell (by omega), hno]
            have hb : (N.fr r0 == N.to ri) = false := by rw [hto, hs]; simpa using hne
            have hbs : (N.fr r0 == s) = true := by simpa using hs
            have hbt : (N.to ri == t) = true := by simpa using hto
            have g2 : 0 ≤ N.to ri := by omega
            have g3 : N.to ri < (N.V.toNat : Int) := by omega
            have g4 : N.to ri < max N.V 0 := by omega
            clear hs hto hno hnt hrow
            go_wp2
            go_ret2
            exact ⟨rfl, hB'⟩
end Go.Proofs.Ythdeldaeghhfgaa
