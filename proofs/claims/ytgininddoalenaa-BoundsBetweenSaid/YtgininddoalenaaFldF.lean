/- codewrightref04: divides. -/
import Derived.Test.YtgininddoalenaaFldLaw
namespace Go.Proofs.Ytgininddoalenaa
open Go.RowKit

/-- A function that returns whether p holds. -/
def IffPost (p : Prop) (w : World) (e : Ending) (w' : World) : Prop := ∃ v : Bool, e = .returned (.bool v) ∧ (v = true ↔ p) ∧ Below w.heap.size w w'
theorem iffPost_t {p : Prop} {w w' : World} (h : p) (hB : Below w.heap.size w w') : IffPost p w (.returned (.bool true)) w' := ⟨true, rfl, ⟨fun _ => h, fun _ => rfl⟩, hB⟩
theorem iffPost_f {p : Prop} {w w' : World} (h : ¬ p) (hB : Below w.heap.size w w') : IffPost p w (.returned (.bool false)) w' := ⟨false, rfl, ⟨(fun h => by cases h), fun h' => absurd h' h⟩, hB⟩
/-- Integers in a slice of the call's own. -/
def OwnI (w : World) (base g o n c : Nat) (r : Nat → Nat) : Prop := Own w base 3 1 (.slice (some ⟨g, o, none⟩) n c) n (fun t _ => .int .i64 (r t : Nat))
theorem OwnI.cell {w : World} {base g o n c i : Nat} {r : Nat → Nat} (h : OwnI w base g o n c r) (hi : i < n) : w.cell? ⟨g, o + i, none⟩ = some (.int .i64 (r i : Nat)) := by
  obtain ⟨g', o', cap', hv, _, _, _, _, hc⟩ := Own.form h (by omega)
  injection hv with hv
  injection hv with hv
  injection hv with h1 h2
  subst h1 h2
  simpa using hc i hi 0 (by omega)
theorem OwnI.set {w : World} {base g o n c i : Nat} {r : Nat → Nat} (h : OwnI w base g o n c r) (hi : i < n) (z : Nat) : OwnI (w.setCell ⟨g, o + i, none⟩ (.int .i64 (z : Int))) base g o n c (fun t => if t = i then z else r t) := by
  have := Own.set h hi (show 0 < 1 by omega) (.int .i64 (z : Int))
  rw [Nat.mul_one, Nat.add_zero] at this
  refine Own.congr this fun t ht j hj => ?_
  show _ = Value.int .i64 ((if t = i then z else r t : Nat) : Int)
  by_cases e : t = i
  · rw [if_pos ⟨e, by omega⟩, if_pos e]
  · rw [if_neg (fun c => e c.1), if_neg e]
theorem OwnI.congr {w : World} {base g o n c : Nat} {r r' : Nat → Nat} (h : OwnI w base g o n c r) (e : ∀ i, i < n → r i = r' i) : OwnI w base g o n c r' := Own.congr h fun i hi _ _ => by rw [e i hi]
theorem OwnI.base {w : World} {base g o n c : Nat} {r : Nat → Nat} (h : OwnI w base g o n c r) : base ≤ g ∧ g < w.heap.size := Own.lt h g rfl
theorem OwnI.drew {w : World} {base g o n c : Nat} {r : Nat → Nat} (h : OwnI w base g o n c r) : OwnI w.drew base g o n c r := h
theorem OwnI.fr {w : World} {base g o n c : Nat} {r : Nat → Nat} (h : OwnI w base g o n c r) (k : Nat) : w.frozen? ⟨g, k, none⟩ = false := Own.frozen h k

set_option maxRecDepth 100000 in
set_option maxHeartbeats 16000000 in
theorem divides_any (P M d : Nat) (A L : Option Addr) (c cl : Nat) (m low : Nat → Nat) (w : World) (hP2 : 2 ≤ P) (hP : P ≤ 256) (hd1 : 1 ≤ d) (hdM : d ≤ M) (hM8 : M ≤ 8)
    (hm : IntsR w w.heap.size A M (fun i => (m i : Nat))) (hml : Hid (∀ i, i < M → m i < P)) (hl : IntsR w w.heap.size L d (fun i => (low i : Nat))) (hll : Hid (∀ i, i < d → low i < P)) :
    Calls Try.prog 103 #[.slice L d cl, .slice A M c, .int .i64 (P : Nat)] w (IffPost (DivB P M m d low) w) := by
  obtain ⟨i0, qi0, qz0, qz1, qz2⟩ := info_parts Try.infoInt
  have n3 : Hid (M ≤ maxLen) := by show _ ≤ _; unfold maxLen; omega
  have n4 : Hid (M * 8 ≤ 140737488355328) := by show _ ≤ _; omega
  have n5 : Hid (M + 1 ≤ maxLen) := by show _ ≤ _; unfold maxLen; omega
  have n6 : Hid ((M + 1) * 8 ≤ 140737488355328) := by show _ ≤ _; omega
  have hM0 : 0 < M := by omega
  have hmr : IntsR w w.heap.size A M (fun i => (modR M m i : Nat)) := hm.congr fun i hi => by unfold modR; rw [if_pos hi]
  have hrl : Hid (∀ t, modR M m t < P) := fun t => by
    show modR M m t < P
    unfold modR
    split
    · exact hml.out t (by assumption)
    · omega
  go_enter Try.func103, Try.ntmps103
  have hR1 : Hid (∀ o1, Rd (w.alloc o1) (w.alloc o1).heap.size A M 1 (fun i _ => .int .i64 (modR M m i : Nat))) := fun o1 => (Rd.alloc hmr (Nat.le_refl _) o1).mono (by simp)
  go_upto_region 3 with (first | (at_builtin; (refine wpList_append_copy_some rfl (.tmp 15) (.tmp 16) _ rfl 3 i0 _ 1 8 Try.underlying27 qi0 qz0 qz1 qz2 rfl (by omega) _ rfl A M c (fun i _ => .int .i64 (modR M m i : Nat)) rfl (hR1.out _) hM0 (fun _ _ _ _ => rfl) n3.out n4.out ?_); intro cap cur k1 k2 k3 k4))
  have hO1 := Own.new (w := w.alloc (Obj.cells #[] 3)) (base := w.heap.size) (e := 3) (by simp) k1 k2 k3 k4
  have hB1 := ((Below.refl w.heap.size w).alloc (Nat.le_refl _) (Obj.cells #[] 3)).alloc (by simp) (Obj.cells cur 3)
  obtain ⟨w1, hw1⟩ : ∃ W, W = ((w.alloc (Obj.cells #[] 3)).alloc (Obj.cells cur 3)).drew := ⟨_, rfl⟩
  obtain ⟨g1, hg1⟩ : ∃ g, g = w.heap.size + 1 := ⟨_, rfl⟩
  have hB1' : Below w.heap.size w w1 := by rw [hw1]; exact hB1.drew
  have hO1' : Own w1 w.heap.size 3 1 (.slice (some ⟨g1, 0, none⟩) M cap) M (fun i _ => .int .i64 (modR M m i : Nat)) := by rw [hw1, hg1]; simpa using hO1.drew
  try simp only [World.alloc_drew]
  rw [← hw1, ← hg1]
  clear hO1 hB1 hw1 hg1 k1 k2 k3 k4
  have hlt := hB1'.size
  have N1 : Hid (∀ j, j < 1 → (w1.alloc (Obj.cells #[Value.int IntKind.i64 1] 3)).cell? ((⟨w1.heap.size, 0, none⟩ : Addr).add j) = some (.int .i64 (modR M m M : Nat))) := fun j hj => by
    obtain rfl : j = 0 := by omega
    unfold modR
    rw [if_neg (by omega)]
    exact World.cell?_alloc_at _ _ _ _ rfl
  go_upto_region 4 with (first | (at_builtin; (refine wpList_append_one _ rfl (.tmp 18) (.tmp 19) _ rfl w.heap.size 3 i0 _ 1 8 Try.underlying27 qi0 qz0 qz1 qz2 rfl (by omega) _ M (fun i _ => .int .i64 (modR M m i : Nat)) rfl (hO1'.alloc _) ⟨w1.heap.size, 0, none⟩ 1 rfl N1.out (fun _ _ => rfl) n5.out n6.out (by simp; omega) ?_); intro v' w3 hown3 hg3 hat3))
  have hB3 : Below w.heap.size w w3 := (hB1'.alloc (by omega) _).grown hg3 (by simp; omega) (fun q e => (hO1'.lt q e).1)
  obtain ⟨g, o, cp, rfl, hgb, _⟩ := hown3.form (by omega)
  have hO : OwnI w3 w.heap.size g o (M + 1) cp (dOut P d low M (modR M m) 0) := hown3
  clear hown3 hg3 hat3 hO1' hB1' N1 hR1 hmr hlt n3 n4 n5 n6 qi0 qz0 qz1 qz2
  have hMi : (1 : Int) ≤ (M : Int) := by omega
  have hMi8 : (M : Int) ≤ 8 := by omega
  have hdi : (1 : Int) ≤ (d : Int) := by omega
  have hdi8 : (d : Int) ≤ (M : Int) := by omega
  go_wp2
  go_loopg [9, 10, 11] (M + 1 - d) (fun gg iv _ _ wx => ∃ s : Nat, iv = .int .i64 ((M : Int) - (s : Int)) ∧ s ≤ M + 1 - d ∧ M + 1 - d ≤ s + gg ∧ OwnI wx w.heap.size g o (M + 1) cp (dOut P d low M (modR M m) s) ∧ Below w.heap.size w wx)
  case atStart => exact ⟨0, by go_num, by omega, by omega, hO, hB3⟩
  case round =>
    clear hO hB3
    obtain ⟨s, rfl, hs, hsg, hO, hB⟩ := hrel
    by_cases hlt : s < M + 1 - d
    · obtain ⟨I, hI⟩ : ∃ I, I = M - s := ⟨_, rfl⟩
      have hiv : (M : Int) - (s : Int) = (I : Int) := by omega
      rw [hiv]
      have hId : d ≤ I := by omega
      have hIdi : (d : Int) ≤ (I : Int) := by omega
      have hIM : I ≤ M := by omega
      have hI8 : (I : Int) ≤ 8 := by omega
      have hI0 : (0 : Int) ≤ (I : Int) := by omega
      have hI1 : (I : Int) < (M : Int) + 1 := by omega
      have HI := hid hI
      have HIV := hid hiv
      clear hI hiv
      obtain ⟨R0, hR0⟩ : ∃ R, R = dOut P d low M (modR M m) s := ⟨_, rfl⟩
      have hRl : ∀ t, R0 t < P := by rw [hR0]; exact dOut_lt (by omega) hrl.out s
      rw [← hR0] at hO
      have HR0 := hid hR0
      have HRL := hid hRl
      clear hR0 hRl
      obtain ⟨C, hC⟩ : ∃ C, C = R0 I := ⟨_, rfl⟩
      have hCP : C < P := by rw [hC]; exact HRL.out I
      have cI : wr.cell? ⟨g, o + I, none⟩ = some (.int .i64 (C : Nat)) := by rw [hC]; exact hO.cell (by omega)
      have HC := hid hC
      clear hC
      go_wp2
      clear cI
      obtain ⟨gI, rfl⟩ : ∃ gK : Nat, gK = gk := ⟨_, rfl⟩
      go_loopg [11] d (fun gg jv wx => ∃ j : Nat, jv = .int .i64 (j : Nat) ∧ j ≤ d ∧ d ≤ j + gg ∧ OwnI wx w.heap.size g o (M + 1) cp (dIn P d low I C R0 j) ∧ Below w.heap.size w wx)
      case atStart => exact ⟨0, rfl, by omega, by omega, hO, hB⟩
      case round =>
        clear hO hB
        obtain ⟨j, rfl, hj, hjg, hO, hB⟩ := hrel
        have hj0 : (0 : Int) ≤ (j : Int) := by omega
        by_cases hlj : j < d
        · have hlj' : (j : Int) < (d : Int) := by omega
          obtain ⟨Z, hZ⟩ : ∃ Q, Q = I - d := ⟨_, rfl⟩
          obtain ⟨Q, hQ⟩ : ∃ Q, Q = I - d + j := ⟨_, rfl⟩
          have hQN : Q < M + 1 := by omega
          have hIz : (I : Int) - (d : Int) = (Z : Int) := by omega
          have hZ16 : Z ≤ 16 := by omega
          have hcl := dIn_lt (P := P) (d := d) (low := low) (i := I) (c := C) (by omega) HRL.out j Q
          have hdm := hll.out j hlj
          obtain ⟨mb, mo, rfl, hmb, hmc⟩ := hl.at hlj
          have cm := cellS hB hmc
          have cc := hO.cell hQN
          have zc := hO.fr (o + Q)
          have hnx : ∀ t, dIn P d low I C R0 (j + 1) t = if t = Q then (dIn P d low I C R0 j Q + (P - C) * low j) % P else dIn P d low I C R0 j t := fun t => by rw [hQ]; rfl
          obtain ⟨R, hR⟩ : ∃ R, R = (dIn P d low I C R0 j Q + (P - C) * low j) % P := ⟨_, rfl⟩
          have hRP : R < P := by rw [hR]; exact Nat.mod_lt _ (by omega)
          have hO2 : OwnI (wr.setCell ⟨g, o + Q, none⟩ (.int .i64 (R : Int))) w.heap.size g o (M + 1) cp (dIn P d low I C R0 (j + 1)) := (hO.set hQN R).congr fun t ht => by
            rw [hnx t, ← hR]
          have hB2 : Below w.heap.size w (wr.setCell ⟨g, o + Q, none⟩ (.int .i64 (R : Int))) := hB.setCell hgb _
          have HO := hid hO2
          have HB := hid hB2
          clear hO2 hB2
          obtain ⟨D, hD⟩ : ∃ D, D = dIn P d low I C R0 j Q := ⟨_, rfl⟩
          obtain ⟨G, hG⟩ : ∃ D, D = low j := ⟨_, rfl⟩
          rw [← hD] at cc hcl hR
          rw [← hG] at cm hdm hR
          obtain ⟨E, hE⟩ : ∃ D, D = P - C := ⟨_, rfl⟩
          rw [← hE] at hR
          have hPD : (P : Int) - (C : Int) = (E : Int) := by omega
          have hEG : E * G ≤ 256 * 256 := Nat.mul_le_mul (by omega) (by omega)
          obtain ⟨Hh, hH⟩ : ∃ H, H = E * G := ⟨_, rfl⟩
          rw [← hH] at hR hEG
          have hij : (Z : Int) + (j : Int) = (Q : Int) := by omega
          have hmul : (E : Int) * (G : Int) = (Hh : Int) := by rw [hH]; simp
          have hE256 : E ≤ 256 := by omega
          clear hD hE hG hH hnx hO hB hQ hZ hmc
          have hQ0 : (0 : Int) ≤ (Q : Int) := by omega
          have hQ1 : (Q : Int) < (M : Int) + 1 := by omega
          have hP0 : ¬ (P : Int) = 0 := by omega
          have hPp : (2 : Int) ≤ (P : Int) := by omega
          have hR0' : (0 : Int) ≤ (R : Int) := by omega
          have hR1 : (R : Int) ≤ 256 := by omega
          have hD0 : (0 : Int) ≤ (D : Int) := by omega
          have hH0 : (0 : Int) ≤ (Hh : Int) := by omega
          have hsum0 : (0 : Int) ≤ (D : Int) + (Hh : Int) := by omega
          have hPn : ¬ P = 0 := by omega
          have w1 : IntKind.i64.wrap (Q : Int) = (Q : Int) := IntWalk.i64_in _ (by omega)
          have w2 : IntKind.i64.wrap (Hh : Int) = (Hh : Int) := IntWalk.i64_in _ (by omega)
          have w3 : IntKind.i64.wrap ((D : Int) + (Hh : Int)) = (D : Int) + (Hh : Int) := IntWalk.i64_in _ (by omega)
          have w4 : IntKind.i64.wrap (R : Int) = (R : Int) := IntWalk.i64_in _ (by omega)
          have w5 : IntKind.i64.wrap (Z : Int) = (Z : Int) := IntWalk.i64_in _ (by omega)
          have w6 : IntKind.i64.wrap (E : Int) = (E : Int) := IntWalk.i64_in _ (by omega)
          have htm : ((D : Int) + (Hh : Int)).tmod (P : Int) = (R : Int) := by rw [Int.tmod_eq_emod_of_nonneg hsum0, hR]; simp
          have hem : ((D : Int) + (Hh : Int)) % (P : Int) = (R : Int) := by rw [hR]; simp
          clear hR
          go_wp2
          go_still_tail 25, (by kernel_rfl)
          change wpList _ _ _ _ _ wr.drew
          go_wp2
          clear w1 w2 w3 w4 w5 w6 htm hem hij hmul
          go_roundg (gk - 1)
          case measure => omega
          case rel => exact ⟨j + 1, by go_num, by omega, by omega, HO.out.drew, HB.out.drew⟩
        · obtain rfl : d = j := by omega
          have hlj' : ¬ (d : Int) < (d : Int) := by omega
          have zc := hO.fr (o + I)
          have ci := hO.cell (i := I) (by omega)
          have HO2 : Hid (OwnI (wr.setCell ⟨g, o + I, none⟩ (.int .i64 0)) w.heap.size g o (M + 1) cp (dOut P d low M (modR M m) (s + 1))) := (hO.set (show I < M + 1 by omega) 0).congr fun t ht => by
            show _ = (if t = M - s then 0 else dIn P d low (M - s) (dOut P d low M (modR M m) s (M - s)) (dOut P d low M (modR M m) s) d t)
            rw [← HI.out, ← HR0.out, ← HC.out]
          have HB2 : Hid (Below w.heap.size w (wr.setCell ⟨g, o + I, none⟩ (.int .i64 0))) := hB.setCell hgb _
          clear hO hB
          go_wp2
          go_roundg (gI - 1)
          case measure => omega
          case rel => exact ⟨s + 1, by have := HIV.out; go_num, by omega, by omega, HO2.out, HB2.out⟩
    · obtain ⟨S, hS⟩ : ∃ S, S = M + 1 - d := ⟨_, rfl⟩
      obtain rfl : s = S := by omega
      have hge : ¬ (d : Int) ≤ (M : Int) - (s : Int) := by omega
      have hdv : Hid (DivB P M m d low ↔ ∀ t, t < M + 1 → dOut P d low M (modR M m) s t = 0) := by rw [hS]; exact Iff.rfl
      have hRl : ∀ t, dOut P d low M (modR M m) s t < P := dOut_lt (by omega) hrl.out s
      obtain ⟨R0, hR0⟩ : ∃ R, R = dOut P d low M (modR M m) s := ⟨_, rfl⟩
      rw [← hR0] at hO hdv hRl
      have HRL := hid hRl
      clear hR0 hRl hS hs hsg hlt
      go_wp2
      go_loopg [12] (M + 1) (fun gg iv wx => ∃ i : Nat, iv = .int .i64 (i : Nat) ∧ i ≤ M + 1 ∧ M + 1 ≤ i + gg ∧ (∀ t, t < i → R0 t = 0) ∧ OwnI wx w.heap.size g o (M + 1) cp R0 ∧ Below w.heap.size w wx)
      case atStart => exact ⟨0, rfl, by omega, by omega, fun t ht => by omega, hO, hB⟩
      case round =>
        clear hO hB
        obtain ⟨i, rfl, hi, hig, hz, hO, hB⟩ := hrel
        have HZ := hid hz
        clear hz
        have hi0 : (0 : Int) ≤ (i : Int) := by omega
        by_cases hlt : i < M + 1
        · have hlt' : (i : Int) < (M : Int) + 1 := by omega
          have cc := hO.cell hlt
          have hRP := HRL.out i
          obtain ⟨x, hx⟩ : ∃ x, x = R0 i := ⟨_, rfl⟩
          rw [← hx] at cc hRP
          have HX := hid hx
          clear hx
          by_cases h0 : x = 0
          · subst h0
            have hnx : Hid (∀ t, t < i + 1 → R0 t = 0) := fun t ht => by
              by_cases e : t = i
              · rw [e]; exact HX.out.symm
              · exact HZ.out t (by omega)
            go_wp2
            go_roundg (gk - 1)
            case measure => omega
            case rel => exact ⟨i + 1, by go_num, by omega, by omega, hnx.out, hO, hB⟩
          · have hb : ((x : Int) != 0) = true := by simp; omega
            have hno : Hid (¬ DivB P M m d low) := fun h => h0 (HX.out.trans (hdv.out.1 h i hlt))
            have hO' := hid hO
            clear hO
            go_wp2
            go_ret
            exact iffPost_f hno.out hB
        · obtain ⟨L1, hL1⟩ : ∃ S, S = M + 1 := ⟨_, rfl⟩
          have hlt' : ¬ (i : Int) < (M : Int) + 1 := by omega
          have hyes : Hid (DivB P M m d low) := hdv.out.2 fun t ht => HZ.out t (by omega)
          clear hO
          go_wp2
          go_ret
          exact iffPost_t hyes.out hB
end Go.Proofs.Ytgininddoalenaa
