/- codewrightref51.Given: a network in which some arcs have a new capacity. -/
import Derived.Test.YthdeldaeghhfgaaCopy
import Derived.Test.YthdeldaeghhfgaaFew
import Derived.Test.YthdeldaeghhfgaaGivenMath
import Derived.Deep.RegionHeldLaw
import Derived.Deep.DrawnRows
import Derived.Deep.DeepCutAuto
namespace Go.Proofs.Ythdeldaeghhfgaa
open Go.RowKit

theorem arcCell_one {N : Net} (i j : Nat) : (arcCell N i j).oneCell' = true := by unfold arcCell; split <;> rfl

theorem Try.infoArc : (Try.prog.info? 36).map (fun i => (i.zero, i.size, i.bytes)) = some (some (.agg #[.int .i64 0, .int .i64 0, .int .i64 0]), 3, 24) := by kernel_rfl

/-- Two cells. -/
def pairCell (x y : Value) (j : Nat) : Value := match j with
  | 0 => x
  | _ => y

/-- A new network in its box b: its arcs in a row g of the call's own. -/
def NetBox (base : Nat) (S : World) (V : Int) (n : Nat) (f : Nat → Nat → Value) (W : World) (b g cap : Nat) : Prop :=
  Below base S W ∧ W.rowIs b 24 2 (pairCell (.int .i64 V) (.slice (some ⟨g, 0, none⟩) n cap)) ∧ Own W base 36 3 (.slice (some ⟨g, 0, none⟩) n cap) n f ∧ base ≤ b ∧ b ≠ g

section
variable {S : World} {base : Nat} (hS : S.heap.size = base) {V : Int} {n : Nat} {f : Nat → Nat → Value} {cap : Nat} {cur : Array Value} (k1 : n ≤ cap) (k2 : cap ≤ maxLen) (k3 : cap * 3 ≤ cur.size) (k4 : ∀ k, k < n → ∀ j, j < 3 → cur[k * 3 + j]? = some (f k j))
include hS k1 k2 k3 k4
theorem netBox_one (o : Obj) : NetBox base S V n f (((S.alloc o).alloc (.cells cur 36)).alloc (.cells #[.int .i64 V, .slice (some ⟨base + 1, 0, none⟩) n cap] 24)) (base + 1 + 1) (base + 1) cap := by
  subst hS
  refine ⟨(((Below.refl _ _).alloc (Nat.le_refl _) _).alloc (by simp) _).alloc (by simp <;> omega) _, ?_, ?_, by omega, by omega⟩
  · have h := World.rowIs_alloc ((S.alloc o).alloc (.cells cur 36)) #[.int .i64 V, .slice (some ⟨S.heap.size + 1, 0, none⟩) n cap] 24 (pairCell (.int .i64 V) (.slice (some ⟨S.heap.size + 1, 0, none⟩) n cap)) (fun i hi => by
      match i, hi with
      | 0, _ => rfl
      | 1, _ => rfl)
    simpa using h
  · have h := (Own.new (w := S.alloc o) (base := S.heap.size) (e := 36) (by simp) k1 k2 k3 k4).alloc (.cells #[.int .i64 V, .slice (some ⟨S.heap.size + 1, 0, none⟩) n cap] 24)
    simpa using h
theorem netBox_two (o : Obj) : NetBox base S V n f (((S.alloc o).alloc (.cells #[.int .i64 V, .slice (some ⟨base + 1 + 1, 0, none⟩) n cap] 24)).alloc (.cells cur 36)) (base + 1) (base + 1 + 1) cap := by
  subst hS
  refine ⟨(((Below.refl _ _).alloc (Nat.le_refl _) _).alloc (by simp) _).alloc (by simp <;> omega) _, ?_, ?_, by omega, by omega⟩
  · have h := (World.rowIs_alloc (S.alloc o) #[.int .i64 V, .slice (some ⟨S.heap.size + 1 + 1, 0, none⟩) n cap] 24 (pairCell (.int .i64 V) (.slice (some ⟨S.heap.size + 1 + 1, 0, none⟩) n cap)) (fun i hi => by
      match i, hi with
      | 0, _ => rfl
      | 1, _ => rfl)).alloc (.cells cur 36)
    simpa using h
  · have h := Own.new (w := (S.alloc o).alloc (.cells #[.int .i64 V, .slice (some ⟨S.heap.size + 1 + 1, 0, none⟩) n cap] 24)) (base := S.heap.size) (e := 36) (by simp <;> omega) k1 k2 k3 k4
    simpa using h
theorem netBox_three (o : Obj) : NetBox base S V n f (((S.alloc (.cells #[.int .i64 V, .slice (some ⟨base + 1 + 1, 0, none⟩) n cap] 24)).alloc o).alloc (.cells cur 36)) base (base + 1 + 1) cap := by
  subst hS
  refine ⟨(((Below.refl _ _).alloc (Nat.le_refl _) _).alloc (by simp) _).alloc (by simp <;> omega) _, ?_, ?_, by omega, by omega⟩
  · have h := ((World.rowIs_alloc S #[.int .i64 V, .slice (some ⟨S.heap.size + 1 + 1, 0, none⟩) n cap] 24 (pairCell (.int .i64 V) (.slice (some ⟨S.heap.size + 1 + 1, 0, none⟩) n cap)) (fun i hi => by
      match i, hi with
      | 0, _ => rfl
      | 1, _ => rfl)).alloc o).alloc (.cells cur 36)
    simpa using h
  · have h := Own.new (w := (S.alloc (.cells #[.int .i64 V, .slice (some ⟨S.heap.size + 1 + 1, 0, none⟩) n cap] 24)).alloc o) (base := S.heap.size) (e := 36) (by simp <;> omega) k1 k2 k3 k4
    simpa using h
end
theorem NetBox.drew {base : Nat} {S : World} {V : Int} {n : Nat} {f : Nat → Nat → Value} {W : World} {b g cap : Nat} (h : NetBox base S V n f W b g cap) : NetBox base S V n f W.drew b g cap := ⟨h.1.drew, h.2.1, h.2.2.1.drew, h.2.2.2⟩

set_option maxHeartbeats 4000000 in
theorem given_any (N : Net) (A F : Option Addr) (c m d : Nat) (x : Int) (f : Nat → Int) (w : World) (h : N.Reads w w.heap.size A) (hf : Ints w w.heap.size F m f) (hn : N.n ≤ 1024) (hr : ∀ i, i < m → 0 ≤ f i ∧ f i < N.n) (hm : m ≤ maxLen) (hN : 0 < N.n) :
    Calls Try.prog 29 #[.agg #[.int .i64 N.V, .slice A N.n c], .slice F m d, .int .i64 x] w fun e w' => (∃ A' c', e = .returned (.agg #[.int .i64 N.V, .slice A' N.n c']) ∧ (N.given f x m).Reads w' w'.heap.size A' ∧ ∀ a, A' = some a → w.heap.size ≤ a.block) ∧ Below w.heap.size w w' := by
  obtain ⟨i0, qi0, qz0, qz1, qz2⟩ := info_parts Try.infoArc
  have hm9 : m ≤ 9223372036854775807 := by unfold maxLen at hm; omega
  have n3 : Hid (N.n ≤ maxLen) := by show _ ≤ _; unfold maxLen; omega
  have n4 : Hid (N.n * 24 ≤ 140737488355328) := by show _ ≤ _; omega
  have NR : Hid (∀ o1 o2 o3, Rd (((w.alloc o1).alloc o2).alloc o3).drew (((w.alloc o1).alloc o2).alloc o3).drew.heap.size A N.n 3 (arcCell N)) := fun o1 o2 o3 => (((Rd.alloc h (Nat.le_refl _) o1).alloc (by simp) o2).alloc (by simp; omega) o3).mono (by simp; omega)
  have NR2 : Hid (∀ o1 o2 o3 o4, Rd ((((w.alloc o1).alloc o2).alloc o3).alloc o4).drew ((((w.alloc o1).alloc o2).alloc o3).alloc o4).drew.heap.size A N.n 3 (arcCell N)) := fun o1 o2 o3 o4 => ((((Rd.alloc h (Nat.le_refl _) o1).alloc (by simp) o2).alloc (by simp; omega) o3).alloc (by simp; omega) o4).mono (by simp; omega)
  have K2 : Hid (∀ o2 : Obj, (((w.alloc (Obj.cells #[Value.int IntKind.i64 N.V, Value.slice A N.n c] 24)).alloc o2).cell? ⟨w.heap.size, 0, none⟩ = some (.int .i64 N.V) ∧ ((w.alloc (Obj.cells #[Value.int IntKind.i64 N.V, Value.slice A N.n c] 24)).alloc o2).cell? ⟨w.heap.size, 1, none⟩ = some (.slice A N.n c))) := fun o2 => by
    have hB : Below (w.heap.size + 1) (w.alloc (Obj.cells #[Value.int IntKind.i64 N.V, Value.slice A N.n c] 24)) ((w.alloc (Obj.cells #[Value.int IntKind.i64 N.V, Value.slice A N.n c] 24)).alloc o2) := ((Below.refl _ _).alloc (by simp) o2)
    exact ⟨box_cell hB 0 rfl, box_cell hB 1 rfl⟩
  have K3 : Hid (∀ o2 o3 : Obj, ((((w.alloc (Obj.cells #[Value.int IntKind.i64 N.V, Value.slice A N.n c] 24)).alloc o2).alloc o3).cell? ⟨w.heap.size, 0, none⟩ = some (.int .i64 N.V) ∧ (((w.alloc (Obj.cells #[Value.int IntKind.i64 N.V, Value.slice A N.n c] 24)).alloc o2).alloc o3).cell? ⟨w.heap.size, 1, none⟩ = some (.slice A N.n c))) := fun o2 o3 => by
    have hB : Below (w.heap.size + 1) (w.alloc (Obj.cells #[Value.int IntKind.i64 N.V, Value.slice A N.n c] 24)) (((w.alloc (Obj.cells #[Value.int IntKind.i64 N.V, Value.slice A N.n c] 24)).alloc o2).alloc o3) := (((Below.refl _ _).alloc (by simp) o2).alloc (by simp <;> omega) o3)
    exact ⟨box_cell hB 0 rfl, box_cell hB 1 rfl⟩
  have K4 : Hid (∀ o2 o3 o4 : Obj, (((((w.alloc (Obj.cells #[Value.int IntKind.i64 N.V, Value.slice A N.n c] 24)).alloc o2).alloc o3).alloc o4).cell? ⟨w.heap.size, 0, none⟩ = some (.int .i64 N.V) ∧ ((((w.alloc (Obj.cells #[Value.int IntKind.i64 N.V, Value.slice A N.n c] 24)).alloc o2).alloc o3).alloc o4).cell? ⟨w.heap.size, 1, none⟩ = some (.slice A N.n c))) := fun o2 o3 o4 => by
    have hB : Below (w.heap.size + 1) (w.alloc (Obj.cells #[Value.int IntKind.i64 N.V, Value.slice A N.n c] 24)) ((((w.alloc (Obj.cells #[Value.int IntKind.i64 N.V, Value.slice A N.n c] 24)).alloc o2).alloc o3).alloc o4) := ((((Below.refl _ _).alloc (by simp) o2).alloc (by simp <;> omega) o3).alloc (by simp <;> omega) o4)
    exact ⟨box_cell hB 0 rfl, box_cell hB 1 rfl⟩
  have K5 : Hid (∀ o2 o3 o4 o5 : Obj, ((((((w.alloc (Obj.cells #[Value.int IntKind.i64 N.V, Value.slice A N.n c] 24)).alloc o2).alloc o3).alloc o4).alloc o5).cell? ⟨w.heap.size, 0, none⟩ = some (.int .i64 N.V) ∧ (((((w.alloc (Obj.cells #[Value.int IntKind.i64 N.V, Value.slice A N.n c] 24)).alloc o2).alloc o3).alloc o4).alloc o5).cell? ⟨w.heap.size, 1, none⟩ = some (.slice A N.n c))) := fun o2 o3 o4 o5 => by
    have hB : Below (w.heap.size + 1) (w.alloc (Obj.cells #[Value.int IntKind.i64 N.V, Value.slice A N.n c] 24)) (((((w.alloc (Obj.cells #[Value.int IntKind.i64 N.V, Value.slice A N.n c] 24)).alloc o2).alloc o3).alloc o4).alloc o5) := (((((Below.refl _ _).alloc (by simp) o2).alloc (by simp <;> omega) o3).alloc (by simp <;> omega) o4).alloc (by simp <;> omega) o5)
    exact ⟨box_cell hB 0 rfl, box_cell hB 1 rfl⟩
  go_enter Try.func29, Try.ntmps29
  go_upto_region 1 with fail
  go_cut [7] (fun v7 wx => ∃ b g cap, v7 = .pointer (some ⟨b, 0, none⟩) ∧ NetBox (w.heap.size + 1 + 1) ((w.alloc (Obj.cells #[Value.int IntKind.i64 N.V, Value.slice A N.n c] 24)).alloc (Obj.cells #[Value.int IntKind.i64 0, Value.slice none 0 0] 24)) N.V N.n (arcCell N) wx b g cap)
  case first =>
    go_region_held_law (fun w' => w'.cell? ⟨w.heap.size, 0, none⟩ = some (.int .i64 N.V) ∧ w'.cell? ⟨w.heap.size, 1, none⟩ = some (.slice A N.n c))
      (((try simp only [World.alloc_drew, World.cell?_drew]); first | (with_reducible exact K5.out _ _ _ _) | (with_reducible exact K4.out _ _ _) | (with_reducible exact K3.out _ _) | (with_reducible exact K2.out _)))
      (first | (refine step_append_copy_some _ (by rfl) (.tmp 11) (.tmp 13) _ (by rfl) 36 i0 _ 3 24 Try.underlying22 qi0 qz0 qz1 qz2 rfl (by omega) _ (by rfl) A N.n c (arcCell N) (by rfl) (NR.out _ _ _) hN (fun _ _ _ _ => arcCell_one _ _) n3.out n4.out ?_; intro cap cur k1 k2 k3 k4) | (refine step_append_copy_some _ (by rfl) (.tmp 11) (.tmp 13) _ (by rfl) 36 i0 _ 3 24 Try.underlying22 qi0 qz0 qz1 qz2 rfl (by omega) _ (by rfl) A N.n c (arcCell N) (by rfl) (NR2.out _ _ _ _) hN (fun _ _ _ _ => arcCell_one _ _) n3.out n4.out ?_; intro cap cur k1 k2 k3 k4))
    all_goals (go_wp2_with fail)
    all_goals go_meet
    all_goals first
      | exact ⟨_, _, _, rfl, (netBox_one (by simp) k1 k2 k3 k4 _).drew.drew⟩
      | exact ⟨_, _, _, rfl, (netBox_two (by simp) k1 k2 k3 k4 _).drew.drew⟩
      | exact ⟨_, _, _, rfl, (netBox_three (by simp) k1 k2 k3 k4 _).drew.drew⟩
  case rest =>
    obtain ⟨b, g, cap, rfl, hNB⟩ := hcut
    clear K2 K3 K4 K5 NR NR2
    go_wp2
    go_loopg [8] m (fun n iv wx => ∃ k, k ≤ m ∧ m ≤ k + n ∧ iv = .int .i64 (k : Nat) ∧ NetBox (w.heap.size + 1 + 1) ((w.alloc (Obj.cells #[Value.int IntKind.i64 N.V, Value.slice A N.n c] 24)).alloc (Obj.cells #[Value.int IntKind.i64 0, Value.slice none 0 0] 24)) N.V N.n (arcCell (N.given f x k)) wx b g cap)
    case atStart => exact ⟨0, by omega, by omega, rfl, hNB⟩
    case round =>
      obtain ⟨k, hk, hkn, rfl, hB, hrow, hOwn, hb0, hbg⟩ := hrel
      have hB' : Below w.heap.size w wr := box_below (box2_one hB)
      have p0 : wr.cell? ⟨b, 0, none⟩ = some (.int .i64 N.V) := hrow.cell (i := 0) (by omega)
      have p1 : wr.cell? ⟨b, 1, none⟩ = some (.slice (some ⟨g, 0, none⟩) N.n cap) := hrow.cell (i := 1) (by omega)
      have hg1 := (hOwn.lt g rfl).1
      by_cases hlt : k < m
      · obtain ⟨r0, r1⟩ := hr k hlt
        have hlt' : (k : Int) < (m : Int) := by omega
        obtain ⟨fb, fo, rfl, hfb, f0⟩ := (hf.on hB').at hlt
        obtain ⟨g', o', cap', hv, _, _, _, _, hc⟩ := hOwn.form hN
        obtain ⟨rfl, rfl⟩ : g' = g ∧ o' = 0 := by
          injection hv with h1
          injection h1 with h1
          injection h1 with h1 h4
          exact ⟨h1.symm, h4.symm⟩
        have s0 : wr.cell? ⟨g', (f k).toNat * 3 + 2, none⟩ = some (.int .i64 (capsTo N f x k (f k).toNat)) := by
          have := hc (f k).toNat (by omega) 2 (by omega)
          rw [Nat.zero_add] at this
          exact this
        have s1 : wr.frozen? ⟨g', (f k).toNat * 3 + 2, none⟩ = false := hOwn.frozen _
        have NB : Hid (NetBox (w.heap.size + 1 + 1) ((w.alloc (Obj.cells #[Value.int IntKind.i64 N.V, Value.slice A N.n c] 24)).alloc (Obj.cells #[Value.int IntKind.i64 0, Value.slice none 0 0] 24)) N.V N.n (arcCell (N.given f x (k + 1))) (wr.setCell ⟨g', (f k).toNat * 3 + 2, none⟩ (.int .i64 x)) b g' cap) := by
          refine ⟨hB.setCell (by show _ ≤ g'; omega) _, hrow.setOther (by simpa using hbg) _, ?_, hb0, hbg⟩
          have := hOwn.set (a := (f k).toNat) (b := 2) (by omega) (by omega) (.int .i64 x)
          rw [Nat.zero_add] at this
          refine this.congr fun i hi j hj => ?_
          match j, hj with
          | 0, _ => exact if_neg (by omega)
          | 1, _ => exact if_neg (by omega)
          | 2, _ =>
            show (if i = (f k).toNat ∧ 2 = 2 then Value.int .i64 x else .int .i64 (capsTo N f x k i)) = .int .i64 (capsTo N f x (k + 1) i)
            simp only [capsTo]
            by_cases e : i = (f k).toNat <;> simp [e]
        clear hc hv hOwn hB hrow hNB
        go_wp2
        go_region
        all_goals
          go_wp2
          go_roundg (gk - 1)
          case measure => omega
          case rel => exact ⟨k + 1, by omega, by omega, by go_num, NB.out.drew⟩
      · obtain rfl : k = m := by omega
        have hres := box2_two hB
        have z0 := hres.frozen 0
        have z1 := hres.frozen 1
        have s0 : wr.cell? ⟨w.heap.size + 1, 0, none⟩ = some _ := hres.cell (i := 0) (by simp)
        have s1 : wr.cell? ⟨w.heap.size + 1, 1, none⟩ = some _ := hres.cell (i := 1) (by simp)
        have hOwn2 := hOwn.setCell (a := ⟨w.heap.size + 1, 0, none⟩) (fun e => by injection e with e; simp at e; omega) (.int .i64 N.V)
        have hOwn3 := hOwn2.setCell (a := ⟨w.heap.size + 1, 1, none⟩) (fun e => by injection e with e; simp at e; omega) (.slice (some ⟨g, 0, none⟩) N.n cap)
        go_wp2
        generalize hw3 : World.setCell _ _ _ = w3
        have hres3 : w3.rowIs (w.heap.size + 1) 24 2 (pairCell (.int .i64 N.V) (.slice (some ⟨g, 0, none⟩) N.n cap)) := by
          rw [← hw3]
          refine ((hres.set 0 _).set 1 _).congr fun j hj => ?_
          match j, hj with
          | 0, _ => rfl
          | 1, _ => rfl
        have e0 : w3.cell? ⟨w.heap.size + 1, 0, none⟩ = some (.int .i64 N.V) := hres3.cell (i := 0) (by omega)
        have e1 : w3.cell? ⟨w.heap.size + 1, 1, none⟩ = some (.slice (some ⟨g, 0, none⟩) N.n cap) := hres3.cell (i := 1) (by omega)
        have hBw3 : Below w.heap.size w w3 := by
          rw [← hw3]
          exact (hB'.setCell (by simp) _).setCell (by simp) _
        have hrd : (N.given f x k).Reads w3 w3.heap.size (some ⟨g, 0, none⟩) := by
          rw [← hw3]
          exact hOwn3.rd rfl
        clear hw3
        exact bodyPost_ret (v := .agg #[.int .i64 N.V, .slice (some ⟨g, 0, none⟩) N.n cap]) (by simp [results, Try.results29, go_sem, e0, e1]) rfl ⟨⟨_, _, rfl, hrd, fun a e => by injection e with e; subst e; show _ ≤ g; omega⟩, hBw3⟩
end Go.Proofs.Ythdeldaeghhfgaa
