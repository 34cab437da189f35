/- flow.greatest: shortest augmenting paths until there is none. -/
import Derived.Test.YthdeldaeghhfgaaTab
import Derived.Deep.RegionHeld3
import Derived.Deep.RegionLaw
import Derived.Deep.AppendLies
import Derived.Deep.DeepCutAuto
namespace Go.Proofs.Ythdeldaeghhfgaa
open Go.RowKit

/-- What the maximum-flow functions leave: a flow and what the search from s reaches in it, which certify each other. -/
def MaxPost (N : Net) (s t : Int) (w : World) (e : Ending) (w' : World) : Prop :=
  ∃ val f seen arc back rk cnt A1 A2, Flowing N s t val f ∧ Reached N f s.toNat seen arc back rk cnt ∧ seen t.toNat = false ∧
    e = .returned (.agg #[.int .i64 val, .slice A1 N.n N.n, .slice A2 N.V.toNat N.V.toNat]) ∧ Below w.heap.size w w' ∧ Ints w' w'.heap.size A1 N.n f ∧ Bools w' w'.heap.size A2 N.V.toNat seen ∧
    (∀ a, A1 = some a → w.heap.size ≤ a.block) ∧ (∀ a, A2 = some a → w.heap.size ≤ a.block)

theorem Try.infoSteps : (Try.prog.info? 84).map (fun i => (i.zero, i.size, i.bytes)) = some (some (.slice none 0 0), 1, 24) := by kernel_rfl

def tabF (N : Net) (k : Nat) (v : Nat) : Nat → Nat → Value := listCell (stepsTo N v k)

set_option maxRecDepth 100000 in
set_option maxHeartbeats 8000000 in
theorem greatest_any (N : Net) (A : Option Addr) (c : Nat) (s t : Int) (w : World) (h : N.Reads w w.heap.size A) (he : N.Ends s t) :
    Calls Try.prog 40 #[.agg #[.int .i64 N.V, .slice A N.n c], .int .i64 s, .int .i64 t] w (MaxPost N s t w) := by
  have HE := hid he
  obtain ⟨hg, s0, s1, t0, t1, hne⟩ := he
  have hn := hg.n2
  have v1 := hg.v1
  have v2 := hg.v2
  have hmk := fun W => run_makeI (P := Try.prog) 83 84 _ 24 Try.underlying83 Try.infoSteps rfl N.V (by omega) (by omega) (by omega) W
  have hmk2 := fun W => run_makeI (P := Try.prog) 33 3 _ 8 Try.underlying33 Try.infoInt rfl (N.n : Int) (by omega) (by omega) (by omega) W
  obtain ⟨i0, qi0, qz0, qz1, qz2⟩ := info_parts Try.infoStep
  go_enter Try.func40, Try.ntmps40
  go_wp2
  go_loopg [27] N.n (fun n iv wr => ∃ k F, k ≤ N.n ∧ N.n ≤ k + n ∧ iv = .int .i64 (k : Nat) ∧ Below (w.heap.size + 2) ((w.alloc (Obj.cells #[Value.int IntKind.i64 N.V, Value.slice A N.n c] 24)).alloc (Obj.cells #[.int .i64 0, .slice none 0 0, .slice none 0 0] 39)) wr ∧
      TabOwn wr (w.heap.size + 2) (w.heap.size + 3) 84 86 2 N.V.toNat F (fun v => (stepsTo N v k).length) (tabF N k))
  case atStart =>
    refine ⟨0, fun _ => .slice none 0 0, by omega, by omega, rfl, (Below.refl _ _).alloc (by simp) _, ?_, fun v hv => Own.nil _ _ _ _ _, fun v u _ _ _ => .inl rfl⟩
    have h1 := World.rowIs_made ((w.alloc (Obj.cells #[Value.int IntKind.i64 N.V, Value.slice A N.n c] 24)).alloc (Obj.cells #[.int .i64 0, .slice none 0 0, .slice none 0 0] 39)) (.slice none 0 0) N.V.toNat 84
    simpa using h1
  case round =>
    obtain ⟨k, F, hk, hkn, rfl, hB, hT⟩ := hrel
    clear hmk
    have hB1 := box2_one hB
    have hB' := box_below hB1
    have hlt2 := box2_lt hB
    have hz0 : w.heap.size < wr.heap.size := by omega
    have hz1 : w.heap.size + 1 < wr.heap.size := by omega
    have hz2 : w.heap.size + 1 + 1 < wr.heap.size := hT.row.lt
    have pbx := box_cell hB1 1 rfl
    by_cases hlt : k < N.n
    · clear hmk2
      obtain ⟨ba, oa, rfl, hba, a0, a1, a2⟩ := (h.on hB').at hlt
      obtain ⟨g0, g1, g2, g3, g4, g5⟩ := hg.arc k hlt
      have g1' : N.fr k < (N.V.toNat : Int) := by omega
      have g3' : N.to k < (N.V.toNat : Int) := by omega
      have g1'' : N.fr k < max N.V 0 := by omega
      have g3'' : N.to k < max N.V 0 := by omega
      have f0 : wr.cell? ⟨w.heap.size + 1 + 1, (N.fr k).toNat, none⟩ = some (F (N.fr k).toNat) := hT.row.cell (by omega)
      have f1 : wr.frozen? ⟨w.heap.size + 1 + 1, (N.fr k).toNat, none⟩ = false := hT.row.frozen _
      have hl1 := (steps_len N (N.fr k).toNat k).1
      have HO := hT.own (N.fr k).toNat (by omega)
      obtain ⟨fv, hfv⟩ : ∃ fv, fv = F (N.fr k).toNat := ⟨_, rfl⟩
      rw [← hfv] at f0 HO
      have HFV := hid hfv
      clear hfv
      have HO1 : Own wr (w.heap.size + 3) 86 2 fv (stepsTo N (N.fr k).toNat k).length (listCell (stepsTo N (N.fr k).toNat k ++ [(k, false)])) := HO.congr fun i hi j _ => listCell_append hi
      have N1 : Hid (∀ j, j < 2 → ((wr.alloc (Obj.cells #[Value.int IntKind.i64 (N.fr k), Value.int IntKind.i64 (N.to k), Value.int IntKind.i64 (N.cp k)] 36)).alloc (Obj.cells #[Value.int IntKind.i64 (k : Nat), Value.bool false] 86)).cell? ((⟨wr.heap.size + 1, 0, none⟩ : Addr).add j) = some (listCell (stepsTo N (N.fr k).toNat k ++ [(k, false)]) (stepsTo N (N.fr k).toNat k).length j)) := fun j hj => by
        match j, hj with
        | 0, _ => rw [listCell_last.1]; exact World.cell?_alloc_at _ _ _ _ (by simp)
        | 1, _ => rw [listCell_last.2]; exact World.cell?_alloc_at _ _ _ _ (by simp)
      have n3 : Hid ((stepsTo N (N.fr k).toNat k).length + 1 ≤ maxLen) := by show _ ≤ _; unfold maxLen; omega
      have n4 : Hid (((stepsTo N (N.fr k).toNat k).length + 1) * 16 ≤ 140737488355328) := by show _ ≤ _; omega
      have N2 : Hid (∀ j, j < 2 → (listCell (stepsTo N (N.fr k).toNat k ++ [(k, false)]) (stepsTo N (N.fr k).toNat k).length j).oneCell' = true) := fun j hj => by
        match j, hj with
        | 0, _ => rw [listCell_last.1]; rfl
        | 1, _ => rw [listCell_last.2]; rfl
      have hbe := fun o1 o2 => ((((Below.refl _ wr).alloc (Nat.le_refl _) o1).alloc (by simp) o2).drew : Below wr.heap.size wr ((wr.alloc o1).alloc o2).drew)
      have F0 := hid fun o1 o2 => cellS (hbe o1 o2) f0
      have F1 := hid fun o1 o2 => ((hbe o1 o2).frozen (p := ⟨w.heap.size + 1 + 1, (N.fr k).toNat, none⟩) hz2).trans f1
      have FNE : Hid (some (w.heap.size + 1 + 1) ≠ fv.ownBlock) := fun e => by have := (HO.lt _ e.symm).1; omega
      have C5 : Hid (∀ (o2 : Obj) (w3 : World), ((wr.alloc (Obj.cells #[Value.int IntKind.i64 (N.fr k), Value.int IntKind.i64 (N.to k), Value.int IntKind.i64 (N.cp k)] 36)).alloc o2).drew.grownBy w3 fv.ownBlock → w3.cell? ⟨wr.heap.size, 1, none⟩ = some (.int .i64 (N.to k))) := fun o2 w3 hg => hg.cell (by go_simp) (fun e => by have := (HO.lt _ e.symm).2; simp at this)
      have LM : Hid (∀ u, stepsMid N u k = if u = (N.fr k).toNat then stepsTo N u k ++ [(k, false)] else stepsTo N u k) := fun u => by
        unfold stepsMid
        by_cases e : u = (N.fr k).toNat
        · rw [if_pos e, if_pos e.symm]
        · rw [if_neg e, if_neg (fun h => e h.symm), List.append_nil]
      have QQ : Hid (∀ o1 o2 : Obj, w.heap.size + 1 + 1 < ((wr.alloc o1).alloc o2).drew.heap.size) := fun o1 o2 => by simp; omega
      clear hbe
      have C4 : Hid (∀ (o2 : Obj) (w3 : World), ((wr.alloc (Obj.cells #[Value.int IntKind.i64 (N.fr k), Value.int IntKind.i64 (N.to k), Value.int IntKind.i64 (N.cp k)] 36)).alloc o2).drew.grownBy w3 fv.ownBlock → w3.cell? ⟨wr.heap.size, 0, none⟩ = some (.int .i64 (N.fr k))) := fun o2 w3 hg => hg.cell (by simp) (fun e => by have := (HO.lt _ e.symm).2; simp at this)
      have T4 : Hid (∀ o1 o2, TabOwn ((wr.alloc o1).alloc o2).drew (w.heap.size + 2) (w.heap.size + 3) 84 86 2 N.V.toNat F (fun v => (stepsTo N v k).length) (fun v => listCell (stepsTo N v k))) := fun o1 o2 => ((hT.alloc o1).alloc o2).drew
      have B4 : Hid (∀ o1 o2 w3 p u, ((wr.alloc o1).alloc o2).drew.grownBy w3 fv.ownBlock → w.heap.size + 2 ≤ p.block → Below (w.heap.size + 2) ((w.alloc (Obj.cells #[Value.int IntKind.i64 N.V, Value.slice (some ⟨ba, oa, none⟩) N.n c] 24)).alloc (Obj.cells #[.int .i64 0, .slice none 0 0, .slice none 0 0] 39)) (w3.setCell p u)) := fun o1 o2 w3 p u hg hp =>
        ((((hB.alloc (by omega) o1).alloc (by simp; omega) o2).drew).grown hg (by simp; omega) (fun q e => by have := (HO.lt q e).1; omega)).setCell hp _
      have S4 : Hid (∀ o1 o2 w3, ((wr.alloc o1).alloc o2).drew.grownBy w3 fv.ownBlock → wr.heap.size < w3.heap.size) := fun o1 o2 w3 hg => by have := hg.size; simp at this; omega
      have TP : Hid (∀ o1 o2 w3 bg bo bc, Own w3 (w.heap.size + 3) 86 2 (.slice (some ⟨bg, bo, none⟩) ((stepsTo N (N.fr k).toNat k).length + 1) bc) ((stepsTo N (N.fr k).toNat k).length + 1) (listCell (stepsTo N (N.fr k).toNat k ++ [(k, false)])) → ((wr.alloc o1).alloc o2).drew.grownBy w3 fv.ownBlock → (fv.ownBlock = some bg ∨ bg = ((wr.alloc o1).alloc o2).drew.heap.size) →
          ∃ F', TabOwn (w3.setCell ⟨w.heap.size + 2, (N.fr k).toNat, none⟩ (.slice (some ⟨bg, bo, none⟩) ((stepsTo N (N.fr k).toNat k).length + 1) bc)) (w.heap.size + 2) (w.heap.size + 3) 84 86 2 N.V.toNat F' (fun v => (stepsMid N v k).length) (fun v => listCell (stepsMid N v k)) ∧ ∀ v, v < N.V.toNat → (F' v).ownBlock ≠ some wr.heap.size) := fun o1 o2 w3 bg bo bc k1 k2 k3 => by
        obtain ⟨F', h1, h2⟩ := tab_put (T4.out o1 o2) (by omega) (v := (N.fr k).toNat) (by omega) HFV.out k1 k2 k3 LM.out
        refine ⟨F', h1, fun u hu e => ?_⟩
        rcases h2 u hu with h3 | h3
        · rw [h3] at e
          have := ((hT.own u hu).lt _ e).2
          omega
        · rw [h3] at e
          injection e with e
          simp at e
          try omega
      go_upto_region 5 with fail
      go_cut [] (fun wx => (∃ F', TabOwn wx (w.heap.size + 2) (w.heap.size + 3) 84 86 2 N.V.toNat F' (fun v => (stepsMid N v k).length) (fun v => listCell (stepsMid N v k)) ∧ ∀ v, v < N.V.toNat → (F' v).ownBlock ≠ some wr.heap.size) ∧
        Below (w.heap.size + 2) ((w.alloc (Obj.cells #[Value.int IntKind.i64 N.V, Value.slice (some ⟨ba, oa, none⟩) N.n c] 24)).alloc (Obj.cells #[.int .i64 0, .slice none 0 0, .slice none 0 0] 39)) wx ∧ wx.cell? ⟨wr.heap.size, 1, none⟩ = some (.int .i64 (N.to k)) ∧ wr.heap.size < wx.heap.size)
      case first =>
        go_region_law ((refine step_append_at _ (by rfl) (.tmp 39) (.tmp 42) _ (by rfl) (w.heap.size + 3) 86 i0 _ 2 16 Try.underlying84 qi0 qz0 qz1 qz2 rfl (by omega) fv (stepsTo N (N.fr k).toNat k).length _ (by rfl) (((HO1.alloc _).alloc _).drew) ⟨wr.heap.size + 1, 0, none⟩ 1 (by rfl) N1.out N2.out n3.out n4.out (by simp; omega) ?_; intro bg bo bc w3 hown3 hg3 hat3; have c4 := C4.out _ _ hg3; have c3 := hg3.cell (F0.out _ _) FNE.out; have z3 := (hg3.frozen_far ⟨w.heap.size + 1 + 1, (N.fr k).toNat, none⟩ (QQ.out _ _) FNE.out).trans (F1.out _ _)))
        all_goals
          go_wp2_with fail
          go_meet
          exact ⟨TP.out _ _ _ _ _ _ hown3 hg3 (by simpa using hat3), B4.out _ _ _ _ _ hg3 (by simp), cell_setCell_far (C5.out _ _ hg3) (by simp; omega), by simp [World.setCell]; exact S4.out _ _ _ hg3⟩
      case rest =>
        obtain ⟨⟨F2, hT2, hANE⟩, hB2, c5, hs5⟩ := hcut
        clear TP F0 F1 FNE C4 C5 QQ N1 N2 T4 B4 S4 LM n3 n4 HO HO1 HFV hT hB hB1 f0 f1 a0 a1 a2 pbx
        have hz2 : w.heap.size + 1 + 1 < wc.heap.size := hT2.row.lt
        have f0 : wc.cell? ⟨w.heap.size + 1 + 1, (N.to k).toNat, none⟩ = some (F2 (N.to k).toNat) := hT2.row.cell (by omega)
        have f1 : wc.frozen? ⟨w.heap.size + 1 + 1, (N.to k).toNat, none⟩ = false := hT2.row.frozen _
        have hl1 := (steps_len N (N.to k).toNat k).2
        have HO := hT2.own (N.to k).toNat (by omega)
        obtain ⟨fv, hfv⟩ : ∃ fv, fv = F2 (N.to k).toNat := ⟨_, rfl⟩
        rw [← hfv] at f0 HO
        have HFV := hid hfv
        clear hfv
        have HO1 : Own wc (w.heap.size + 3) 86 2 fv (stepsMid N (N.to k).toNat k).length (listCell (stepsMid N (N.to k).toNat k ++ [(k, true)])) := HO.congr fun i hi j _ => listCell_append hi
        have N1 : Hid (∀ j, j < 2 → (wc.alloc (Obj.cells #[Value.int IntKind.i64 (k : Nat), Value.bool true] 86)).cell? ((⟨wc.heap.size, 0, none⟩ : Addr).add j) = some (listCell (stepsMid N (N.to k).toNat k ++ [(k, true)]) (stepsMid N (N.to k).toNat k).length j)) := fun j hj => by
          match j, hj with
          | 0, _ => rw [listCell_last.1]; exact World.cell?_alloc_at _ _ _ _ rfl
          | 1, _ => rw [listCell_last.2]; exact World.cell?_alloc_at _ _ _ _ rfl
        have n3 : Hid ((stepsMid N (N.to k).toNat k).length + 1 ≤ maxLen) := by show _ ≤ _; unfold maxLen; omega
        have n4 : Hid (((stepsMid N (N.to k).toNat k).length + 1) * 16 ≤ 140737488355328) := by show _ ≤ _; omega
        have N2 : Hid (∀ j, j < 2 → (listCell (stepsMid N (N.to k).toNat k ++ [(k, true)]) (stepsMid N (N.to k).toNat k).length j).oneCell' = true) := fun j hj => by
          match j, hj with
          | 0, _ => rw [listCell_last.1]; rfl
          | 1, _ => rw [listCell_last.2]; rfl
        have hbe := fun o2 => (((Below.refl _ wc).alloc (Nat.le_refl _) o2).drew : Below wc.heap.size wc (wc.alloc o2).drew)
        have F0 := hid fun o2 => cellS (hbe o2) f0
        have F1 := hid fun o2 => ((hbe o2).frozen (p := ⟨w.heap.size + 1 + 1, (N.to k).toNat, none⟩) hz2).trans f1
        have FNE : Hid (some (w.heap.size + 1 + 1) ≠ fv.ownBlock) := fun e => by have := (HO.lt _ e.symm).1; omega
        have LM : Hid (∀ u, stepsTo N u (k + 1) = if u = (N.to k).toNat then stepsMid N u k ++ [(k, true)] else stepsMid N u k) := fun u => by
          rw [stepsTo_succ]
          by_cases e : u = (N.to k).toNat
          · rw [if_pos e, if_pos e.symm]
          · rw [if_neg e, if_neg (fun h => e h.symm), List.append_nil]
        have QQ : Hid (∀ o2 : Obj, w.heap.size + 1 + 1 < (wc.alloc o2).drew.heap.size) := fun o2 => by simp; omega
        have T4 : Hid (∀ o2, TabOwn (wc.alloc o2).drew (w.heap.size + 2) (w.heap.size + 3) 84 86 2 N.V.toNat F2 (fun v => (stepsMid N v k).length) (fun v => listCell (stepsMid N v k))) := fun o2 => (hT2.alloc o2).drew
        have B4 : Hid (∀ o2 w3 p u, (wc.alloc o2).drew.grownBy w3 fv.ownBlock → w.heap.size + 2 ≤ p.block → Below (w.heap.size + 2) ((w.alloc (Obj.cells #[Value.int IntKind.i64 N.V, Value.slice (some ⟨ba, oa, none⟩) N.n c] 24)).alloc (Obj.cells #[.int .i64 0, .slice none 0 0, .slice none 0 0] 39)) (w3.setCell p u)) := fun o2 w3 p u hg hp =>
          (((hB2.alloc (by omega) o2).drew).grown hg (by simp; omega) (fun q e => by have := (HO.lt q e).1; omega)).setCell hp _
        -- the block of the arc is none of the table's
        have ANE : Hid (fv.ownBlock ≠ some wr.heap.size) := by show _ ≠ _; rw [HFV.out]; exact hANE _ (by omega)
        have C5 : Hid (∀ (o2 : Obj) (w3 : World), (wc.alloc o2).drew.grownBy w3 fv.ownBlock → w3.cell? ⟨wr.heap.size, 1, none⟩ = some (.int .i64 (N.to k))) := fun o2 w3 hg => hg.cell (cellS (hbe o2) c5) (fun e => ANE.out e.symm)
        clear hbe
        have TP : Hid (∀ o2 w3 bg bo bc, Own w3 (w.heap.size + 3) 86 2 (.slice (some ⟨bg, bo, none⟩) ((stepsMid N (N.to k).toNat k).length + 1) bc) ((stepsMid N (N.to k).toNat k).length + 1) (listCell (stepsMid N (N.to k).toNat k ++ [(k, true)])) → (wc.alloc o2).drew.grownBy w3 fv.ownBlock → (fv.ownBlock = some bg ∨ bg = (wc.alloc o2).drew.heap.size) →
            ∃ F', TabOwn (w3.setCell ⟨w.heap.size + 2, (N.to k).toNat, none⟩ (.slice (some ⟨bg, bo, none⟩) ((stepsMid N (N.to k).toNat k).length + 1) bc)) (w.heap.size + 2) (w.heap.size + 3) 84 86 2 N.V.toNat F' (fun v => (stepsTo N v (k + 1)).length) (tabF N (k + 1))) := fun o2 w3 bg bo bc k1 k2 k3 => by
          obtain ⟨F', h1, _⟩ := tab_put (T4.out o2) (by omega) (v := (N.to k).toNat) (by omega) HFV.out k1 k2 k3 LM.out
          exact ⟨F', h1⟩
        clear hANE
        go_wp2
        go_region_law ((refine step_append_at _ (by rfl) (.tmp 52) (.tmp 55) _ (by rfl) (w.heap.size + 3) 86 i0 _ 2 16 Try.underlying84 qi0 qz0 qz1 qz2 rfl (by omega) fv (stepsMid N (N.to k).toNat k).length _ (by rfl) ((HO1.alloc _).drew) ⟨wc.heap.size, 0, none⟩ 1 (by rfl) N1.out N2.out n3.out n4.out (by simp; omega) ?_; intro bg bo bc w3 hown3 hg3 hat3; have c4 := C5.out _ _ hg3; have c3 := hg3.cell (F0.out _) FNE.out; have z3 := (hg3.frozen_far ⟨w.heap.size + 1 + 1, (N.to k).toNat, none⟩ (QQ.out _) FNE.out).trans (F1.out _)))
        all_goals
          obtain ⟨F4, hT4⟩ := TP.out _ _ _ _ _ hown3 hg3 (by simpa using hat3)
          have hB4 := B4.out _ _ ⟨w.heap.size + 1 + 1, (N.to k).toNat, none⟩ (.slice (some ⟨bg, bo, none⟩) ((stepsMid N (N.to k).toNat k).length + 1) bc) hg3 (by simp)
          clear c3 z3 c4 hown3
          go_wp2
          go_roundg (gk - 1)
          case measure => omega
          case rel => exact ⟨k + 1, F4, by omega, by omega, by go_num, hB4, hT4⟩
    · obtain rfl : k = N.n := by omega
      have hST := tab_steps hT
      have hOK := steps_ok hg
      clear hT
      obtain ⟨W1, rfl⟩ : ∃ W1 : World, W1 = wr := ⟨_, rfl⟩
      go_wp2
      clear hmk2
      go_loopg [] 1125899906842624 (fun n wx => ∃ val f, Flowing N s t val f ∧ 1125899906842624 - val ≤ n ∧ 0 ≤ val ∧ Below W1.heap.size W1 wx ∧ wx.rowIs W1.heap.size 3 N.n (fun i => .int .i64 (f i)) ∧
          wx.rowIs (W1.heap.size + 1) 39 3 (flowCell val (.slice (some ⟨W1.heap.size, 0, none⟩) N.n N.n) (.slice none 0 0)))
      case atStart =>
        refine ⟨0, fun _ => 0, flowing_zero hg, by omega, Int.le_refl _, ((Below.refl _ _).alloc (Nat.le_refl _) _).alloc (by simp) _, ?_, ?_⟩
        · exact (World.rowIs_made W1 (.int .i64 0) N.n 3).alloc _
        · have := World.rowIs_alloc (W1.alloc (Obj.cells (madeCells #[Value.int IntKind.i64 0] N.n) 3)) #[Value.int IntKind.i64 0, Value.slice (some ⟨W1.heap.size, 0, none⟩) N.n N.n, Value.slice none 0 0] 39 (flowCell 0 (.slice (some ⟨W1.heap.size, 0, none⟩) N.n N.n) (.slice none 0 0)) (fun i hi => by
            match i, hi with
            | 0, _ => rfl
            | 1, _ => rfl
            | 2, _ => rfl)
          simpa using this
      case round =>
        obtain ⟨val, f, hF, hgk, hv0, hBx, hrow, hout⟩ := hrel
        have hvb := flowing_bd HE.out hF
        have hBw : Below w.heap.size w wr := hB'.trans (hBx.mono hB'.size)
        have hy0 := hout.lt
        have q0 : wr.cell? ⟨w.heap.size, 0, none⟩ = some (.int .i64 N.V) := by rw [hBx.cell (by simp; omega)]; exact box_cell hB1 0 rfl
        have q1 : wr.cell? ⟨w.heap.size, 1, none⟩ = some (.slice A N.n c) := by rw [hBx.cell (by simp; omega)]; exact pbx
        have q2 : wr.cell? ⟨W1.heap.size + 1, 0, none⟩ = some (.int .i64 val) := hout.cell (i := 0) (by omega)
        have q3 : wr.cell? ⟨W1.heap.size + 1, 1, none⟩ = some (.slice (some ⟨W1.heap.size, 0, none⟩) N.n N.n) := hout.cell (i := 1) (by omega)
        have q4 : wr.cell? ⟨W1.heap.size + 1, 2, none⟩ = some (.slice none 0 0) := hout.cell (i := 2) (by omega)
        have hFi : Ints wr wr.heap.size (some ⟨W1.heap.size, 0, none⟩) N.n f := Rd_of_row hrow
        go_wp2_with fail
        refine (search_any N A (some ⟨W1.heap.size, 0, none⟩) (some ⟨w.heap.size + 2, 0, none⟩) c N.n N.V.toNat N.V.toNat s f _ _ _ wr (h.on hBw) hFi (hST.on hBx) hg hOK (hid hF.cap) s0 s1 (hid rfl)).mono ?_
        rintro e w2 ⟨seen, arc, back, rk, cnt, hR, rfl, hb2, hrs, hrb⟩
        replace q0 := cellS hb2 q0
        replace q1 := cellS hb2 q1
        replace q2 := cellS hb2 q2
        replace q3 := cellS hb2 q3
        replace q4 := cellS hb2 q4
        replace hBw : Below w.heap.size w w2 := onS hBw hb2
        replace hBx : Below W1.heap.size W1 w2 := onS hBx hb2
        have hrow2 := rowIs_on hrow hb2
        have hout2 := rowIs_on hout hb2
        have t3 : t < (N.V.toNat : Int) := by omega
        have c_t := hrs.cell (i := t.toNat) (by omega)
        have z_o := hout2.frozen
        have z0 := z_o 0
        have z2 := z_o 2
        have hres := (box2_two hB).of_block (hBx.block _ hz1)
        have r_o := hres.frozen
        have r0 := r_o 0
        have r1 := r_o 1
        have r2 := r_o 2
        have s0' : w2.cell? ⟨w.heap.size + 1, 0, none⟩ = some _ := hres.cell (i := 0) (by simp)
        have s1' : w2.cell? ⟨w.heap.size + 1, 1, none⟩ = some _ := hres.cell (i := 1) (by simp)
        have s2' : w2.cell? ⟨w.heap.size + 1, 2, none⟩ = some _ := hres.cell (i := 2) (by simp)
        clear z_o r_o hrow hout
        cases hst : seen t.toNat
        · rw [hst] at c_t
          have HST2 := hid hst
          clear hst
          have hne1 : w.heap.size + 1 ≠ W1.heap.size + 1 := by omega
          go_wp2
          generalize hw3 : World.setCell _ _ _ = w3
          have hres3 : w3.rowIs (w.heap.size + 1) 39 3 (flowCell val (.slice (some ⟨W1.heap.size, 0, none⟩) N.n N.n) (.slice (some ⟨wr.heap.size + 1, 0, none⟩) N.V.toNat N.V.toNat)) := by
            rw [← hw3]
            refine ((((hres.setOther (by simp; omega) _).set 0 _).set 1 _).set 2 _).congr fun j hj => ?_
            match j, hj with
            | 0, _ => rfl
            | 1, _ => rfl
            | 2, _ => rfl
          have e0 : w3.cell? ⟨w.heap.size + 1, 0, none⟩ = some (.int .i64 val) := hres3.cell (i := 0) (by omega)
          have e1 : w3.cell? ⟨w.heap.size + 1, 1, none⟩ = some (.slice (some ⟨W1.heap.size, 0, none⟩) N.n N.n) := hres3.cell (i := 1) (by omega)
          have e2 : w3.cell? ⟨w.heap.size + 1, 2, none⟩ = some (.slice (some ⟨wr.heap.size + 1, 0, none⟩) N.V.toNat N.V.toNat) := hres3.cell (i := 2) (by omega)
          have hBw3 : Below w.heap.size w w3 := by
            rw [← hw3]
            exact (((hBw.setCell (by simp; omega) _).setCell (by simp) _).setCell (by simp) _).setCell (by simp) _
          have hsn : w3.rowIs (wr.heap.size + 1) 4 N.V.toNat (fun v => .bool (seen v)) := by
            rw [← hw3]
            have := hBx.size
            exact (((hrs.setOther (by simp; omega) _).setOther (by simp; omega) _).setOther (by simp; omega) _).setOther (by simp; omega) _
          have hal : w3.rowIs W1.heap.size 3 N.n (fun i => .int .i64 (f i)) := by
            rw [← hw3]
            exact (((hrow2.setOther (by simp) _).setOther (by simp; omega) _).setOther (by simp; omega) _).setOther (by simp; omega) _
          clear hw3
          refine bodyPost_ret (v := .agg #[.int .i64 val, .slice (some ⟨W1.heap.size, 0, none⟩) N.n N.n, .slice (some ⟨wr.heap.size + 1, 0, none⟩) N.V.toNat N.V.toNat]) (by simp [results, Try.results40, go_sem, e0, e1, e2]) rfl ⟨val, f, seen, arc, back, rk, cnt, _, _, hF, hR, HST2.out, rfl, hBw3, Rd_of_row hal, Rd_of_row hsn, fun a e => by injection e with e; subst e; show _ ≤ W1.heap.size; omega, fun a e => by injection e with e; subst e; show _ ≤ wr.heap.size + 1; omega⟩
        · rw [hst] at c_t
          have HST2 := hid hst
          have hrkt := (hR.found.lt _ hst).2
          have hfew := hR.few
          clear hst r0 r1 r2 s0' s1' s2' hres
          obtain ⟨W2, rfl⟩ : ∃ W2 : World, W2 = w2 := ⟨_, rfl⟩
          obtain ⟨W0, rfl⟩ : ∃ W0 : World, W0 = wr := ⟨_, rfl⟩
          obtain ⟨gK, rfl⟩ : ∃ gK : Nat, gK = gk := ⟨_, rfl⟩
          have hW0 : W0.heap.size ≤ W2.heap.size := hb2.size
          have hby2 := hrb.lt
          go_wp2
          go_loopg [13, 14, 15] (rk t.toNat) (fun n pv am vv wx => ∃ len pa pb v m, Path N f rk t.toNat len pa pb v ∧ seen v = true ∧ vv = .int .i64 (v : Nat) ∧ rk v ≤ n ∧ Own wx W2.heap.size 86 2 pv len (stepCell pa pb) ∧ am = .int .i64 m ∧
              ((len = 0 ∧ m = -1) ∨ (0 < len ∧ 0 < m ∧ m ≤ 1099511627776 ∧ Hid (∀ j, j < len → m ≤ N.room f (pa j) (pb j)))) ∧ Below W2.heap.size W2 wx)
          case atStart => exact ⟨0, fun _ => 0, fun _ => false, t.toNat, -1, path_start _ _ _ _ _ _, HST2.out, by congr 1; omega, Nat.le_refl _, Own.nil _ _ _ _ _, rfl, .inl ⟨rfl, rfl⟩, Below.refl _ _⟩
          case round =>
            obtain ⟨len, pa, pb, v, m, hP, hsv, rfl, hrk, hPO, rfl, hm, hBp⟩ := hrel
            have hvV := (hR.found.lt v hsv).1
            have hBpW : Below w.heap.size w wr := onS hBw hBp
            have hpz := hBp.size
            have p0 : wr.cell? ⟨w.heap.size, 0, none⟩ = some (.int .i64 N.V) := cellS hBp q0
            have p1 := cellS hBp q1
            have p2 := cellS hBp q2
            have p3 := cellS hBp q3
            have hbyp := rowIs_on hrb hBp
            have hrowp := rowIs_on hrow2 hBp
            have b0 : wr.cell? ⟨W0.heap.size + 2, v * 2, none⟩ = some (.int .i64 (arc v : Nat)) := by
              have := hbyp.cell (i := v * 2) (by omega)
              rw [this]; simp [byCell]
            have b1 : wr.cell? ⟨W0.heap.size + 2, v * 2 + 1, none⟩ = some (.bool (back v)) := by
              have := hbyp.cell (i := v * 2 + 1) (by omega)
              rw [this]
              have e2 : (v * 2 + 1) % 2 = 1 := by omega
              have e3 : (v * 2 + 1) / 2 = v := by omega
              simp [byCell, e2, e3]
            have hvi : (v : Int) < (N.V.toNat : Int) := by omega
            by_cases hvs : v = s.toNat
            · have hns : (((v : Nat) : Int) != s) = false := by
                have : ((v : Nat) : Int) = s := by omega
                simp [this]
              have hlen : 0 < len := by
                rcases Nat.eq_zero_or_pos len with h0 | h0
                · have := hP.last.1 h0; omega
                · exact h0
              obtain ⟨bg, bo, bc, rfl, hbg0, hbg1, hbc0, hbc1, -⟩ := hPO.form hlen
              have hmm : 0 < m ∧ m ≤ 1099511627776 ∧ Hid (∀ j, j < len → m ≤ N.room f (pa j) (pb j)) := by
                rcases hm with ⟨d1, d2⟩ | ⟨d1, d2, d3, d4⟩
                · omega
                · exact ⟨d2, d3, d4⟩
              obtain ⟨hm1, hm2, HMR⟩ := hmm
              have hplen : len ≤ 256 := by have := hP.few; omega
              have HP := hid (show Path N f rk t.toNat len pa pb s.toNat from hvs ▸ hP)
              have hBu0 : Below W1.heap.size W1 wr := onS hBx hBp
              have houtp := rowIs_on hout2 hBp
              clear hm hP b0 b1 p0 p1 p2 p3 hbyp q0 q1 q2 q3 q4 z0 z2 hBpW
              obtain ⟨W3, rfl⟩ : ∃ W3 : World, W3 = wr := ⟨_, rfl⟩
              obtain ⟨gP, rfl⟩ : ∃ gP : Nat, gP = gk := ⟨_, rfl⟩
              go_wp2
              go_loopg [130] len (fun n iv wx => ∃ k, k ≤ len ∧ len ≤ k + n ∧ iv = .int .i64 (k : Nat) ∧ Below W1.heap.size W1 wx ∧ wx.rowIs W1.heap.size 3 N.n (fun i => .int .i64 (pushed m pa pb f k i)) ∧
                  wx.rowIs (W1.heap.size + 1) 39 3 (flowCell val (.slice (some ⟨W1.heap.size, 0, none⟩) N.n N.n) (.slice none 0 0)) ∧ Own wx W2.heap.size 86 2 (.slice (some ⟨bg, bo, none⟩) len bc) len (stepCell pa pb))
              case atStart => exact ⟨0, by omega, by omega, rfl, hBu0, hrowp, houtp, hPO⟩
              case round =>
                obtain ⟨k, hk, hkn, rfl, hBu, hru, hou, hOu⟩ := hrel
                by_cases hlt : k < len
                · obtain ⟨bg', bo', bc', hsl, ho0, ho1, ho2, ho3, hoc⟩ := hOu.form hlen
                  obtain ⟨rfl, rfl, rfl⟩ : bg' = bg ∧ bo' = bo ∧ bc' = bc := by
                    injection hsl with h1 h2 h3
                    injection h1 with h1
                    injection h1 with h1 h4
                    exact ⟨h1.symm, h4.symm, h3.symm⟩
                  have x0 : wr.cell? ⟨bg', bo' + k * 2, none⟩ = some (.int .i64 (pa k : Nat)) := hoc k hlt 0 (by omega)
                  have x1 : wr.cell? ⟨bg', bo' + k * 2 + 1, none⟩ = some (.bool (pb k)) := hoc k hlt 1 (by omega)
                  clear hoc hsl
                  have hak := HP.out.arc k hlt
                  have hak' : (pa k : Int) < (N.n : Int) := by omega
                  have hrm := HMR.out k hlt
                  obtain ⟨f0, f1⟩ := hF.cap _ hak
                  obtain ⟨g0, g1, g2, g3, g4, g5⟩ := hg.arc _ hak
                  have hou0 : wr.cell? ⟨W1.heap.size + 1, 1, none⟩ = some (.slice (some ⟨W1.heap.size, 0, none⟩) N.n N.n) := hou.cell (i := 1) (by omega)
                  have l0 : wr.cell? ⟨W1.heap.size, pa k, none⟩ = some (.int .i64 (f (pa k))) := by
                    have := hru.cell hak
                    rwa [pushed_at HP.out m f hlt] at this
                  have l1 : wr.frozen? ⟨W1.heap.size, pa k, none⟩ = false := hru.frozen _
                  have hz5 := hou.lt
                  have hz6 := hru.lt
                  have HN := hid (show ∀ i, i < N.n → ∀ d : Int, d = (if pb k then -m else m) → (if i = pa k then Value.int .i64 (f (pa k) + d) else Value.int .i64 (pushed m pa pb f k i)) = Value.int .i64 (pushed m pa pb f (k + 1) i) from fun i hi d hd => by
                    simp only [pushed, bump]
                    by_cases e : i = pa k
                    · rw [if_pos e, if_pos e, e, pushed_at HP.out m f hlt, hd]
                    · rw [if_neg e, if_neg e])
                  have HS : Hid (∀ (o : Obj) u, Below W1.heap.size W1 ((wr.setCell ⟨W1.heap.size, pa k, none⟩ u).alloc o) ∧ ((wr.setCell ⟨W1.heap.size, pa k, none⟩ u).alloc o).rowIs (W1.heap.size + 1) 39 3 (flowCell val (.slice (some ⟨W1.heap.size, 0, none⟩) N.n N.n) (.slice none 0 0)) ∧ Own ((wr.setCell ⟨W1.heap.size, pa k, none⟩ u).alloc o) W2.heap.size 86 2 (.slice (some ⟨bg', bo', none⟩) len bc') len (stepCell pa pb) ∧ ((wr.setCell ⟨W1.heap.size, pa k, none⟩ u).alloc o).rowIs W1.heap.size 3 N.n (fun i => if i = pa k then u else .int .i64 (pushed m pa pb f k i))) := fun o u =>
                    ⟨(hBu.setCell (by simp) _).alloc (by simp; omega) o, (hou.setOther (by simp) _).alloc o, (hOu.setCell (fun e => by have := (hOu.lt _ e).1; simp at this; omega) _).alloc o, (hru.set (pa k) u).alloc o⟩
                  cases hbk : pb k
                  · rw [hbk] at x1 hrm
                    simp only [Net.room, Bool.false_eq_true, if_false] at hrm
                    have HN2 := hid (fun i hi => HN.out i hi m (by rw [hbk]; rfl))
                    clear HN hbk
                    go_wp2
                    go_roundg (gk - 1)
                    case measure => omega
                    case rel =>
                      obtain ⟨r1, r2, r3, r4⟩ := HS.out (Obj.cells #[Value.int IntKind.i64 (pa k : Nat), Value.bool false] 86) (.int .i64 (f (pa k) + m))
                      exact ⟨k + 1, by omega, by omega, by go_num, r1, r4.congr HN2.out, r2, r3⟩
                  · rw [hbk] at x1 hrm
                    simp only [Net.room, if_true] at hrm
                    have HN2 := hid (fun i hi => HN.out i hi (-m) (by rw [hbk]; rfl))
                    clear HN hbk
                    go_wp2
                    go_roundg (gk - 1)
                    case measure => omega
                    case rel =>
                      obtain ⟨r1, r2, r3, r4⟩ := HS.out (Obj.cells #[Value.int IntKind.i64 (pa k : Nat), Value.bool true] 86) (.int .i64 (f (pa k) - m))
                      exact ⟨k + 1, by omega, by omega, by go_num, r1, r4.congr HN2.out, r2, r3⟩
                · obtain rfl : k = len := by omega
                  have hFa := augment HE.out hF HP.out (by omega : (0:Int) ≤ m) HMR.out
                  have hvb2 := flowing_bd HE.out hFa
                  have u0 : wr.cell? ⟨W1.heap.size + 1, 0, none⟩ = some (.int .i64 val) := hou.cell (i := 0) (by omega)
                  have u1 : wr.frozen? ⟨W1.heap.size + 1, 0, none⟩ = false := hou.frozen _
                  have HFA := hid hFa
                  clear hFa
                  go_wp2
                  go_roundg (gK - 1)
                  case measure => omega
                  case rel =>
                    refine ⟨val + m, _, HFA.out, by omega, by omega, hBu.setCell (by simp) _, hru.setOther (by simp) _, (hou.set 0 _).congr fun j hj => ?_⟩
                    match j, hj with
                    | 0, _ => rfl
                    | 1, _ => rfl
                    | 2, _ => rfl
            · obtain ⟨k1, k2, k3, k4, k5⟩ := hR.found.by_ v hsv hvs
              have hne : (((v : Nat) : Int) != s) = true := by rw [bne_iff_ne]; omega
              obtain ⟨ba, oa, rfl, hba, a0, a1, a2⟩ := (h.on hBpW).at k1
              obtain ⟨g0, g1, g2, g3, g4, g5⟩ := hg.arc _ k1
              obtain ⟨f0, f1⟩ := hF.cap _ k1
              have l0 := hrowp.cell k1
              have k1' : (arc v : Int) < (N.n : Int) := by omega
              have hplen : len ≤ 256 := by have := hP.few; omega
              have hy1 : W1.heap.size + 1 < wr.heap.size := by omega
              have hy2 : W1.heap.size < wr.heap.size := by omega
              have hy3 : w.heap.size < wr.heap.size := by omega
              cases hbk : back v
              · rw [hbk] at b1 k2 k3 k4 k5
                have hroom : 0 < N.cp (arc v) - f (arc v) := k3
                have HPO1 : Own wr W2.heap.size 86 2 u13 len (stepCell (fun j => if j = len then arc v else pa j) (fun j => if j = len then false else pb j)) := hPO.congr fun i hi j _ => by simp only [stepCell, if_neg (show ¬ i = len by omega)]
                have N1 : Hid (∀ W : World, W.heap.size = wr.heap.size + 1 + 1 → ∀ j, j < 2 → (W.alloc (Obj.cells #[Value.int IntKind.i64 (arc v : Nat), Value.bool false] 86)).cell? ((⟨wr.heap.size + 1 + 1, 0, none⟩ : Addr).add j) = some (stepCell (fun j => if j = len then arc v else pa j) (fun j => if j = len then false else pb j) len j)) := fun W hW j hj => by
                  match j, hj with
                  | 0, _ => simp only [stepCell, if_true]; exact World.cell?_alloc_at _ _ _ _ hW.symm
                  | 1, _ => simp only [stepCell, if_true]; exact World.cell?_alloc_at _ _ _ _ hW.symm
                have N2 : Hid (∀ j, j < 2 → (stepCell (fun j => if j = len then arc v else pa j) (fun j => if j = len then false else pb j) len j).oneCell' = true) := fun j hj => by
                  match j, hj with
                  | 0, _ => rfl
                  | 1, _ => rfl
                have n3 : Hid (len + 1 ≤ maxLen) := by show _ ≤ _; unfold maxLen; omega
                have n4 : Hid ((len + 1) * 16 ≤ 140737488355328) := by show _ ≤ _; omega
                have HP := hid (path_step hP k1 k3 k2 k5)
                have HS := hid k4
                have HC : Hid ((((N.src (arc v) false : Nat)) : Int) = N.fr (arc v)) := by show _ = _; simp only [Net.src, Bool.false_eq_true, if_false]; omega
                have HR : Hid (N.room f (arc v) false = N.cp (arc v) - f (arc v)) := by show _ = _; simp only [Net.room, Bool.false_eq_true, if_false]
                have HK : Hid (rk (N.src (arc v) false) < rk v) := k5
                have HBP : Hid (∀ o1 o2 o3 k w3, ((((wr.alloc o1).alloc o2).drewN k).alloc o3).grownBy w3 u13.ownBlock → Below W2.heap.size W2 w3) := fun o1 o2 o3 k w3 hg => ((below_drewN ((hBp.alloc (by omega) o1).alloc (by simp; omega) o2) k).alloc (by simp; omega) o3).grown hg (by simp; omega) (fun q e => (hPO.lt q e).1)
                have HM := hid hm
                clear k2 k3 k4 k5 hP hsv hm hPO hbk
                by_cases hA : m < 0
                · have hl0 : len = 0 := by rcases HM.out with ⟨d1, d2⟩ | ⟨d1, d2, d3, d4⟩ <;> omega
                  go_wp2
                  go_quiet (fail)
                  go_wp2_with (first | (at_builtin; (refine wpList_append_one _ rfl (.tmp 124) (.tmp 126) _ rfl W2.heap.size 86 i0 _ 2 16 Try.underlying84 qi0 qz0 qz1 qz2 rfl (by omega) u13 len _ rfl ((((HPO1.alloc _).alloc _).drewN _).alloc _) ⟨wr.heap.size + 1 + 1, 0, none⟩ 1 rfl (N1.out _ (by simp)) N2.out n3.out n4.out (by simp; omega) ?_); intro v' w3 hown3 hg3 hat3))
                  have hBp3 := HBP.out _ _ _ _ _ hg3
                  go_roundg (rk (N.src (arc v) false))
                  case measure => have := HK.out; omega
                  case rel =>
                    refine ⟨len + 1, _, _, N.src (arc v) false, N.cp (arc v) - f (arc v), HP.out, HS.out, by rw [HC.out], Nat.le_refl _, hown3, rfl, .inr ⟨by omega, by omega, by omega, fun j hj => ?_⟩, hBp3⟩
                    show _ ≤ N.room f (if j = len then arc v else pa j) (if j = len then false else pb j)
                    by_cases e : j = len
                    · rw [if_pos e, if_pos e, HR.out]; exact Int.le_refl _
                    · rw [if_neg e, if_neg e]
                      exfalso; omega
                · have hl0 : 0 < len := by rcases HM.out with ⟨d1, d2⟩ | ⟨d1, d2, d3, d4⟩ <;> omega
                  have hl1 : 0 < m ∧ m ≤ 1099511627776 := by rcases HM.out with ⟨d1, d2⟩ | ⟨d1, d2, d3, d4⟩ <;> omega
                  obtain ⟨hl1, hl2⟩ := hl1
                  by_cases hC : N.cp (arc v) - f (arc v) < m
                  · go_wp2
                    go_quiet (fail)
                    go_wp2_with (first | (at_builtin; (refine wpList_append_one _ rfl (.tmp 124) (.tmp 126) _ rfl W2.heap.size 86 i0 _ 2 16 Try.underlying84 qi0 qz0 qz1 qz2 rfl (by omega) u13 len _ rfl ((((HPO1.alloc _).alloc _).drewN _).alloc _) ⟨wr.heap.size + 1 + 1, 0, none⟩ 1 rfl (N1.out _ (by simp)) N2.out n3.out n4.out (by simp; omega) ?_); intro v' w3 hown3 hg3 hat3))
                    have hBp3 := HBP.out _ _ _ _ _ hg3
                    go_roundg (rk (N.src (arc v) false))
                    case measure => have := HK.out; omega
                    case rel =>
                      refine ⟨len + 1, _, _, N.src (arc v) false, N.cp (arc v) - f (arc v), HP.out, HS.out, by rw [HC.out], Nat.le_refl _, hown3, rfl, .inr ⟨by omega, by omega, by omega, fun j hj => ?_⟩, hBp3⟩
                      show _ ≤ N.room f (if j = len then arc v else pa j) (if j = len then false else pb j)
                      by_cases e : j = len
                      · rw [if_pos e, if_pos e, HR.out]; exact Int.le_refl _
                      · rw [if_neg e, if_neg e]
                        rcases HM.out with ⟨d1, d2⟩ | ⟨d1, d2, d3, d4⟩
                        · exfalso; omega
                        · have := d4.out j (by omega); omega
                  · go_wp2
                    go_quiet (fail)
                    go_wp2_with (first | (at_builtin; (refine wpList_append_one _ rfl (.tmp 124) (.tmp 126) _ rfl W2.heap.size 86 i0 _ 2 16 Try.underlying84 qi0 qz0 qz1 qz2 rfl (by omega) u13 len _ rfl ((((HPO1.alloc _).alloc _).drewN _).alloc _) ⟨wr.heap.size + 1 + 1, 0, none⟩ 1 rfl (N1.out _ (by simp)) N2.out n3.out n4.out (by simp; omega) ?_); intro v' w3 hown3 hg3 hat3))
                    have hBp3 := HBP.out _ _ _ _ _ hg3
                    go_roundg (rk (N.src (arc v) false))
                    case measure => have := HK.out; omega
                    case rel =>
                      refine ⟨len + 1, _, _, N.src (arc v) false, m, HP.out, HS.out, by rw [HC.out], Nat.le_refl _, hown3, rfl, .inr ⟨by omega, by omega, by omega, fun j hj => ?_⟩, hBp3⟩
                      show _ ≤ N.room f (if j = len then arc v else pa j) (if j = len then false else pb j)
                      by_cases e : j = len
                      · rw [if_pos e, if_pos e, HR.out]; omega
                      · rw [if_neg e, if_neg e]
                        rcases HM.out with ⟨d1, d2⟩ | ⟨d1, d2, d3, d4⟩
                        · exfalso; omega
                        · have := d4.out j (by omega); omega
              · rw [hbk] at b1 k2 k3 k4 k5
                have hroom : 0 < f (arc v) := k3
                have HPO1 : Own wr W2.heap.size 86 2 u13 len (stepCell (fun j => if j = len then arc v else pa j) (fun j => if j = len then true else pb j)) := hPO.congr fun i hi j _ => by simp only [stepCell, if_neg (show ¬ i = len by omega)]
                have N1 : Hid (∀ W : World, W.heap.size = wr.heap.size + 1 + 1 → ∀ j, j < 2 → (W.alloc (Obj.cells #[Value.int IntKind.i64 (arc v : Nat), Value.bool true] 86)).cell? ((⟨wr.heap.size + 1 + 1, 0, none⟩ : Addr).add j) = some (stepCell (fun j => if j = len then arc v else pa j) (fun j => if j = len then true else pb j) len j)) := fun W hW j hj => by
                  match j, hj with
                  | 0, _ => simp only [stepCell, if_true]; exact World.cell?_alloc_at _ _ _ _ hW.symm
                  | 1, _ => simp only [stepCell, if_true]; exact World.cell?_alloc_at _ _ _ _ hW.symm
                have N2 : Hid (∀ j, j < 2 → (stepCell (fun j => if j = len then arc v else pa j) (fun j => if j = len then true else pb j) len j).oneCell' = true) := fun j hj => by
                  match j, hj with
                  | 0, _ => rfl
                  | 1, _ => rfl
                have n3 : Hid (len + 1 ≤ maxLen) := by show _ ≤ _; unfold maxLen; omega
                have n4 : Hid ((len + 1) * 16 ≤ 140737488355328) := by show _ ≤ _; omega
                have HP := hid (path_step hP k1 k3 k2 k5)
                have HS := hid k4
                have HC : Hid ((((N.src (arc v) true : Nat)) : Int) = N.to (arc v)) := by show _ = _; simp only [Net.src, if_true]; omega
                have HR : Hid (N.room f (arc v) true = f (arc v)) := by show _ = _; simp only [Net.room, if_true]
                have HK : Hid (rk (N.src (arc v) true) < rk v) := k5
                have HBP : Hid (∀ o1 o2 o3 k w3, ((((wr.alloc o1).alloc o2).drewN k).alloc o3).grownBy w3 u13.ownBlock → Below W2.heap.size W2 w3) := fun o1 o2 o3 k w3 hg => ((below_drewN ((hBp.alloc (by omega) o1).alloc (by simp; omega) o2) k).alloc (by simp; omega) o3).grown hg (by simp; omega) (fun q e => (hPO.lt q e).1)
                have HM := hid hm
                clear k2 k3 k4 k5 hP hsv hm hPO hbk
                by_cases hA : m < 0
                · have hl0 : len = 0 := by rcases HM.out with ⟨d1, d2⟩ | ⟨d1, d2, d3, d4⟩ <;> omega
                  go_wp2
                  go_quiet (fail)
                  go_wp2_with (first | (at_builtin; (refine wpList_append_one _ rfl (.tmp 124) (.tmp 126) _ rfl W2.heap.size 86 i0 _ 2 16 Try.underlying84 qi0 qz0 qz1 qz2 rfl (by omega) u13 len _ rfl ((((HPO1.alloc _).alloc _).drewN _).alloc _) ⟨wr.heap.size + 1 + 1, 0, none⟩ 1 rfl (N1.out _ (by simp)) N2.out n3.out n4.out (by simp; omega) ?_); intro v' w3 hown3 hg3 hat3))
                  have hBp3 := HBP.out _ _ _ _ _ hg3
                  go_roundg (rk (N.src (arc v) true))
                  case measure => have := HK.out; omega
                  case rel =>
                    refine ⟨len + 1, _, _, N.src (arc v) true, f (arc v), HP.out, HS.out, by rw [HC.out], Nat.le_refl _, hown3, rfl, .inr ⟨by omega, by omega, by omega, fun j hj => ?_⟩, hBp3⟩
                    show _ ≤ N.room f (if j = len then arc v else pa j) (if j = len then true else pb j)
                    by_cases e : j = len
                    · rw [if_pos e, if_pos e, HR.out]; exact Int.le_refl _
                    · rw [if_neg e, if_neg e]
                      exfalso; omega
                · have hl0 : 0 < len := by rcases HM.out with ⟨d1, d2⟩ | ⟨d1, d2, d3, d4⟩ <;> omega
                  have hl1 : 0 < m ∧ m ≤ 1099511627776 := by rcases HM.out with ⟨d1, d2⟩ | ⟨d1, d2, d3, d4⟩ <;> omega
                  obtain ⟨hl1, hl2⟩ := hl1
                  by_cases hC : f (arc v) < m
                  · go_wp2
                    go_quiet (fail)
                    go_wp2_with (first | (at_builtin; (refine wpList_append_one _ rfl (.tmp 124) (.tmp 126) _ rfl W2.heap.size 86 i0 _ 2 16 Try.underlying84 qi0 qz0 qz1 qz2 rfl (by omega) u13 len _ rfl ((((HPO1.alloc _).alloc _).drewN _).alloc _) ⟨wr.heap.size + 1 + 1, 0, none⟩ 1 rfl (N1.out _ (by simp)) N2.out n3.out n4.out (by simp; omega) ?_); intro v' w3 hown3 hg3 hat3))
                    have hBp3 := HBP.out _ _ _ _ _ hg3
                    go_roundg (rk (N.src (arc v) true))
                    case measure => have := HK.out; omega
                    case rel =>
                      refine ⟨len + 1, _, _, N.src (arc v) true, f (arc v), HP.out, HS.out, by rw [HC.out], Nat.le_refl _, hown3, rfl, .inr ⟨by omega, by omega, by omega, fun j hj => ?_⟩, hBp3⟩
                      show _ ≤ N.room f (if j = len then arc v else pa j) (if j = len then true else pb j)
                      by_cases e : j = len
                      · rw [if_pos e, if_pos e, HR.out]; exact Int.le_refl _
                      · rw [if_neg e, if_neg e]
                        rcases HM.out with ⟨d1, d2⟩ | ⟨d1, d2, d3, d4⟩
                        · exfalso; omega
                        · have := d4.out j (by omega); omega
                  · go_wp2
                    go_quiet (fail)
                    go_wp2_with (first | (at_builtin; (refine wpList_append_one _ rfl (.tmp 124) (.tmp 126) _ rfl W2.heap.size 86 i0 _ 2 16 Try.underlying84 qi0 qz0 qz1 qz2 rfl (by omega) u13 len _ rfl ((((HPO1.alloc _).alloc _).drewN _).alloc _) ⟨wr.heap.size + 1 + 1, 0, none⟩ 1 rfl (N1.out _ (by simp)) N2.out n3.out n4.out (by simp; omega) ?_); intro v' w3 hown3 hg3 hat3))
                    have hBp3 := HBP.out _ _ _ _ _ hg3
                    go_roundg (rk (N.src (arc v) true))
                    case measure => have := HK.out; omega
                    case rel =>
                      refine ⟨len + 1, _, _, N.src (arc v) true, m, HP.out, HS.out, by rw [HC.out], Nat.le_refl _, hown3, rfl, .inr ⟨by omega, by omega, by omega, fun j hj => ?_⟩, hBp3⟩
                      show _ ≤ N.room f (if j = len then arc v else pa j) (if j = len then true else pb j)
                      by_cases e : j = len
                      · rw [if_pos e, if_pos e, HR.out]; omega
                      · rw [if_neg e, if_neg e]
                        rcases HM.out with ⟨d1, d2⟩ | ⟨d1, d2, d3, d4⟩
                        · exfalso; omega
                        · have := d4.out j (by omega); omega
end Go.Proofs.Ythdeldaeghhfgaa
