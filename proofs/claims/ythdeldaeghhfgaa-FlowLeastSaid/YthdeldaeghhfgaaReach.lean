/- codewrightref51.Reach: the search from s, told as the step by which each vertex is reached. -/
import Derived.Test.YthdeldaeghhfgaaTab
import Derived.Deep.RegionHeld3
import Derived.Deep.RegionLaw
import Derived.Deep.AppendLies
import Derived.Deep.DeepCutAuto
import Derived.IntWalk
namespace Go.Proofs.Ythdeldaeghhfgaa
open Go.RowKit

/-- A step as a number: 2i forwards along arc i, 2i + 1 backwards. -/
def codeOf : Nat × Bool → Int
  | (i, false) => 2 * (i : Int)
  | (i, true) => 2 * (i : Int) + 1
def codeCell (L : List (Nat × Bool)) (j _k : Nat) : Value := .int .i64 (codeOf (L.getD j (0, false)))
theorem codeOf_bd (i : Nat) (b : Bool) : 0 ≤ codeOf (i, b) ∧ codeOf (i, b) ≤ 2 * (i : Int) + 1 := by cases b <;> simp only [codeOf] <;> omega
theorem codeOf_half (i : Nat) (b : Bool) : codeOf (i, b) / 2 = i := by cases b <;> simp only [codeOf] <;> omega
theorem codeOf_mod (i : Nat) (b : Bool) : codeOf (i, b) % 2 = if b then 1 else 0 := by cases b <;> simp only [codeOf, if_true, if_false, Bool.false_eq_true] <;> omega
theorem codeCell_append {L : List (Nat × Bool)} {x : List (Nat × Bool)} {j k : Nat} (hj : j < L.length) : codeCell L j k = codeCell (L ++ x) j k := by
  have : (L ++ x).getD j (0, false) = L.getD j (0, false) := by
    rw [List.getD_eq_getElem?_getD, List.getD_eq_getElem?_getD, List.getElem?_append_left hj]
  unfold codeCell
  rw [this]
theorem codeCell_last {L : List (Nat × Bool)} {i : Nat} {b : Bool} {k : Nat} : codeCell (L ++ [(i, b)]) L.length k = .int .i64 (codeOf (i, b)) := by
  unfold codeCell
  simp [List.getD_eq_getElem?_getD]

/-- One step more at vertex v, stored back. -/
theorem tab_put1 {X w3 : World} {g base te e m : Nat} {F : Nat → Value} {L L' : Nat → List (Nat × Bool)} (hT : TabOwn X g base te e 1 m F (fun v => (L v).length) (fun v => codeCell (L v))) (hgb : g < base) {v : Nat} (hv : v < m) {x : Nat × Bool} {bg bo bc : Nat} {fv : Value} (hfv : fv = F v)
    (hown : Own w3 base e 1 (.slice (some ⟨bg, bo, none⟩) ((L v).length + 1) bc) ((L v).length + 1) (codeCell (L v ++ [x]))) (hg : X.grownBy w3 fv.ownBlock) (hat : fv.ownBlock = some bg ∨ bg = X.heap.size) (hL : ∀ u, L' u = if u = v then L u ++ [x] else L u) :
    ∃ F', TabOwn (w3.setCell ⟨g, v, none⟩ (.slice (some ⟨bg, bo, none⟩) ((L v).length + 1) bc)) g base te e 1 m F' (fun v => (L' v).length) (fun v => codeCell (L' v)) ∧ ∀ u, u < m → (F' u).ownBlock = (F u).ownBlock ∨ (F' u).ownBlock = some X.heap.size := by
  subst hfv
  have h := hT.put hgb hv hown hg (by
    rcases hat with h1 | h1
    · exact .inl h1.symm
    · exact .inr (by rw [← h1]; rfl))
  refine ⟨_, ⟨h.row, fun u hu => ?_, h.apart⟩, fun u hu => ?_⟩
  rotate_left
  · by_cases e : u = v
    · simp only [if_pos e]
      subst e
      rcases hat with h1 | h1
      · exact .inl h1.symm
      · exact .inr (by rw [← h1]; rfl)
    · simp only [if_neg e]; exact .inl trivial
  have h1 := h.own u hu
  simp only [hL]
  by_cases e : u = v
  · subst e
    simp only [if_true] at h1 ⊢
    rw [List.length_append]
    exact h1
  · simp only [if_neg e] at h1 ⊢
    exact h1

/-- A slice of slices of steps as numbers. -/
def CodeTab (w : World) (B : Nat) (T : Option Addr) (m : Nat) (L : Nat → List (Nat × Bool)) : Prop :=
  ∀ v, v < m → ∃ b off A c, T = some ⟨b, off, none⟩ ∧ b < B ∧ w.cell? ⟨b, off + v, none⟩ = some (.slice A (L v).length c) ∧ Rd w B A (L v).length 1 (codeCell (L v))
theorem tab_codes {w : World} {g base te e m : Nat} {F : Nat → Value} {L : Nat → List (Nat × Bool)} (h : TabOwn w g base te e 1 m F (fun v => (L v).length) (fun v => codeCell (L v))) : CodeTab w w.heap.size (some ⟨g, 0, none⟩) m L := fun v hv => by
  obtain ⟨A, c, hs⟩ := (h.own v hv).shape
  exact ⟨g, 0, A, c, rfl, h.row.lt, by rw [Nat.zero_add, h.row.cell hv, hs], (h.own v hv).rd hs⟩

/-- The step by which v is reached: -1 for s, -2 for none. -/
def stepOf (s : Nat) (seen : Nat → Bool) (arc : Nat → Nat) (back : Nat → Bool) (v : Nat) : Int := if v = s then -1 else if seen v then codeOf (arc v, back v) else -2
theorem stepOf_un {s : Nat} {seen : Nat → Bool} {arc : Nat → Nat} {back : Nat → Bool} {v : Nat} (hs : seen s = true) (h : seen v = false) : stepOf s seen arc back v = -2 := by
  have : v ≠ s := fun e => by rw [e, hs] at h; cases h
  simp [stepOf, this, h]
theorem stepOf_in {s : Nat} {seen : Nat → Bool} {arc : Nat → Nat} {back : Nat → Bool} {v : Nat} (h : seen v = true) : -1 ≤ stepOf s seen arc back v := by
  unfold stepOf
  have := (codeOf_bd (arc v) (back v)).1
  rw [if_pos h]
  split <;> omega
theorem stepOf_push {s : Nat} {seen : Nat → Bool} {arc : Nat → Nat} {back : Nat → Bool} {t i : Nat} {b : Bool} (hs : seen s = true) (ht : seen t = false) (v : Nat) :
    stepOf s (fun u => if u = t then true else seen u) (fun u => if u = t then i else arc u) (fun u => if u = t then b else back u) v = if v = t then codeOf (i, b) else stepOf s seen arc back v := by
  have : t ≠ s := fun e => by rw [e, hs] at ht; cases ht
  by_cases e : v = t
  · subst e; simp [stepOf, this]
  · simp [stepOf, e]

theorem bfs_pop' {N : Net} {f : Nat → Int} {s : Nat} {seen : Nat → Bool} {arc : Nat → Nat} {back : Nat → Bool} {rk : Nat → Nat} {cnt qn k : Nat} {q : Nat → Nat} (h : Bfs N f s seen arc back rk cnt (qn - k) (fun j => q (k + j)) (fun _ => False)) (hq : k < qn) :
    Bfs N f s seen arc back rk cnt (qn - (k + 1)) (fun j => q (k + 1 + j)) (fun u => u = q k) := by
  have := bfs_pop h (by omega)
  have e : (fun j => q (k + (j + 1))) = fun j => q (k + 1 + j) := funext fun j => by rw [show k + (j + 1) = k + 1 + j by omega]
  rw [show qn - k - 1 = qn - (k + 1) by omega] at this
  simp only [Nat.add_zero] at this
  rw [e] at this
  exact this
theorem bfs_push' {N : Net} (hg : N.Good) {f : Nat → Int} {s : Nat} {seen : Nat → Bool} {arc : Nat → Nat} {back : Nat → Bool} {rk : Nat → Nat} {cnt qn k : Nat} {q : Nat → Nat} {v : Nat → Prop} (h : Bfs N f s seen arc back rk cnt (qn - k) (fun j => q (k + j)) v) (hk : k ≤ qn)
    {i : Nat} {b : Bool} (hi : i < N.n) (hsrc : seen (N.src i b) = true) (hr : 0 < N.room f i b) (hn : seen (N.tgt i b) = false) :
    Bfs N f s (fun u => if u = N.tgt i b then true else seen u) (fun u => if u = N.tgt i b then i else arc u) (fun u => if u = N.tgt i b then b else back u) (fun u => if u = N.tgt i b then cnt else rk u) (cnt + 1) (qn + 1 - k) (fun j => if k + j = qn then N.tgt i b else q (k + j)) v := by
  have := bfs_push hg h hi hsrc hr hn
  have e : (fun j => if j = qn - k then N.tgt i b else q (k + j)) = fun j => if k + j = qn then N.tgt i b else q (k + j) := funext fun j => by
    by_cases e : k + j = qn
    · rw [if_pos e, if_pos (by omega)]
    · rw [if_neg e, if_neg (by omega)]
  rw [show qn - k + 1 = qn + 1 - k by omega, e] at this
  exact this

/-- What Reach leaves. -/
def ReachPost (N : Net) (f : Nat → Int) (s : Nat) (w : World) (e : Ending) (w' : World) : Prop :=
  ∃ seen arc back rk cnt b, Reached N f s seen arc back rk cnt ∧ e = .returned (.slice (some ⟨b, 0, none⟩) N.V.toNat N.V.toNat) ∧ Below w.heap.size w w' ∧ w'.rowIs b 3 N.V.toNat (fun v => .int .i64 (stepOf s seen arc back v)) ∧ w.heap.size ≤ b

theorem Try.infoInts : (Try.prog.info? 33).map (fun i => (i.zero, i.size, i.bytes)) = some (some (.slice none 0 0), 1, 24) := by kernel_rfl

set_option maxRecDepth 100000 in
set_option maxHeartbeats 16000000 in
theorem reach_any (N : Net) (A FA : Option Addr) (c d : Nat) (s : Int) (f : Nat → Int) (w : World) (h : N.Reads w w.heap.size A) (hf : Ints w w.heap.size FA N.n f) (hg : N.Good) (hbd : Hid (∀ i, i < N.n → 0 ≤ f i ∧ f i ≤ N.cp i)) (s0 : 0 ≤ s) (s1 : s < N.V) :
    Calls Try.prog 41 #[.agg #[.int .i64 N.V, .slice A N.n c], .slice FA N.n d, .int .i64 s] w (ReachPost N f s.toNat w) := by
  have hn := hg.n2
  have v1 := hg.v1
  have v2 := hg.v2
  have hmk := fun W => run_makeI (P := Try.prog) 76 33 _ 24 Try.underlying76 Try.infoInts rfl N.V (by omega) (by omega) (by omega) W
  have hmk2 := fun W => run_makeI (P := Try.prog) 33 3 _ 8 Try.underlying33 Try.infoInt rfl N.V (by omega) (by omega) (by omega) W
  obtain ⟨i0, qi0, qz0, qz1, qz2⟩ := info_parts Try.infoInt
  go_enter Try.func41, Try.ntmps41
  go_wp2
  go_loopg [8] N.n (fun n iv wr => ∃ k F, k ≤ N.n ∧ N.n ≤ k + n ∧ iv = .int .i64 (k : Nat) ∧ Below (w.heap.size + 1) (w.alloc (Obj.cells #[Value.int IntKind.i64 N.V, Value.slice A N.n c] 24)) wr ∧
      TabOwn wr (w.heap.size + 1) (w.heap.size + 2) 33 3 1 N.V.toNat F (fun v => (stepsTo N v k).length) (fun v => codeCell (stepsTo N v k)))
  case atStart =>
    refine ⟨0, fun _ => .slice none 0 0, by omega, by omega, rfl, (Below.refl _ _).alloc (by simp) _, ?_, fun v hv => Own.nil _ _ _ _ _, fun v u _ _ _ => .inl rfl⟩
    have h1 := World.rowIs_made (w.alloc (Obj.cells #[Value.int IntKind.i64 N.V, Value.slice A N.n c] 24)) (.slice none 0 0) N.V.toNat 33
    simpa using h1
  case round =>
    obtain ⟨k, F, hk, hkn, rfl, hB, hT⟩ := hrel
    clear hmk
    have hB' := box_below hB
    have hz0 : w.heap.size < wr.heap.size := box_lt hB
    have hz1 : w.heap.size + 1 < wr.heap.size := hT.row.lt
    have pbx := box_cell hB 1 rfl
    by_cases hlt : k < N.n
    · clear hmk2
      obtain ⟨ba, oa, rfl, hba, a0, a1, a2⟩ := (h.on hB').at hlt
      obtain ⟨g0, g1, g2, g3, g4, g5⟩ := hg.arc k hlt
      have g1' : N.fr k < (N.V.toNat : Int) := by omega
      have g3' : N.to k < (N.V.toNat : Int) := by omega
      have g1'' : N.fr k < max N.V 0 := by omega
      have g3'' : N.to k < max N.V 0 := by omega
      have f0 : wr.cell? ⟨w.heap.size + 1, (N.fr k).toNat, none⟩ = some (F (N.fr k).toNat) := hT.row.cell (by omega)
      have f1 : wr.frozen? ⟨w.heap.size + 1, (N.fr k).toNat, none⟩ = false := hT.row.frozen _
      have hl1 := (steps_len N (N.fr k).toNat k).1
      have HO := hT.own (N.fr k).toNat (by omega)
      obtain ⟨fv, hfv⟩ : ∃ fv, fv = F (N.fr k).toNat := ⟨_, rfl⟩
      rw [← hfv] at f0 HO
      have HFV := hid hfv
      clear hfv
      have HO1 : Own wr (w.heap.size + 2) 3 1 fv (stepsTo N (N.fr k).toNat k).length (codeCell (stepsTo N (N.fr k).toNat k ++ [(k, false)])) := HO.congr fun i hi j _ => codeCell_append hi
      have HW : Hid (IntKind.i64.wrap (2 * (k : Int)) = 2 * (k : Int)) := IntWalk.i64_in _ (by omega)
      have N1 : Hid (∀ j, j < 1 → ((wr.alloc (Obj.cells #[Value.int IntKind.i64 (N.fr k), Value.int IntKind.i64 (N.to k), Value.int IntKind.i64 (N.cp k)] 36)).alloc (Obj.cells #[Value.int IntKind.i64 (IntKind.i64.wrap (2 * (k : Int)))] 3)).drew.cell? ((⟨wr.heap.size + 1, 0, none⟩ : Addr).add j) = some (codeCell (stepsTo N (N.fr k).toNat k ++ [(k, false)]) (stepsTo N (N.fr k).toNat k).length j)) := fun j hj => by
        obtain rfl : j = 0 := by omega
        rw [codeCell_last, HW.out]; exact World.cell?_alloc_at _ _ _ _ (by simp)
      have n3 : Hid ((stepsTo N (N.fr k).toNat k).length + 1 ≤ maxLen) := by show _ ≤ _; unfold maxLen; omega
      have n4 : Hid (((stepsTo N (N.fr k).toNat k).length + 1) * 8 ≤ 140737488355328) := by show _ ≤ _; omega
      have N2 : Hid (∀ j, j < 1 → (codeCell (stepsTo N (N.fr k).toNat k ++ [(k, false)]) (stepsTo N (N.fr k).toNat k).length j).oneCell' = true) := fun j hj => rfl
      have hbe := fun o1 o2 => ((((Below.refl _ wr).alloc (Nat.le_refl _) o1).alloc (by simp) o2).drew : Below wr.heap.size wr ((wr.alloc o1).alloc o2).drew)
      have F0 := hid fun o1 o2 => cellS (hbe o1 o2) f0
      have F1 := hid fun o1 o2 => ((hbe o1 o2).frozen (p := ⟨w.heap.size + 1, (N.fr k).toNat, none⟩) hz1).trans f1
      have FNE : Hid (some (w.heap.size + 1) ≠ fv.ownBlock) := fun e => by have := (HO.lt _ e.symm).1; omega
      have C5 : Hid (∀ (o2 : Obj) (w3 : World), ((wr.alloc (Obj.cells #[Value.int IntKind.i64 (N.fr k), Value.int IntKind.i64 (N.to k), Value.int IntKind.i64 (N.cp k)] 36)).alloc o2).drew.grownBy w3 fv.ownBlock → w3.cell? ⟨wr.heap.size, 1, none⟩ = some (.int .i64 (N.to k))) := fun o2 w3 hg => hg.cell (by go_simp) (fun e => by have := (HO.lt _ e.symm).2; simp at this)
      have LM : Hid (∀ u, stepsMid N u k = if u = (N.fr k).toNat then stepsTo N u k ++ [(k, false)] else stepsTo N u k) := fun u => by
        unfold stepsMid
        by_cases e : u = (N.fr k).toNat
        · rw [if_pos e, if_pos e.symm]
        · rw [if_neg e, if_neg (fun h => e h.symm), List.append_nil]
      have QQ : Hid (∀ o1 o2 : Obj, w.heap.size + 1 < ((wr.alloc o1).alloc o2).drew.heap.size) := fun o1 o2 => by simp; omega
      clear hbe
      have C4 : Hid (∀ (o2 : Obj) (w3 : World), ((wr.alloc (Obj.cells #[Value.int IntKind.i64 (N.fr k), Value.int IntKind.i64 (N.to k), Value.int IntKind.i64 (N.cp k)] 36)).alloc o2).drew.grownBy w3 fv.ownBlock → w3.cell? ⟨wr.heap.size, 0, none⟩ = some (.int .i64 (N.fr k))) := fun o2 w3 hg => hg.cell (by simp) (fun e => by have := (HO.lt _ e.symm).2; simp at this)
      have T4 : Hid (∀ o1 o2, TabOwn ((wr.alloc o1).alloc o2).drew (w.heap.size + 1) (w.heap.size + 2) 33 3 1 N.V.toNat F (fun v => (stepsTo N v k).length) (fun v => codeCell (stepsTo N v k))) := fun o1 o2 => ((hT.alloc o1).alloc o2).drew
      have B4 : Hid (∀ o1 o2 w3 p u, ((wr.alloc o1).alloc o2).drew.grownBy w3 fv.ownBlock → w.heap.size + 1 ≤ p.block → Below (w.heap.size + 1) (w.alloc (Obj.cells #[Value.int IntKind.i64 N.V, Value.slice (some ⟨ba, oa, none⟩) N.n c] 24)) (w3.setCell p u)) := fun o1 o2 w3 p u hg hp =>
        ((((hB.alloc (by omega) o1).alloc (by simp; omega) o2).drew).grown hg (by simp; omega) (fun q e => by have := (HO.lt q e).1; omega)).setCell hp _
      have S4 : Hid (∀ o1 o2 w3, ((wr.alloc o1).alloc o2).drew.grownBy w3 fv.ownBlock → wr.heap.size < w3.heap.size) := fun o1 o2 w3 hg => by have := hg.size; simp at this; omega
      have TP : Hid (∀ o1 o2 w3 bg bo bc, Own w3 (w.heap.size + 2) 3 1 (.slice (some ⟨bg, bo, none⟩) ((stepsTo N (N.fr k).toNat k).length + 1) bc) ((stepsTo N (N.fr k).toNat k).length + 1) (codeCell (stepsTo N (N.fr k).toNat k ++ [(k, false)])) → ((wr.alloc o1).alloc o2).drew.grownBy w3 fv.ownBlock → (fv.ownBlock = some bg ∨ bg = ((wr.alloc o1).alloc o2).drew.heap.size) →
          ∃ F', TabOwn (w3.setCell ⟨w.heap.size + 1, (N.fr k).toNat, none⟩ (.slice (some ⟨bg, bo, none⟩) ((stepsTo N (N.fr k).toNat k).length + 1) bc)) (w.heap.size + 1) (w.heap.size + 2) 33 3 1 N.V.toNat F' (fun v => (stepsMid N v k).length) (fun v => codeCell (stepsMid N v k)) ∧ ∀ v, v < N.V.toNat → (F' v).ownBlock ≠ some wr.heap.size) := fun o1 o2 w3 bg bo bc k1 k2 k3 => by
        obtain ⟨F', h1, h2⟩ := tab_put1 (T4.out o1 o2) (by omega) (v := (N.fr k).toNat) (by omega) HFV.out k1 k2 k3 LM.out
        refine ⟨F', h1, fun u hu e => ?_⟩
        rcases h2 u hu with h3 | h3
        · rw [h3] at e
          have := ((hT.own u hu).lt _ e).2
          omega
        · rw [h3] at e
          injection e with e
          simp at e
          try omega
      go_upto_region 6 with fail
      go_cut [] (fun wx => (∃ F', TabOwn wx (w.heap.size + 1) (w.heap.size + 2) 33 3 1 N.V.toNat F' (fun v => (stepsMid N v k).length) (fun v => codeCell (stepsMid N v k)) ∧ ∀ v, v < N.V.toNat → (F' v).ownBlock ≠ some wr.heap.size) ∧
        Below (w.heap.size + 1) (w.alloc (Obj.cells #[Value.int IntKind.i64 N.V, Value.slice (some ⟨ba, oa, none⟩) N.n c] 24)) wx ∧ wx.cell? ⟨wr.heap.size, 1, none⟩ = some (.int .i64 (N.to k)) ∧ wr.heap.size < wx.heap.size)
      case first =>
        go_region_law ((refine step_append_at _ (by rfl) (.tmp 41) (.tmp 44) _ (by rfl) (w.heap.size + 2) 3 i0 _ 1 8 Try.underlying33 qi0 qz0 qz1 qz2 rfl (by omega) fv (stepsTo N (N.fr k).toNat k).length _ (by rfl) (((HO1.alloc _).alloc _).drew) ⟨wr.heap.size + 1, 0, none⟩ 1 (by rfl) N1.out N2.out n3.out n4.out (by simp; omega) ?_; intro bg bo bc w3 hown3 hg3 hat3; have c4 := C4.out _ _ hg3; have c3 := hg3.cell (F0.out _ _) FNE.out; have z3 := (hg3.frozen_far ⟨w.heap.size + 1, (N.fr k).toNat, none⟩ (QQ.out _ _) FNE.out).trans (F1.out _ _)))
        all_goals
          go_wp2_with fail
          go_meet
          exact ⟨TP.out _ _ _ _ _ _ hown3 hg3 (by simpa using hat3), B4.out _ _ _ _ _ hg3 (by simp), cell_setCell_far (C5.out _ _ hg3) (by simp; omega), by simp [World.setCell]; exact S4.out _ _ _ hg3⟩
      case rest =>
        obtain ⟨⟨F2, hT2, hANE⟩, hB2, c5, hs5⟩ := hcut
        clear TP F0 F1 FNE C4 C5 QQ N1 N2 T4 B4 S4 LM n3 n4 HO HO1 HFV hT hB f0 f1 a0 a1 a2 pbx
        have hz2 : w.heap.size + 1 < wc.heap.size := hT2.row.lt
        have f0 : wc.cell? ⟨w.heap.size + 1, (N.to k).toNat, none⟩ = some (F2 (N.to k).toNat) := hT2.row.cell (by omega)
        have f1 : wc.frozen? ⟨w.heap.size + 1, (N.to k).toNat, none⟩ = false := hT2.row.frozen _
        have hl1 := (steps_len N (N.to k).toNat k).2
        have HO := hT2.own (N.to k).toNat (by omega)
        obtain ⟨fv, hfv⟩ : ∃ fv, fv = F2 (N.to k).toNat := ⟨_, rfl⟩
        rw [← hfv] at f0 HO
        have HFV := hid hfv
        clear hfv
        have HO1 : Own wc (w.heap.size + 2) 3 1 fv (stepsMid N (N.to k).toNat k).length (codeCell (stepsMid N (N.to k).toNat k ++ [(k, true)])) := HO.congr fun i hi j _ => codeCell_append hi
        have HW2 : Hid (IntKind.i64.wrap (IntKind.i64.wrap (2 * (k : Int)) + 1) = 2 * (k : Int) + 1) := by show _ = _; rw [HW.out]; exact IntWalk.i64_in _ (by omega)
        have N1 : Hid (∀ j, j < 1 → (wc.alloc (Obj.cells #[Value.int IntKind.i64 (IntKind.i64.wrap (IntKind.i64.wrap (2 * (k : Int)) + 1))] 3)).drew.cell? ((⟨wc.heap.size, 0, none⟩ : Addr).add j) = some (codeCell (stepsMid N (N.to k).toNat k ++ [(k, true)]) (stepsMid N (N.to k).toNat k).length j)) := fun j hj => by
          obtain rfl : j = 0 := by omega
          rw [codeCell_last, HW2.out]; exact World.cell?_alloc_at _ _ _ _ rfl
        have n3 : Hid ((stepsMid N (N.to k).toNat k).length + 1 ≤ maxLen) := by show _ ≤ _; unfold maxLen; omega
        have n4 : Hid (((stepsMid N (N.to k).toNat k).length + 1) * 8 ≤ 140737488355328) := by show _ ≤ _; omega
        have N2 : Hid (∀ j, j < 1 → (codeCell (stepsMid N (N.to k).toNat k ++ [(k, true)]) (stepsMid N (N.to k).toNat k).length j).oneCell' = true) := fun j hj => rfl
        have hbe := fun o2 => (((Below.refl _ wc).alloc (Nat.le_refl _) o2).drew : Below wc.heap.size wc (wc.alloc o2).drew)
        have F0 := hid fun o2 => cellS (hbe o2) f0
        have F1 := hid fun o2 => ((hbe o2).frozen (p := ⟨w.heap.size + 1, (N.to k).toNat, none⟩) hz2).trans f1
        have FNE : Hid (some (w.heap.size + 1) ≠ fv.ownBlock) := fun e => by have := (HO.lt _ e.symm).1; omega
        have LM : Hid (∀ u, stepsTo N u (k + 1) = if u = (N.to k).toNat then stepsMid N u k ++ [(k, true)] else stepsMid N u k) := fun u => by
          rw [stepsTo_succ]
          by_cases e : u = (N.to k).toNat
          · rw [if_pos e, if_pos e.symm]
          · rw [if_neg e, if_neg (fun h => e h.symm), List.append_nil]
        have QQ : Hid (∀ o2 : Obj, w.heap.size + 1 < (wc.alloc o2).drew.heap.size) := fun o2 => by simp; omega
        have T4 : Hid (∀ o2, TabOwn (wc.alloc o2).drew (w.heap.size + 1) (w.heap.size + 2) 33 3 1 N.V.toNat F2 (fun v => (stepsMid N v k).length) (fun v => codeCell (stepsMid N v k))) := fun o2 => (hT2.alloc o2).drew
        have B4 : Hid (∀ o2 w3 p u, (wc.alloc o2).drew.grownBy w3 fv.ownBlock → w.heap.size + 1 ≤ p.block → Below (w.heap.size + 1) (w.alloc (Obj.cells #[Value.int IntKind.i64 N.V, Value.slice (some ⟨ba, oa, none⟩) N.n c] 24)) (w3.setCell p u)) := fun o2 w3 p u hg hp =>
          (((hB2.alloc (by omega) o2).drew).grown hg (by simp; omega) (fun q e => by have := (HO.lt q e).1; omega)).setCell hp _
        have ANE : Hid (fv.ownBlock ≠ some wr.heap.size) := by show _ ≠ _; rw [HFV.out]; exact hANE _ (by omega)
        have C5 : Hid (∀ (o2 : Obj) (w3 : World), (wc.alloc o2).drew.grownBy w3 fv.ownBlock → w3.cell? ⟨wr.heap.size, 1, none⟩ = some (.int .i64 (N.to k))) := fun o2 w3 hg => hg.cell (cellS (hbe o2) c5) (fun e => ANE.out e.symm)
        clear hbe
        have TP : Hid (∀ o2 w3 bg bo bc, Own w3 (w.heap.size + 2) 3 1 (.slice (some ⟨bg, bo, none⟩) ((stepsMid N (N.to k).toNat k).length + 1) bc) ((stepsMid N (N.to k).toNat k).length + 1) (codeCell (stepsMid N (N.to k).toNat k ++ [(k, true)])) → (wc.alloc o2).drew.grownBy w3 fv.ownBlock → (fv.ownBlock = some bg ∨ bg = (wc.alloc o2).drew.heap.size) →
            ∃ F', TabOwn (w3.setCell ⟨w.heap.size + 1, (N.to k).toNat, none⟩ (.slice (some ⟨bg, bo, none⟩) ((stepsMid N (N.to k).toNat k).length + 1) bc)) (w.heap.size + 1) (w.heap.size + 2) 33 3 1 N.V.toNat F' (fun v => (stepsTo N v (k + 1)).length) (fun v => codeCell (stepsTo N v (k + 1)))) := fun o2 w3 bg bo bc k1 k2 k3 => by
          obtain ⟨F', h1, _⟩ := tab_put1 (T4.out o2) (by omega) (v := (N.to k).toNat) (by omega) HFV.out k1 k2 k3 LM.out
          exact ⟨F', h1⟩
        clear hANE
        go_wp2
        go_region_law ((refine step_append_at _ (by rfl) (.tmp 54) (.tmp 58) _ (by rfl) (w.heap.size + 2) 3 i0 _ 1 8 Try.underlying33 qi0 qz0 qz1 qz2 rfl (by omega) fv (stepsMid N (N.to k).toNat k).length _ (by rfl) ((HO1.alloc _).drew) ⟨wc.heap.size, 0, none⟩ 1 (by rfl) N1.out N2.out n3.out n4.out (by simp; omega) ?_; intro bg bo bc w3 hown3 hg3 hat3; have c4 := C5.out _ _ hg3; have c3 := hg3.cell (F0.out _) FNE.out; have z3 := (hg3.frozen_far ⟨w.heap.size + 1, (N.to k).toNat, none⟩ (QQ.out _) FNE.out).trans (F1.out _)))
        all_goals
          obtain ⟨F4, hT4⟩ := TP.out _ _ _ _ _ hown3 hg3 (by simpa using hat3)
          have hB4 := B4.out _ _ ⟨w.heap.size + 1, (N.to k).toNat, none⟩ (.slice (some ⟨bg, bo, none⟩) ((stepsMid N (N.to k).toNat k).length + 1) bc) hg3 (by simp)
          clear c3 z3 c4 hown3
          go_wp2
          go_roundg (gk - 1)
          case measure => omega
          case rel => exact ⟨k + 1, F4, by omega, by omega, by go_num, hB4, hT4⟩
    · obtain rfl : k = N.n := by omega
      have hCT := tab_codes hT
      clear hT
      obtain ⟨W1, rfl⟩ : ∃ W1 : World, W1 = wr := ⟨_, rfl⟩
      have q00 : W1.cell? ⟨w.heap.size, 0, none⟩ = some (.int .i64 N.V) := box_cell hB 0 rfl
      have u1 : s < (N.V.toNat : Int) := by omega
      have hrow1 := World.rowIs_made W1 (.int .i64 0) N.V.toNat 3
      go_wp2
      clear hmk2
      go_loopg [11] N.V.toNat (fun n iv wx => ∃ k : Nat, k ≤ N.V.toNat ∧ N.V.toNat ≤ k + n ∧ iv = .int .i64 (k : Nat) ∧ Below W1.heap.size W1 wx ∧ wx.rowIs W1.heap.size 3 N.V.toNat (fun v => .int .i64 (if v < k then -2 else 0)))
      case atStart => exact ⟨0, by omega, by omega, rfl, (Below.refl _ _).alloc (Nat.le_refl _) _, hrow1.congr fun v _ => by simp⟩
      case round =>
        obtain ⟨k, hk, hkn, rfl, hBx, hrow⟩ := hrel
        clear hrow1
        have q0 : wr.cell? ⟨w.heap.size, 0, none⟩ = some (.int .i64 N.V) := by rw [hBx.cell (by simp; omega)]; exact box_cell hB 0 rfl
        by_cases hkV : (k : Int) < N.V
        · have c0 := hrow.cell (i := k) (by omega)
          have z0 := hrow.frozen k
          have hk3 : (k : Int) < (N.V.toNat : Int) := by omega
          have HR : Hid ((wr.setCell ⟨W1.heap.size, k, none⟩ (.int .i64 (-2))).rowIs W1.heap.size 3 N.V.toNat (fun v => .int .i64 (if v < k + 1 then -2 else 0))) := by
            refine (hrow.set k _).congr fun v _ => ?_
            by_cases e : v = k
            · subst e; simp
            · by_cases e2 : v < k
              · simp [e, e2, show v < k + 1 by omega]
              · simp [e, e2, show ¬ v < k + 1 by omega]
          go_wp2
          go_roundg (gk - 1)
          case measure => omega
          case rel => exact ⟨k + 1, by omega, by omega, by go_num, hBx.setCell (by simp) _, HR.out⟩
        · have hk4 : k = N.V.toNat := by omega
          have c0 := hrow.cell (i := s.toNat) (by omega)
          have z0 := hrow.frozen s.toNat
          have hrowS : Hid ((wr.setCell ⟨W1.heap.size, s.toNat, none⟩ (.int .i64 (-1))).rowIs W1.heap.size 3 N.V.toNat (fun v => .int .i64 (stepOf s.toNat (fun v => decide (v = s.toNat)) (fun _ => 0) (fun _ => false) v))) := by
            refine (hrow.set s.toNat _).congr fun v hv => ?_
            by_cases e : v = s.toNat
            · simp [e, stepOf]
            · simp [e, stepOf, show v < k by omega]
          have hBS : Hid (Below W1.heap.size W1 (wr.setCell ⟨W1.heap.size, s.toNat, none⟩ (.int .i64 (-1)))) := hBx.setCell (by simp) _
          have hzS : W1.heap.size < wr.heap.size := hrow.lt
          have hT3 : Hid (((s.toNat : Nat) : Int) = s) := by show _ = _; omega
          obtain ⟨W2, rfl⟩ : ∃ W2 : World, W2 = wr := ⟨_, rfl⟩
          go_wp2
          go_loopg [12, 13] (2 * N.V.toNat) (fun n qv kv wx => ∃ seen arc back rk cnt qn, ∃ q : Nat → Nat, ∃ k : Nat, kv = .int .i64 (k : Nat) ∧ k ≤ qn ∧ Hid (Bfs N f s.toNat seen arc back rk cnt (qn - k) (fun j => q (k + j)) (fun _ => False)) ∧ qn + cntF seen N.V.toNat ≤ N.V.toNat ∧ 2 * cntF seen N.V.toNat + (qn - k) ≤ n ∧ Below W1.heap.size W1 wx ∧
              wx.rowIs W1.heap.size 3 N.V.toNat (fun v => .int .i64 (stepOf s.toNat seen arc back v)) ∧ Own wx (W1.heap.size + 1) 3 1 qv qn (fun i _ => .int .i64 (q i : Nat)))
          case atStart =>
            have h1 := cntF_set (p := fun _ => false) (n := N.V.toNat) (a := s.toNat) (by omega) rfl
            have h2 : cntF (fun v => decide (v = s.toNat)) N.V.toNat = cntF (fun i => if i = s.toNat then true else false) N.V.toNat := cntF_congr fun i _ => by by_cases e : i = s.toNat <;> simp [e]
            have h3 := cntF_le (fun _ => false) N.V.toNat
            refine ⟨fun v => decide (v = s.toNat), fun _ => 0, fun _ => false, fun _ => 0, 1, 1, fun _ => s.toNat, 0, rfl, by omega, bfs_start f (by omega) _ (fun _ => rfl) _ _ _ rfl, by omega, by omega, hBS.out.alloc (by simp [World.setCell]; omega) _, hrowS.out.alloc _, ?_⟩
            refine .inr ⟨_, 0, 1, #[Value.int IntKind.i64 s], rfl, by (try simp [World.setCell]); omega, heap_new_at (by first | rfl | simp [World.setCell]), Nat.le_refl _, by unfold maxLen; omega, by simp, fun i hi j hj => ?_⟩
            obtain rfl : i = 0 := by omega
            obtain rfl : j = 0 := by omega
            simp
            omega
          case round =>
            obtain ⟨seen, arc, back, rk, cnt, qn, q, k, rfl, hkq, hI, hqV, hgk, hBx3, hM, hQ⟩ := hrel
            by_cases hkn3 : k < qn
            · obtain ⟨g, o, cap, rfl, hg1, hg2, hcap, hcm, hqc⟩ := hQ.form (by omega)
              have q0 : wr.cell? ⟨g, o + k, none⟩ = some (.int .i64 (q k : Nat)) := by simpa using hqc k hkn3 0 (by omega)
              have hsq : seen (q k) = true := hI.out.queue 0 (by omega)
              have hv := (hI.out.found.lt _ hsq).1
              have HSQ := hid hsq
              obtain ⟨x, hx⟩ : ∃ x : Nat, x = q k := ⟨_, rfl⟩
              rw [← hx] at q0 hv
              have hpop := hid (bfs_pop' hI.out hkn3)
              have HX := hid hx
              clear hqc hsq hx
              obtain ⟨bT, oT, Av, cv, hTe, hbT, t0w, tR⟩ := hCT x hv
              cases hTe
              rw [Nat.zero_add] at t0w
              have hdeg := (steps_len N x N.n).1
              have hok := steps_ok hg
              have hkn4 : (k : Int) < (qn : Int) := by omega
              have hxV : (x : Int) < (N.V.toNat : Int) := by omega
              obtain ⟨dg, hdg⟩ : ∃ dg, dg = (stepsTo N x N.n).length := ⟨_, rfl⟩
              rw [← hdg] at t0w tR hdeg
              have HDG := hid hdg
              clear hdg
              obtain ⟨wo, rfl⟩ : ∃ wo : World, wo = wr := ⟨_, rfl⟩
              obtain ⟨K, rfl⟩ : ∃ K : Nat, K = gk := ⟨_, rfl⟩
              go_wp2
              go_loopg [12, 15] dg (fun k2 qv jv wi => ∃ seen' arc' back' rk' cnt' qn', ∃ q' : Nat → Nat, ∃ j : Nat, jv = .int .i64 (j : Nat) ∧ j ≤ dg ∧ dg ≤ j + k2 ∧ k + 1 ≤ qn' ∧ Hid (Bfs N f s.toNat seen' arc' back' rk' cnt' (qn' - (k + 1)) (fun j => q' (k + 1 + j)) (fun u => u = x)) ∧ Hid (seen' x = true) ∧
                  Hid (∀ i, i < j → 0 < N.room f ((stepsTo N x N.n).getD i (0, false)).1 ((stepsTo N x N.n).getD i (0, false)).2 → seen' (N.tgt ((stepsTo N x N.n).getD i (0, false)).1 ((stepsTo N x N.n).getD i (0, false)).2) = true) ∧ qn' + cntF seen' N.V.toNat ≤ N.V.toNat ∧ 2 * cntF seen' N.V.toNat + (qn' - (k + 1)) + 1 ≤ K ∧ Below W1.heap.size W1 wi ∧
                  wi.rowIs W1.heap.size 3 N.V.toNat (fun v => .int .i64 (stepOf s.toNat seen' arc' back' v)) ∧ Own wi (W1.heap.size + 1) 3 1 qv qn' (fun i _ => .int .i64 (q' i : Nat)))
              case atStart =>
                exact ⟨seen, arc, back, rk, cnt, qn, q, 0, rfl, by omega, by omega, by omega, HX.out ▸ hpop, HX.out ▸ HSQ, hid fun i hi => absurd hi (by omega), hqV, by omega, hBx3, hM, hQ⟩
              case round =>
                obtain ⟨seen', arc', back', rk', cnt', qn', q', j, rfl, hj, hk2, hkq', hI', hsx, hdn, hqV', hKb, hBx', hM', hQ'⟩ := hrel
                have t0 : wr.cell? ⟨w.heap.size + 1, x, none⟩ = some (.slice Av dg cv) := by rw [hBx'.cell hbT]; exact t0w
                have hz4 : W1.heap.size < wr.heap.size := hM'.lt
                by_cases hjd : j < dg
                · obtain ⟨bx, ox, rfl, hbx, x0⟩ := ((tR.below hBx' (Nat.le_refl _)).mono (B' := wr.heap.size) (by omega)).at1 hjd
                  obtain ⟨hia, hsrc⟩ := hok.right x hv j (by have := HDG.out; omega)
                  obtain ⟨⟨i, b⟩, hib⟩ : ∃ p : Nat × Bool, (stepsTo N x N.n).getD j (0, false) = p := ⟨_, rfl⟩
                  simp only [hib] at hia hsrc
                  unfold codeCell at x0
                  rw [hib] at x0
                  replace hib := hid hib
                  obtain ⟨ba, oa, rfl, hba, a0, a1, a2⟩ := (h.on (onS hB' hBx')).at hia
                  obtain ⟨bf, of, rfl, hbf, f0⟩ := (hf.on (onS hB' hBx')).at hia
                  have hb0 : wr.cell? ⟨w.heap.size, 1, none⟩ = some (.slice (some ⟨ba, oa, none⟩) N.n c) := by rw [hBx'.cell (by simp; omega)]; exact box_cell hB 1 rfl
                  obtain ⟨g0, g1, g2, g3, g4, g5⟩ := hg.arc _ hia
                  obtain ⟨h0, h1⟩ := hbd.out _ hia
                  have hia' : (i : Int) < (N.n : Int) := by omega
                  have hjd' : (j : Int) < (dg : Int) := by omega
                  have hfr : (N.fr i) < (N.V.toNat : Int) := by omega
                  have hto : (N.to i) < (N.V.toNat : Int) := by omega
                  cases b
                  · have hC2 := codeOf_half i false
                    have hCm := codeOf_mod i false
                    have hCb := codeOf_bd i false
                    obtain ⟨C, hC⟩ : ∃ C, C = codeOf (i, false) := ⟨_, rfl⟩
                    rw [← hC] at x0 hC2 hCm hCb
                    simp only [if_false, Bool.false_eq_true] at hCm
                    obtain ⟨hC0, hC1⟩ := hCb
                    have HC := hid hC
                    clear hC
                    have hsn0 := hM'.cell (i := (N.to i).toNat) (by omega)
                    have skip : (0 < N.room f i false → seen' (N.tgt i false) = true) → Hid (∀ i', i' < j + 1 → 0 < N.room f ((stepsTo N x N.n).getD i' (0, false)).1 ((stepsTo N x N.n).getD i' (0, false)).2 → seen' (N.tgt ((stepsTo N x N.n).getD i' (0, false)).1 ((stepsTo N x N.n).getD i' (0, false)).2) = true) := fun hh i' hi hr => by
                      by_cases e : i' = j
                      · subst e; rw [hib.out] at hr ⊢; exact hh hr
                      · exact hdn.out i' (by omega) hr
                    by_cases hr : f i < N.cp i
                    · have hrm : 0 < N.room f i false := by simp only [Net.room, if_false, Bool.false_eq_true]; omega
                      cases hsn : seen' (N.to i).toNat
                      · rw [stepOf_un hI'.out.found.start hsn] at hsn0
                        clear skip
                        have z5 := hM'.frozen (N.to i).toNat
                        have hP : Hid (Bfs N f s.toNat (fun u => if u = (N.to i).toNat then true else seen' u) (fun u => if u = (N.to i).toNat then i else arc' u) (fun u => if u = (N.to i).toNat then false else back' u) (fun u => if u = (N.to i).toNat then cnt' else rk' u) (cnt' + 1) (qn' + 1 - (k + 1)) (fun j => if k + 1 + j = qn' then (N.to i).toNat else q' (k + 1 + j)) (fun u => u = x)) :=
                          bfs_push' hg hI'.out hkq' hia (b := false) (by rw [hsrc]; exact hsx.out) hrm hsn
                        have hP2 := cntF_set (p := seen') (n := N.V.toNat) (a := (N.to i).toNat) (by omega) hsn
                        have hM2 : Hid (∀ W : World, W.rowIs W1.heap.size 3 N.V.toNat (fun v => .int .i64 (stepOf s.toNat seen' arc' back' v)) → (W.setCell ⟨W1.heap.size, (N.to i).toNat, none⟩ (.int .i64 C)).rowIs W1.heap.size 3 N.V.toNat (fun v => .int .i64 (stepOf s.toNat (fun u => if u = (N.to i).toNat then true else seen' u) (fun u => if u = (N.to i).toNat then i else arc' u) (fun u => if u = (N.to i).toNat then false else back' u) v))) := fun W hW => by
                          have hst := hI'.out.found.start
                          refine (hW.set (N.to i).toNat _).congr fun v _ => ?_
                          rw [stepOf_push hst hsn, HC.out]
                          by_cases e : v = (N.to i).toNat <;> simp [e]
                        have hQ3 := hQ'.congr (f' := fun i' _ => .int .i64 ((if i' = qn' then (N.to i).toNat else q' i' : Nat) : Int)) fun i' hi' _ _ => by simp only [if_neg (show ¬ i' = qn' by omega)]
                        have SK : Hid (∀ j', j' < j + 1 → 0 < N.room f ((stepsTo N x N.n).getD j' (0, false)).1 ((stepsTo N x N.n).getD j' (0, false)).2 → (if N.tgt ((stepsTo N x N.n).getD j' (0, false)).1 ((stepsTo N x N.n).getD j' (0, false)).2 = (N.to i).toNat then true else seen' (N.tgt ((stepsTo N x N.n).getD j' (0, false)).1 ((stepsTo N x N.n).getD j' (0, false)).2)) = true) := fun j' hj' hr' => by
                          by_cases e : j' = j
                          · subst e; rw [hib.out]; exact if_pos rfl
                          · rw [hdn.out j' (by omega) hr']; split <;> rfl
                        have hsx2 : Hid ((if x = (N.to i).toNat then true else seen' x) = true) := by show _ = _; simp [hsx.out]
                        have hT2 : Hid ((((N.to i).toNat : Nat) : Int) = N.to i) := by show _ = _; omega
                        have hQb : Hid (∀ k, u12.ownBlock = some k → W1.heap.size + 1 ≤ k) := fun k e => (hQ'.lt k e).1
                        have n3 : Hid (qn' + 1 ≤ maxLen) := by show _ ≤ _; unfold maxLen; omega
                        have n4 : Hid ((qn' + 1) * 8 ≤ 140737488355328) := by show _ ≤ _; omega
                        have hszr : W1.heap.size < wr.heap.size := hM'.lt
                        clear hsn
                        go_wp2
                        go_quiet (fail)
                        go_upto_region 30 with fail
                        generalize hw2 : World.setCell _ _ _ = u
                        have hBu : Below W1.heap.size W1 u := by rw [← hw2]; exact (below_drewN hBx' _).setCell (by simp) _
                        have hMu : u.rowIs W1.heap.size 3 N.V.toNat (fun v => .int .i64 (stepOf s.toNat (fun u => if u = (N.to i).toNat then true else seen' u) (fun u => if u = (N.to i).toNat then i else arc' u) (fun u => if u = (N.to i).toNat then false else back' u) v)) := by rw [← hw2]; exact hM2.out _ (rowIs_drewN hM' _)
                        have hQu : Own u (W1.heap.size + 1) 3 1 u12 (qn') (fun i' _ => .int .i64 ((if i' = qn' then (N.to i).toNat else q' i' : Nat) : Int)) := by
                          rw [← hw2]
                          exact (hQ3.drewN _).setCell (fun e => by have := hQb.out _ e; simp at this; omega) _
                        clear hw2 hsn0 x0 hQ' hQ3 hM' hBx'
                        have n1 : Hid (∀ k, k < 1 → (u.alloc (Obj.cells #[Value.int IntKind.i64 (N.to i)] 3)).cell? ((⟨u.heap.size, 0, none⟩ : Addr).add k) = some (.int .i64 ((if qn' = qn' then (N.to i).toNat else q' qn' : Nat) : Int))) := fun k hk => by
                          obtain rfl : k = 0 := by omega
                          rw [if_pos rfl, hT2.out]
                          exact World.cell?_alloc_at _ _ _ _ rfl
                        have N2 : Hid (∀ k, k < 1 → (Value.int .i64 ((if qn' = qn' then (N.to i).toNat else q' qn' : Nat) : Int)).oneCell' = true) := fun _ _ => rfl
                        have n5 : Hid (W1.heap.size + 1 ≤ (u.alloc (Obj.cells #[Value.int IntKind.i64 (N.to i)] 3)).heap.size) := by have := hMu.lt; show _ ≤ _; simp; omega
                        go_wp2_with (first | (at_builtin; (refine wpList_append_one _ rfl (.tmp 160) (.tmp 162) _ rfl (W1.heap.size + 1) 3 i0 _ 1 8 Try.underlying33 qi0 qz0 qz1 qz2 rfl (by omega) u12 qn' _ rfl (hQu.alloc _) ⟨u.heap.size, 0, none⟩ 1 rfl n1.out N2.out n3.out n4.out n5.out ?_); intro v' w3 hown3 hg3 hat3))
                        have hB3 := (hBu.alloc (by have := hMu.lt; omega) (Obj.cells #[Value.int IntKind.i64 (N.to i)] 3)).grown hg3 (by have := hMu.lt; simp; omega) (fun q e => by have := hQb.out q e; omega)
                        have hM3 := (hMu.alloc (Obj.cells #[Value.int IntKind.i64 (N.to i)] 3)).of_block (hg3.block _ (by have := hMu.lt; simp; omega) (fun e => by have := hQb.out _ e.symm; omega))
                        go_roundg (gk - 1)
                        case measure => omega
                        case rel => exact ⟨_, _, _, _, _, _, _, j + 1, by go_num, by omega, by omega, by omega, hP, hsx2, SK, by omega, by omega, hB3, hM3, hown3⟩
                      · have hsv := stepOf_in (s := s.toNat) (arc := arc') (back := back') hsn
                        obtain ⟨sv, hsv2⟩ : ∃ sv, sv = stepOf s.toNat seen' arc' back' (N.to i).toNat := ⟨_, rfl⟩
                        rw [← hsv2] at hsn0 hsv
                        have hsv3 : (sv == -2) = false := by simp; omega
                        have SK := skip fun _ => hsn
                        clear hsn hsv2
                        clear skip
                        go_wp2
                        go_quiet (fail)
                        go_wp2
                        go_roundg (gk - 1)
                        case measure => omega
                        case rel => exact ⟨seen', arc', back', rk', cnt', qn', q', j + 1, by go_num, by omega, by omega, hkq', hI', hsx, SK, hqV', hKb, below_drewN hBx' _, rowIs_drewN hM' _, hQ'.drewN _⟩
                    · have SK := skip fun hh => by simp only [Net.room, if_false, Bool.false_eq_true] at hh; omega
                      clear skip
                      go_wp2
                      go_quiet (fail)
                      go_wp2
                      go_roundg (gk - 1)
                      case measure => omega
                      case rel => exact ⟨seen', arc', back', rk', cnt', qn', q', j + 1, by go_num, by omega, by omega, hkq', hI', hsx, SK, hqV', hKb, below_drewN hBx' _, rowIs_drewN hM' _, hQ'.drewN _⟩
                  · have hC2 := codeOf_half i true
                    have hCm := codeOf_mod i true
                    have hCb := codeOf_bd i true
                    obtain ⟨C, hC⟩ : ∃ C, C = codeOf (i, true) := ⟨_, rfl⟩
                    rw [← hC] at x0 hC2 hCm hCb
                    simp only [if_true] at hCm
                    obtain ⟨hC0, hC1⟩ := hCb
                    have HC := hid hC
                    clear hC
                    have hsn0 := hM'.cell (i := (N.fr i).toNat) (by omega)
                    have skip : (0 < N.room f i true → seen' (N.tgt i true) = true) → Hid (∀ i', i' < j + 1 → 0 < N.room f ((stepsTo N x N.n).getD i' (0, false)).1 ((stepsTo N x N.n).getD i' (0, false)).2 → seen' (N.tgt ((stepsTo N x N.n).getD i' (0, false)).1 ((stepsTo N x N.n).getD i' (0, false)).2) = true) := fun hh i' hi hr => by
                      by_cases e : i' = j
                      · subst e; rw [hib.out] at hr ⊢; exact hh hr
                      · exact hdn.out i' (by omega) hr
                    by_cases hr : 0 < f i
                    · have hrm : 0 < N.room f i true := by simp only [Net.room, if_true]; omega
                      cases hsn : seen' (N.fr i).toNat
                      · rw [stepOf_un hI'.out.found.start hsn] at hsn0
                        clear skip
                        have z5 := hM'.frozen (N.fr i).toNat
                        have hP : Hid (Bfs N f s.toNat (fun u => if u = (N.fr i).toNat then true else seen' u) (fun u => if u = (N.fr i).toNat then i else arc' u) (fun u => if u = (N.fr i).toNat then true else back' u) (fun u => if u = (N.fr i).toNat then cnt' else rk' u) (cnt' + 1) (qn' + 1 - (k + 1)) (fun j => if k + 1 + j = qn' then (N.fr i).toNat else q' (k + 1 + j)) (fun u => u = x)) :=
                          bfs_push' hg hI'.out hkq' hia (b := true) (by rw [hsrc]; exact hsx.out) hrm hsn
                        have hP2 := cntF_set (p := seen') (n := N.V.toNat) (a := (N.fr i).toNat) (by omega) hsn
                        have hM2 : Hid (∀ W : World, W.rowIs W1.heap.size 3 N.V.toNat (fun v => .int .i64 (stepOf s.toNat seen' arc' back' v)) → (W.setCell ⟨W1.heap.size, (N.fr i).toNat, none⟩ (.int .i64 C)).rowIs W1.heap.size 3 N.V.toNat (fun v => .int .i64 (stepOf s.toNat (fun u => if u = (N.fr i).toNat then true else seen' u) (fun u => if u = (N.fr i).toNat then i else arc' u) (fun u => if u = (N.fr i).toNat then true else back' u) v))) := fun W hW => by
                          have hst := hI'.out.found.start
                          refine (hW.set (N.fr i).toNat _).congr fun v _ => ?_
                          rw [stepOf_push hst hsn, HC.out]
                          by_cases e : v = (N.fr i).toNat <;> simp [e]
                        have hQ3 := hQ'.congr (f' := fun i' _ => .int .i64 ((if i' = qn' then (N.fr i).toNat else q' i' : Nat) : Int)) fun i' hi' _ _ => by simp only [if_neg (show ¬ i' = qn' by omega)]
                        have SK : Hid (∀ j', j' < j + 1 → 0 < N.room f ((stepsTo N x N.n).getD j' (0, false)).1 ((stepsTo N x N.n).getD j' (0, false)).2 → (if N.tgt ((stepsTo N x N.n).getD j' (0, false)).1 ((stepsTo N x N.n).getD j' (0, false)).2 = (N.fr i).toNat then true else seen' (N.tgt ((stepsTo N x N.n).getD j' (0, false)).1 ((stepsTo N x N.n).getD j' (0, false)).2)) = true) := fun j' hj' hr' => by
                          by_cases e : j' = j
                          · subst e; rw [hib.out]; exact if_pos rfl
                          · rw [hdn.out j' (by omega) hr']; split <;> rfl
                        have hsx2 : Hid ((if x = (N.fr i).toNat then true else seen' x) = true) := by show _ = _; simp [hsx.out]
                        have hT2 : Hid ((((N.fr i).toNat : Nat) : Int) = N.fr i) := by show _ = _; omega
                        have hQb : Hid (∀ k, u12.ownBlock = some k → W1.heap.size + 1 ≤ k) := fun k e => (hQ'.lt k e).1
                        have n3 : Hid (qn' + 1 ≤ maxLen) := by show _ ≤ _; unfold maxLen; omega
                        have n4 : Hid ((qn' + 1) * 8 ≤ 140737488355328) := by show _ ≤ _; omega
                        have hszr : W1.heap.size < wr.heap.size := hM'.lt
                        clear hsn
                        go_wp2
                        go_quiet (fail)
                        go_upto_region 30 with fail
                        generalize hw2 : World.setCell _ _ _ = u
                        have hBu : Below W1.heap.size W1 u := by rw [← hw2]; exact (below_drewN hBx' _).setCell (by simp) _
                        have hMu : u.rowIs W1.heap.size 3 N.V.toNat (fun v => .int .i64 (stepOf s.toNat (fun u => if u = (N.fr i).toNat then true else seen' u) (fun u => if u = (N.fr i).toNat then i else arc' u) (fun u => if u = (N.fr i).toNat then true else back' u) v)) := by rw [← hw2]; exact hM2.out _ (rowIs_drewN hM' _)
                        have hQu : Own u (W1.heap.size + 1) 3 1 u12 (qn') (fun i' _ => .int .i64 ((if i' = qn' then (N.fr i).toNat else q' i' : Nat) : Int)) := by
                          rw [← hw2]
                          exact (hQ3.drewN _).setCell (fun e => by have := hQb.out _ e; simp at this; omega) _
                        clear hw2 hsn0 x0 hQ' hQ3 hM' hBx'
                        have n1 : Hid (∀ k, k < 1 → (u.alloc (Obj.cells #[Value.int IntKind.i64 (N.fr i)] 3)).cell? ((⟨u.heap.size, 0, none⟩ : Addr).add k) = some (.int .i64 ((if qn' = qn' then (N.fr i).toNat else q' qn' : Nat) : Int))) := fun k hk => by
                          obtain rfl : k = 0 := by omega
                          rw [if_pos rfl, hT2.out]
                          exact World.cell?_alloc_at _ _ _ _ rfl
                        have N2 : Hid (∀ k, k < 1 → (Value.int .i64 ((if qn' = qn' then (N.fr i).toNat else q' qn' : Nat) : Int)).oneCell' = true) := fun _ _ => rfl
                        have n5 : Hid (W1.heap.size + 1 ≤ (u.alloc (Obj.cells #[Value.int IntKind.i64 (N.fr i)] 3)).heap.size) := by have := hMu.lt; show _ ≤ _; simp; omega
                        go_wp2_with (first | (at_builtin; (refine wpList_append_one _ rfl (.tmp 160) (.tmp 162) _ rfl (W1.heap.size + 1) 3 i0 _ 1 8 Try.underlying33 qi0 qz0 qz1 qz2 rfl (by omega) u12 qn' _ rfl (hQu.alloc _) ⟨u.heap.size, 0, none⟩ 1 rfl n1.out N2.out n3.out n4.out n5.out ?_); intro v' w3 hown3 hg3 hat3))
                        have hB3 := (hBu.alloc (by have := hMu.lt; omega) (Obj.cells #[Value.int IntKind.i64 (N.fr i)] 3)).grown hg3 (by have := hMu.lt; simp; omega) (fun q e => by have := hQb.out q e; omega)
                        have hM3 := (hMu.alloc (Obj.cells #[Value.int IntKind.i64 (N.fr i)] 3)).of_block (hg3.block _ (by have := hMu.lt; simp; omega) (fun e => by have := hQb.out _ e.symm; omega))
                        go_roundg (gk - 1)
                        case measure => omega
                        case rel => exact ⟨_, _, _, _, _, _, _, j + 1, by go_num, by omega, by omega, by omega, hP, hsx2, SK, by omega, by omega, hB3, hM3, hown3⟩
                      · have hsv := stepOf_in (s := s.toNat) (arc := arc') (back := back') hsn
                        obtain ⟨sv, hsv2⟩ : ∃ sv, sv = stepOf s.toNat seen' arc' back' (N.fr i).toNat := ⟨_, rfl⟩
                        rw [← hsv2] at hsn0 hsv
                        have hsv3 : (sv == -2) = false := by simp; omega
                        have SK := skip fun _ => hsn
                        clear hsn hsv2
                        clear skip
                        go_wp2
                        go_quiet (fail)
                        go_wp2
                        go_roundg (gk - 1)
                        case measure => omega
                        case rel => exact ⟨seen', arc', back', rk', cnt', qn', q', j + 1, by go_num, by omega, by omega, hkq', hI', hsx, SK, hqV', hKb, below_drewN hBx' _, rowIs_drewN hM' _, hQ'.drewN _⟩
                    · have SK := skip fun hh => by simp only [Net.room, if_true] at hh; omega
                      clear skip
                      go_wp2
                      go_quiet (fail)
                      go_wp2
                      go_roundg (gk - 1)
                      case measure => omega
                      case rel => exact ⟨seen', arc', back', rk', cnt', qn', q', j + 1, by go_num, by omega, by omega, hkq', hI', hsx, SK, hqV', hKb, below_drewN hBx' _, rowIs_drewN hM' _, hQ'.drewN _⟩
                · obtain rfl : j = dg := by omega
                  have hcl : Closed N f seen' x := fun i b hi hb hr => by
                    obtain ⟨j', h1, h2, h3⟩ := hok.all i b hi
                    rw [hb] at h1 h2 h3
                    have := hdn.out j' (by have := HDG.out; omega)
                    rw [h2, h3] at this
                    exact this hr
                  have hsh := hid (bfs_shut hI'.out hcl)
                  clear hcl
                  obtain ⟨qa, qc, rfl⟩ := hQ'.shape
                  go_wp2
                  go_roundg (2 * cntF seen' N.V.toNat + (qn' - (k + 1)))
                  case measure => omega
                  case rel => exact ⟨seen', arc', back', rk', cnt', qn', q', k + 1, by go_num, hkq', hsh, hqV', by omega, hBx', hM', hQ'⟩
            · obtain rfl : k = qn := by omega
              have hend : Reached N f s.toNat seen arc back rk cnt := by
                have := hI.out
                rw [Nat.sub_self] at this
                exact bfs_end this
              obtain ⟨qa, qc, rfl⟩ := hQ.shape
              go_wp2
              go_ret
              exact ⟨seen, arc, back, rk, cnt, _, hend, rfl, onS hB' hBx3, hM, by omega⟩
end Go.Proofs.Ythdeldaeghhfgaa
