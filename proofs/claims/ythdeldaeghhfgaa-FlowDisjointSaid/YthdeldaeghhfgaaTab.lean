/- For each vertex the list of the steps that begin there, as flow.greatest lays it in memory. -/
import Derived.Test.YthdeldaeghhfgaaSearch
import Derived.Test.YthdeldaeghhfgaaAug
namespace Go.Proofs.Ythdeldaeghhfgaa
open Go.RowKit

/-- The steps at v out of the first k arcs; and with the next arc's first step. -/
def stepsTo (N : Net) (v : Nat) : Nat → List (Nat × Bool)
  | 0 => []
  | k + 1 => (stepsTo N v k ++ if (N.fr k).toNat = v then [(k, false)] else []) ++ if (N.to k).toNat = v then [(k, true)] else []
def stepsMid (N : Net) (v k : Nat) : List (Nat × Bool) := stepsTo N v k ++ if (N.fr k).toNat = v then [(k, false)] else []
theorem stepsTo_succ (N : Net) (v k : Nat) : stepsTo N v (k + 1) = stepsMid N v k ++ if (N.to k).toNat = v then [(k, true)] else [] := rfl

theorem steps_len (N : Net) (v k : Nat) : (stepsTo N v k).length ≤ 2 * k ∧ (stepsMid N v k).length ≤ 2 * k + 1 := by
  have h1 : ∀ k, (stepsTo N v k).length ≤ 2 * k := by
    intro k
    induction k with
    | zero => simp [stepsTo]
    | succ k ih =>
      simp only [stepsTo, List.length_append]
      split <;> split <;> simp <;> omega
  refine ⟨h1 k, ?_⟩
  have := h1 k
  simp only [stepsMid, List.length_append]
  split <;> simp <;> omega

theorem steps_mem (N : Net) (v k i : Nat) (b : Bool) : (i, b) ∈ stepsTo N v k ↔ i < k ∧ N.src i b = v := by
  induction k with
  | zero => simp [stepsTo]
  | succ k ih =>
    simp only [stepsTo, List.mem_append, ih]
    by_cases e : i = k
    · subst e
      cases b <;> simp only [Net.src, if_true, if_false, Bool.false_eq_true] <;> (repeat' split) <;> simp_all
    · have e1 : (i, b) ∉ (if (N.fr k).toNat = v then [(k, false)] else []) := by split <;> simp [e]
      have e2 : (i, b) ∉ (if (N.to k).toNat = v then [(k, true)] else []) := by split <;> simp [e]
      simp only [e1, e2, or_false]
      constructor
      · rintro ⟨h1, h2⟩; exact ⟨by omega, h2⟩
      · rintro ⟨h1, h2⟩; exact ⟨by omega, h2⟩

def listCell (L : List (Nat × Bool)) (j k : Nat) : Value := stepCell (fun j => (L.getD j (0, false)).1) (fun j => (L.getD j (0, false)).2) j k

theorem steps_ok {N : Net} (hg : N.Good) : StepsOk N (fun v => (stepsTo N v N.n).length) (fun v j => ((stepsTo N v N.n).getD j (0, false)).1) (fun v j => ((stepsTo N v N.n).getD j (0, false)).2) := by
  refine ⟨fun v _ => ?_, fun v _ j hj => ?_, fun i b hi => ?_⟩
  · have := (steps_len N v N.n).1
    have := hg.n2
    omega
  · have hm : (stepsTo N v N.n).getD j (0, false) ∈ stepsTo N v N.n := by
      rw [List.getD_eq_getElem?_getD, List.getElem?_eq_getElem hj]
      exact List.getElem_mem hj
    exact (steps_mem N v N.n _ _).1 hm
  · obtain ⟨j, hj, e⟩ := List.getElem_of_mem ((steps_mem N (N.src i b) N.n i b).2 ⟨hi, rfl⟩)
    refine ⟨j, hj, ?_, ?_⟩
    · show ((stepsTo N (N.src i b) N.n).getD j (0, false)).1 = i
      rw [List.getD_eq_getElem?_getD, List.getElem?_eq_getElem hj, Option.getD_some, e]
    · show ((stepsTo N (N.src i b) N.n).getD j (0, false)).2 = b
      rw [List.getD_eq_getElem?_getD, List.getElem?_eq_getElem hj, Option.getD_some, e]

theorem listCell_append {L : List (Nat × Bool)} {x : List (Nat × Bool)} {j k : Nat} (hj : j < L.length) : listCell L j k = listCell (L ++ x) j k := by
  have : (L ++ x).getD j (0, false) = L.getD j (0, false) := by
    rw [List.getD_eq_getElem?_getD, List.getD_eq_getElem?_getD, List.getElem?_append_left hj]
  unfold listCell stepCell
  simp only [this]
theorem listCell_last {L : List (Nat × Bool)} {i : Nat} {b : Bool} : listCell (L ++ [(i, b)]) L.length 0 = .int .i64 (i : Nat) ∧ listCell (L ++ [(i, b)]) L.length 1 = .bool b := by
  have : (L ++ [(i, b)]).getD L.length (0, false) = (i, b) := by simp [List.getD_eq_getElem?_getD]
  unfold listCell stepCell
  simp only [this, and_self]

section
variable {P : Program} (w : World)
/-- append of one element, at a step of a region that draws its order; the slice that comes of it is written out. -/
theorem step_append_at {ops : Array Oper} {o : Oper} {a : Act} {K : Act → World → Prop} {Q : Exit → Act → World → Prop} {E : Prop} (hgd : o.guard = none) (sl x : Operand) (t : TypeId)
    (ho : o.op = .call { callee := .builtin .append, args := #[sl, x], argTypes := #[t, t] })
    (base : Nat) (e : TypeId) (i : TypeInfo) (z : Value) (s bytes : Nat) (ht : P.underlying t = some (.slice e)) (hi : P.info? e = some i) (hz : i.zero = some z)
    (hsize : i.size = s) (hby : i.bytes = bytes) (hzs : z.cells.size = s) (hs : 0 < s)
    (v : Value) (n : Nat) (f : Nat → Nat → Value) (hv : a.eval sl = v) (hown : Own w base e s v n f)
    (ad : Addr) (c : Nat) (hx : a.eval x = .slice (some ad) 1 c) (hnews : ∀ j, j < s → w.cell? (ad.add j) = some (f n j)) (h1 : ∀ j, j < s → (f n j).oneCell' = true)
    (h63 : n + 1 ≤ maxLen) (hbytes : (n + 1) * bytes ≤ 140737488355328) (hbase : base ≤ w.heap.size)
    (h : ∀ bg bo bc w', Own w' base e s (.slice (some ⟨bg, bo, none⟩) (n + 1) bc) (n + 1) f → w.grownBy w' v.ownBlock → (v.ownBlock = some bg ∨ bg = w.heap.size) → K (a.put o.dst (.slice (some ⟨bg, bo, none⟩) (n + 1) bc)) w') :
    if Region.wanted o (yielded ops a.tmps) = true then Oper.wp P o a w K Q else E := by
  have hw : Region.wanted o (yielded ops a.tmps) = true := by simp [Region.wanted, hgd]
  rw [if_pos hw]
  obtain ⟨v', w', hrun, h2, h3, h4, bg, bo, bc, rfl⟩ := run_append_one (P := P) w base t o.type e i z s bytes ht hi hz hsize hby hzs hs v n f hown ad c hnews h1 h63 hbytes hbase
  unfold Oper.wp execOp
  simp only [ho, resolve, invoke, builtin, Sem.run_bind, Sem.run_pure, Result.andThen_ok, List.map_toArray, List.map_cons, List.map_nil, hv, hx, hrun]
  exact h bg bo bc w' h2 h3 (by
    rcases h4 with h4 | h4
    · exact .inl h4.symm
    · exact .inr (by simpa [Value.ownBlock] using h4))
/-- .. in a plain region. -/
theorem wpList_append_at {ops : Array Oper} {rest : List Oper} {o : Oper} {a : Act} {Q : Exit → Act → World → Prop} (hgd : o.guard = none) (sl x : Operand) (t : TypeId)
    (ho : o.op = .call { callee := .builtin .append, args := #[sl, x], argTypes := #[t, t] })
    (base : Nat) (e : TypeId) (i : TypeInfo) (z : Value) (s bytes : Nat) (ht : P.underlying t = some (.slice e)) (hi : P.info? e = some i) (hz : i.zero = some z)
    (hsize : i.size = s) (hby : i.bytes = bytes) (hzs : z.cells.size = s) (hs : 0 < s)
    (v : Value) (n : Nat) (f : Nat → Nat → Value) (hv : a.eval sl = v) (hown : Own w base e s v n f)
    (ad : Addr) (c : Nat) (hx : a.eval x = .slice (some ad) 1 c) (hnews : ∀ j, j < s → w.cell? (ad.add j) = some (f n j)) (h1 : ∀ j, j < s → (f n j).oneCell' = true)
    (h63 : n + 1 ≤ maxLen) (hbytes : (n + 1) * bytes ≤ 140737488355328) (hbase : base ≤ w.heap.size)
    (h : ∀ bg bo bc w', Own w' base e s (.slice (some ⟨bg, bo, none⟩) (n + 1) bc) (n + 1) f → w.grownBy w' v.ownBlock → (v.ownBlock = some bg ∨ bg = w.heap.size) → wpList P ops Q rest (a.put o.dst (.slice (some ⟨bg, bo, none⟩) (n + 1) bc)) w') : wpList P ops Q (o :: rest) a w := by
  refine wpList_plain hgd fun K hK => ?_
  obtain ⟨v', w', hrun, h2, h3, h4, bg, bo, bc, rfl⟩ := run_append_one (P := P) w base t o.type e i z s bytes ht hi hz hsize hby hzs hs v n f hown ad c hnews h1 h63 hbytes hbase
  unfold Oper.wp execOp
  simp only [ho, resolve, invoke, builtin, Sem.run_bind, Sem.run_pure, Result.andThen_ok, List.map_toArray, List.map_cons, List.map_nil, hv, hx, hrun]
  exact hK _ _ (h bg bo bc w' h2 h3 (by
    rcases h4 with h4 | h4
    · exact .inl h4.symm
    · exact .inr (by simpa [Value.ownBlock] using h4)))
end

theorem cell_setCell_ne {w : World} {p q : Addr} {u v : Value} (h : w.cell? q = some v) (hne : q ≠ p) : (w.setCell p u).cell? q = some v :=
  (World.cell?_setCell_other w p q u (fun e => hne (by rw [e]))).trans h
theorem cell_setCell_same {w : World} {b i : Nat} {u v : Value} (h : w.cell? ⟨b, i, none⟩ = some v) : (w.setCell ⟨b, i, none⟩ u).cell? ⟨b, i, none⟩ = some u := by
  unfold World.cell? at h
  split at h
  · rename_i c e fr hb
    have hb : w.heap[b]? = some (.cells c e fr) := hb
    simp only [Option.isSome_none, Bool.false_eq_true, if_false] at h
    have hi : i < c.size := (Array.getElem?_eq_some_iff.1 h).1
    simp [World.cell?, World.setCell, Array.getElem?_modify, hb, hi]
  · cases h
theorem cell_setCell_far {w : World} {p q : Addr} {u v : Value} (h : w.cell? q = some v) (hne : q.block ≠ p.block) : (w.setCell p u).cell? q = some v :=
  (World.cell?_setCell_other w p q u (fun e => hne (by rw [e]))).trans h

/-- Two boxes laid one behind the other: the first. -/
theorem box2_one {w wr : World} {o1 o2 : Obj} (h : Below (w.heap.size + 2) ((w.alloc o1).alloc o2) wr) : Below (w.heap.size + 1) (w.alloc o1) wr := ((Below.refl _ _).alloc (by simp) _).trans (h.mono (by omega))
theorem box2_two {w wr : World} {o1 : Obj} {cs : Array Value} {T : TypeId} (h : Below (w.heap.size + 2) ((w.alloc o1).alloc (.cells cs T)) wr) : wr.rowIs (w.heap.size + 1) T cs.size (fun i => cs.getD i undef) := by
  have h1 := World.rowIs_alloc (w.alloc o1) cs T (fun i => cs.getD i undef) (fun i hi => by simp [hi])
  simp only [World.size_alloc] at h1
  exact h1.of_block (h.block _ (by omega))
theorem box2_lt {w wr : World} {o1 o2 : Obj} (h : Below (w.heap.size + 2) ((w.alloc o1).alloc o2) wr) : w.heap.size + 1 < wr.heap.size := by have := h.size; simp at this; omega

/-- The rows that the call owns, one for each of m indexes, held in row g. -/
structure TabOwn (w : World) (g base te e s m : Nat) (F : Nat → Value) (n : Nat → Nat) (f : Nat → Nat → Nat → Value) : Prop where
  row : w.rowIs g te m F
  own : ∀ v, v < m → Own w base e s (F v) (n v) (f v)
  apart : ∀ v u, v < m → u < m → v ≠ u → (F v).ownBlock = none ∨ (F v).ownBlock ≠ (F u).ownBlock

section
variable {w w' : World} {g base te e s m : Nat} {F : Nat → Value} {n : Nat → Nat} {f : Nat → Nat → Nat → Value}
theorem TabOwn.alloc (h : TabOwn w g base te e s m F n f) (o : Obj) : TabOwn (w.alloc o) g base te e s m F n f := ⟨h.row.alloc o, fun v hv => (h.own v hv).alloc o, h.apart⟩
theorem TabOwn.drewN (h : TabOwn w g base te e s m F n f) (k : Nat) : TabOwn (w.drewN k) g base te e s m F n f := ⟨h.row, fun v hv => (h.own v hv).drewN k, h.apart⟩
theorem TabOwn.drew (h : TabOwn w g base te e s m F n f) : TabOwn w.drew g base te e s m F n f := ⟨h.row, fun v hv => (h.own v hv).drew, h.apart⟩

/-- Behind an append to row v that is stored back. -/
theorem TabOwn.put (h : TabOwn w g base te e s m F n f) (hgb : g < base) {v : Nat} (hv : v < m) {v' : Value} {n' : Nat} {f' : Nat → Nat → Value} (hown : Own w' base e s v' n' f') (hg : w.grownBy w' (F v).ownBlock) (hat : v'.ownBlock = (F v).ownBlock ∨ v'.ownBlock = some w.heap.size) :
    TabOwn (w'.setCell ⟨g, v, none⟩ v') g base te e s m (fun u => if u = v then v' else F u) (fun u => if u = v then n' else n u) (fun u => if u = v then f' else f u) := by
  have hlt : ∀ u, u < m → ∀ k, (F u).ownBlock = some k → base ≤ k ∧ k < w.heap.size := fun u hu => (h.own u hu).lt
  have hgw : g < w.heap.size := h.row.lt
  refine ⟨?_, fun u hu => ?_, fun a b ha hb hab => ?_⟩
  · have : w'.rowIs g te m F := h.row.of_block (hg.block g hgw (fun e => by have := (hlt v hv g e.symm).1; omega))
    exact (this.set v v').congr fun u _ => by split <;> rfl
  · by_cases e : u = v
    · subst e
      simp only [if_true]
      exact hown.setCell (fun e => by have := (hown.lt _ e).1; simp at this; omega) _
    · simp only [if_neg e]
      have hk : Own w' base _ s (F u) (n u) (f u) := (h.own u hu).kept hg (h.apart u v hu hv e)
      exact hk.setCell (fun e => by have := (hk.lt _ e).1; simp at this; omega) _
  · by_cases ea : a = v
    · have eb : ¬ b = v := fun e => hab (by rw [ea, e])
      simp only [if_pos ea, if_neg eb]
      subst ea
      rcases hat with h1 | h1
      · rw [h1]; exact h.apart a b ha hb hab
      · right
        rw [h1]
        intro e2
        have := (hlt b hb _ e2.symm).2
        omega
    · simp only [if_neg ea]
      by_cases eb : b = v
      · simp only [if_pos eb]
        subst eb
        rcases hat with h1 | h1
        · rw [h1]; exact h.apart a b ha hb hab
        · rw [h1]
          cases hfa : (F a).ownBlock with
          | none => exact .inl rfl
          | some k =>
            right
            intro e2
            injection e2 with e2
            have := (hlt a ha k hfa).2
            omega
      · simp only [if_neg eb]; exact h.apart a b ha hb hab
end

/-- One step more at vertex v, stored back. -/
theorem tab_put {X w3 : World} {g base te e m : Nat} {F : Nat → Value} {L L' : Nat → List (Nat × Bool)} (hT : TabOwn X g base te e 2 m F (fun v => (L v).length) (fun v => listCell (L v))) (hgb : g < base) {v : Nat} (hv : v < m) {x : Nat × Bool} {bg bo bc : Nat} {fv : Value} (hfv : fv = F v)
    (hown : Own w3 base e 2 (.slice (some ⟨bg, bo, none⟩) ((L v).length + 1) bc) ((L v).length + 1) (listCell (L v ++ [x]))) (hg : X.grownBy w3 fv.ownBlock) (hat : fv.ownBlock = some bg ∨ bg = X.heap.size) (hL : ∀ u, L' u = if u = v then L u ++ [x] else L u) :
    ∃ F', TabOwn (w3.setCell ⟨g, v, none⟩ (.slice (some ⟨bg, bo, none⟩) ((L v).length + 1) bc)) g base te e 2 m F' (fun v => (L' v).length) (fun v => listCell (L' v)) ∧ ∀ u, u < m → (F' u).ownBlock = (F u).ownBlock ∨ (F' u).ownBlock = some X.heap.size := by
  subst hfv
  have h := hT.put hgb hv hown hg (by
    rcases hat with h1 | h1
    · exact .inl h1.symm
    · exact .inr (by rw [← h1]; rfl))
  refine ⟨_, ⟨h.row, fun u hu => ?_, h.apart⟩, fun u hu => ?_⟩
  rotate_left
  · by_cases e : u = v
    · simp only [if_pos e]
      subst e
      rcases hat with h1 | h1
      · exact .inl h1.symm
      · exact .inr (by rw [← h1]; rfl)
    · simp only [if_neg e]; exact .inl trivial
  have h1 := h.own u hu
  simp only [hL]
  by_cases e : u = v
  · subst e
    simp only [if_true] at h1 ⊢
    rw [List.length_append]
    exact h1
  · simp only [if_neg e] at h1 ⊢
    exact h1

theorem tab_steps {w : World} {g base te e m : Nat} {F : Nat → Value} {L : Nat → List (Nat × Bool)} (h : TabOwn w g base te e 2 m F (fun v => (L v).length) (fun v => listCell (L v))) :
    StepTab w w.heap.size (some ⟨g, 0, none⟩) m (fun v => (L v).length) (fun v j => ((L v).getD j (0, false)).1) (fun v j => ((L v).getD j (0, false)).2) := fun v hv => by
  obtain ⟨A, c, hs⟩ := (h.own v hv).shape
  exact ⟨g, 0, A, c, rfl, h.row.lt, by rw [Nat.zero_add, h.row.cell hv, hs], (h.own v hv).rd hs⟩

/-- No flow has a greater value than all arcs together can bear. -/
theorem flowing_bd {N : Net} {s t val : Int} (he : N.Ends s t) {f : Nat → Int} (hf : Flowing N s t val f) : val ≤ 1125899906842624 := by
  have hs0 := he.s0
  have hs1 := he.s1
  have ht0 := he.t0
  have hne := he.ne
  have hc : N.CutP s t N.V.toNat (fun v => decide (v = s.toNat)) := ⟨by omega, by simp, by simp; omega⟩
  have h1 := Net.duality he ⟨rfl, hf.cap, hf.keep⟩ hc
  have h2 := (Net.capTo_bd he.good (fun v => decide (v = s.toNat)) N.n (Nat.le_refl _)).2
  have h3 := he.good.n2
  rw [hf.value] at h1
  unfold Net.cap at h1
  omega

/-- The cells of a flow in a box. -/
def flowCell (val : Int) (a b : Value) (j : Nat) : Value := match j with
  | 0 => .int .i64 val
  | 1 => a
  | _ => b
end Go.Proofs.Ythdeldaeghhfgaa
