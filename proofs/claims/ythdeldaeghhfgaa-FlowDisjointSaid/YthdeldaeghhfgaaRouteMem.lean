/- What flow.Routes keeps in memory: the map of a walk, the list of routes. -/
import Derived.Test.YthdeldaeghhfgaaRouteNext
import Derived.Maps.OwnSet
import Derived.Maps.OwnOps
namespace Go.Proofs.Ythdeldaeghhfgaa
open Go.RowKit Go.Maps

/-- D holds the numbers of the first k vertices. -/
def MapIs (D : DataW Unit) (vx : Nat → Int) (k : Nat) : Prop :=
  IsMap D ∧ (∀ x : Int, has D (.int .i64 x) = true ↔ ∃ j, j < k ∧ vx j = x) ∧ ∀ j, j < k → D.atKey (.int .i64 (vx j)) (.lit (.int .i64 0)) = .lit (.int .i64 (j : Nat))
theorem mapIs_zero (vx : Nat → Int) : MapIs (.map []) vx 0 := ⟨isMap_empty, fun x => ⟨(fun h => by cases h), (fun ⟨j, hj, _⟩ => by omega)⟩, fun j hj => by omega⟩
theorem MapIs.put {D : DataW Unit} {vx : Nat → Int} {k : Nat} (h : MapIs D vx k) (hnew : ∀ j, j < k → vx j ≠ vx k) : MapIs (D.put (.int .i64 (vx k)) (.lit (.int .i64 (k : Nat)))) vx (k + 1) := by
  obtain ⟨h1, h2, h3⟩ := h
  have hk : WideAt.IsKeyLit (.int .i64 (vx k)) := trivial
  refine ⟨h1.put _ _, fun x => ?_, fun j hj => ?_⟩
  · by_cases e : x = vx k
    · subst e
      exact ⟨fun _ => ⟨k, by omega, rfl⟩, fun _ => has_put_same h1 hk _⟩
    · rw [has_put_other (fun h => e (by injection h)), h2]
      exact ⟨fun ⟨j, hj, he⟩ => ⟨j, by omega, he⟩, fun ⟨j, hj, he⟩ => ⟨j, by
        by_cases ej : j = k
        · subst ej; exact absurd he.symm e
        · omega, he⟩⟩
  · by_cases e : j = k
    · subst e; exact atKey_put_same h1 hk _ _
    · rw [atKey_put_other (fun h => hnew j (by omega) (by injection h))]
      exact h3 j (by omega)
theorem MapIs.congr {D : DataW Unit} {vx vx' : Nat → Int} {k : Nat} (h : MapIs D vx k) (e : ∀ j, j < k → vx j = vx' j) : MapIs D vx' k := by
  obtain ⟨h1, h2, h3⟩ := h
  exact ⟨h1, fun x => (h2 x).trans ⟨fun ⟨j, hj, he⟩ => ⟨j, hj, by rw [← e j hj]; exact he⟩, fun ⟨j, hj, he⟩ => ⟨j, hj, by rw [e j hj]; exact he⟩⟩, fun j hj => by rw [← e j hj]; exact h3 j hj⟩
/-- An entry of a map that is written out. -/
theorem wpList_insert_own {H : Type} {P : Program} (w : World) {ops : Array Oper} {rest : List Oper} {o : Oper} {a : Act} {Q : Exit → Act → World → Prop}
    (hg : o.guard = none) (m x v : Operand) (t : TypeId) (hop : o.op = Op.insert t m x v)
    (k e : TypeId) (K : Keyed P k) (ht : P.underlying t = some (.map k e)) (R : Value → Option (DataW H × List MemPlace)) (b n : Nat) (D : DataW H)
    (hm : a.eval m = .map (some b)) (hown : w.ownsMap P k R b n D) (hn : n < maxLen) (key val : Value) (kl : Lit) (hx : a.eval x = key) (hv : a.eval v = val) (hkey : keyOf P k key = some kl)
    (d : DataW H) (ps : List MemPlace) (hval : R val = some (d, ps))
    (hK : ∀ w', w'.ownsMap P k R b (n + 1) (D.put kl d) → w.grownBy w' (some b) → wpList P ops Q rest (a.put o.dst undef) w') :
    wpList P ops Q (o :: rest) a w := by
  refine wpList_plain hg fun K' hK' => ?_
  obtain ⟨w', hrun, r1, r2⟩ := hown.update K ht hn hkey hval
  unfold Oper.wp
  simp [execOp, hop, hm, hx, hv, hrun, Result.andThen]
  exact hK' _ _ (hK w' r1 r2)
theorem Try.lawInt : Keyed Try.prog 3 := int_keyed Try.underlying3
theorem Try.zeroInt (w : World) : (zeroValue 3).run Try.prog w = .ok (.int .i64 0) w := by kernel_rfl

/-- The cells of a list of routes. -/
def rCell (A : Nat → Option Addr) (RL C : Nat → Nat) (AM : Nat → Int) (k j : Nat) : Value := if j = 0 then .slice (A k) (RL k) (C k) else .int .i64 (AM k)
def RTab (w : World) (base : Nat) (v : Value) (K : Nat) (RA : Nat → Nat → Nat) (RL : Nat → Nat) (AM : Nat → Int) : Prop :=
  ∃ A C, Own w base 63 2 v K (rCell A RL C AM) ∧ ∀ k, k < K → Own w base 3 1 (.slice (A k) (RL k) (C k)) (RL k) (fun j _ => .int .i64 (RA k j : Nat))
theorem RTab.nil (w : World) (base : Nat) (RA : Nat → Nat → Nat) (RL : Nat → Nat) (AM : Nat → Int) : RTab w base (.slice none 0 0) 0 RA RL AM := ⟨fun _ => none, fun _ => 0, Own.nil _ _ _ _ _, fun k hk => by omega⟩
theorem RTab.on {w w' : World} {base K : Nat} {v : Value} {RA : Nat → Nat → Nat} {RL : Nat → Nat} {AM : Nat → Int} (h : RTab w base v K RA RL AM) (hb : Below w.heap.size w w') : RTab w' base v K RA RL AM := by
  obtain ⟨A, C, h1, h2⟩ := h
  exact ⟨A, C, h1.on hb, fun k hk => (h2 k hk).on hb⟩
theorem Own.keptLow {w w' : World} {base e s n : Nat} {v : Value} {f : Nat → Nat → Value} {row : Option Nat} (h : Own w base e s v n f) (hg : w.grownBy w' row) (hr : ∀ q, row = some q → q < base) : Own w' base e s v n f :=
  h.of_block fun k hk => hg.block k (h.lt k hk).2 fun e => by
    have := (h.lt k hk).1
    have := hr k e.symm
    omega
theorem RTab.kept {w w' : World} {base K : Nat} {v : Value} {RA : Nat → Nat → Nat} {RL : Nat → Nat} {AM : Nat → Int} {row : Option Nat} (h : RTab w base v K RA RL AM) (hg : w.grownBy w' row) (hr : ∀ q, row = some q → q < base) : RTab w' base v K RA RL AM := by
  obtain ⟨A, C, h1, h2⟩ := h
  exact ⟨A, C, h1.keptLow hg hr, fun k hk => (h2 k hk).keptLow hg hr⟩
theorem own_ne_own {w : World} {base base' e e' s s' n n' : Nat} {v v' : Value} {f f' : Nat → Nat → Value} (h : Own w base e s v n f) (h' : Own w base' e' s' v' n' f') (hne : e ≠ e') : v'.ownBlock = none ∨ v'.ownBlock ≠ v.ownBlock := by
  rcases h' with ⟨rfl, _⟩ | ⟨g', o', cap', cur', rfl, _, hg', _⟩
  · exact .inl rfl
  · right
    rcases h with ⟨rfl, _⟩ | ⟨g, o, cap, cur, rfl, _, hg, _⟩
    · simp [Value.ownBlock]
    · intro e1
      simp [Value.ownBlock] at e1
      subst e1
      rw [hg] at hg'
      injection hg' with h1
      injection h1 with _ h1
      exact hne h1
theorem Try.infoRoute : (Try.prog.info? 63).map (fun i => (i.zero, i.size, i.bytes)) = some (some (.agg #[.slice none 0 0, .int .i64 0]), 2, 32) := by kernel_rfl
/-- One route more. -/
theorem wpList_append_route {w : World} {ops : Array Oper} {rest : List Oper} {o : Oper} {a : Act} {Q : Exit → Act → World → Prop} (hgd : o.guard = none) (sl x : Operand)
    (ho : o.op = .call { callee := .builtin .append, args := #[sl, x], argTypes := #[57, 57] })
    {base K : Nat} {v : Value} {RA : Nat → Nat → Nat} {RL : Nat → Nat} {AM : Nat → Int} (h : RTab w base v K RA RL AM) (hv : a.eval sl = v) {b c rl d : Nat} {A' : Option Addr} {m : Int} {ra : Nat → Nat} (hx : a.eval x = .slice (some ⟨b, 0, none⟩) 1 c)
    (c0 : w.cell? ⟨b, 0, none⟩ = some (.slice A' rl d)) (c1 : w.cell? ⟨b, 1, none⟩ = some (.int .i64 m)) (hown : Own w base 3 1 (.slice A' rl d) rl (fun j _ => .int .i64 (ra j : Nat))) (hbase : base ≤ w.heap.size) (hK : K ≤ 1048576)
    (hk : ∀ v' w', RTab w' base v' (K + 1) (addE RA K ra) (addE RL K rl) (addE AM K m) → Below base w w' → wpList Try.prog ops Q rest (a.put o.dst v') w') : wpList Try.prog ops Q (o :: rest) a w := by
  obtain ⟨A, C, h1, h2⟩ := h
  obtain ⟨i0, qi0, qz0, qz1, qz2⟩ := info_parts Try.infoRoute
  have hO : Own w base 63 2 v K (rCell (addE A K A') (addE RL K rl) (addE C K d) (addE AM K m)) := h1.congr fun i hi j _ => by
    unfold rCell
    rw [addE_lt _ _ hi, addE_lt _ _ hi, addE_lt _ _ hi, addE_lt _ _ hi]
  refine wpList_append_one w hgd sl x _ ho base 63 i0 _ 2 32 Try.underlying57 qi0 qz0 qz1 qz2 rfl (by omega) v K _ hv hO ⟨b, 0, none⟩ c hx (fun j hj => ?_) (fun j hj => ?_) (by unfold maxLen; omega) (by omega) hbase ?_
  · have add0 : ∀ j, (⟨b, 0, none⟩ : Addr).add j = ⟨b, j, none⟩ := fun j => by unfold Addr.add; split <;> simp_all
    rw [add0]
    unfold rCell
    rw [addE_at, addE_at, addE_at, addE_at]
    match j, hj with
    | 0, _ => exact c0
    | 1, _ => exact c1
  · unfold rCell
    match j, hj with
    | 0, _ => rfl
    | 1, _ => rfl
  · intro v' w3 hown3 hg3 _
    refine hk v' w3 ⟨addE A K A', addE C K d, hown3, fun k hk' => ?_⟩ ((Below.refl base w).grown hg3 hbase fun q e => (hO.lt q e).1)
    have ne : (63 : Nat) ≠ 3 := by decide
    by_cases e : k = K
    · subst e
      rw [addE_at, addE_at, addE_at, addE_at]
      exact hown.kept hg3 (own_ne_own hO hown ne)
    · rw [addE_lt _ _ (by omega), addE_lt _ _ (by omega), addE_lt _ _ (by omega), addE_lt _ _ (by omega)]
      have := h2 k (by omega)
      exact this.kept hg3 (own_ne_own hO this ne)
/-- One arc more out of vertex v, stored back. -/
theorem tab_putO {X w3 : World} {g base te e m : Nat} {F : Nat → Value} {L L' : Nat → List Nat} (hT : TabOwn X g base te e 1 m F (fun v => (L v).length) (fun v => outCell (L v))) (hgb : g < base) {v : Nat} (hv : v < m) {x : Nat} {bg bo bc : Nat} {fv : Value} (hfv : fv = F v)
    (hown : Own w3 base e 1 (.slice (some ⟨bg, bo, none⟩) ((L v).length + 1) bc) ((L v).length + 1) (outCell (L v ++ [x]))) (hg : X.grownBy w3 fv.ownBlock) (hat : fv.ownBlock = some bg ∨ bg = X.heap.size) (hL : ∀ u, L' u = if u = v then L u ++ [x] else L u) :
    ∃ F', TabOwn (w3.setCell ⟨g, v, none⟩ (.slice (some ⟨bg, bo, none⟩) ((L v).length + 1) bc)) g base te e 1 m F' (fun v => (L' v).length) (fun v => outCell (L' v)) := by
  subst hfv
  have h := hT.put hgb hv hown hg (by
    rcases hat with h1 | h1
    · exact .inl h1.symm
    · exact .inr (by rw [← h1]; rfl))
  refine ⟨_, ⟨h.row, fun u hu => ?_, h.apart⟩⟩
  have h1 := h.own u hu
  simp only [hL]
  by_cases e : u = v
  · subst e
    simp only [if_true] at h1 ⊢
    rw [List.length_append]
    exact h1
  · simp only [if_neg e] at h1 ⊢
    exact h1
/-- A table whose blocks a growth does not touch. -/
theorem TabOwn.keptLow {w w' : World} {g base te e s m : Nat} {F : Nat → Value} {n : Nat → Nat} {f : Nat → Nat → Nat → Value} {row : Option Nat} (h : TabOwn w g base te e s m F n f) (hg : w.grownBy w' row) (hr : ∀ q, row = some q → q < g) (hgb : g < base) : TabOwn w' g base te e s m F n f :=
  ⟨h.row.of_block (hg.block g h.row.lt fun e => by have := hr g e.symm; omega), fun v hv => (h.own v hv).keptLow hg (fun q e => by have := hr q e; omega), h.apart⟩
theorem TabOwn.on {w w' : World} {g base te e s m : Nat} {F : Nat → Value} {n : Nat → Nat} {f : Nat → Nat → Nat → Value} (h : TabOwn w g base te e s m F n f) (hb : Below w.heap.size w w') : TabOwn w' g base te e s m F n f :=
  ⟨rowIs_on h.row hb, fun v hv => (h.own v hv).on hb, h.apart⟩
theorem Own.cap {w : World} {base e s n : Nat} {A : Option Addr} {c : Nat} {f : Nat → Nat → Value} (h : Own w base e s (.slice A n c) n f) : n ≤ c ∧ c ≤ maxLen := by
  rcases h with ⟨h1, rfl⟩ | ⟨g, o, cap, cur, h1, _, _, h4, h5, _⟩
  · injection h1 with _ _ h1
    subst h1
    exact ⟨Nat.le_refl _, by unfold maxLen; omega⟩
  · injection h1 with _ _ h1
    subst h1
    exact ⟨h4, h5⟩
theorem wf64 {x : Int} (h : 0 ≤ x) (h1 : x ≤ 1000000) : (Lit.int .i64 x).wf = true := by
  have e1 : IntKind.i64.min = -9223372036854775808 := by decide
  have e2 : IntKind.i64.max = 9223372036854775807 := by decide
  simp only [Lit.wf, e1, e2, Bool.and_eq_true, decide_eq_true_eq]
  omega
/-- The map of a walk: from vertices to numbers. -/
def wMap (P : Program) (k : TypeId) (w : World) (b n : Nat) (D : DataW Unit) : Prop := w.ownsMap P k (plainElem P k) b n D
theorem Own.drop {w : World} {base e s n : Nat} {f : Nat → Nat → Value} {g o c a : Nat} (h : Own w base e s (.slice (some ⟨g, o, none⟩) n c) n f) (ha : a ≤ n) : Own w base e s (.slice (some ⟨g, o + a * s, none⟩) (n - a) (c - a)) (n - a) (fun i => f (a + i)) := by
  rcases h with ⟨h, _⟩ | ⟨g', o', cap, cur, h1, hb, hg, hc, hm, h6, h7⟩
  · cases h
  · injection h1 with h1 _ h1'
    injection h1 with h1
    injection h1 with h1 h1''
    subst h1 h1' h1''
    have hcs : (c - a) * s + a * s = c * s := by rw [← Nat.add_mul]; congr 1; omega
    exact .inr ⟨g, o + a * s, c - a, cur, rfl, hb, hg, by omega, by omega, by omega, fun i hi j hj => by
      have := h7 (a + i) (by omega) j hj
      rw [← this]; congr 1; rw [Nat.add_mul]; omega⟩
theorem crossTo_bd {N : Net} {g : Nat → Int} {sd : Nat → Bool} {B : Int} (hB : 0 ≤ B) : ∀ k, (∀ i, i < k → 0 ≤ g i ∧ g i ≤ B) → N.crossTo g sd k ≤ k * B := by
  intro k
  induction k with
  | zero => intro _; simp [Net.crossTo, sumV]
  | succ k ih =>
    intro h
    have h1 := ih fun i hi => h i (by omega)
    have h2 := h k (by omega)
    have e : ((k + 1 : Nat) : Int) * B = k * B + B := by rw [Int.natCast_add, Int.add_mul]; simp
    rw [e]
    show N.crossTo g sd k + ((if sd (N.fr k).toNat then g k else 0) - (if sd (N.to k).toNat then g k else 0)) ≤ _
    split <;> split <;> omega
theorem subR_le {g : Nat → Int} {m : Int} {ra : Nat → Nat} {rl : Nat} (hap : ∀ j k, j < rl → k < rl → ra j = ra k → j = k) (hm : 0 ≤ m) (i : Nat) : subR g m ra rl i ≤ g i := by
  rcases subR_cases (g := g) (m := m) hap i with ⟨_, _, _, e⟩ | ⟨_, e⟩ <;> omega
theorem RTab.setLow {w : World} {base K : Nat} {v : Value} {RA : Nat → Nat → Nat} {RL : Nat → Nat} {AM : Nat → Int} (h : RTab w base v K RA RL AM) {p : Addr} (hp : p.block < base) (u : Value) : RTab (w.setCell p u) base v K RA RL AM := by
  obtain ⟨A, C, h1, h2⟩ := h
  exact ⟨A, C, h1.setCell (fun e => by have := (h1.lt _ e).1; omega) u, fun k hk => (h2 k hk).setCell (fun e => by have := ((h2 k hk).lt _ e).1; omega) u⟩
theorem RouteOk.few {N : Net} {s t : Int} {ra : Nat → Nat} {rl : Nat} {path : Bool} (hg : N.Good) (h : RouteOk N s t ra rl path) : rl ≤ N.V.toNat :=
  pigeon (f := fun j => (N.fr (ra j)).toNat) (fun j hj => by have := hg.arc _ (h.2.1 j hj); omega) fun j k hj hk e => by
    have a := hg.arc _ (h.2.1 j hj)
    have b := hg.arc _ (h.2.1 k hk)
    have e' : N.fr (ra j) = N.fr (ra k) := by omega
    rcases Nat.lt_trichotomy j k with h2 | h2 | h2
    · exact absurd e' (h.2.2.2.1 j k h2 hk)
    · exact h2
    · exact absurd e'.symm (h.2.2.2.1 k j h2 hj)
/-- As it was below W's size, but for one block. -/
def Far (lb : Option Nat) (W w : World) : Prop := W.heap.size ≤ w.heap.size ∧ ∀ b, b < W.heap.size → some b ≠ lb → w.heap[b]? = W.heap[b]?
theorem Far.refl (lb : Option Nat) (W : World) : Far lb W W := ⟨Nat.le_refl _, fun _ _ _ => rfl⟩
theorem Far.on {lb : Option Nat} {W w w' : World} (h : Far lb W w) (hb : Below w.heap.size w w') : Far lb W w' := ⟨Nat.le_trans h.1 hb.size, fun b h1 h2 => (hb.block b (by have := h.1; omega)).trans (h.2 b h1 h2)⟩
theorem Far.below {lb : Option Nat} {W w w' : World} (h : Far lb W w) (hb : Below W.heap.size w w') : Far lb W w' := ⟨Nat.le_trans h.1 hb.size, fun b h1 h2 => (hb.block b h1).trans (h.2 b h1 h2)⟩
theorem Far.grown {lb row : Option Nat} {W w w' : World} (h : Far lb W w) (hg : w.grownBy w' row) (hr : ∀ q, row = some q → W.heap.size ≤ q) : Far lb W w' := ⟨Nat.le_trans h.1 hg.size, fun b h1 h2 => (hg.block b (by have := h.1; omega) (fun e => by have := hr b e.symm; omega)).trans (h.2 b h1 h2)⟩
theorem Far.setCell {lb : Option Nat} {W w : World} (h : Far lb W w) {p : Addr} (hp : lb = some p.block) (u : Value) : Far lb W (w.setCell p u) := ⟨by have := h.1; simp [World.setCell]; exact this, fun b h1 h2 => (Below.heap_setCell w p u b (fun e => h2 (by rw [hp, e]))).trans (h.2 b h1 h2)⟩
theorem Far.cell {lb : Option Nat} {W w : World} (h : Far lb W w) {a : Addr} {v : Value} (hc : W.cell? a = some v) (hne : some a.block ≠ lb) : w.cell? a = some v := by
  have hlt : a.block < W.heap.size := by
    by_cases e : a.block < W.heap.size
    · exact e
    · have h0 : W.heap[a.block]? = none := Array.getElem?_eq_none_iff.2 (by omega)
      simp [World.cell?, h0] at hc
  have := h.2 _ hlt hne
  unfold World.cell? at hc ⊢
  rw [this]; exact hc
theorem Far.tab {lb : Option Nat} {W w : World} (h : Far lb W w) {g base te e s m : Nat} {F : Nat → Value} {n : Nat → Nat} {f : Nat → Nat → Nat → Value} (hT : TabOwn W g base te e s m F n f) (hr : ∀ q, lb = some q → q < g) (hgb : g < base) : TabOwn w g base te e s m F n f :=
  ⟨hT.row.of_block (h.2 g hT.row.lt fun e => by have := hr g e.symm; omega), fun v hv => (hT.own v hv).of_block fun q hq => h.2 q ((hT.own v hv).lt q hq).2 fun e => by
    have := hr q e.symm
    have := ((hT.own v hv).lt q hq).1
    omega, hT.apart⟩
end Go.Proofs.Ythdeldaeghhfgaa
