/- Sections of edges of the call's own. -/
import Derived.Test.YtnocbkhnmdmfhaaTabL
import Derived.Test.YtnocbkhnmdmfhaaTrel
namespace Go.Proofs.Ytnocbkhnmdmfhaa
open Go.RowKit

/-- By the node that an edge leaves, then by its label. -/
def ltE (x y : Int × Int × Int) : Prop := x.1 < y.1 ∨ x.1 = y.1 ∧ x.2.1 < y.2.1
/-- The cells of an edge. -/
def edgeCell (x : Nat → Int × Int × Int) (i j : Nat) : Value := if j = 0 then .int .i64 (x i).1 else if j = 1 then .int .i64 (x i).2.1 else .int .i64 (x i).2.2
theorem edgeCell_one (x : Nat → Int × Int × Int) (i j : Nat) : (edgeCell x i j).oneCell' = true := by
  unfold edgeCell
  split
  · rfl
  · split <;> rfl
theorem Try.infoEdge : (Try.prog.info? 72).map (fun i => (i.zero, i.size, i.bytes)) = some (some (.agg #[.int .i64 0, .int .i64 0, .int .i64 0]), 3, 24) := by kernel_rfl
theorem Try.infoEdges : (Try.prog.info? 70).map (fun i => (i.zero, i.size, i.bytes)) = some (some (.slice none 0 0), 1, 24) := by kernel_rfl
theorem own_empty {w : World} {base b e s : Nat} {f : Nat → Nat → Value} (hb : base ≤ b) (h : w.heap[b]? = some (.cells #[] e (0, 0))) : Own w base e s (.slice (some ⟨b, 0, none⟩) 0 0) 0 f :=
  .inr ⟨b, 0, 0, #[], rfl, hb, h, Nat.le_refl _, by unfold maxLen; omega, by simp, fun i hi => absurd hi (by omega)⟩
theorem own_row_ne {w : World} {base b n n' s : Nat} {t e : TypeId} {F : Nat → Value} {v : Value} {f : Nat → Nat → Value} (h : w.rowIs b t n F) (h' : Own w base e s v n' f) (hne : t ≠ e) : v.ownBlock ≠ some b := by
  rcases h' with ⟨rfl, _⟩ | ⟨g', o', cap', cur', rfl, _, hg', _⟩
  · simp [Value.ownBlock]
  · intro e1
    simp [Value.ownBlock] at e1
    subst e1
    obtain ⟨cs, h1, _⟩ := h
    rw [hg'] at h1
    injection h1 with h1
    injection h1 with _ h1
    exact hne h1.symm

/-- append of one int: a row of ints. -/
theorem wpList_append_fint {w : World} {ops : Array Oper} {rest : List Oper} {o : Oper} {a : Act} {Q : Exit → Act → World → Prop} (hgd : o.guard = none) (sl x : Operand)
    (ho : o.op = .call { callee := .builtin .append, args := #[sl, x], argTypes := #[22, 22] })
    {base : Nat} {v : Value} {k : Nat} {f : Nat → Int} (h : Own w base 3 1 v k (fun i _ => .int .i64 (f i))) (hv : a.eval sl = v) {ad : Addr} {c : Nat} (hx : a.eval x = .slice (some ad) 1 c)
    (hcell : w.cell? (ad.add 0) = some (.int .i64 (f k))) (hbase : base ≤ w.heap.size) (hN : k ≤ 1048576)
    (K : ∀ v' w', Own w' base 3 1 v' (k + 1) (fun i _ => .int .i64 (f i)) → w.grownBy w' v.ownBlock → (v'.ownBlock = v.ownBlock ∨ v'.ownBlock = some w.heap.size) → wpList Try.prog ops Q rest (a.put o.dst v') w') : wpList Try.prog ops Q (o :: rest) a w := by
  obtain ⟨i0, qi0, qz0, qz1, qz2⟩ := info_parts Try.infoInt
  refine wpList_append_one w hgd sl x _ ho base 3 i0 _ 1 8 Try.underlying22 qi0 qz0 qz1 qz2 rfl (by omega) v k _ hv h ad c hx (fun j hj => by
      obtain rfl : j = 0 := by omega
      exact hcell) (fun _ _ => rfl) (by unfold maxLen; omega) (by omega) hbase ?_
  intro v' w3 hown3 hg3 hat3
  exact K v' w3 hown3 hg3 hat3

/-- append of one edge. -/
theorem wpList_append_edge {w : World} {ops : Array Oper} {rest : List Oper} {o : Oper} {a : Act} {Q : Exit → Act → World → Prop} (hgd : o.guard = none) (sl x : Operand)
    (ho : o.op = .call { callee := .builtin .append, args := #[sl, x], argTypes := #[70, 70] })
    {base : Nat} {v : Value} {k : Nat} {f : Nat → Int × Int × Int} (h : Own w base 72 3 v k (edgeCell f)) (hv : a.eval sl = v) {ad : Addr} {c : Nat} (hx : a.eval x = .slice (some ad) 1 c)
    (hcell : ∀ j, j < 3 → w.cell? (ad.add j) = some (edgeCell f k j)) (hbase : base ≤ w.heap.size) (hN : k ≤ 1048576)
    (K : ∀ v' w', Own w' base 72 3 v' (k + 1) (edgeCell f) → w.grownBy w' v.ownBlock → (v'.ownBlock = v.ownBlock ∨ v'.ownBlock = some w.heap.size) → wpList Try.prog ops Q rest (a.put o.dst v') w') : wpList Try.prog ops Q (o :: rest) a w := by
  obtain ⟨i0, qi0, qz0, qz1, qz2⟩ := info_parts Try.infoEdge
  exact wpList_append_one w hgd sl x _ ho base 72 i0 _ 3 24 Try.underlying70 qi0 qz0 qz1 qz2 rfl (by omega) v k _ hv h ad c hx hcell (fun _ _ => edgeCell_one _ _ _) (by unfold maxLen; omega) (by omega) hbase K
/-- .. at a step of a region that draws its order. -/
theorem step_append_edge {w : World} {ops : Array Oper} {o : Oper} {a : Act} {K : Act → World → Prop} {Q : Exit → Act → World → Prop} {E : Prop} (hgd : o.guard = none) (sl x : Operand)
    (ho : o.op = .call { callee := .builtin .append, args := #[sl, x], argTypes := #[70, 70] })
    {base : Nat} {v : Value} {k : Nat} {f : Nat → Int × Int × Int} (h : Own w base 72 3 v k (edgeCell f)) (hv : a.eval sl = v) {ad : Addr} {c : Nat} (hx : a.eval x = .slice (some ad) 1 c)
    (hcell : ∀ j, j < 3 → w.cell? (ad.add j) = some (edgeCell f k j)) (hbase : base ≤ w.heap.size) (hN : k ≤ 1048576)
    (K' : ∀ v' w', Own w' base 72 3 v' (k + 1) (edgeCell f) → w.grownBy w' v.ownBlock → (v'.ownBlock = v.ownBlock ∨ v'.ownBlock = some w.heap.size) → K (a.put o.dst v') w') :
    if Region.wanted o (yielded ops a.tmps) = true then Oper.wp Try.prog o a w K Q else E := by
  obtain ⟨i0, qi0, qz0, qz1, qz2⟩ := info_parts Try.infoEdge
  exact step_append_one w hgd sl x _ ho base 72 i0 _ 3 24 Try.underlying70 qi0 qz0 qz1 qz2 rfl (by omega) v k _ hv h ad c hx hcell (fun _ _ => edgeCell_one _ _ _) (by unfold maxLen; omega) (by omega) hbase K'

/-- Sections: v is a table of n slices of edges. -/
def ETab (w : World) (base : Nat) (v : Value) (n : Nat) (el : Nat → Nat) (y : Nat → Nat → Int × Int × Int) : Prop :=
  ∃ R : Nat → Value, Own w base 70 1 v n (fun i _ => R i) ∧ ∀ i, i < n → Own w base 72 3 (R i) (el i) (edgeCell (y i))
section
variable {w w' : World} {base n : Nat} {v : Value} {el : Nat → Nat} {y : Nat → Nat → Int × Int × Int}
theorem ETab.nil (w : World) (base : Nat) (el : Nat → Nat) (y : Nat → Nat → Int × Int × Int) : ETab w base (.slice none 0 0) 0 el y := ⟨fun _ => undef, Own.nil _ _ _ _ _, fun i hi => absurd hi (by omega)⟩
theorem ETab.on (h : ETab w base v n el y) (hb : Below w.heap.size w w') : ETab w' base v n el y := by
  obtain ⟨R, h1, h2⟩ := h
  exact ⟨R, h1.on hb, fun i hi => (h2 i hi).on hb⟩
theorem ETab.shape (h : ETab w base v n el y) : ∃ A c, v = .slice A n c := h.choose_spec.1.shape
theorem ETab.setCell (h : ETab w base v n el y) {t : TypeId} {m : Nat} {F : Nat → Value} {b i : Nat} (hr : w.rowIs b t m F) (h1 : t ≠ 70) (h2 : t ≠ 72) (u : Value) : ETab (w.setCell ⟨b, i, none⟩ u) base v n el y := by
  obtain ⟨R, k1, k2⟩ := h
  exact ⟨R, k1.setCell (own_row_ne hr k1 h1) u, fun i hi => (k2 i hi).setCell (own_row_ne hr (k2 i hi) h2) u⟩
theorem ETab.congr {el' : Nat → Nat} {y' : Nat → Nat → Int × Int × Int} (h : ETab w base v n el y) (h1 : ∀ i, i < n → el i = el' i) (h2 : ∀ i, i < n → ∀ j, j < el i → y i j = y' i j) : ETab w base v n el' y' := by
  obtain ⟨R, k1, k2⟩ := h
  refine ⟨R, k1, fun i hi => ?_⟩
  rw [← h1 i hi]
  exact (k2 i hi).congr fun j hj q _ => by unfold edgeCell; rw [h2 i hi j hj]
/-- append of one section. -/
theorem wpList_append_sec {ops : Array Oper} {rest : List Oper} {o : Oper} {a : Act} {Q : Exit → Act → World → Prop} (hgd : o.guard = none) (sl x : Operand)
    (ho : o.op = .call { callee := .builtin .append, args := #[sl, x], argTypes := #[23, 23] })
    (h : ETab w base v n el y) (hv : a.eval sl = v) {ad : Addr} {c : Nat} {r : Value} (hx : a.eval x = .slice (some ad) 1 c)
    (hcell : w.cell? (ad.add 0) = some r) (h1 : r.oneCell' = true) (hrow : Own w base 72 3 r (el n) (edgeCell (y n))) (hbase : base ≤ w.heap.size) (hN : n ≤ 1048576)
    (K : ∀ v' w', ETab w' base v' (n + 1) el y → w.grownBy w' v.ownBlock → wpList Try.prog ops Q rest (a.put o.dst v') w') : wpList Try.prog ops Q (o :: rest) a w := by
  obtain ⟨R, hA, hB⟩ := h
  obtain ⟨i0, qi0, qz0, qz1, qz2⟩ := info_parts Try.infoEdges
  have ne : (70 : Nat) ≠ 72 := by decide
  have hown : Own w base 70 1 v n (fun i _ => if i = n then r else R i) := hA.congr fun i hi _ _ => by rw [if_neg (by omega)]
  refine wpList_append_one w hgd sl x _ ho base 70 i0 _ 1 24 Try.underlying23 qi0 qz0 qz1 qz2 rfl (by omega) v n _ hv hown ad c hx (fun j hj => by
      obtain rfl : j = 0 := by omega
      rw [if_pos rfl]
      exact hcell) (fun _ _ => by rw [if_pos rfl]; exact h1) (by unfold maxLen; omega) (by omega) hbase ?_
  intro v' w3 hown3 hg3 _
  refine K v' w3 ⟨fun i => if i = n then r else R i, hown3, fun i hi => ?_⟩ hg3
  show Own w3 base _ 3 (if i = n then r else R i) _ _
  by_cases e : i = n
  · subst e
    rw [if_pos rfl]
    exact hrow.kept hg3 (own_ne hA hrow ne)
  · rw [if_neg e]
    exact (hB i (by omega)).kept hg3 (own_ne hA (hB i (by omega)) ne)
/-- Sections and widths read as a layered graph. -/
theorem ETab.reads {T : Trel} {wv : Value} (h : ETab w base v T.n T.el fun i j => (T.fr i j, T.lb i j, T.to i j)) (hA : Own w base 3 1 wv T.nw (fun k _ => .int .i64 (T.W k)))
    (hW : ∀ i, i < T.nw → InI64 (T.W i)) (hy : ∀ i, i < T.n → ∀ j, j < T.el i → InI64 (T.fr i j) ∧ InI64 (T.lb i j) ∧ InI64 (T.to i j)) (hnw : T.nw ≤ 140737488351232) (hn : T.n ≤ 140737488351232) (hel : ∀ i, i < T.n → T.el i ≤ 140737488351232) :
    ∃ A B c d, wv = .slice A T.nw c ∧ v = .slice B T.n d ∧ T.Reads w A B ∧ T.nw ≤ c ∧ c ≤ maxLen ∧ T.n ≤ d ∧ d ≤ maxLen := by
  obtain ⟨R, k1, k2⟩ := h
  obtain ⟨A, c, rfl⟩ := hA.shape
  obtain ⟨B, d, rfl⟩ := k1.shape
  refine ⟨A, B, c, d, rfl, rfl, ⟨hA.rd rfl, hW, fun i hi => ?_, hnw, hn, hel⟩, hA.cap.1, hA.cap.2, k1.cap.1, k1.cap.2⟩
  obtain ⟨b, off, e, hb, hc⟩ := k1.rd rfl i hi
  have hc0 := hc 0 (by omega)
  rw [Nat.mul_one, Nat.add_zero] at hc0
  have hr := k2 i hi
  obtain ⟨E, ec, hR⟩ := hr.shape
  rw [hR] at hr
  simp only [hR] at hc0
  exact ⟨b, off, E, ec, e, hb, hc0, hr.cap.1, hr.cap.2, hr.rd rfl, hy i hi⟩
end
end Go.Proofs.Ytnocbkhnmdmfhaa
