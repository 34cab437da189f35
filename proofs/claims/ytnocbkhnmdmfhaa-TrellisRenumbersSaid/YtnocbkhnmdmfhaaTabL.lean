/- A table of the call's own whose rows are lists of ints of its own; slices.Clone of ints. -/
import Derived.Test.YtnocbkhnmdmfhaaCopy
import Derived.Test.YtnocbkhnmdmfhaaRefLow
import Derived.Test.YtnocbkhnmdmfhaaIntsR
import Derived.Test.YtnocbkhnmdmfhaaTac
namespace Go.Proofs.Ytnocbkhnmdmfhaa
open Go.RowKit

theorem Try.infoInts : (Try.prog.info? 22).map (fun i => (i.zero, i.size, i.bytes)) = some (some (.slice none 0 0), 1, 24) := by kernel_rfl
/-- The cells of a list of ints. -/
def listCell (l : List Int) (k _j : Nat) : Value := .int .i64 (l.getD k 0)
/-- The list is R's, a slice of the call's own. -/
def OwnL (w : World) (base : Nat) (R : Value) (l : List Int) : Prop := Own w base 3 1 R l.length (listCell l)
/-- v is a table of the lists of L. -/
def TabL (w : World) (base : Nat) (v : Value) (L : List (List Int)) : Prop :=
  ∃ R : Nat → Value, Own w base 22 1 v L.length (fun i _ => R i) ∧ ∀ i, i < L.length → OwnL w base (R i) (L.getD i [])
theorem OwnL.on {w w' : World} {base : Nat} {R : Value} {l : List Int} (h : OwnL w base R l) (hb : Below w.heap.size w w') : OwnL w' base R l := Own.on h hb
theorem TabL.nil (w : World) (base : Nat) : TabL w base (.slice none 0 0) [] := ⟨fun _ => undef, Own.nil _ _ _ _ _, fun i hi => absurd hi (by simp)⟩
theorem TabL.on {w w' : World} {base : Nat} {v : Value} {L : List (List Int)} (h : TabL w base v L) (hb : Below w.heap.size w w') : TabL w' base v L := by
  obtain ⟨R, h1, h2⟩ := h
  exact ⟨R, h1.on hb, fun i hi => (h2 i hi).on hb⟩
theorem TabL.mono {w : World} {base b' : Nat} {v : Value} {L : List (List Int)} (h : TabL w base v L) (hb : b' ≤ base) : TabL w b' v L := by
  obtain ⟨R, h1, h2⟩ := h
  exact ⟨R, h1.mono hb, fun i hi => (h2 i hi).mono hb⟩
theorem TabL.setCell {w : World} {base : Nat} {v : Value} {L : List (List Int)} (h : TabL w base v L) {a : Addr} (ha : a.block < base) (u : Value) : TabL (w.setCell a u) base v L := by
  obtain ⟨R, h1, h2⟩ := h
  exact ⟨R, h1.setCell (fun e => by have := (h1.lt _ e).1; omega) u, fun i hi => (h2 i hi).setCell (fun e => by have := ((h2 i hi).lt _ e).1; omega) u⟩
theorem TabL.shape {w : World} {base : Nat} {v : Value} {L : List (List Int)} (h : TabL w base v L) : ∃ A c, v = .slice A L.length c := h.choose_spec.1.shape
theorem Own.cap {w : World} {base e s n c : Nat} {A : Option Addr} {f : Nat → Nat → Value} (h : Own w base e s (.slice A n c) n f) : n ≤ c ∧ c ≤ maxLen := by
  rcases h with ⟨h, _⟩ | ⟨g, o, cap, cur, h1, _, _, h4, h5, _⟩
  · injection h with h1 h2 h3
    subst h2 h3
    exact ⟨Nat.le_refl _, by unfold maxLen; omega⟩
  · injection h1 with h1 h2 h3
    subst h3
    exact ⟨h4, h5⟩
theorem own_ne {w : World} {base e e' s s' n n' : Nat} {v v' : Value} {f f' : Nat → Nat → Value} (h : Own w base e s v n f) (h' : Own w base e' s' v' n' f') (hne : e ≠ e') : v'.ownBlock = none ∨ v'.ownBlock ≠ v.ownBlock := by
  rcases h' with ⟨rfl, _⟩ | ⟨g', o', cap', cur', rfl, _, hg', _⟩
  · exact .inl rfl
  · refine .inr fun e1 => ?_
    rcases h with ⟨rfl, _⟩ | ⟨g, o, cap, cur, rfl, _, hg, _⟩
    · simp [Value.ownBlock] at e1
    · simp [Value.ownBlock] at e1
      subst e1
      rw [hg] at hg'
      injection hg' with h1
      injection h1 with _ h1
      exact hne h1
/-- Read as rows of ints. -/
theorem TabL.rows {w : World} {base : Nat} {v : Value} {L : List (List Int)} (h : TabL w base v L) (hi : ∀ l, l ∈ L → ∀ x, x ∈ l → -9223372036854775808 ≤ x ∧ x ≤ 9223372036854775807) :
    ∃ O c, v = .slice O L.length c ∧ L.length ≤ c ∧ c ≤ maxLen ∧ IntRows w O L.length (fun i => (L.getD i []).length) (fun i k => (L.getD i []).getD k 0) := by
  obtain ⟨R, h1, h2⟩ := h
  obtain ⟨O, c, rfl⟩ := h1.shape
  have hc := h1.cap
  refine ⟨O, c, rfl, hc.1, hc.2, fun i hi' => ?_⟩
  obtain ⟨b, off, e, hb, hcell⟩ := h1.rd rfl i hi'
  have hc0 := hcell 0 (by omega)
  rw [Nat.mul_one, Nat.add_zero] at hc0
  have h3 := h2 i hi'
  obtain ⟨A, cc, hR⟩ := h3.shape
  unfold OwnL at h3
  simp only [hR] at h3 hc0
  refine ⟨b, off, A, cc, e, hb, hc0, h3.cap.1, h3.cap.2, h3.rd rfl, fun j hj => ?_⟩
  refine hi (L.getD i []) ?_ _ ?_
  · rw [List.getD_eq_getElem?_getD, List.getElem?_eq_getElem hi']; exact List.getElem_mem hi'
  · show ((L.getD i []).getD j 0) ∈ _
    rw [List.getD_eq_getElem?_getD (l := L.getD i []), List.getElem?_eq_getElem hj]; exact List.getElem_mem hj
theorem listCell_app {l x : List Int} {k j : Nat} (h : k < l.length) : listCell l k j = listCell (l ++ x) k j := by
  unfold listCell
  rw [List.getD_eq_getElem?_getD, List.getD_eq_getElem?_getD, List.getElem?_append_left h]
theorem listCell_last {l : List Int} {x : Int} {j : Nat} : listCell (l ++ [x]) l.length j = .int .i64 x := by
  unfold listCell
  simp [List.getD_eq_getElem?_getD]
/-- One more row. -/
theorem TabL.put {w w' : World} {base : Nat} {v v' : Value} {L : List (List Int)} {R : Nat → Value} {r : Value} {l : List Int} (h2 : ∀ i, i < L.length → OwnL w base (R i) (L.getD i [])) (hr : OwnL w base r l) (hv : Own w base 22 1 v L.length (fun i _ => R i))
    (hown : Own w' base 22 1 v' (L.length + 1) (fun i _ => if i = L.length then r else R i)) (hg : w.grownBy w' v.ownBlock) : TabL w' base v' (L ++ [l]) := by
  have ne : (22 : Nat) ≠ 3 := by decide
  refine ⟨fun i => if i = L.length then r else R i, by rw [List.length_append]; exact hown, fun i hi => ?_⟩
  show OwnL w' base (if i = L.length then r else R i) _
  by_cases e : i = L.length
  · subst e
    rw [if_pos rfl]
    have : (L ++ [l]).getD L.length [] = l := by simp [List.getD_eq_getElem?_getD]
    rw [this]
    exact hr.kept hg (own_ne hv hr ne)
  · have hi' : i < L.length := by rw [List.length_append] at hi; simp at hi; omega
    rw [if_neg e]
    have : (L ++ [l]).getD i [] = L.getD i [] := by rw [List.getD_eq_getElem?_getD, List.getD_eq_getElem?_getD, List.getElem?_append_left hi']
    rw [this]
    exact (h2 i hi').kept hg (own_ne hv (h2 i hi') ne)
theorem wpList_append_list {w : World} {ops : Array Oper} {rest : List Oper} {o : Oper} {a : Act} {Q : Exit → Act → World → Prop} (hgd : o.guard = none) (sl x : Operand)
    (ho : o.op = .call { callee := .builtin .append, args := #[sl, x], argTypes := #[26, 26] })
    {base : Nat} {v : Value} {L : List (List Int)} (h : TabL w base v L) (hv : a.eval sl = v) {ad : Addr} {c : Nat} {r : Value} {l : List Int} (hx : a.eval x = .slice (some ad) 1 c)
    (hcell : w.cell? (ad.add 0) = some r) (h1 : r.oneCell' = true) (hrow : OwnL w base r l) (hbase : base ≤ w.heap.size) (hN : L.length ≤ 1048576)
    (K : ∀ v' w', TabL w' base v' (L ++ [l]) → w.grownBy w' v.ownBlock → wpList Try.prog ops Q rest (a.put o.dst v') w') : wpList Try.prog ops Q (o :: rest) a w := by
  obtain ⟨R, hA, hB⟩ := h
  obtain ⟨i0, qi0, qz0, qz1, qz2⟩ := info_parts Try.infoInts
  have hown : Own w base 22 1 v L.length (fun i _ => if i = L.length then r else R i) := hA.congr fun i hi _ _ => by rw [if_neg (by omega)]
  refine wpList_append_one w hgd sl x _ ho base 22 i0 _ 1 24 Try.underlying26 qi0 qz0 qz1 qz2 rfl (by omega) v L.length _ hv hown ad c hx (fun j hj => by
      obtain rfl : j = 0 := by omega
      rw [if_pos rfl]
      exact hcell) (fun _ _ => by rw [if_pos rfl]; exact h1) (by unfold maxLen; omega) (by omega) hbase ?_
  intro v' w3 hown3 hg3 _
  exact K v' w3 (TabL.put hB hrow hA hown3 hg3) hg3
/-- .. at a step of a region that draws its order. -/
theorem step_append_list {w : World} {ops : Array Oper} {o : Oper} {a : Act} {K : Act → World → Prop} {Q : Exit → Act → World → Prop} {E : Prop} (hgd : o.guard = none) (sl x : Operand)
    (ho : o.op = .call { callee := .builtin .append, args := #[sl, x], argTypes := #[26, 26] })
    {base : Nat} {v : Value} {L : List (List Int)} (h : TabL w base v L) (hv : a.eval sl = v) {ad : Addr} {c : Nat} {r : Value} {l : List Int} (hx : a.eval x = .slice (some ad) 1 c)
    (hcell : w.cell? (ad.add 0) = some r) (h1 : r.oneCell' = true) (hrow : OwnL w base r l) (hbase : base ≤ w.heap.size) (hN : L.length ≤ 1048576)
    (K' : ∀ v' w', TabL w' base v' (L ++ [l]) → w.grownBy w' v.ownBlock → K (a.put o.dst v') w') :
    if Region.wanted o (yielded ops a.tmps) = true then Oper.wp Try.prog o a w K Q else E := by
  obtain ⟨R, hA, hB⟩ := h
  obtain ⟨i0, qi0, qz0, qz1, qz2⟩ := info_parts Try.infoInts
  have hown : Own w base 22 1 v L.length (fun i _ => if i = L.length then r else R i) := hA.congr fun i hi _ _ => by rw [if_neg (by omega)]
  refine step_append_one w hgd sl x _ ho base 22 i0 _ 1 24 Try.underlying26 qi0 qz0 qz1 qz2 rfl (by omega) v L.length _ hv hown ad c hx (fun j hj => by
      obtain rfl : j = 0 := by omega
      rw [if_pos rfl]
      exact hcell) (fun _ _ => by rw [if_pos rfl]; exact h1) (by unfold maxLen; omega) (by omega) hbase ?_
  intro v' w3 hown3 hg3 _
  exact K' v' w3 (TabL.put hB hrow hA hown3 hg3) hg3
/-- One more int. -/
theorem OwnL.cells {w : World} {base : Nat} {R : Value} {l : List Int} (x : Int) (h : OwnL w base R l) : Own w base 3 1 R l.length (listCell (l ++ [x])) := h.congr fun _ hi _ _ => listCell_app hi
theorem wpList_append_lint {w : World} {ops : Array Oper} {rest : List Oper} {o : Oper} {a : Act} {Q : Exit → Act → World → Prop} (hgd : o.guard = none) (sl x : Operand)
    (ho : o.op = .call { callee := .builtin .append, args := #[sl, x], argTypes := #[22, 22] })
    {base : Nat} {v : Value} {l : List Int} (h : OwnL w base v l) (hv : a.eval sl = v) {ad : Addr} {c : Nat} {r : Int} (hx : a.eval x = .slice (some ad) 1 c)
    (hcell : w.cell? (ad.add 0) = some (.int .i64 r)) (hbase : base ≤ w.heap.size) (hN : l.length ≤ 1048576)
    (K : ∀ v' w', OwnL w' base v' (l ++ [r]) → w.grownBy w' v.ownBlock → (v'.ownBlock = v.ownBlock ∨ v'.ownBlock = some w.heap.size) → wpList Try.prog ops Q rest (a.put o.dst v') w') : wpList Try.prog ops Q (o :: rest) a w := by
  obtain ⟨i0, qi0, qz0, qz1, qz2⟩ := info_parts Try.infoInt
  refine wpList_append_one w hgd sl x _ ho base 3 i0 _ 1 8 Try.underlying22 qi0 qz0 qz1 qz2 rfl (by omega) v l.length _ hv (h.cells r) ad c hx (fun j hj => by
      obtain rfl : j = 0 := by omega
      rw [listCell_last]
      exact hcell) (fun _ _ => by rw [listCell_last]; rfl) (by unfold maxLen; omega) (by omega) hbase ?_
  intro v' w3 hown3 hg3 hat3
  exact K v' w3 (by unfold OwnL; rw [List.length_append]; exact hown3) hg3 hat3
theorem step_append_lint {w : World} {ops : Array Oper} {o : Oper} {a : Act} {K : Act → World → Prop} {Q : Exit → Act → World → Prop} {E : Prop} (hgd : o.guard = none) (sl x : Operand)
    (ho : o.op = .call { callee := .builtin .append, args := #[sl, x], argTypes := #[22, 22] })
    {base : Nat} {v : Value} {l : List Int} (h : OwnL w base v l) (hv : a.eval sl = v) {ad : Addr} {c : Nat} {r : Int} (hx : a.eval x = .slice (some ad) 1 c)
    (hcell : w.cell? (ad.add 0) = some (.int .i64 r)) (hbase : base ≤ w.heap.size) (hN : l.length ≤ 1048576)
    (K' : ∀ v' w', OwnL w' base v' (l ++ [r]) → w.grownBy w' v.ownBlock → (v'.ownBlock = v.ownBlock ∨ v'.ownBlock = some w.heap.size) → K (a.put o.dst v') w') :
    if Region.wanted o (yielded ops a.tmps) = true then Oper.wp Try.prog o a w K Q else E := by
  obtain ⟨i0, qi0, qz0, qz1, qz2⟩ := info_parts Try.infoInt
  refine step_append_one w hgd sl x _ ho base 3 i0 _ 1 8 Try.underlying22 qi0 qz0 qz1 qz2 rfl (by omega) v l.length _ hv (h.cells r) ad c hx (fun j hj => by
      obtain rfl : j = 0 := by omega
      rw [listCell_last]
      exact hcell) (fun _ _ => by rw [listCell_last]; rfl) (by unfold maxLen; omega) (by omega) hbase ?_
  intro v' w3 hown3 hg3 hat3
  exact K' v' w3 (by unfold OwnL; rw [List.length_append]; exact hown3) hg3 hat3
theorem heap_new_at {w : World} {o : Obj} {k : Nat} (h : k = w.heap.size) : (w.alloc o).heap[k]? = some o := by subst h; exact heap_alloc_new w o
/-- What a copy leaves: a slice of the call's own. -/
def Cloned (e : TypeId) (s n : Nat) (f : Nat → Nat → Value) (w : World) (E : Ending) (w' : World) : Prop :=
  ∃ A c, E = .returned (.slice A n c) ∧ Own w' w.heap.size e s (.slice A n c) n f ∧ Below w.heap.size w w'
set_option maxHeartbeats 2000000 in
theorem cloneInts_any (A : Option Addr) (nn c : Nat) (f : Nat → Int) (w : World) (h : IntsR w w.heap.size A nn f) (hc : nn ≤ c) (hn : nn ≤ 1048576) :
    Calls Try.prog 66 #[.slice A nn c] w (Cloned 3 1 nn (fun i _ => .int .i64 (f i)) w) := by
  obtain ⟨i0, qi0, qz0, qz1, qz2⟩ := info_parts Try.infoInt
  have hq := fun (W : World) (a : Option Addr) => Lib.run_eql_slice_nil (P := Try.prog) W 22 3 a nn c 0 0 Try.underlying22
  cases A with
  | none =>
    have h0 : nn = 0 := by
      rcases Nat.eq_zero_or_pos nn with h0 | h0
      · exact h0
      · obtain ⟨b, o, e, _⟩ := h.at h0; cases e
    have H0 := hid h0
    clear h0
    go_enter Try.func66, Try.ntmps66
    go_wp2
    go_ret
    exact ⟨none, 0, by rw [H0.out]; rfl, by rw [H0.out]; exact Own.nil _ _ _ _ _, Below.refl _ _⟩
  | some a =>
    obtain ⟨ab, ao, ap⟩ := a
    rcases Nat.eq_zero_or_pos nn with h0 | h0
    · have H0 := hid h0
      obtain ⟨n, hn'⟩ : ∃ n, n = nn := ⟨_, rfl⟩
      have HN := hid hn'
      rw [← hn'] at h0 hc hn hq ⊢
      clear hn' h
      subst h0
      go_enter Try.func66, Try.ntmps66
      go_wp2_with (first | (at_builtin; (refine wpList_append_copy_none rfl (.tmp 5) (.tmp 6) _ rfl 3 i0 Try.underlying22 qi0 w.heap.size 0 rfl (some ⟨ab, ao, ap⟩) c rfl ?_)))
      go_ret
      exact ⟨_, _, rfl, .inr ⟨_, 0, 0, #[], rfl, Nat.le_refl _, heap_new_at rfl, Nat.le_refl _, by unfold maxLen; omega, by simp, fun i hi => absurd hi (by omega)⟩, (Below.refl _ _).alloc (Nat.le_refl _) _⟩
    · have n3 : Hid (nn ≤ maxLen) := by show _ ≤ _; unfold maxLen; omega
      have n4 : Hid (nn * 8 ≤ 140737488355328) := by show _ ≤ _; omega
      have NR : Hid (∀ o1, Rd (w.alloc o1) (w.alloc o1).heap.size (some ⟨ab, ao, ap⟩) nn 1 (fun i _ => .int .i64 (f i))) := fun o1 => (Rd.alloc h (Nat.le_refl _) o1).mono (by simp)
      go_enter Try.func66, Try.ntmps66
      go_wp2_with (first | (at_builtin; (refine wpList_append_copy_some rfl (.tmp 5) (.tmp 6) _ rfl 3 i0 _ 1 8 Try.underlying22 qi0 qz0 qz1 qz2 rfl (by omega) _ rfl (some ⟨ab, ao, ap⟩) nn c (fun i _ => .int .i64 (f i)) rfl (NR.out _) h0 (fun _ _ _ _ => rfl) n3.out n4.out ?_); intro cap cur k1 k2 k3 k4))
      go_ret
      have hO := Own.new (w := w.alloc (Obj.cells #[] 3)) (base := w.heap.size) (e := 3) (by simp) k1 k2 k3 k4
      simp only [World.size_alloc] at hO
      exact ⟨_, _, rfl, hO.drew, (((Below.refl _ _).alloc (Nat.le_refl _) _).alloc (by simp) _).drew⟩
end Go.Proofs.Ytnocbkhnmdmfhaa
