/- codewrightref47.Words: what it works on, level by level. -/
import Derived.Test.YtnocbkhnmdmfhaaTabL
import Derived.Test.YtnocbkhnmdmfhaaWordsMath
namespace Go.Proofs.Ytnocbkhnmdmfhaa
open Go.RowKit

/-- A table v of the lists of L and a slice u of the ints of M, apart. -/
def LevSt (w : World) (b : Nat) (v u : Value) (L : List (List Int)) (M : List Int) : Prop :=
  ∃ R : Nat → Value, Own w b 22 1 v L.length (fun i _ => R i) ∧ (∀ i, i < L.length → OwnL w b (R i) (L.getD i [])) ∧ OwnL w b u M ∧ ∀ i, i < L.length → (R i).ownBlock = none ∨ (R i).ownBlock ≠ u.ownBlock
section
variable {w w' : World} {b : Nat} {v u : Value} {L : List (List Int)} {M : List Int}
theorem LevSt.tab (h : LevSt w b v u L M) : TabL w b v L := by
  obtain ⟨R, h1, h2, _⟩ := h
  exact ⟨R, h1, h2⟩
theorem LevSt.own (h : LevSt w b v u L M) : OwnL w b u M := by
  obtain ⟨R, _, _, h3, _⟩ := h
  exact h3
theorem LevSt.on (h : LevSt w b v u L M) (hb : Below w.heap.size w w') : LevSt w' b v u L M := by
  obtain ⟨R, h1, h2, h3, h4⟩ := h
  exact ⟨R, h1.on hb, fun i hi => (h2 i hi).on hb, h3.on hb, h4⟩
theorem LevSt.mono {b' : Nat} (h : LevSt w b v u L M) (hb : b' ≤ b) : LevSt w b' v u L M := by
  obtain ⟨R, h1, h2, h3, h4⟩ := h
  exact ⟨R, Own.mono h1 hb, fun i hi => Own.mono (h2 i hi) hb, Own.mono h3 hb, h4⟩
/-- One more row, behind an append to the table. -/
theorem LevSt.row (h : LevSt w b v u L M) {r : Value} {l : List Int} (hr : OwnL w b r l) (hru : r.ownBlock = none ∨ r.ownBlock ≠ u.ownBlock) {ops : Array Oper} {op : Oper} {a : Act} {Q : Exit → Act → World → Prop} {K : Act → World → Prop} {E : Prop}
    (hgd : op.guard = none) (sl x : Operand) (ho : op.op = .call { callee := .builtin .append, args := #[sl, x], argTypes := #[26, 26] })
    (hv : a.eval sl = v) {ad : Addr} {c : Nat} (hx : a.eval x = .slice (some ad) 1 c) (hcell : w.cell? (ad.add 0) = some r) (h1 : r.oneCell' = true) (hbase : b ≤ w.heap.size) (hN : L.length ≤ 1048576)
    (K' : ∀ v' w', LevSt w' b v' u (L ++ [l]) M → Below b w w' → w.grownBy w' v.ownBlock → K (a.put op.dst v') w') : if Region.wanted op (yielded ops a.tmps) = true then Oper.wp Try.prog op a w K Q else E := by
  obtain ⟨R, hA, hB, h3, h4⟩ := h
  obtain ⟨i0, qi0, qz0, qz1, qz2⟩ := info_parts Try.infoInts
  have hown : Own w b 22 1 v L.length (fun i _ => if i = L.length then r else R i) := hA.congr fun i hi _ _ => by rw [if_neg (by omega)]
  refine step_append_one w hgd sl x _ ho b 22 i0 _ 1 24 Try.underlying26 qi0 qz0 qz1 qz2 rfl (by omega) v L.length _ hv hown ad c hx (fun j hj => by
      obtain rfl : j = 0 := by omega
      rw [if_pos rfl]
      exact hcell) (fun _ _ => by rw [if_pos rfl]; exact h1) (by unfold maxLen; omega) (by omega) hbase ?_
  intro v' w3 hown3 hg3 _
  have ne : (22 : Nat) ≠ 3 := by decide
  refine K' v' w3 ⟨fun i => if i = L.length then r else R i, by rw [List.length_append]; exact hown3, fun i hi => ?_, h3.kept hg3 (own_ne hA h3 ne), fun i hi => ?_⟩ ((Below.refl b w).grown hg3 hbase fun q e => (hA.lt q e).1) hg3
  · show OwnL w3 b (if i = L.length then r else R i) _
    by_cases e : i = L.length
    · subst e
      rw [if_pos rfl]
      have : (L ++ [l]).getD L.length [] = l := by simp [List.getD_eq_getElem?_getD]
      rw [this]
      exact hr.kept hg3 (own_ne hA hr ne)
    · have hi' : i < L.length := by rw [List.length_append] at hi; simp at hi; omega
      rw [if_neg e]
      have : (L ++ [l]).getD i [] = L.getD i [] := by rw [List.getD_eq_getElem?_getD, List.getD_eq_getElem?_getD, List.getElem?_append_left hi']
      rw [this]
      exact (hB i hi').kept hg3 (own_ne hA (hB i hi') ne)
  · show (if i = L.length then r else R i).ownBlock = none ∨ (if i = L.length then r else R i).ownBlock ≠ _
    by_cases e : i = L.length
    · rw [if_pos e]; exact hru
    · rw [if_neg e]
      exact h4 i (by rw [List.length_append] at hi; simp at hi; omega)
/-- One more int, behind an append to the slice. -/
theorem LevSt.int (h : LevSt w b v u L M) {u' : Value} {M' : List Int} (ho : OwnL w' b u' M') (hg : w.grownBy w' u.ownBlock) (hat : u'.ownBlock = u.ownBlock ∨ u'.ownBlock = some w.heap.size) : LevSt w' b v u' L M' := by
  obtain ⟨R, hA, hB, h3, h4⟩ := h
  have ne : (3 : Nat) ≠ 22 := by decide
  refine ⟨R, hA.kept hg (own_ne h3 hA ne), fun i hi => Own.kept (hB i hi) hg (h4 i hi), ho, fun i hi => ?_⟩
  rcases hat with e | e
  · rw [e]; exact h4 i hi
  · rw [e]
    right
    intro e1
    have := (Own.lt (hB i hi) _ e1).2
    omega
theorem LevSt.len (h : LevSt w b v u L M) : (∃ A c, v = .slice A L.length c) ∧ ∃ A c, u = .slice A M.length c := ⟨h.tab.shape, h.own.shape⟩
/-- Row k and int k. -/
theorem LevSt.read {WA UA : Option Addr} {N N' wc uc : Nat} (h : LevSt w b (.slice WA N wc) (.slice UA N' uc) L M) {k : Nat} (hk : k < L.length) (hm : k < M.length) :
    ∃ wb wo ub uo RA rc, WA = some ⟨wb, wo, none⟩ ∧ UA = some ⟨ub, uo, none⟩ ∧ wb < w.heap.size ∧ ub < w.heap.size ∧ w.cell? ⟨wb, wo + k, none⟩ = some (.slice RA (L.getD k []).length rc) ∧ w.cell? ⟨ub, uo + k, none⟩ = some (.int .i64 (M.getD k 0)) ∧ OwnL w b (.slice RA (L.getD k []).length rc) (L.getD k []) := by
  obtain ⟨R, hA, hB, h3, _⟩ := h
  obtain ⟨A1, c1, e1⟩ := hA.shape
  injection e1 with e1 e2 e3
  subst e1 e2 e3
  obtain ⟨A2, c2, e1⟩ := Own.shape h3
  injection e1 with e1 e2 e3
  subst e1 e2 e3
  obtain ⟨wb, wo, e, hb1, hc1⟩ := hA.rd rfl k hk
  obtain ⟨ub, uo, e', hb2, hc2⟩ := Own.rd h3 rfl k hm
  have g1 := hc1 0 (by omega)
  have g2 := hc2 0 (by omega)
  rw [Nat.mul_one, Nat.add_zero] at g1 g2
  have hr := hB k hk
  obtain ⟨RA, rc, hR⟩ := Own.shape hr
  rw [hR] at hr
  exact ⟨wb, wo, ub, uo, RA, rc, e, e', hb1, hb2, by rw [g1, ← hR], g2, hr⟩
/-- A copy of a list behind an empty one. -/
theorem step_copy_list {ops : Array Oper} {o : Oper} {a : Act} {K : Act → World → Prop} {Q : Exit → Act → World → Prop} {E : Prop} (hgd : o.guard = none) (sl x : Operand)
    (ho : o.op = .call { callee := .builtin .append, args := #[sl, x], argTypes := #[22, 22] })
    {b0 base : Nat} (hv : a.eval sl = .slice (some ⟨b0, 0, none⟩) 0 0) (hr0 : w.rowIs b0 3 0 (fun _ => undef)) (hbase : base ≤ b0) {A : Option Addr} {c : Nat} {l : List Int} (hx : a.eval x = .slice A l.length c)
    (hsrc : Rd w w.heap.size A l.length 1 (listCell l)) (hlen : l.length ≤ 1048576)
    (K' : ∀ v' w', OwnL w' base v' l → Below w.heap.size w w' → (v'.ownBlock = some b0 ∨ v'.ownBlock = some w.heap.size) → K (a.put o.dst v') w') :
    if Region.wanted o (yielded ops a.tmps) = true then Oper.wp Try.prog o a w K Q else E := by
  have hw : Region.wanted o (yielded ops a.tmps) = true := by simp [Region.wanted, hgd]
  rw [if_pos hw]
  obtain ⟨i0, qi0, qz0, qz1, qz2⟩ := info_parts Try.infoInt
  have hl0 : b0 < w.heap.size := hr0.lt
  have hb0 : w.heap[b0]? = some (.cells #[] 3 (0, 0)) := by
    obtain ⟨cs, h1, h2, _⟩ := hr0
    rw [h1, Array.eq_empty_of_size_eq_zero h2]
  by_cases h0 : l.length = 0
  · have hrun := run_append_copy_none (P := Try.prog) w 22 o.type 3 i0 Try.underlying22 qi0 b0 0 A c
    rw [h0] at hx
    unfold Oper.wp execOp
    simp only [ho, resolve, invoke, builtin, Sem.run_bind, Sem.run_pure, Result.andThen_ok, List.map_toArray, List.map_cons, List.map_nil, hv, hx, hrun]
    refine K' _ _ ?_ (Below.refl _ _) (.inl rfl)
    unfold OwnL
    rw [h0]
    exact .inr ⟨b0, 0, 0, #[], rfl, hbase, hb0, Nat.le_refl _, by unfold maxLen; omega, by simp, fun i hi => absurd hi (by omega)⟩
  · obtain ⟨cap, cur, hrun, h2, h3, h4, h5⟩ := run_append_copy_some (P := Try.prog) w 22 o.type 3 i0 _ 1 8 Try.underlying22 qi0 qz0 qz1 qz2 rfl (by omega) (some ⟨b0, 0, none⟩) A l.length c (listCell l) hsrc (by omega) (fun _ _ _ _ => rfl) (by unfold maxLen; omega) (by omega)
    unfold Oper.wp execOp
    simp only [ho, resolve, invoke, builtin, Sem.run_bind, Sem.run_pure, Result.andThen_ok, List.map_toArray, List.map_cons, List.map_nil, hv, hx, hrun]
    refine K' _ _ ?_ (((Below.refl _ _).alloc (Nat.le_refl _) _).drew) (.inr rfl)
    exact (Own.new (w := w) (base := base) (e := 3) (by omega) h2 h3 h4 h5).drew
end
/-- The level behind the first k words. -/
def Trel.levTo (T : Trel) (i k j : Nat) : List (List Int × Int) := ((T.lev i).take k).flatMap (T.ext i (T.el i)) ++ T.ext i j ((T.lev i).getD k ([], 0))
theorem Trel.levTo_zero (T : Trel) (i k : Nat) : T.levTo i k 0 = ((T.lev i).take k).flatMap (T.ext i (T.el i)) := by
  simp [Trel.levTo, Trel.ext, Trel.outs]
theorem Trel.levTo_next {T : Trel} {i k : Nat} (hk : k < (T.lev i).length) : T.levTo i k (T.el i) = T.levTo i (k + 1) 0 := by
  rw [Trel.levTo_zero]
  unfold Trel.levTo
  have h1 : (T.lev i).take (k + 1) = (T.lev i).take k ++ [(T.lev i).getD k ([], 0)] := by
    rw [List.take_add_one, List.getD_eq_getElem?_getD, List.getElem?_eq_getElem hk]
    rfl
  rw [h1, List.flatMap_append]
  simp
theorem Trel.levTo_all (T : Trel) (i : Nat) : T.levTo i (T.lev i).length 0 = T.lev (i + 1) := by
  rw [Trel.levTo_zero, List.take_length]
  rfl
theorem Trel.levTo_succ (T : Trel) (i k j : Nat) : T.levTo i k (j + 1) = T.levTo i k j ++ if T.fr i j = ((T.lev i).getD k ([], 0)).2 then [(((T.lev i).getD k ([], 0)).1 ++ [T.lb i j], T.to i j)] else [] := by
  unfold Trel.levTo
  rw [Trel.ext_succ, List.append_assoc]
theorem Trel.ext_mono (T : Trel) (i : Nat) (x : List Int × Int) {j j' : Nat} (h : j ≤ j') : (T.ext i j x).length ≤ (T.ext i j' x).length := by
  induction j' with
  | zero => obtain rfl : j = 0 := by omega
            exact Nat.le_refl _
  | succ q ih =>
    by_cases e : j = q + 1
    · subst e; exact Nat.le_refl _
    · have := ih (by omega)
      rw [Trel.ext_succ, List.length_append]
      omega
theorem flatMap_take_le {α β : Type} (f : α → List β) (l : List α) (k : Nat) : ((l.take k).flatMap f).length ≤ (l.flatMap f).length := by
  have h := congrArg (fun l : List α => (l.flatMap f).length) (List.take_append_drop k l)
  simp only [List.flatMap_append, List.length_append] at h
  omega
theorem Trel.levTo_le {T : Trel} {i k j : Nat} (hk : k < (T.lev i).length) (hj : j ≤ T.el i) : (T.levTo i k j).length ≤ (T.lev (i + 1)).length := by
  have h1 := T.ext_mono i ((T.lev i).getD k ([], 0)) hj
  have h2 := congrArg List.length (Trel.levTo_next (T := T) hk)
  rw [Trel.levTo_zero] at h2
  have h3 := flatMap_take_le (T.ext i (T.el i)) (T.lev i) (k + 1)
  have h4 : (T.lev (i + 1)).length = ((T.lev i).flatMap (T.ext i (T.el i))).length := rfl
  unfold Trel.levTo at h2 ⊢
  rw [List.length_append] at h2 ⊢
  omega
end Go.Proofs.Ytnocbkhnmdmfhaa
