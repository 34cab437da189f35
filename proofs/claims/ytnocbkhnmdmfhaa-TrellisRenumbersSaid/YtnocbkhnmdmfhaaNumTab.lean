/- Tables of numbers that the call owns. -/
import Derived.Test.YtnocbkhnmdmfhaaTabOwn
import Derived.Test.YtnocbkhnmdmfhaaAppCells
namespace Go.Proofs.Ytnocbkhnmdmfhaa
open Go.RowKit

theorem noInt_row {w : World} {b n : Nat} {t : TypeId} {f : Nat → Value} (h : w.rowIs b t n f) (hf : ∀ i, i < n → ∀ u, f i ≠ .int .u32 u) : NoInt w b := fun j u hj => by
  obtain ⟨cur, hg, hsz, hc⟩ := h
  rw [cell_of_row w b j cur t (0, 0) hg] at hj
  have hlt : j < n := by
    have := (Array.getElem?_eq_some_iff.1 hj).1
    omega
  have := hc j hlt
  rw [hj] at this
  injection this with this
  exact hf j hlt u this.symm
theorem noInt_on {w w' : World} {b : Nat} (h : NoInt w b) (hb : Below w.heap.size w w') (hl : b < w.heap.size) : NoInt w' b := fun j n hj => h j n (by rw [← hb.cell (p := ⟨b, j, none⟩) hl]; exact hj)
theorem lims_setCell {w : World} {B n b i : Nat} {A : Option Addr} {f : Nat → Nat} (h : Lims w B A n f) (hni : NoInt w b) (u : Value) : Lims (w.setCell ⟨b, i, none⟩ u) B A n f := fun k hk => by
  obtain ⟨b', o', e, h1, h2⟩ := h k hk
  refine ⟨b', o', e, h1, fun j hj => ?_⟩
  have hc := h2 j hj
  exact cell_setCell_far hc fun e => hni _ _ (by rw [← show b' = b from e]; exact hc)
theorem natOk_setCell {w : World} {b i x : Nat} {A : Option Addr} (h : NatOk w w.heap.size A x) (hni : NoInt w b) (u : Value) : NatOk (w.setCell ⟨b, i, none⟩ u) (w.setCell ⟨b, i, none⟩ u).heap.size A x := by
  have := lims_setCell (i := i) h hni u
  simpa [NatOk] using this
theorem noInt_setCell {w : World} {b i b' : Nat} {u : Value} (h : NoInt w b) (hu : ∀ n, u ≠ .int .u32 n) : NoInt (w.setCell ⟨b', i, none⟩ u) b := fun j n hj => by
  by_cases e : (⟨b, j, none⟩ : Addr) = ⟨b', i, none⟩
  · injection e with e1 e2
    subst e1 e2
    cases hc : w.cell? ⟨b, j, none⟩ with
    | none =>
      have : (w.setCell ⟨b, j, none⟩ u).cell? ⟨b, j, none⟩ = none := by
        revert hc
        unfold World.cell? World.setCell
        intro hc
        simp only [Option.isSome_none, Bool.false_eq_true, if_false] at hc ⊢
        split at hc
        · rename_i c e fr hb
          have hb : w.heap[b]? = some (.cells c e fr) := hb
          have hb2 : (w.heap.modify b fun
              | .cells c e fr => .cells (c.setIfInBounds j u) e fr
              | o => o)[b]? = some (.cells (c.setIfInBounds j u) e fr) := by
            rw [Array.getElem?_modify]; simp [hb]
          simp only [Array.getElem?_eq_none_iff] at hc
          simp [Array.getElem?_modify, hb]
          omega
        · rename_i hne
          cases ho : w.heap[b]? with
          | none => simp [Array.getElem?_modify, ho]
          | some o =>
            cases o with
            | cells c e fr => exact absurd ho (hne _ _ _)
            | _ => simp [Array.getElem?_modify, ho]
      rw [this] at hj
      cases hj
    | some v =>
      rw [cell_setCell_same hc] at hj
      injection hj with hj
      exact hu _ hj
  · exact h j n (by rwa [World.cell?_setCell_other w ⟨b', i, none⟩ ⟨b, j, none⟩ u (fun h => e h.symm)] at hj)
/-- One entry changed. -/
def upd2 (x : Nat → Nat → Nat) (v k y : Nat) : Nat → Nat → Nat := fun u j => if u = v ∧ j = k then y else x u j
theorem upd2_at (x : Nat → Nat → Nat) (v k y : Nat) : upd2 x v k y v k = y := if_pos ⟨rfl, rfl⟩
theorem upd2_off {x : Nat → Nat → Nat} {v k y u j : Nat} (h : ¬ (u = v ∧ j = k)) : upd2 x v k y u j = x u j := if_neg h
/-- m rows of numbers in slices of the call's own: row v has n v numbers x v. -/
structure NumTab (w : World) (g base m : Nat) (F : Nat → Value) (n : Nat → Nat) (x : Nat → Nat → Nat) : Prop where
  row : w.rowIs g 39 m F
  own : ∀ v, v < m → NatOwn w base (F v) (n v) (x v)
  apart : ∀ v u, v < m → u < m → v ≠ u → (F v).ownBlock = none ∨ (F v).ownBlock ≠ (F u).ownBlock
section
variable {w w' : World} {g base m : Nat} {F : Nat → Value} {n n' : Nat → Nat} {x x' : Nat → Nat → Nat}
theorem NatOwn.congr {v : Value} {k : Nat} {y y' : Nat → Nat} (h : NatOwn w base v k y) (e : ∀ i, i < k → y i = y' i) : NatOwn w base v k y' := by
  obtain ⟨f, h1, h2, h3⟩ := h
  exact ⟨f, h1, h2, fun i hi => by rw [← e i hi]; exact h3 i hi⟩
theorem NatOwn.lt {v : Value} {k : Nat} {y : Nat → Nat} (h : NatOwn w base v k y) : ∀ b, v.ownBlock = some b → base ≤ b ∧ b < w.heap.size := by
  obtain ⟨f, h1, _⟩ := h
  exact h1.lt
theorem NatOwn.isSlice {v : Value} {k : Nat} {y : Nat → Nat} (h : NatOwn w base v k y) : ∃ A c, v = .slice A k c := by
  obtain ⟨f, h1, _⟩ := h
  exact h1.shape
theorem NumTab.on (h : NumTab w g base m F n x) (hb : Below w.heap.size w w') : NumTab w' g base m F n x := ⟨rowIs_on_ h.row hb, fun v hv => (h.own v hv).on hb, h.apart⟩
where rowIs_on_ {w w' : World} {b : Nat} {t : TypeId} {n : Nat} {f : Nat → Value} (h : w.rowIs b t n f) (hb : Below w.heap.size w w') : w'.rowIs b t n f := h.of_block (hb.block b h.lt)
theorem NumTab.congr (h : NumTab w g base m F n x) (e1 : ∀ v, v < m → n v = n' v) (e2 : ∀ v, v < m → ∀ k, k < n v → x v k = x' v k) : NumTab w g base m F n' x' :=
  ⟨h.row, fun v hv => by rw [← e1 v hv]; exact (h.own v hv).congr (e2 v hv), h.apart⟩
theorem NumTab.noInt (h : NumTab w g base m F n x) : NoInt w g := noInt_row h.row fun i hi u e => by
  obtain ⟨A, c, hs⟩ := (h.own i hi).isSlice
  rw [hs] at e
  cases e
/-- An entry that is read. -/
theorem NumTab.at (h : NumTab w g base m F n x) {v k : Nat} (hv : v < m) (hk : k < n v) : ∃ b o d A c, F v = .slice (some ⟨b, o, none⟩) (n v) d ∧ base ≤ b ∧ b < w.heap.size ∧ w.cell? ⟨b, o + k, none⟩ = some (.slice A (dl (x v k)) c) ∧
    dl (x v k) ≤ c ∧ c ≤ maxLen ∧ NatOk w w.heap.size A (x v k) ∧ w.frozen? ⟨b, o + k, none⟩ = false ∧ NoInt w b := by
  obtain ⟨f, h1, h2, h3⟩ := h.own v hv
  obtain ⟨b, o, d, e, hb, hl, _, _, hc⟩ := h1.form (by omega)
  obtain ⟨A, c, e0, n1, n2, n3⟩ := h3 k hk
  have hc0 := hc k hk 0 (by omega)
  rw [Nat.mul_one, Nat.add_zero, e0] at hc0
  refine ⟨b, o, d, A, c, e, hb, hl, hc0, n2, n3, n1, ?_, h2 b (by rw [e]; rfl)⟩
  rw [e] at h1
  exact h1.frozen (o + k)
/-- An entry that is written. -/
theorem NumTab.set (h : NumTab w g base m F n x) (hgb : g < base) {v k b o d : Nat} (hv : v < m) (hk : k < n v) (hF : F v = .slice (some ⟨b, o, none⟩) (n v) d) {A : Option Addr} {c y : Nat} (hy : NatOk w w.heap.size A y) (h1 : dl y ≤ c) (h2 : c ≤ maxLen) :
    NumTab (w.setCell ⟨b, o + k, none⟩ (.slice A (dl y) c)) g base m F n (upd2 x v k y) := by
  have hob : (F v).ownBlock = some b := by rw [hF]; rfl
  have hbb := (h.own v hv).lt b hob
  have hni : NoInt w b := by
    obtain ⟨f, _, k2, _⟩ := h.own v hv
    exact k2 b hob
  have hnu : ∀ u : Int, (Value.slice A (dl y) c) ≠ .int .u32 u := fun u e => by cases e
  refine ⟨h.row.setOther (by simp; omega) _, fun u hu => ?_, h.apart⟩
  by_cases e : u = v
  · subst e
    obtain ⟨f, k1, k2, k3⟩ := h.own u hu
    rw [hF] at k1 ⊢
    have ks := k1.set (a := k) (b := 0) hk (by omega) (.slice A (dl y) c)
    rw [Nat.mul_one, Nat.add_zero] at ks
    refine ⟨_, ks, fun q hq => ?_, fun i hi => ?_⟩
    · obtain rfl : b = q := by simpa [Value.ownBlock] using hq
      exact noInt_setCell hni hnu
    · by_cases ei : i = k
      · subst ei
        exact ⟨A, c, by rw [upd2_at, if_pos ⟨rfl, rfl⟩], by rw [upd2_at]; exact natOk_setCell hy hni _, by rw [upd2_at]; exact h1, h2⟩
      · obtain ⟨A', c', e0, n1, n2, n3⟩ := k3 i hi
        have eo : upd2 x u k y u i = x u i := upd2_off fun hh => ei hh.2
        exact ⟨A', c', by rw [eo, if_neg fun hh => ei hh.1]; exact e0, by rw [eo]; exact natOk_setCell n1 hni _, by rw [eo]; exact n2, n3⟩
  · obtain ⟨f, k1, k2, k3⟩ := h.own u hu
    have hne : (F u).ownBlock ≠ some b := fun hh => by
      rcases h.apart u v hu hv e with h0 | h0
      · rw [h0] at hh; cases hh
      · rw [hob] at h0; exact h0 hh
    refine ⟨f, k1.setCell hne _, fun q hq => noInt_setCell (k2 q hq) hnu, fun i hi => ?_⟩
    obtain ⟨A', c', e0, n1, n2, n3⟩ := k3 i hi
    have eo : upd2 x v k y u i = x u i := upd2_off fun hh => e hh.1
    exact ⟨A', c', by rw [eo]; exact e0, by rw [eo]; exact natOk_setCell n1 hni _, by rw [eo]; exact n2, n3⟩
theorem natOk_grown {row : Option Nat} {A : Option Addr} {y : Nat} (h : NatOk w w.heap.size A y) (hg : w.grownBy w' row) (hni : ∀ q, row = some q → NoInt w q) : NatOk w' w'.heap.size A y := fun q hq => by
  obtain ⟨b', o', e, h1, h2⟩ := lims_grownO h (Nat.le_refl _) hg hni q hq
  exact ⟨b', o', e, Nat.lt_of_lt_of_le h1 hg.size, h2⟩
/-- A row that was appended to is stored back. -/
theorem NumTab.put (h : NumTab w g base m F n x) (hgb : g < base) {v : Nat} (hv : v < m) {v' : Value} {k' : Nat} {y : Nat → Nat} (hown : NatOwn w' base v' k' y) (hg : w.grownBy w' (F v).ownBlock) (hat : v'.ownBlock = (F v).ownBlock ∨ v'.ownBlock = some w.heap.size) :
    NumTab (w'.setCell ⟨g, v, none⟩ v') g base m (fun u => if u = v then v' else F u) (fun u => if u = v then k' else n u) (fun u => if u = v then y else x u) := by
  obtain ⟨fv, f1, f2, f3⟩ := h.own v hv
  have hlt : ∀ u, u < m → ∀ k, (F u).ownBlock = some k → base ≤ k ∧ k < w.heap.size := fun u hu => (h.own u hu).lt
  have hgw : g < w.heap.size := h.row.lt
  have hgr : w'.rowIs g 39 m F := h.row.of_block (hg.block g hgw (fun e => by have := (hlt v hv g e.symm).1; omega))
  have hnig : NoInt w' g := noInt_row hgr fun i hi u e => by
    obtain ⟨A, c, hs⟩ := (h.own i hi).isSlice
    rw [hs] at e
    cases e
  have hnr : ∀ q, (F v).ownBlock = some q → NoInt w q := f2
  have hsl : ∃ A c, v' = .slice A k' c := hown.isSlice
  have hnu : ∀ u : Int, v' ≠ .int .u32 u := fun u e => by
    obtain ⟨A, c, hs⟩ := hsl
    rw [hs] at e
    cases e
  refine ⟨?_, fun u hu => ?_, fun a b ha hb hab => ?_⟩
  · exact (hgr.set v v').congr fun u _ => by split <;> rfl
  · by_cases e : u = v
    · subst e
      simp only [if_true]
      obtain ⟨f', k1, k2, k3⟩ := hown
      refine ⟨f', k1.setCell (fun e => by have := (k1.lt _ e).1; simp at this; omega) _, fun q hq => noInt_setCell (k2 q hq) hnu, fun i hi => ?_⟩
      obtain ⟨A, c, e0, n1, n2, n3⟩ := k3 i hi
      exact ⟨A, c, e0, natOk_setCell n1 hnig _, n2, n3⟩
    · simp only [if_neg e]
      obtain ⟨f', k1, k2, k3⟩ := h.own u hu
      have hk := k1.kept hg (h.apart u v hu hv e)
      refine ⟨f', hk.setCell (fun e => by have := (hk.lt _ e).1; simp at this; omega) _, fun q hq => noInt_setCell (fun j z hz => ?_) hnu, fun i hi => ?_⟩
      · have hq2 := (k1.lt q hq).2
        have hb2 := hg.block q hq2 (fun e2 => by
          rcases h.apart u v hu hv e with h0 | h0
          · rw [h0] at hq; cases hq
          · exact h0 (hq.trans e2))
        refine k2 q hq j z ?_
        rw [← hz]
        simp only [World.cell?, hb2]
      · obtain ⟨A, c, e0, n1, n2, n3⟩ := k3 i hi
        exact ⟨A, c, e0, natOk_setCell (natOk_grown n1 hg hnr) hnig _, n2, n3⟩
  · by_cases ea : a = v
    · have eb : ¬ b = v := fun e => hab (by rw [ea, e])
      simp only [if_pos ea, if_neg eb]
      subst ea
      rcases hat with h1 | h1
      · rw [h1]; exact h.apart a b ha hb hab
      · right
        rw [h1]
        intro e2
        have := (hlt b hb _ e2.symm).2
        omega
    · simp only [if_neg ea]
      by_cases eb : b = v
      · simp only [if_pos eb]
        subst eb
        rcases hat with h1 | h1
        · rw [h1]; exact h.apart a b ha hb hab
        · rw [h1]
          cases hfa : (F a).ownBlock with
          | none => exact .inl rfl
          | some k =>
            right
            intro e2
            injection e2 with e2
            have := (hlt a ha k hfa).2
            omega
      · simp only [if_neg eb]; exact h.apart a b ha hb hab
end
/-- append of one number to an own slice, with what becomes of its block. -/
theorem run_append_nat2 (w : World) (ty : TypeId) (base : Nat) (v : Value) (k : Nat) (x : Nat → Nat) (h : NatOwn w base v k x) (hbase : base ≤ w.heap.size) (hk : k ≤ 1048576)
    (b c : Nat) (A : Option Addr) (d : Nat) (c0 : w.cell? ⟨b, 0, none⟩ = some (.slice A (dl (x k)) d)) (m1 : NatOk w w.heap.size A (x k)) (m3 : dl (x k) ≤ d) (m4 : d ≤ maxLen) :
    ∃ v' w', (Builtin.append_ #[39, 39] ty #[v, .slice (some ⟨b, 0, none⟩) 1 c]).run Try.prog w = .ok v' w' ∧ NatOwn w' base v' (k + 1) x ∧ w.grownBy w' v.ownBlock ∧ (v'.ownBlock = v.ownBlock ∨ v'.ownBlock = some w.heap.size) := by
  obtain ⟨v', w', hrun, h2, h3, _⟩ := run_append_nat w ty base v k x h hbase hk b c A d (x k) rfl c0 m1 m3 m4
  refine ⟨v', w', hrun, h2, h3, ?_⟩
  obtain ⟨f, hown, hni, hf⟩ := h
  obtain ⟨i, hi, hzz⟩ := Option.map_eq_some_iff.1 Try.infoNat
  simp only [Prod.mk.injEq] at hzz
  obtain ⟨hz, hs, hb⟩ := hzz
  let f' : Nat → Nat → Value := fun i j => if i < k then (if j < 1 then f i 0 else undef) else .slice A (dl (x k)) d
  have hown' : Own w base 43 1 v k f' := hown.congr fun i hi j hj => by
    obtain rfl : j = 0 := by omega
    simp [f', hi]
  have hnews : ∀ j, j < 1 → w.cell? ((⟨b, 0, none⟩ : Addr).add j) = some (f' k j) := fun j hj => by
    obtain rfl : j = 0 := by omega
    have : (⟨b, 0, none⟩ : Addr).add 0 = ⟨b, 0, none⟩ := by unfold Addr.add; split <;> simp_all
    rw [this]
    simpa [f'] using c0
  have h1 : ∀ j, j < 1 → (f' k j).oneCell' = true := fun j hj => by simp [f']; rfl
  obtain ⟨v1, w1, e1, _, _, a1, _⟩ := run_append_one (P := Try.prog) w base 39 ty 43 i _ 1 24 Try.underlying39 hi hz hs hb rfl (by omega) v k f' hown' ⟨b, 0, none⟩ c hnews h1 (by unfold maxLen; omega) (by omega) hbase
  rw [hrun] at e1
  injection e1 with e1 e2
  subst e1
  exact a1
/-- .. at a step of a region that draws its order. -/
theorem step_append_nat2 {ops : Array Oper} {o : Oper} {a : Act} {w : World} {K : Act → World → Prop} {Q : Exit → Act → World → Prop} {E : Prop} (hgd : o.guard = none) (sl y : Operand)
    (ho : o.op = .call { callee := .builtin .append, args := #[sl, y], argTypes := #[39, 39] })
    (base : Nat) (v : Value) (k : Nat) (x : Nat → Nat) (hv : a.eval sl = v) (h : NatOwn w base v k x) (hbase : base ≤ w.heap.size) (hk : k ≤ 1048576)
    (b c : Nat) (hy : a.eval y = .slice (some ⟨b, 0, none⟩) 1 c) (A : Option Addr) (d : Nat) (c0 : w.cell? ⟨b, 0, none⟩ = some (.slice A (dl (x k)) d)) (m1 : NatOk w w.heap.size A (x k)) (m3 : dl (x k) ≤ d) (m4 : d ≤ maxLen)
    (hK : ∀ v' w', NatOwn w' base v' (k + 1) x → w.grownBy w' v.ownBlock → (v'.ownBlock = v.ownBlock ∨ v'.ownBlock = some w.heap.size) → K (a.put o.dst v') w') :
    if Region.wanted o (yielded ops a.tmps) = true then Oper.wp Try.prog o a w K Q else E := by
  have hw : Region.wanted o (yielded ops a.tmps) = true := by simp [Region.wanted, hgd]
  rw [if_pos hw]
  obtain ⟨v', w', hrun, h2, h3, h4⟩ := run_append_nat2 w o.type base v k x h hbase hk b c A d c0 m1 m3 m4
  unfold Oper.wp execOp
  simp only [ho, resolve, invoke, builtin, Sem.run_bind, Sem.run_pure, Result.andThen_ok, List.map_toArray, List.map_cons, List.map_nil, hv, hy, hrun]
  exact hK v' w' h2 h3 h4
end Go.Proofs.Ytnocbkhnmdmfhaa
