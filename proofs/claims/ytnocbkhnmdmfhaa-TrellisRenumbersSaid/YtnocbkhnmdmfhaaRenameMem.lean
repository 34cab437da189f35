/- What trellis.rename works on. -/
import Derived.Test.YtnocbkhnmdmfhaaOrder
import Derived.Test.YtnocbkhnmdmfhaaVisMem
import Derived.Test.YtnocbkhnmdmfhaaTabOwn
namespace Go.Proofs.Ytnocbkhnmdmfhaa
open Go.RowKit

theorem own_of_row {w : World} {b n base : Nat} {t : TypeId} {F : Nat → Value} (h : w.rowIs b t n F) (hb : base ≤ b) (hn : n ≤ maxLen) : Own w base t 1 (.slice (some ⟨b, 0, none⟩) n n) n (fun i _ => F i) := by
  obtain ⟨cs, h1, h2, h3⟩ := h
  refine .inr ⟨b, 0, n, cs, rfl, hb, h1, Nat.le_refl _, hn, by omega, fun i hi j hj => ?_⟩
  obtain rfl : j = 0 := by omega
  rw [Nat.zero_add, Nat.mul_one, Nat.add_zero]
  exact h3 i hi
theorem row_row_ne {w : World} {b b' n n' : Nat} {t t' : TypeId} {F F' : Nat → Value} (h : w.rowIs b t n F) (h' : w.rowIs b' t' n' F') (hne : t ≠ t') : b ≠ b' := by
  intro e
  subst e
  obtain ⟨cs, h1, _⟩ := h
  obtain ⟨cs', h1', _⟩ := h'
  rw [h1] at h1'
  injection h1' with h1'
  injection h1' with _ h1'
  exact hne h1'
section
variable {w w' : World} {g base te e s m : Nat} {F : Nat → Value} {n n' : Nat → Nat} {f f' : Nat → Nat → Nat → Value}
theorem TabOwn.same (h : TabOwn w g base te e s m F n f) (hn : ∀ v, v < m → n v = n' v) (hf : ∀ v, v < m → ∀ i, i < n v → ∀ j, j < s → f v i j = f' v i j) : TabOwn w g base te e s m F n' f' :=
  ⟨h.row, fun v hv => by rw [← hn v hv]; exact (h.own v hv).congr (hf v hv), h.apart⟩
/-- Behind something that changes row v in its place. -/
theorem TabOwn.touch (h : TabOwn w g base te e s m F n f) (hgb : g < base) {v : Nat} (hv : v < m) {n1 : Nat} {f1 : Nat → Nat → Value} (hown : Own w' base e s (F v) n1 f1) (hg : w.grownBy w' (F v).ownBlock) :
    TabOwn w' g base te e s m F (fun u => if u = v then n1 else n u) (fun u => if u = v then f1 else f u) := by
  refine ⟨h.row.of_block (hg.block g h.row.lt (fun e => by have := ((h.own v hv).lt _ e.symm).1; omega)), fun u hu => ?_, h.apart⟩
  by_cases e : u = v
  · subst e
    simp only [if_true]
    exact hown
  · simp only [if_neg e]
    exact (h.own u hu).kept hg (h.apart u v hu hv e)
theorem TabOwn.stays (h : TabOwn w g base te e s m F n f) (hb : Below w.heap.size w w') : TabOwn w' g base te e s m F n f := ⟨h.row.of_block (hb.block g h.row.lt), fun v hv => (h.own v hv).on hb, h.apart⟩
end
theorem Trel.Proper.el_pos {T : Trel} (h : T.Proper) {i : Nat} (hi : i < T.n) : 0 < T.el i := by
  have h1 := (h.shape.wid (i := i) (by omega)).1
  obtain ⟨j, hj, _⟩ := hitB_iff.1 ((h.sec i hi).2.1 0 (by omega))
  omega
/-- The new trellis: sections ahead of i stand sorted, section i has j edges. -/
structure RnSt (T : Trel) (g base ob rb i j : Nat) (wv : Value) (y : Nat → Nat → Int × Int × Int) (F : Nat → Value) (w : World) : Prop where
  res : w.rowIs rb 25 2 (fun _ => .slice none 0 0)
  box : w.rowIs ob 25 2 (fun k => if k = 0 then wv else .slice (some ⟨g, 0, none⟩) T.n T.n)
  wid : Own w 0 3 1 wv T.nw (fun k _ => .int .i64 (T.W k))
  tab : TabOwn w g base 70 72 3 T.n F (fun v => if v < i then T.el v else if v = i then j else 0) (fun v => edgeCell (if v < i then y v else T.tri v))
  hrb : rb < base
  hob : ob < base
  hg : g < base
  hwv : ∀ q, wv.ownBlock = some q → q < base
section
variable {T : Trel} {g base ob rb i j : Nat} {wv : Value} {y : Nat → Nat → Int × Int × Int} {F : Nat → Value} {w w' : World}
theorem RnSt.on (h : RnSt T g base ob rb i j wv y F w) (hb : Below w.heap.size w w') : RnSt T g base ob rb i j wv y F w' :=
  ⟨h.res.of_block (hb.block _ h.res.lt), h.box.of_block (hb.block _ h.box.lt), h.wid.on hb, h.tab.stays hb, h.hrb, h.hob, h.hg, h.hwv⟩
theorem RnSt.row (h : RnSt T g base ob rb i j wv y F w) (hi : i < T.n) : Own w base 72 3 (F i) j (edgeCell (T.tri i)) := by
  have := h.tab.own i hi
  simpa using this
theorem RnSt.put (h : RnSt T g base ob rb i j wv y F w) (hi : i < T.n) {v' : Value} (ho : Own w' base 72 3 v' (j + 1) (edgeCell (T.tri i))) (hgr : w.grownBy w' (F i).ownBlock) (hat : v'.ownBlock = (F i).ownBlock ∨ v'.ownBlock = some w.heap.size) :
    RnSt T g base ob rb i (j + 1) wv y (fun u => if u = i then v' else F u) (w'.setCell ⟨g, i, none⟩ v') := by
  have hF := (h.tab.own i hi).lt
  have hne : ∀ b, b < base → (F i).ownBlock ≠ some b := fun b hb e => by have := (hF b e).1; omega
  have r1 := h.res.of_block (hgr.block rb h.res.lt fun e => hne rb h.hrb e.symm)
  have r2 := h.box.of_block (hgr.block ob h.box.lt fun e => hne ob h.hob e.symm)
  have r3 : w'.rowIs g 70 T.n F := h.tab.row.of_block (hgr.block g h.tab.row.lt fun e => hne g h.hg e.symm)
  have r4 := h.wid.kept hgr (by
    cases e : wv.ownBlock with
    | none => exact .inl rfl
    | some q => exact .inr fun e2 => hne q (h.hwv q e) e2.symm)
  refine ⟨r1.setOther (a := ⟨g, i, none⟩) (by simpa using row_row_ne r1 r3 (by decide)) v', r2.setOther (a := ⟨g, i, none⟩) (by simpa using row_row_ne r2 r3 (by decide)) v', r4.setCell (own_row_ne r3 r4 (by decide)) v', ?_, h.hrb, h.hob, h.hg, h.hwv⟩
  refine (h.tab.put h.hg hi ho hgr hat).same (fun v _ => ?_) (fun v _ k _ q _ => ?_)
  · by_cases e : v = i
    · subst e; rw [if_pos rfl, if_neg (by omega), if_pos rfl]
    · rw [if_neg e, if_neg e]
      by_cases e2 : v < i
      · rw [if_pos e2, if_pos e2]
      · rw [if_neg e2, if_neg e2, if_neg e]
  · by_cases e : v = i
    · subst e; rw [if_pos rfl, if_neg (by omega)]
    · rw [if_neg e]
theorem RnSt.sort (h : RnSt T g base ob rb i (T.el i) wv y F w) (hi : i < T.n) {z : Nat → Int × Int × Int} (ho : Own w' base 72 3 (F i) (T.el i) (edgeCell z)) (hgr : w.grownBy w' (F i).ownBlock) :
    RnSt T g base ob rb (i + 1) 0 wv (fun u => if u = i then z else y u) F w' := by
  have hF := (h.tab.own i hi).lt
  have hne : ∀ b, b < base → (F i).ownBlock ≠ some b := fun b hb e => by have := (hF b e).1; omega
  refine ⟨h.res.of_block (hgr.block rb h.res.lt fun e => hne rb h.hrb e.symm), h.box.of_block (hgr.block ob h.box.lt fun e => hne ob h.hob e.symm), h.wid.kept hgr (by
    cases e : wv.ownBlock with
    | none => exact .inl rfl
    | some q => exact .inr fun e2 => hne q (h.hwv q e) e2.symm), ?_, h.hrb, h.hob, h.hg, h.hwv⟩
  refine (h.tab.touch h.hg hi ho hgr).same (fun v _ => ?_) (fun v _ k _ q _ => ?_)
  · by_cases e : v = i
    · subst e; rw [if_pos rfl, if_pos (by omega)]
    · rw [if_neg e]
      by_cases e2 : v < i
      · rw [if_pos e2, if_pos (by omega)]
      · rw [if_neg e2, if_neg e, if_neg (by omega)]
        split <;> rfl
  · by_cases e : v = i
    · subst e; rw [if_pos rfl, if_pos (by omega), if_pos rfl]
    · rw [if_neg e]
      by_cases e2 : v < i
      · rw [if_pos e2, if_pos (by omega), if_neg e]
      · rw [if_neg e2, if_neg (by omega)]
theorem RnSt.etab (h : RnSt T g base ob rb T.n 0 wv y F w) (hn : T.n ≤ maxLen) : ETab w 0 (.slice (some ⟨g, 0, none⟩) T.n T.n) T.n T.el y := by
  refine ⟨F, own_of_row h.tab.row (Nat.zero_le _) hn, fun i hi => ?_⟩
  have := h.tab.own i hi
  simp only [if_pos hi] at this
  exact this.mono (Nat.zero_le _)
theorem RnSt.start (h0 : w.rowIs rb 25 2 (fun _ => .slice none 0 0)) (h1 : w.rowIs ob 25 2 (fun k => if k = 0 then wv else .slice (some ⟨g, 0, none⟩) T.n T.n)) (h2 : Own w 0 3 1 wv T.nw (fun k _ => .int .i64 (T.W k)))
    (h3 : w.rowIs g 70 T.n (fun _ => .slice none 0 0)) : RnSt T g w.heap.size ob rb 0 0 wv y (fun _ => .slice none 0 0) w :=
  ⟨h0, h1, h2, ⟨h3, fun v _ => by
    have e : (if v < 0 then T.el v else if v = 0 then 0 else 0) = 0 := by
      rw [if_neg (by omega)]
      split <;> rfl
    rw [e]
    exact Own.nil _ _ _ _ _, fun _ _ _ _ _ => .inl rfl⟩, h0.lt, h1.lt, h3.lt, fun q e => (h2.lt q e).2⟩
end
end Go.Proofs.Ytnocbkhnmdmfhaa
