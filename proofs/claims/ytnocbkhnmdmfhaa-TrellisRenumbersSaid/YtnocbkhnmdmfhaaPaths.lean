/- trellis.Paths: the number of paths of a proper trellis. -/
import Derived.Test.YtnocbkhnmdmfhaaForward
import Derived.Test.YtnocbkhnmdmfhaaRepeat
import Derived.Test.YtnocbkhnmdmfhaaTrelProper
namespace Go.Proofs.Ytnocbkhnmdmfhaa
open Go.RowKit

theorem hitB_pos {f : Nat → Int} {j : Nat} {v : Int} (h : hitB f j v = true) : 0 < j := by
  obtain ⟨i, hi, _⟩ := hitB_iff.1 h
  omega
theorem Trel.Proper.el1 {T : Trel} (h : T.Proper) {i : Nat} (hi : i < T.n) : 1 ≤ T.el i := by
  have h1 := (h.sec i hi).2.2 0 (by have := h.shape.w1 (i + 1) (by omega); omega)
  exact hitB_pos h1
def PathsPost (T : Trel) (w : World) (e : Ending) (w' : World) : Prop :=
  (T.properE ≠ 0 ∧ e = .returned (.tuple #[.slice none 0 0, .int .i64 T.properE]) ∧ Below w.heap.size w w') ∨
  (T.properE = 0 ∧ ∃ A c, e = .returned (.tuple #[.slice A (dl (T.fwd (fun _ _ => 1) T.n 0)) c, .int .i64 0]) ∧ dl (T.fwd (fun _ _ => 1) T.n 0) ≤ c ∧ c ≤ maxLen ∧ NatOk w' w'.heap.size A (T.fwd (fun _ _ => 1) T.n 0) ∧ Below w.heap.size w w')
/-- The rows of ones, k of them laid. -/
def OnesUpTo (T : Trel) (wx : World) (gv k : Nat) (A1 : Option Addr) (c1 : Nat) : Prop :=
  ∃ R : Nat → Nat, wx.rowIs gv 39 T.n (fun i => if i < k then .slice (some ⟨R i, 0, none⟩) (T.el i) (T.el i) else .slice none 0 0) ∧ ∀ i, i < k → R i ≠ gv ∧ wx.rowIs (R i) 43 (T.el i) (fun _ => .slice A1 (dl 1) c1)
theorem OnesUpTo.on {T : Trel} {w w' : World} {gv k : Nat} {A1 : Option Addr} {c1 : Nat} (h : OnesUpTo T w gv k A1 c1) (hb : Below w.heap.size w w') : OnesUpTo T w' gv k A1 c1 := by
  obtain ⟨R, h1, h2⟩ := h
  exact ⟨R, rowIs_on h1 hb, fun i hi => ⟨(h2 i hi).1, rowIs_on (h2 i hi).2 hb⟩⟩
theorem OnesUpTo.noInt {T : Trel} {w : World} {gv k : Nat} {A1 : Option Addr} {c1 : Nat} (h : OnesUpTo T w gv k A1 c1) : NoInt w gv := by
  obtain ⟨R, h1, h2⟩ := h
  exact noInt_row h1 fun i _ u e => by
    revert e
    show (if i < k then _ else _) = _ → _
    split <;> (intro e; cases e)
theorem OnesUpTo.put {T : Trel} {w : World} {gv k r : Nat} {A1 : Option Addr} {c1 : Nat} (h : OnesUpTo T w gv k A1 c1) (hr : w.rowIs r 43 (T.el k) (fun _ => .slice A1 (dl 1) c1)) (hne : r ≠ gv) :
    OnesUpTo T (w.setCell ⟨gv, k, none⟩ (.slice (some ⟨r, 0, none⟩) (T.el k) (T.el k))) gv (k + 1) A1 c1 := by
  obtain ⟨R, h1, h2⟩ := h
  refine ⟨fun i => if i = k then r else R i, (h1.set k _).congr fun i _ => ?_, fun i hi => ?_⟩
  · show (if i = k then _ else if i < k then _ else _) = if i < k + 1 then Value.slice (some ⟨if i = k then r else R i, 0, none⟩) (T.el i) (T.el i) else .slice none 0 0
    by_cases e : i = k
    · subst e; rw [if_pos rfl, if_pos (by omega), if_pos rfl]
    · rw [if_neg e, if_neg e]
      by_cases e2 : i < k
      · rw [if_pos e2, if_pos (by omega)]
      · rw [if_neg e2, if_neg (by omega)]
  · show (if i = k then r else R i) ≠ gv ∧ World.rowIs _ (if i = k then r else R i) _ _ _
    by_cases e : i = k
    · subst e
      rw [if_pos rfl]
      exact ⟨hne, hr.setOther (by simpa using hne) _⟩
    · rw [if_neg e]
      exact ⟨(h2 i (by omega)).1, (h2 i (by omega)).2.setOther (by simpa using (h2 i (by omega)).1) _⟩
theorem OnesUpTo.tab {T : Trel} {w : World} {gv : Nat} {A1 : Option Addr} {c1 : Nat} (h : OnesUpTo T w gv T.n A1 c1) (hn : NatOk w w.heap.size A1 1) (h1 : dl 1 ≤ c1) (h2 : c1 ≤ maxLen) : VTab w (some ⟨gv, 0, none⟩) T.n T.el (fun _ _ => 1) := fun i hi => by
  obtain ⟨R, k1, k2⟩ := h
  have hc := k1.cell hi
  rw [if_pos hi] at hc
  refine ⟨gv, 0, some ⟨R i, 0, none⟩, T.el i, rfl, k1.lt, by rw [Nat.zero_add]; exact hc, fun j hj => ?_⟩
  exact ⟨R i, 0, A1, c1, rfl, (k2 i hi).2.lt, by rw [Nat.zero_add]; exact (k2 i hi).2.cell hj, h1, h2, hn⟩
set_option maxRecDepth 100000 in
set_option maxHeartbeats 8000000 in
theorem paths_any (T : Trel) (A B : Option Addr) (c d : Nat) (w : World) (h : T.Reads w A B) :
    Calls Try.prog 28 #[.agg #[.slice A T.nw c, .slice B T.n d]] w (PathsPost T w) := by
  obtain ⟨RB, hRB⟩ : ∃ o, o = (Obj.cells #[.slice A T.nw c, .slice B T.n d] 25) := ⟨_, rfl⟩
  have hB0 : Below (w.heap.size + 1) (w.alloc RB) (w.alloc RB) := Below.refl _ _
  have HS : Hid (∀ w', Below (w.heap.size + 1) (w.alloc RB) w' → (w'.cell? ⟨w.heap.size, 0, none⟩ = some (.slice A T.nw c) ∧ w'.cell? ⟨w.heap.size, 1, none⟩ = some (.slice B T.n d)) ∧ Below w.heap.size w w') := fun w' hB => by
    have hB' := tbox_below hB
    subst hRB
    exact ⟨⟨tbox hB rfl, tbox hB rfl⟩, hB'⟩
  obtain ⟨⟨p0, p1⟩, hW⟩ := HS.out _ hB0
  go_enter Try.func28, Try.ntmps28
  go_wp2_with fail
  rw [← hRB]
  refine (proper_any T A B c d _ (h.on hW)).mono ?_
  rintro e w1 ⟨rfl, hb⟩
  have hB1 := tbox_on hB0 hb
  clear hW p0 p1 hb hB0 hRB
  obtain ⟨⟨p0, p1⟩, hW⟩ := HS.out _ hB1
  by_cases hp : T.properE = 0
  · have HP := hid (Trel.proper_of hp)
    have HP0 := hid hp
    have HR := hid h
    have HSE : Hid (T.shapeE = 0) := by
      show _ = _
      cases Decidable.em (T.shapeE = 0) with
      | inl h => exact h
      | inr h => exact absurd (Trel.properE_shape h ▸ hp) h
    rw [hp]
    clear hp h
    go_wp2_with fail
    refine (natOf_any 1 _ (by omega)).mono ?_
    rintro e w2 ⟨A1, c1, rfl, g1, g2, g3, kb⟩
    have hB2 := tbox_on hB1 kb
    clear hW p0 p1 hB1 kb
    obtain ⟨⟨p0, p1⟩, hW⟩ := HS.out _ hB2
    have hl2 := tbox_lt hB2
    have hn64 := HP.out.shape.n64
    have hmk := fun W => run_makeI (P := Try.prog) 91 39 _ 24 Try.underlying91 Try.infoNats rfl (T.n : Int) (by omega) (by omega) (by omega) W
    simp only [Int.toNat_natCast] at hmk
    obtain ⟨x, hx⟩ : ∃ x, x = T.fwd (fun _ _ => 1) T.n 0 := ⟨_, rfl⟩
    have HX := hid hx
    clear hx
    go_upto_region 6 with fail
    obtain ⟨gv, hgv⟩ : ∃ b, b = w2.heap.size := ⟨_, rfl⟩
    have hrv := World.rowIs_made w2 (.slice none 0 0) T.n 39
    have kb3 : Below w2.heap.size w2 (w2.alloc (Obj.cells (madeCells #[Value.slice none 0 0] T.n) 39)) := (Below.refl _ _).alloc (Nat.le_refl _) _
    obtain ⟨w3, hw3⟩ : ∃ W, W = w2.alloc (Obj.cells (madeCells #[Value.slice none 0 0] T.n) 39) := ⟨_, rfl⟩
    rw [← hgv] at hrv
    rw [← hw3] at hrv kb3 ⊢
    rw [← hgv]
    have hl3 : w.heap.size < gv := by omega
    have hon : OnesUpTo T w3 gv 0 A1 c1 := ⟨fun _ => 0, hrv.congr fun i _ => (if_neg (by omega)).symm, fun i hi => absurd hi (by omega)⟩
    have hB3 := tbox_on hB2 kb3
    replace g3 := g3.on kb3
    clear hw3 hrv hmk p0 p1 hW hB2 kb3 hl2 hgv
    obtain ⟨⟨p0, p1⟩, hW⟩ := HS.out _ hB3
    go_wp2
    go_loopg [24] T.n (fun gg iv wx => ∃ k : Nat, iv = .int .i64 (k : Nat) ∧ k ≤ T.n ∧ T.n ≤ k + gg ∧ OnesUpTo T wx gv k A1 c1 ∧ NatOk wx wx.heap.size A1 1 ∧ Below (w.heap.size + 1) (w.alloc RB) wx)
    case atStart => exact ⟨0, rfl, by omega, by omega, hon, g3, hB3⟩
    case round =>
      clear p0 p1 hW hon g3 hB3
      obtain ⟨k, rfl, hk, hkg, hon, g3, hB⟩ := hrel
      obtain ⟨⟨p0, p1⟩, hW⟩ := HS.out _ hB
      have hk0 : (0 : Int) ≤ (k : Int) := by omega
      have hwz := tbox_lt hB
      have hgw : gv < wr.heap.size := by obtain ⟨R, h1, _⟩ := hon; exact h1.lt
      by_cases hlt : k < T.n
      · have hlt' : (k : Int) < (T.n : Int) := by omega
        obtain ⟨eb, eo, E, ec, rfl, heb, x0, _, _, _, _⟩ := (HR.out.on hW).sec hlt
        have hel := HP.out.shape.elb hlt
        have hel1 := HP.out.el1 hlt
        obtain ⟨el, hele⟩ : ∃ n, n = T.el k := ⟨_, rfl⟩
        rw [← hele] at x0 hel hel1
        have HEL := hid hele
        clear hele
        go_wp2_with fail
        have kb : Below wr.heap.size wr (wr.alloc (Obj.cells #[Value.slice A1 (dl 1) c1] 43)) := (Below.refl _ _).alloc (Nat.le_refl _) _
        have hc : (wr.alloc (Obj.cells #[Value.slice A1 (dl 1) c1] 43)).cell? ⟨wr.heap.size, 0, none⟩ = some (.slice A1 (dl 1) c1) := by simp
        replace hon := hon.on kb
        replace g3 := g3.on kb
        replace hB := tbox_on hB kb
        obtain ⟨w4, hw4⟩ : ∃ W, W = wr.alloc (Obj.cells #[Value.slice A1 (dl 1) c1] 43) := ⟨_, rfl⟩
        obtain ⟨nb, hnb⟩ : ∃ b, b = wr.heap.size := ⟨_, rfl⟩
        rw [← hw4] at hon g3 hB hc kb ⊢
        rw [← hnb] at hc ⊢
        clear p0 p1 hW hnb hw4 x0 heb
        refine (repeat_any nb (.slice A1 (dl 1) c1) el 1 w4 hc rfl hel1 (by omega)).mono ?_
        rintro e w5 ⟨r, rfl, hrz, hrr, kb2⟩
        have hgw4 : gv < w4.heap.size := by obtain ⟨R, h1, _⟩ := hon; exact h1.lt
        replace hon := hon.on kb2
        replace g3 := g3.on kb2
        replace hB := tbox_on hB kb2
        have hni := hon.noInt
        have hrne : r ≠ gv := by omega
        have hrr2 : w5.rowIs r 43 (T.el k) (fun _ => .slice A1 (dl 1) c1) := by rw [← HEL.out]; exact hrr
        have hput := hid (hon.put hrr2 hrne)
        rw [← HEL.out] at hput
        have hg5 := hid (natOk_setCell (i := k) g3 hni (.slice (some ⟨r, 0, none⟩) el el))
        have hB5 := hid (hB.setCell (p := ⟨gv, k, none⟩) (by show w.heap.size + 1 ≤ gv; omega) (.slice (some ⟨r, 0, none⟩) el el))
        have q0 : ∃ v, w5.cell? ⟨gv, k, none⟩ = some v := by obtain ⟨R, h1, _⟩ := hon; exact ⟨_, h1.cell hlt⟩
        have z0 : w5.frozen? ⟨gv, k, none⟩ = false := by obtain ⟨R, h1, _⟩ := hon; exact h1.frozen k
        obtain ⟨v0, q0⟩ := q0
        clear hc kb kb2 hon g3 hB hni hrr hrr2
        go_wp2
        go_roundg (gk - 1)
        case measure => omega
        case rel => exact ⟨k + 1, by go_num, by omega, by omega, hput.out, hg5.out, hB5.out⟩
      · have hlt' : ¬ (k : Int) < (T.n : Int) := by omega
        have hken : k = T.n := by omega
        rw [hken] at hon
        have hvt := hon.tab g3 g1 g2
        have hlr := tbox_lt hB
        clear hken hon g3
        go_wp2_with fail
        refine (forwardN_any T A B (some ⟨gv, 0, none⟩) c d T.n (fun _ _ => 1) wr (HR.out.on hW) HSE.out hvt (fun _ _ _ _ => Nat.le_refl _)).mono ?_
        rintro e w6 ⟨g, F, rfl, hg, hT, kb⟩
        have hB6 := tbox_on hB kb
        clear hvt p0 p1 hW kb hB
        obtain ⟨⟨p0, p1⟩, hW⟩ := HS.out _ hB6
        have hnw := HP.out.shape.nw
        have hnl : T.n < T.nw := by omega
        have hnl' : (T.n : Int) < (T.nw : Int) := by omega
        have hwn := HP.out.wn
        obtain ⟨b0, o0, d0, A0, c0, hF0, hb0, hbl0, q0, q1, q2, q3, _, _⟩ := hT.at (v := T.n) hnl (k := 0) (by show 0 < (T.W T.n).toNat; omega)
        have r0 := hT.row.cell hnl
        rw [hF0] at r0
        have h1n : (T.W T.n).toNat = 1 := by omega
        change w6.cell? ⟨g, T.n, none⟩ = some (.slice (some ⟨b0, o0, none⟩) (T.W T.n).toNat d0) at r0
        rw [h1n] at r0
        rw [Nat.add_zero, ← HX.out] at q0
        rw [← HX.out] at q1 q3
        have hXN := HX.out
        have HFIN : Hid (∀ e, e = .returned (.tuple #[.slice A0 (dl x) c0, .int .i64 0]) → PathsPost T w e w6) := fun e he => .inr ⟨HP0.out, A0, c0, by rw [← HX.out]; exact he, by rw [← HX.out]; exact q1, q2, by rw [← HX.out]; exact q3, hW⟩
        clear hnw hXN hwn h1n hT hF0 q3
        go_wp2
        go_ret2
        exact HFIN.out _ rfl
  · have hne : (T.properE != 0) = true := by simpa using hp
    have HP := hid hp
    obtain ⟨x, hx⟩ : ∃ x, x = T.properE := ⟨_, rfl⟩
    have HX := hid hx
    rw [← hx] at hne ⊢
    clear hp hx
    go_wp2
    go_ret2
    exact .inl ⟨HP.out, by rw [← HX.out]; rfl, hW⟩
end Go.Proofs.Ytnocbkhnmdmfhaa
