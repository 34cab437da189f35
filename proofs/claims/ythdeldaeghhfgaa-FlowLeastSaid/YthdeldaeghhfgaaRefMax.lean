/- codewrightref51.Max: shortest augmenting paths until there is none. -/
import Derived.Test.YthdeldaeghhfgaaPath
import Derived.Test.YthdeldaeghhfgaaFew
import Derived.StillTailTactics
namespace Go.Proofs.Ythdeldaeghhfgaa
open Go.RowKit

section
variable {W : World} {o1 o2 o3 : Obj} {k : Nat}
theorem h3_0 (hk : k = W.heap.size) : (((W.alloc o1).alloc o2).alloc o3).heap[k]? = some o1 := by
  subst hk; rw [Below.heap_alloc _ _ _ (by simp <;> omega), Below.heap_alloc _ _ _ (by simp), heap_alloc_new]
theorem h3_1 (hk : k = W.heap.size + 1) : (((W.alloc o1).alloc o2).alloc o3).heap[k]? = some o2 := by
  subst hk
  rw [Below.heap_alloc _ _ _ (by simp)]
  exact heap_new_at (by simp)
theorem h3_2 (hk : k = W.heap.size + 1 + 1) : (((W.alloc o1).alloc o2).alloc o3).heap[k]? = some o3 := by
  subst hk
  exact heap_new_at (by simp)
theorem below3 (W : World) (o1 o2 o3 : Obj) : Below W.heap.size W (((W.alloc o1).alloc o2).alloc o3) := (((Below.refl _ _).alloc (Nat.le_refl _) _).alloc (by simp) _).alloc (by simp <;> omega) _
theorem row_made {w : World} {b : Nat} {z : Value} {n : Nat} {t : TypeId} (h : w.heap[b]? = some (.cells (madeCells #[z] n) t)) : w.rowIs b t n (fun _ => z) := by
  obtain ⟨cs, h1, h2, h3⟩ := World.rowIs_made w z n t
  rw [heap_alloc_new] at h1
  injection h1 with h1
  injection h1 with h1
  subst h1
  exact ⟨_, h, h2, h3⟩
theorem row_flow {w : World} {b : Nat} {val : Int} {x y : Value} {t : TypeId} (h : w.heap[b]? = some (.cells #[.int .i64 val, x, y] t)) : w.rowIs b t 3 (flowCell val x y) :=
  ⟨_, h, rfl, fun i hi => by
    match i, hi with
    | 0, _ => rfl
    | 1, _ => rfl
    | 2, _ => rfl⟩
end

/-- The memory of Max: the flow in its box b, its parts in rows gA and gS. -/
structure MMem (B : Nat) (S : World) (N : Net) (b gA gS : Nat) (val : Int) (f : Nat → Int) (sd : Nat → Bool) (wx : World) : Prop where
  below : Below B S wx
  box : wx.rowIs b 39 3 (flowCell val (.slice (some ⟨gA, 0, none⟩) N.n N.n) (.slice (some ⟨gS, 0, none⟩) N.V.toNat N.V.toNat))
  along : wx.rowIs gA 3 N.n (fun i => .int .i64 (f i))
  side : wx.rowIs gS 4 N.V.toNat (fun i => .bool (sd i))
section
variable {B : Nat} {S : World} {N : Net} {b gA gS : Nat} {val : Int} {f : Nat → Int} {sd : Nat → Bool} {wx w' : World}
theorem MMem.drewN (h : MMem B S N b gA gS val f sd wx) (k : Nat) : MMem B S N b gA gS val f sd (wx.drewN k) := ⟨below_drewN h.below k, h.box, h.along, h.side⟩
theorem MMem.on (h : MMem B S N b gA gS val f sd wx) (hB : B ≤ wx.heap.size) (hb : Below wx.heap.size wx w') : MMem B S N b gA gS val f sd w' := ⟨h.below.trans (hb.mono hB), rowIs_on h.box hb, rowIs_on h.along hb, rowIs_on h.side hb⟩
end

set_option maxRecDepth 100000 in
set_option maxHeartbeats 8000000 in
theorem refMax_any (N : Net) (A : Option Addr) (c : Nat) (s t : Int) (w : World) (h : N.Reads w w.heap.size A) (he : N.Ends s t) :
    Calls Try.prog 28 #[.agg #[.int .i64 N.V, .slice A N.n c], .int .i64 s, .int .i64 t] w (MaxPost N s t w) := by
  have HE := hid he
  obtain ⟨hg, s0, s1, t0, t1, hne⟩ := he
  have hn := hg.n2
  have v1 := hg.v1
  have v2 := hg.v2
  have hmk := fun W => run_makeI (P := Try.prog) 28 4 _ 1 Try.underlying28 Try.infoBool rfl N.V (by omega) (by omega) (by omega) W
  have hmk2 := fun W => run_makeI (P := Try.prog) 33 3 _ 8 Try.underlying33 Try.infoInt rfl (N.n : Int) (by omega) (by omega) (by omega) W
  go_enter Try.func28, Try.ntmps28
  have hB0 : Below (w.heap.size + 2) ((w.alloc (Obj.cells #[Value.int IntKind.i64 N.V, Value.slice A N.n c] 24)).alloc (Obj.cells #[.int .i64 0, .slice none 0 0, .slice none 0 0] 39)) ((w.alloc (Obj.cells #[Value.int IntKind.i64 N.V, Value.slice A N.n c] 24)).alloc (Obj.cells #[.int .i64 0, .slice none 0 0, .slice none 0 0] 39)) := Below.refl _ _
  have k0 : ((w.alloc (Obj.cells #[Value.int IntKind.i64 N.V, Value.slice A N.n c] 24)).alloc (Obj.cells #[.int .i64 0, .slice none 0 0, .slice none 0 0] 39)).cell? ⟨w.heap.size, 0, none⟩ = some (.int .i64 N.V) := box_cell (box2_one hB0) 0 rfl
  have k1 : ((w.alloc (Obj.cells #[Value.int IntKind.i64 N.V, Value.slice A N.n c] 24)).alloc (Obj.cells #[.int .i64 0, .slice none 0 0, .slice none 0 0] 39)).cell? ⟨w.heap.size, 1, none⟩ = some (.slice A N.n c) := box_cell (box2_one hB0) 1 rfl
  go_upto_region 1 with fail
  go_cut [7] (fun v7 wx => ∃ b gA gS, v7 = .pointer (some ⟨b, 0, none⟩) ∧ MMem (w.heap.size + 2) ((w.alloc (Obj.cells #[Value.int IntKind.i64 N.V, Value.slice A N.n c] 24)).alloc (Obj.cells #[.int .i64 0, .slice none 0 0, .slice none 0 0] 39)) N b gA gS 0 (fun _ => 0) (fun _ => false) wx ∧ (w.heap.size + 2 ≤ b ∧ w.heap.size + 2 ≤ gA ∧ w.heap.size + 2 ≤ gS) ∧ b ≠ gA ∧ b ≠ gS ∧ gA ≠ gS)
  case first =>
    go_region_held3 (fun w' => w'.cell? ⟨w.heap.size, 0, none⟩ = some (.int .i64 N.V) ∧ w'.cell? ⟨w.heap.size, 1, none⟩ = some (.slice A N.n c))
      (first | exact ⟨k0, k1⟩ | exact ⟨cellAl k0, cellAl k1⟩ | exact ⟨cellAl (cellAl k0), cellAl (cellAl k1)⟩ | exact ⟨cellAl (cellAl (cellAl k0)), cellAl (cellAl (cellAl k1))⟩) (fail)
    all_goals
      go_wp2_with fail
      go_meet
      refine ⟨_, _, _, rfl, ⟨?_, row_flow (by first | exact h3_0 (W := ((w.alloc (Obj.cells #[Value.int IntKind.i64 N.V, Value.slice A N.n c] 24)).alloc (Obj.cells #[.int .i64 0, .slice none 0 0, .slice none 0 0] 39))) (by simp) | exact h3_1 (W := ((w.alloc (Obj.cells #[Value.int IntKind.i64 N.V, Value.slice A N.n c] 24)).alloc (Obj.cells #[.int .i64 0, .slice none 0 0, .slice none 0 0] 39))) (by simp) | exact h3_2 (W := ((w.alloc (Obj.cells #[Value.int IntKind.i64 N.V, Value.slice A N.n c] 24)).alloc (Obj.cells #[.int .i64 0, .slice none 0 0, .slice none 0 0] 39))) (by simp)), row_made (by first | exact h3_0 (W := ((w.alloc (Obj.cells #[Value.int IntKind.i64 N.V, Value.slice A N.n c] 24)).alloc (Obj.cells #[.int .i64 0, .slice none 0 0, .slice none 0 0] 39))) (by simp) | exact h3_1 (W := ((w.alloc (Obj.cells #[Value.int IntKind.i64 N.V, Value.slice A N.n c] 24)).alloc (Obj.cells #[.int .i64 0, .slice none 0 0, .slice none 0 0] 39))) (by simp) | exact h3_2 (W := ((w.alloc (Obj.cells #[Value.int IntKind.i64 N.V, Value.slice A N.n c] 24)).alloc (Obj.cells #[.int .i64 0, .slice none 0 0, .slice none 0 0] 39))) (by simp)), row_made (by first | exact h3_0 (W := ((w.alloc (Obj.cells #[Value.int IntKind.i64 N.V, Value.slice A N.n c] 24)).alloc (Obj.cells #[.int .i64 0, .slice none 0 0, .slice none 0 0] 39))) (by simp) | exact h3_1 (W := ((w.alloc (Obj.cells #[Value.int IntKind.i64 N.V, Value.slice A N.n c] 24)).alloc (Obj.cells #[.int .i64 0, .slice none 0 0, .slice none 0 0] 39))) (by simp) | exact h3_2 (W := ((w.alloc (Obj.cells #[Value.int IntKind.i64 N.V, Value.slice A N.n c] 24)).alloc (Obj.cells #[.int .i64 0, .slice none 0 0, .slice none 0 0] 39))) (by simp))⟩, ⟨by omega, by omega, by omega⟩, by omega, by omega, by omega⟩
      exact ((below3 ((w.alloc (Obj.cells #[Value.int IntKind.i64 N.V, Value.slice A N.n c] 24)).alloc (Obj.cells #[.int .i64 0, .slice none 0 0, .slice none 0 0] 39)) _ _ _).mono (by simp)).drew
  case rest =>
    obtain ⟨b, gA, gS, rfl, hM, ⟨gb, gga, ggs⟩, ne1, ne2, ne3⟩ := hcut
    clear hmk hmk2 hB0 k0 k1
    have hBw := box_below (box2_one hM.below)
    have q0 := box_cell (box2_one hM.below) 0 rfl
    have q1 := box_cell (box2_one hM.below) 1 rfl
    have y1 : wc.cell? ⟨b, 1, none⟩ = some (.slice (some ⟨gA, 0, none⟩) N.n N.n) := hM.box.cell (i := 1) (by omega)
    have hF0 := flowing_zero (s := s) (t := t) hg
    have hI0 : Ints wc wc.heap.size (some ⟨gA, 0, none⟩) N.n (fun _ => 0) := Rd_of_row (f := fun i => .int .i64 ((fun _ : Nat => (0 : Int)) i)) hM.along
    have hlA := hM.along.lt
    have hlS := hM.side.lt
    go_wp2_with fail
    with_reducible refine (reach_any N A (some ⟨gA, 0, none⟩) c N.n s (fun _ => 0) wc (h.on hBw) hI0 hg (hid hF0.cap) s0 s1).mono ?_
    rintro e w2 ⟨seen0, arc0, back0, rk0, cnt0, bs0, hR0, rfl, hb2, hrs0, hbs0⟩
    have hM2 := hM.on (by omega) hb2
    clear q0 q1 y1 hBw hM hb2 hI0
    go_wp2
    go_loopg [8] 1125899906842624 (fun n sv wx => ∃ val f seen arc back rk cnt bs, sv = .slice (some ⟨bs, 0, none⟩) N.V.toNat N.V.toNat ∧ Flowing N s t val f ∧ Reached N f s.toNat seen arc back rk cnt ∧ 1125899906842624 - val ≤ n ∧ 0 ≤ val ∧ MMem (w.heap.size + 2) ((w.alloc (Obj.cells #[Value.int IntKind.i64 N.V, Value.slice A N.n c] 24)).alloc (Obj.cells #[.int .i64 0, .slice none 0 0, .slice none 0 0] 39)) N b gA gS val f (fun _ => false) wx ∧
        wx.rowIs bs 3 N.V.toNat (fun v => .int .i64 (stepOf s.toNat seen arc back v)) ∧ gS < bs)
    case atStart => exact ⟨0, _, seen0, arc0, back0, rk0, cnt0, bs0, rfl, hF0, hR0, by omega, Int.le_refl _, hM2, hrs0, by omega⟩
    case round =>
      clear hR0 hM2 hrs0 hF0
      obtain ⟨val, f, seen, arc, back, rk, cnt, bs, rfl, hF, hR, hgk, hv0, hM, hrs, hbs⟩ := hrel
      have hvb := flowing_bd HE.out hF
      have hlt2 := box2_lt hM.below
      have hlA2 := hM.along.lt
      have hlS2 := hM.side.lt
      have hls := hrs.lt
      have hBw := box_below (box2_one hM.below)
      have q0 := box_cell (box2_one hM.below) 0 rfl
      have q1 := box_cell (box2_one hM.below) 1 rfl
      have t3 : t < (N.V.toNat : Int) := by omega
      have t4 : t < max N.V 0 := by omega
      have c_t := hrs.cell (i := t.toNat) (by omega)
      cases hst : seen t.toNat
      · rw [stepOf_un hR.found.start hst] at c_t
        have HST := hid hst
        clear hst
        go_wp2
        go_loopg [15] N.V.toNat (fun n iv wx => ∃ k : Nat, k ≤ N.V.toNat ∧ N.V.toNat ≤ k + n ∧ iv = .int .i64 (k : Nat) ∧ MMem (w.heap.size + 2) ((w.alloc (Obj.cells #[Value.int IntKind.i64 N.V, Value.slice A N.n c] 24)).alloc (Obj.cells #[.int .i64 0, .slice none 0 0, .slice none 0 0] 39)) N b gA gS val f (fun i => if i < k then seen i else false) wx ∧ wx.rowIs bs 3 N.V.toNat (fun v => .int .i64 (stepOf s.toNat seen arc back v)))
        case atStart => exact ⟨0, by omega, by omega, rfl, ⟨hM.below, hM.box, hM.along, hM.side.congr fun i _ => by simp⟩, hrs⟩
        case round =>
          clear q0 q1 hM hrs c_t
          obtain ⟨k, hk, hkn, rfl, hM, hrs⟩ := hrel
          have hlt2 := box2_lt hM.below
          have hlS3 := hM.side.lt
          have hBw := box_below (box2_one hM.below)
          have q0 := box_cell (box2_one hM.below) 0 rfl
          by_cases hkV : (k : Int) < N.V
          · have hkV2 : k < N.V.toNat := by omega
            have hk3 : (k : Int) < (N.V.toNat : Int) := by omega
            have hk4 : (k : Int) < max N.V 0 := by omega
            have hk5 : (0 : Int) ≤ (k : Int) := by omega
            have y2 : wr.cell? ⟨b, 2, none⟩ = some (.slice (some ⟨gS, 0, none⟩) N.V.toNat N.V.toNat) := hM.box.cell (i := 2) (by omega)
            have y4 := hM.side.cell (i := k) hkV2
            have z4 := hM.side.frozen k
            have hck := hrs.cell (i := k) hkV2
            have HN : Hid (∀ X : World, MMem (w.heap.size + 2) ((w.alloc (Obj.cells #[Value.int IntKind.i64 N.V, Value.slice A N.n c] 24)).alloc (Obj.cells #[.int .i64 0, .slice none 0 0, .slice none 0 0] 39)) N b gA gS val f (fun i => if i < k then seen i else false) X → X.rowIs bs 3 N.V.toNat (fun v => .int .i64 (stepOf s.toNat seen arc back v)) → MMem (w.heap.size + 2) ((w.alloc (Obj.cells #[Value.int IntKind.i64 N.V, Value.slice A N.n c] 24)).alloc (Obj.cells #[.int .i64 0, .slice none 0 0, .slice none 0 0] 39)) N b gA gS val f (fun i => if i < k + 1 then seen i else false) (X.setCell ⟨gS, k, none⟩ (.bool (seen k))) ∧ (X.setCell ⟨gS, k, none⟩ (.bool (seen k))).rowIs bs 3 N.V.toNat (fun v => .int .i64 (stepOf s.toNat seen arc back v))) := fun X hX hXs => by
              refine ⟨⟨hX.below.setCell (by show _ ≤ gS; omega) _, hX.box.setOther (by simpa using ne2) _, hX.along.setOther (by simpa using ne3) _, ?_⟩, hXs.setOther (by simp; omega) _⟩
              refine (hX.side.set k _).congr fun i _ => ?_
              by_cases e : i = k
              · subst e; simp
              · by_cases e2 : i < k
                · simp [e, e2, show i < k + 1 by omega]
                · simp [e, e2, show ¬ i < k + 1 by omega]
            cases hsk : seen k
            · rw [stepOf_un hR.found.start hsk] at hck
              rw [hsk] at HN
              clear hsk
              go_wp2
              go_still_tail 9, (by kernel_rfl)
              change wpList _ _ _ _ _ wr.drew
              obtain ⟨HN1, HN2⟩ := HN.out _ hM hrs
              go_wp2
              go_roundg (gk - 1)
              case measure => omega
              case rel => exact ⟨k + 1, by omega, by omega, by go_num, HN1.drewN 1, rowIs_drewN HN2 1⟩
            · have hsv := stepOf_in (s := s.toNat) (arc := arc) (back := back) hsk
              obtain ⟨sv, hsv2⟩ : ∃ sv, sv = stepOf s.toNat seen arc back k := ⟨_, rfl⟩
              rw [← hsv2] at hck hsv
              have hsv3 : (sv != -2) = true := by simp; omega
              rw [hsk] at HN
              clear hsk hsv2
              go_wp2
              go_still_tail 9, (by kernel_rfl)
              change wpList _ _ _ _ _ wr.drew
              obtain ⟨HN1, HN2⟩ := HN.out _ hM hrs
              go_wp2
              go_roundg (gk - 1)
              case measure => omega
              case rel => exact ⟨k + 1, by omega, by omega, by go_num, HN1.drewN 1, rowIs_drewN HN2 1⟩
          · obtain rfl : k = N.V.toNat := by omega
            have hres := box2_two hM.below
            have r0 := hres.frozen 0
            have r1 := hres.frozen 1
            have r2 := hres.frozen 2
            have s0' : wr.cell? ⟨w.heap.size + 1, 0, none⟩ = some _ := hres.cell (i := 0) (by simp)
            have s1' : wr.cell? ⟨w.heap.size + 1, 1, none⟩ = some _ := hres.cell (i := 1) (by simp)
            have s2' : wr.cell? ⟨w.heap.size + 1, 2, none⟩ = some _ := hres.cell (i := 2) (by simp)
            have y0 : wr.cell? ⟨b, 0, none⟩ = some (.int .i64 val) := hM.box.cell (i := 0) (by omega)
            have y1 : wr.cell? ⟨b, 1, none⟩ = some (.slice (some ⟨gA, 0, none⟩) N.n N.n) := hM.box.cell (i := 1) (by omega)
            have y2 : wr.cell? ⟨b, 2, none⟩ = some (.slice (some ⟨gS, 0, none⟩) N.V.toNat N.V.toNat) := hM.box.cell (i := 2) (by omega)
            go_wp2
            generalize hw3 : World.setCell _ _ _ = w3
            have hres3 : w3.rowIs (w.heap.size + 1) 39 3 (flowCell val (.slice (some ⟨gA, 0, none⟩) N.n N.n) (.slice (some ⟨gS, 0, none⟩) N.V.toNat N.V.toNat)) := by
              rw [← hw3]
              refine (((hres.set 0 _).set 1 _).set 2 _).congr fun j hj => ?_
              match j, hj with
              | 0, _ => rfl
              | 1, _ => rfl
              | 2, _ => rfl
            have e0 : w3.cell? ⟨w.heap.size + 1, 0, none⟩ = some (.int .i64 val) := hres3.cell (i := 0) (by omega)
            have e1 : w3.cell? ⟨w.heap.size + 1, 1, none⟩ = some (.slice (some ⟨gA, 0, none⟩) N.n N.n) := hres3.cell (i := 1) (by omega)
            have e2 : w3.cell? ⟨w.heap.size + 1, 2, none⟩ = some (.slice (some ⟨gS, 0, none⟩) N.V.toNat N.V.toNat) := hres3.cell (i := 2) (by omega)
            have hBw3 : Below w.heap.size w w3 := by
              rw [← hw3]
              exact ((hBw.setCell (by simp) _).setCell (by simp) _).setCell (by simp) _
            have hsn : w3.rowIs gS 4 N.V.toNat (fun v => .bool (seen v)) := by
              rw [← hw3]
              exact (((hM.side.setOther (by simp; omega) _).setOther (by simp; omega) _).setOther (by simp; omega) _).congr fun i hi => by simp [hi]
            have hal : w3.rowIs gA 3 N.n (fun i => .int .i64 (f i)) := by
              rw [← hw3]
              exact ((hM.along.setOther (by simp; omega) _).setOther (by simp; omega) _).setOther (by simp; omega) _
            clear hw3
            refine bodyPost_ret (v := .agg #[.int .i64 val, .slice (some ⟨gA, 0, none⟩) N.n N.n, .slice (some ⟨gS, 0, none⟩) N.V.toNat N.V.toNat]) (by simp [results, Try.results28, go_sem, e0, e1, e2]) rfl ⟨val, f, seen, arc, back, rk, cnt, _, _, hF, hR, HST.out, rfl, hBw3, Rd_of_row hal, Rd_of_row hsn, fun a e => by injection e with e; subst e; show _ ≤ gA; omega, fun a e => by injection e with e; subst e; show _ ≤ gS; omega⟩
      · have hsv := stepOf_in (s := s.toNat) (arc := arc) (back := back) hst
        obtain ⟨sv, hsv2⟩ : ∃ sv, sv = stepOf s.toNat seen arc back t.toNat := ⟨_, rfl⟩
        rw [← hsv2] at c_t hsv
        have hsv3 : (sv != -2) = true := by simp; omega
        have hSI : Ints wr wr.heap.size (some ⟨bs, 0, none⟩) N.V.toNat (stepOf s.toNat seen arc back) := Rd_of_row (f := fun v => .int .i64 (stepOf s.toNat seen arc back v)) hrs
        have HST := hid hst
        clear hst hsv2
        go_wp2_with fail
        with_reducible refine (path_any N A (some ⟨bs, 0, none⟩) c N.V.toNat t s.toNat f seen arc back rk cnt wr (h.on hBw) hg hR hSI t0 HST.out).mono ?_
        rintro e w2 ⟨len, pa, pb, AP, cP, hP, hlen, rfl, hb2, hPI, hPf⟩
        have hM2 := hM.on (by omega) hb2
        have hlen0 : 0 < len := by
          rcases Nat.eq_zero_or_pos len with h0 | h0
          · have := hP.last.1 h0; omega
          · exact h0
        have hPf2 : Hid (∀ a, AP = some a → gA < a.block ∧ gS < a.block ∧ b < a.block) := fun a e => by
          have := hPf a e
          have := hM.box.lt
          omega
        have HP := hid hP
        have HF := hid hF
        clear hSI c_t hsv3 hsv q0 q1 hM hb2 hPf hP hF hrs hBw
        obtain ⟨gP, rfl⟩ : ∃ gP : Nat, gP = gk := ⟨_, rfl⟩
        go_wp2
        go_loopg [10, 11] len (fun n mv iv wx => ∃ k : Nat, ∃ m : Int, iv = .int .i64 (k : Nat) ∧ k ≤ len ∧ len ≤ k + n ∧ mv = .int .i64 m ∧ 0 < m ∧ m ≤ 1099511627776 ∧ Hid (∀ j, j < k → m ≤ N.room f (pa j) (pb j)) ∧ MMem (w.heap.size + 2) ((w.alloc (Obj.cells #[Value.int IntKind.i64 N.V, Value.slice A N.n c] 24)).alloc (Obj.cells #[.int .i64 0, .slice none 0 0, .slice none 0 0] 39)) N b gA gS val f (fun _ => false) wx ∧ Ints wx wx.heap.size AP len (fun j => codeOf (pa j, pb j)))
        case atStart => exact ⟨0, 1099511627776, rfl, by omega, by omega, rfl, by omega, by omega, hid fun j hj => absurd hj (by omega), hM2, hPI⟩
        case round =>
          clear hM2 hPI
          obtain ⟨k, m, rfl, hk, hkn, rfl, hm1, hm2, hMR, hM, hPI⟩ := hrel
          have hBw := box_below (box2_one hM.below)
          have q1 := box_cell (box2_one hM.below) 1 rfl
          by_cases hlt : k < len
          · obtain ⟨bx, ox, rfl, hbx, x0⟩ := hPI.at hlt
            have hak := HP.out.arc k hlt
            have hrm := HP.out.room k hlt
            obtain ⟨ba, oa, rfl, hba, a0, a1, a2⟩ := (h.on hBw).at hak
            have y1 : wr.cell? ⟨b, 1, none⟩ = some (.slice (some ⟨gA, 0, none⟩) N.n N.n) := hM.box.cell (i := 1) (by omega)
            have y3 := hM.along.cell hak
            obtain ⟨f0, f1⟩ := HF.out.cap _ hak
            obtain ⟨g0, g1, g2, g3, g4, g5⟩ := hg.arc _ hak
            have hC2 := codeOf_half (pa k) (pb k)
            have hCm := codeOf_mod (pa k) (pb k)
            obtain ⟨hC0, hC1⟩ := codeOf_bd (pa k) (pb k)
            obtain ⟨i, hi⟩ : ∃ i, i = pa k := ⟨_, rfl⟩
            obtain ⟨bb, hb⟩ : ∃ bb, bb = pb k := ⟨_, rfl⟩
            rw [← hi, ← hb] at x0 hC2 hCm hC0 hC1 hrm
            rw [← hi] at a0 a1 a2 y3 f0 f1 g0 g1 g2 g3 g4 g5 hak
            have hak' : (i : Int) < (N.n : Int) := by omega
            have HR : Hid (∀ m' : Int, m' ≤ m → m' ≤ N.room f i bb → ∀ j, j < k + 1 → m' ≤ N.room f (pa j) (pb j)) := fun m' h1 h2 j hj => by
              by_cases e : j = k
              · subst e; rw [← hi, ← hb]; exact h2
              · have := hMR.out j (by omega); omega
            clear hi hb
            obtain ⟨C, hC⟩ : ∃ C, C = codeOf (i, bb) := ⟨_, rfl⟩
            rw [← hC] at x0 hC2 hCm hC0 hC1
            have HM := hid hM
            clear hC
            cases bb
            · simp only [Bool.false_eq_true, if_false] at hCm
              have hrm' : 0 < N.cp i - f i := hrm
              by_cases hmin : m ≤ N.cp i - f i
              · have HR2 := hid (HR.out m (Int.le_refl _) hmin)
                go_wp2
                go_quiet (fail)
                go_wp2
                go_roundg (gk - 1)
                case measure => omega
                case rel => exact ⟨k + 1, m, by go_num, by omega, by omega, rfl, by omega, by omega, HR2.out, HM.out.drewN _, Rd.drewN hPI _⟩
              · have HR2 := hid (HR.out (N.cp i - f i) (by omega) (Int.le_refl _))
                go_wp2
                go_quiet (fail)
                go_wp2
                go_roundg (gk - 1)
                case measure => omega
                case rel => exact ⟨k + 1, (N.cp i - f i), by go_num, by omega, by omega, rfl, by omega, by omega, HR2.out, HM.out.drewN _, Rd.drewN hPI _⟩
            · simp only [if_true] at hCm
              have hrm' : 0 < f i := hrm
              by_cases hmin : m ≤ f i
              · have HR2 := hid (HR.out m (Int.le_refl _) hmin)
                go_wp2
                go_quiet (fail)
                go_wp2
                go_roundg (gk - 1)
                case measure => omega
                case rel => exact ⟨k + 1, m, by go_num, by omega, by omega, rfl, by omega, by omega, HR2.out, HM.out.drewN _, Rd.drewN hPI _⟩
              · have HR2 := hid (HR.out (f i) (by omega) (Int.le_refl _))
                go_wp2
                go_quiet (fail)
                go_wp2
                go_roundg (gk - 1)
                case measure => omega
                case rel => exact ⟨k + 1, (f i), by go_num, by omega, by omega, rfl, by omega, by omega, HR2.out, HM.out.drewN _, Rd.drewN hPI _⟩
          · obtain rfl : k = len := by omega
            obtain ⟨W3, rfl⟩ : ∃ W3 : World, W3 = wr := ⟨_, rfl⟩
            have HM0 := hid hM
            have HPI0 := hid hPI
            clear hM hPI hBw q1 hkn
            go_wp2
            go_loopg [14] k (fun n iv wx => ∃ j : Nat, j ≤ k ∧ k ≤ j + n ∧ iv = .int .i64 (j : Nat) ∧ MMem (w.heap.size + 2) ((w.alloc (Obj.cells #[Value.int IntKind.i64 N.V, Value.slice A N.n c] 24)).alloc (Obj.cells #[.int .i64 0, .slice none 0 0, .slice none 0 0] 39)) N b gA gS val (pushed m pa pb f j) (fun _ => false) wx ∧ Ints wx wx.heap.size AP k (fun j => codeOf (pa j, pb j)))
            case atStart => exact ⟨0, by omega, by omega, rfl, HM0.out, HPI0.out⟩
            case round =>
              obtain ⟨j, hj, hjn, rfl, hM, hPI⟩ := hrel
              have hBw := box_below (box2_one hM.below)
              have q1 := box_cell (box2_one hM.below) 1 rfl
              have y1 : wr.cell? ⟨b, 1, none⟩ = some (.slice (some ⟨gA, 0, none⟩) N.n N.n) := hM.box.cell (i := 1) (by omega)
              by_cases hlt : j < k
              · obtain ⟨bx, ox, rfl, hbx, x0⟩ := hPI.at hlt
                have hak := HP.out.arc j hlt
                have hrm := hMR.out j hlt
                have y3 := hM.along.cell hak
                rw [pushed_at HP.out m f hlt] at y3
                have z3 := hM.along.frozen (pa j)
                obtain ⟨f0, f1⟩ := HF.out.cap _ hak
                obtain ⟨g0, g1, g2, g3, g4, g5⟩ := hg.arc _ hak
                have HN : Hid (∀ X : World, MMem (w.heap.size + 2) ((w.alloc (Obj.cells #[Value.int IntKind.i64 N.V, Value.slice A N.n c] 24)).alloc (Obj.cells #[.int .i64 0, .slice none 0 0, .slice none 0 0] 39)) N b gA gS val (pushed m pa pb f j) (fun _ => false) X → Ints X X.heap.size (some ⟨bx, ox, none⟩) k (fun j => codeOf (pa j, pb j)) → ∀ u : Int, u = f (pa j) + (if pb j then -m else m) →
                    MMem (w.heap.size + 2) ((w.alloc (Obj.cells #[Value.int IntKind.i64 N.V, Value.slice A N.n c] 24)).alloc (Obj.cells #[.int .i64 0, .slice none 0 0, .slice none 0 0] 39)) N b gA gS val (pushed m pa pb f (j + 1)) (fun _ => false) (X.setCell ⟨gA, pa j, none⟩ (.int .i64 u)) ∧ Ints (X.setCell ⟨gA, pa j, none⟩ (.int .i64 u)) (X.setCell ⟨gA, pa j, none⟩ (.int .i64 u)).heap.size (some ⟨bx, ox, none⟩) k (fun j => codeOf (pa j, pb j))) := fun X hX hXI u hu => by
                  refine ⟨⟨hX.below.setCell (by show _ ≤ gA; omega) _, hX.box.setOther (by simpa using ne1) _, ?_, hX.side.setOther (by simpa using Ne.symm ne3) _⟩, Ints.setFar hXI (fun a e => by have := (hPf2.out a e).1; show _ ≠ gA; omega) _⟩
                  refine (hX.along.set (pa j) _).congr fun i hi => ?_
                  simp only [pushed, bump]
                  by_cases e : i = pa j
                  · rw [if_pos e, if_pos e, e, pushed_at HP.out m f hlt, hu]
                  · rw [if_neg e, if_neg e]
                have hC2 := codeOf_half (pa j) (pb j)
                have hCm := codeOf_mod (pa j) (pb j)
                obtain ⟨hC0, hC1⟩ := codeOf_bd (pa j) (pb j)
                obtain ⟨i, hi⟩ : ∃ i, i = pa j := ⟨_, rfl⟩
                obtain ⟨bb, hb⟩ : ∃ bb, bb = pb j := ⟨_, rfl⟩
                rw [← hi, ← hb] at x0 hC2 hCm hC0 hC1 hrm HN
                rw [← hi] at y3 z3 f0 f1 g0 g1 g2 g3 g4 g5 hak
                clear hi hb
                have hak' : (i : Int) < (N.n : Int) := by omega
                obtain ⟨C, hC⟩ : ∃ C, C = codeOf (i, bb) := ⟨_, rfl⟩
                rw [← hC] at x0 hC2 hCm hC0 hC1
                clear hC
                have hct : C.tdiv 2 = (i : Int) := by rw [Int.tdiv_eq_ediv_of_nonneg hC0]; exact hC2
                have hwi : IntKind.i64.wrap (i : Int) = (i : Int) := IntWalk.i64_in _ (by omega)
                have hx2 : (0 : Int) ≤ (i : Int) := by omega
                have hx3 : (0 : Int) ≤ (j : Int) := by omega
                have hx4 : (j : Int) < (k : Int) := by omega
                cases bb
                · simp only [Bool.false_eq_true, if_false] at hCm
                  have hrm' : m ≤ N.cp i - f i := hrm
                  have HN2 := fun X hX hI => HN.out X hX hI (f i + m) (by show _ = _; rfl)
                  replace HN2 := hid HN2
                  have hw1 : IntKind.i64.wrap (f i + m) = f i + m := IntWalk.i64_in _ (by omega)
                  go_wp2
                  go_still_tail 12, (by kernel_rfl)
                  change wpList _ _ _ _ _ wr.drew
                  obtain ⟨HN3, HN4⟩ := HN2.out _ hM hPI
                  go_wp2
                  go_roundg (gk - 1)
                  case measure => omega
                  case rel => exact ⟨j + 1, by omega, by omega, by go_num, HN3.drewN 1, Rd.drewN HN4 1⟩
                · simp only [if_true] at hCm
                  have hrm' : m ≤ f i := hrm
                  have HN2 := fun X hX hI => HN.out X hX hI (f i - m) (by show _ = _; rfl)
                  replace HN2 := hid HN2
                  have hw1 : IntKind.i64.wrap (f i - m) = f i - m := IntWalk.i64_in _ (by omega)
                  go_wp2
                  go_still_tail 12, (by kernel_rfl)
                  change wpList _ _ _ _ _ wr.drew
                  obtain ⟨HN3, HN4⟩ := HN2.out _ hM hPI
                  go_wp2
                  go_roundg (gk - 1)
                  case measure => omega
                  case rel => exact ⟨j + 1, by omega, by omega, by go_num, HN3.drewN 1, Rd.drewN HN4 1⟩
              · obtain rfl : j = k := by omega
                have hFn := augment HE.out HF.out HP.out (by omega) hMR.out
                have hvn := flowing_bd HE.out hFn
                have y0 : wr.cell? ⟨b, 0, none⟩ = some (.int .i64 val) := hM.box.cell (i := 0) (by omega)
                have z0 := hM.box.frozen 0
                have HN := hid (show MMem (w.heap.size + 2) ((w.alloc (Obj.cells #[Value.int IntKind.i64 N.V, Value.slice A N.n c] 24)).alloc (Obj.cells #[.int .i64 0, .slice none 0 0, .slice none 0 0] 39)) N b gA gS (val + m) (pushed m pa pb f j) (fun _ => false) (wr.setCell ⟨b, 0, none⟩ (.int .i64 (val + m))) from ⟨hM.below.setCell (by show _ ≤ b; omega) _, (hM.box.set 0 _).congr fun i hi => by
                    match i, hi with
                    | 0, _ => rfl
                    | 1, _ => rfl
                    | 2, _ => rfl, hM.along.setOther (by simpa using Ne.symm ne1) _, hM.side.setOther (by simpa using Ne.symm ne2) _⟩)
                have hneb : w.heap.size ≠ b := by omega
                go_upto_region 21 with fail
                generalize hw4 : World.setCell _ _ _ = W4
                have hM4 : MMem (w.heap.size + 2) ((w.alloc (Obj.cells #[Value.int IntKind.i64 N.V, Value.slice A N.n c] 24)).alloc (Obj.cells #[.int .i64 0, .slice none 0 0, .slice none 0 0] 39)) N b gA gS (val + m) (pushed m pa pb f j) (fun _ => false) W4 := by rw [← hw4]; exact HN.out
                clear hw4 HN y0 z0 y1 q1 hM
                have hBw4 := box_below (box2_one hM4.below)
                have q0 := box_cell (box2_one hM4.below) 0 rfl
                have q1 := box_cell (box2_one hM4.below) 1 rfl
                have y1 : W4.cell? ⟨b, 1, none⟩ = some (.slice (some ⟨gA, 0, none⟩) N.n N.n) := hM4.box.cell (i := 1) (by omega)
                have hI4 : Ints W4 W4.heap.size (some ⟨gA, 0, none⟩) N.n (pushed m pa pb f j) := Rd_of_row (f := fun i => .int .i64 (pushed m pa pb f j i)) hM4.along
                have hlA4 := hM4.along.lt
                have hlS4 := hM4.side.lt
                go_wp2_with fail
                with_reducible refine (reach_any N A (some ⟨gA, 0, none⟩) c N.n s (pushed m pa pb f j) W4 (h.on hBw4) hI4 hg (hid hFn.cap) s0 s1).mono ?_
                rintro e w5 ⟨seen5, arc5, back5, rk5, cnt5, bs5, hR5, rfl, hb5, hrs5, hbs5⟩
                have hM5 := hM4.on (by omega) hb5
                clear q0 q1 y1 hBw4 hM4 hb5 hI4
                go_wp2
                go_roundg (gP - 1)
                case measure => omega
                case rel => exact ⟨val + m, _, seen5, arc5, back5, rk5, cnt5, bs5, rfl, hFn, hR5, by omega, by omega, hM5, hrs5, by omega⟩
end Go.Proofs.Ythdeldaeghhfgaa
