/- flow.Least$1: does enough flow with the capacity c? -/
import Derived.Test.YthdeldaeghhfgaaClone
import Derived.Test.YthdeldaeghhfgaaGivenNone
import Derived.Deep.RegionHeld3
import Derived.Deep.DeepCutAuto
namespace Go.Proofs.Ythdeldaeghhfgaa
open Go.RowKit

/-- v is the greatest value of a flow. -/
def MaxVal (M : Net) (s t v : Int) : Prop := ∃ f seen arc back rk cnt, Flowing M s t v f ∧ Reached M f s.toNat seen arc back rk cnt ∧ seen t.toNat = false
theorem maxVal_uniq {M : Net} {s t v v' : Int} (he : M.Ends s t) (h : MaxVal M s t v) (h' : MaxVal M s t v') : v = v' := by
  obtain ⟨f, seen, arc, back, rk, cnt, h1, h2, h3⟩ := h
  obtain ⟨f', seen', arc', back', rk', cnt', h1', h2', h3'⟩ := h'
  exact (reached_same he h1 h1' h2 h2' h3 h3').1
/-- With the capacity x in the arcs of the list f at least need flows. -/
def Enough (N : Net) (f : Nat → Int) (m : Nat) (s t need x : Int) : Prop := ∃ v, MaxVal (N.given f x m) s t v ∧ need ≤ v
theorem enough_iff {N : Net} {f : Nat → Int} {m : Nat} {s t need x v : Int} (he : (N.given f x m).Ends s t) (h : MaxVal (N.given f x m) s t v) : Enough N f m s t need x ↔ need ≤ v :=
  ⟨fun ⟨v', h1, h2⟩ => by rw [maxVal_uniq he h h1]; exact h2, fun h2 => ⟨v, h, h2⟩⟩

theorem netRow (X : World) (T : TypeId) (b : Nat) (hb : X.heap.size = b) : (X.alloc (Obj.cells #[.int .i64 0, .slice none 0 0] T)).rowIs b T 2 (pairCell (.int .i64 0) (.slice none 0 0)) := by
  subst hb
  exact row_two (heap_alloc_new _ _)

set_option maxRecDepth 100000 in
set_option maxHeartbeats 8000000 in
theorem least1_any (N : Net) (A F : Option Addr) (c m d : Nat) (f : Nat → Int) (s t need x : Int) (bn bf bs bt bq : Nat) (w : World) (h : N.Reads w w.heap.size A) (hf : Ints w w.heap.size F m f) (hcap : N.n ≤ c) (he : N.Ends s t) (hr : ∀ i, i < m → 0 ≤ f i ∧ f i < N.n) (hm : m ≤ maxLen)
    (c0 : 0 ≤ x) (c1 : x ≤ 1099511627776) (x0 : w.cell? ⟨bn, 0, none⟩ = some (.int .i64 N.V)) (x1 : w.cell? ⟨bn, 1, none⟩ = some (.slice A N.n c)) (x2 : w.cell? ⟨bf, 0, none⟩ = some (.slice F m d)) (x3 : w.cell? ⟨bs, 0, none⟩ = some (.int .i64 s)) (x4 : w.cell? ⟨bt, 0, none⟩ = some (.int .i64 t)) (x5 : w.cell? ⟨bq, 0, none⟩ = some (.int .i64 need)) :
    Calls Try.prog 47 #[.int .i64 x, .pointer (some ⟨bn, 0, none⟩), .pointer (some ⟨bf, 0, none⟩), .pointer (some ⟨bs, 0, none⟩), .pointer (some ⟨bt, 0, none⟩), .pointer (some ⟨bq, 0, none⟩)] w fun e w' => Tells (Enough N f m s t need x) e ∧ Below w.heap.size w w' := by
  have hn := he.good.n2
  have HE := hid he
  have HR := hid hr
  have hm9 : m ≤ 9223372036854775807 := by unfold maxLen at hm; omega
  clear he hr
  go_enter Try.func47, Try.ntmps47
  go_upto_region 1 with fail
  go_cut [8] (fun v8 wx => ∃ p8 A8 c8, v8 = .pointer (some ⟨p8, 0, none⟩) ∧ Below w.heap.size w wx ∧ wx.rowIs p8 24 2 (pairCell (.int .i64 N.V) (.slice A8 N.n c8)) ∧ Own wx w.heap.size 36 3 (.slice A8 N.n c8) N.n (arcCell N) ∧ w.heap.size ≤ p8 ∧ (Value.slice A8 N.n c8).ownBlock ≠ some p8)
  case first =>
    have HS : Hid (∀ w', Below w.heap.size w w' → (w'.cell? ⟨bn, 0, none⟩ = some (.int .i64 N.V) ∧ w'.cell? ⟨bn, 1, none⟩ = some (.slice A N.n c)) ∧ Below w.heap.size w w') := fun w' hb => ⟨⟨cellS hb x0, cellS hb x1⟩, hb⟩
    refine wp_region_held_drew (S := fun w' => (w'.cell? ⟨bn, 0, none⟩ = some (.int .i64 N.V) ∧ w'.cell? ⟨bn, 1, none⟩ = some (.slice A N.n c)) ∧ Below w.heap.size w w') (by kernel_rfl) (HS.out _ (Below.refl _ _).drew) (fun hHeld => ?_)
    refine wpAnyH_take (i := 0) (v := ?_) (by simp only [List.getElem?_toArray, List.getElem?_cons_zero]; rfl) (by kernel_rfl) (by kernel_rfl) (by kernel_rfl) (by exact fun _ _ _ h => h) (Or.inl ⟨by rfl, ?_⟩) (by assumption) ?_
    rotate_left
    · (intro w hSw; (try dsimp only at hSw); go_simp); first | done | with_reducible rfl
    try simp only [Act.put, List.setIfInBounds_toArray, List.set_cons_zero, List.set_cons_succ]
    refine wpAnyH_take (i := 1) (v := ?_) (by simp only [List.getElem?_toArray, List.getElem?_cons_succ, List.getElem?_cons_zero]; rfl) (by kernel_rfl) (by kernel_rfl) (by kernel_rfl) (by exact fun _ _ _ h => h) (Or.inl ⟨by rfl, ?_⟩) (by assumption) ?_
    rotate_left
    · (intro w hSw; (try dsimp only at hSw); go_simp); first | done | with_reducible rfl
    try simp only [Act.put, List.setIfInBounds_toArray, List.set_cons_zero, List.set_cons_succ]
    refine wpAnyH_take (i := 2) (v := ?_) (by simp only [List.getElem?_toArray, List.getElem?_cons_succ, List.getElem?_cons_zero]; rfl) (by kernel_rfl) (by kernel_rfl) (by kernel_rfl) (by exact fun _ _ _ h => h) (Or.inl ⟨by rfl, ?_⟩) (by assumption) ?_
    rotate_left
    · (intro w hSw; (try dsimp only at hSw); go_simp); first | done | with_reducible rfl
    try simp only [Act.put, List.setIfInBounds_toArray, List.set_cons_zero, List.set_cons_succ]
    refine wpAnyH_take (i := 3) (v := ?_) (by simp only [List.getElem?_toArray, List.getElem?_cons_succ, List.getElem?_cons_zero]; rfl) (by kernel_rfl) (by kernel_rfl) (by kernel_rfl) (by exact fun _ _ _ h => h) (Or.inl ⟨by rfl, ?_⟩) (by assumption) ?_
    rotate_left
    · (intro w hSw; (try dsimp only at hSw); go_simp); first | done | with_reducible rfl
    try simp only [Act.put, List.setIfInBounds_toArray, List.set_cons_zero, List.set_cons_succ]
    refine wpAnyH_ready (rs := [4, 6]) (by kernel_rfl) (by simp) ?_
    refine AllReadyH.cons (by simp only [List.getElem?_toArray, List.getElem?_cons_succ, List.getElem?_cons_zero]; rfl) (fun K hK => ?_) ?_
    · go_simp
      go_wp2_with fail
      with_reducible refine (cloneArcs_any N A c _ (h.on hHeld.2) hcap hn).mono ?_
      rintro e w6 ⟨A8, c8, rfl, hO, hb⟩
      have h6 := onS hHeld.2 hb
      go_wp2_with fail
      refine hK.out _ _ (HS.out _ h6) (fun hHeld => ?_)
      clear hK K
      try simp only [Act.put, List.setIfInBounds_toArray, List.set_cons_zero, List.set_cons_succ]
      refine wpAnyH_take (i := 5) (v := ?_) (by simp only [List.getElem?_toArray, List.getElem?_cons_succ, List.getElem?_cons_zero]; rfl) (by kernel_rfl) (by kernel_rfl) (by kernel_rfl) (by exact fun _ _ _ h => h) (Or.inl ⟨by rfl, ?_⟩) (by assumption) ?_
      rotate_left
      · (intro w hSw; (try dsimp only at hSw); go_simp); first | done | with_reducible rfl
      try simp only [Act.put, List.setIfInBounds_toArray, List.set_cons_zero, List.set_cons_succ]
      refine wpAnyH_ready (rs := [6]) (by kernel_rfl) (by simp) ?_
      refine AllReadyH.cons (by simp only [List.getElem?_toArray, List.getElem?_cons_succ, List.getElem?_cons_zero]; rfl) (fun K hK => ?_) AllReadyH.nil
      go_simp
      refine hK.out _ _ (HS.out _ (hHeld.2.alloc hHeld.2.size _)) (fun hHeld => ?_)
      clear hK K
      try simp only [Act.put, List.setIfInBounds_toArray, List.set_cons_zero, List.set_cons_succ]
      refine wpAnyH_ready (rs := [7]) (by kernel_rfl) (by simp) ?_
      refine AllReadyH.cons (by simp only [List.getElem?_toArray, List.getElem?_cons_succ, List.getElem?_cons_zero]; rfl) (fun K hK => ?_) AllReadyH.nil
      go_simp
      refine hK.out _ _ (HS.out _ (h6.alloc h6.size _)) (fun hHeld => ?_)
      clear hK K
      try simp only [Act.put, List.setIfInBounds_toArray, List.set_cons_zero, List.set_cons_succ]
      refine wpAnyH_done (by kernel_rfl) ?_ _
      go_wp2_with fail
      go_meet
      exact ⟨_, _, _, rfl, hHeld.2, row_two (heap_alloc_new _ _), hO.alloc _, by have := h6.size; omega, fun e => by have := (hO.lt _ e).2; omega⟩
    refine AllReadyH.cons (by simp only [List.getElem?_toArray, List.getElem?_cons_succ, List.getElem?_cons_zero]; rfl) (fun K hK => ?_) AllReadyH.nil
    go_simp
    refine hK.out _ _ (HS.out _ (hHeld.2.alloc hHeld.2.size _)) (fun hHeld => ?_)
    clear hK K
    try simp only [Act.put, List.setIfInBounds_toArray, List.set_cons_zero, List.set_cons_succ]
    refine wpAnyH_ready (rs := [4]) (by kernel_rfl) (by simp) ?_
    refine AllReadyH.cons (by simp only [List.getElem?_toArray, List.getElem?_cons_succ, List.getElem?_cons_zero]; rfl) (fun K hK => ?_) AllReadyH.nil
    go_simp
    go_wp2_with fail
    with_reducible refine (cloneArcs_any N A c _ (h.on hHeld.2) hcap hn).mono ?_
    rintro e w6 ⟨A8, c8, rfl, hO, hb⟩
    have h6 := onS hHeld.2 hb
    go_wp2_with fail
    refine hK.out _ _ (HS.out _ h6) (fun hHeld => ?_)
    clear hK K
    try simp only [Act.put, List.setIfInBounds_toArray, List.set_cons_zero, List.set_cons_succ]
    refine wpAnyH_take (i := 5) (v := ?_) (by simp only [List.getElem?_toArray, List.getElem?_cons_succ, List.getElem?_cons_zero]; rfl) (by kernel_rfl) (by kernel_rfl) (by kernel_rfl) (by exact fun _ _ _ h => h) (Or.inl ⟨by rfl, ?_⟩) (by assumption) ?_
    rotate_left
    · (intro w hSw; (try dsimp only at hSw); go_simp); first | done | with_reducible rfl
    try simp only [Act.put, List.setIfInBounds_toArray, List.set_cons_zero, List.set_cons_succ]
    have row6 := rowIs_on (w := (w.alloc (Obj.cells #[.int .i64 0, .slice none 0 0] 24)).drew) (netRow w _ w.heap.size rfl) hb
    have r0 : w6.cell? ⟨w.heap.size, 0, none⟩ = some (.int .i64 0) := row6.cell (i := 0) (by omega)
    have r1 : w6.cell? ⟨w.heap.size, 1, none⟩ = some (.slice none 0 0) := row6.cell (i := 1) (by omega)
    have z0 := row6.frozen 0
    have z1 := row6.frozen 1
    have row7 := (row6.set 0 (.int .i64 N.V)).set 1 (.slice A8 N.n c8)
    have hne : (Value.slice A8 N.n c8).ownBlock ≠ some w.heap.size := fun e => by have := (hO.lt _ e).1; simp at this; omega
    have hO7 := ((hO.mono (base' := w.heap.size) (by show _ ≤ (w.alloc _).heap.size; simp)).setCell (a := ⟨w.heap.size, 0, none⟩) hne (.int .i64 N.V)).setCell (a := ⟨w.heap.size, 1, none⟩) hne (.slice A8 N.n c8)
    have h7 : Below w.heap.size w ((w6.setCell ⟨w.heap.size, 0, none⟩ (.int .i64 N.V)).setCell ⟨w.heap.size, 1, none⟩ (.slice A8 N.n c8)) := (h6.setCell (Nat.le_refl _) _).setCell (Nat.le_refl _) _
    have HNE := hid hne
    clear hne
    refine wpAnyH_ready (rs := [7]) (by kernel_rfl) (by simp) ?_
    refine AllReadyH.cons (by simp only [List.getElem?_toArray, List.getElem?_cons_succ, List.getElem?_cons_zero]; rfl) (fun K hK => ?_) AllReadyH.nil
    go_simp
    refine hK.out _ _ (HS.out _ h7) (fun hHeld => ?_)
    clear hK K
    try simp only [Act.put, List.setIfInBounds_toArray, List.set_cons_zero, List.set_cons_succ]
    refine wpAnyH_done (by kernel_rfl) ?_ _
    go_wp2_with fail
    go_meet
    refine ⟨_, _, _, rfl, hHeld.2, row7.congr fun j hj => ?_, hO7, Nat.le_refl _, HNE.out⟩
    match j, hj with
    | 0, _ => rfl
    | 1, _ => rfl
  case rest =>
    obtain ⟨p8, A8, c8, rfl, hB, hrow, hO, hp8, hne⟩ := hcut
    have HNE := hid hne
    clear hne
    have y2 := cellS hB x2
    go_wp2
    go_loopg [19] m (fun n iv wx => ∃ k : Nat, k ≤ m ∧ m ≤ k + n ∧ iv = .int .i64 (k : Nat) ∧ Below w.heap.size w wx ∧ wx.rowIs p8 24 2 (pairCell (.int .i64 N.V) (.slice A8 N.n c8)) ∧ Own wx w.heap.size 36 3 (.slice A8 N.n c8) N.n (arcCell (N.given f x k)))
    case atStart => exact ⟨0, by omega, by omega, rfl, hB, hrow, hO⟩
    case round =>
      clear hB hrow hO y2
      obtain ⟨k, hk, hkn, rfl, hBx, hrow, hO⟩ := hrel
      have r0 : wr.cell? ⟨p8, 0, none⟩ = some (.int .i64 N.V) := hrow.cell (i := 0) (by omega)
      have r1 : wr.cell? ⟨p8, 1, none⟩ = some (.slice A8 N.n c8) := hrow.cell (i := 1) (by omega)
      by_cases hlt : k < m
      · obtain ⟨q0, q1⟩ := HR.out k hlt
        obtain ⟨fb, fo, rfl, hfb, f0⟩ := (hf.on hBx).at hlt
        obtain ⟨g, o, cap, hv, hg1, hg2, hg3, hg4, hc⟩ := hO.form (by omega)
        injection hv with hv1 hv2 hv3
        subst hv1 hv3
        have s0 : wr.cell? ⟨g, o + (f k).toNat * 3 + 2, none⟩ = some (.int .i64 (capsTo N f x k (f k).toNat)) := hc (f k).toNat (by omega) 2 (by omega)
        have s1 : wr.frozen? ⟨g, o + (f k).toNat * 3 + 2, none⟩ = false := hO.frozen _
        have NB : Hid (Below w.heap.size w (wr.setCell ⟨g, o + (f k).toNat * 3 + 2, none⟩ (.int .i64 x)) ∧ (wr.setCell ⟨g, o + (f k).toNat * 3 + 2, none⟩ (.int .i64 x)).rowIs p8 24 2 (pairCell (.int .i64 N.V) (.slice (some ⟨g, o, none⟩) N.n c8)) ∧ Own (wr.setCell ⟨g, o + (f k).toNat * 3 + 2, none⟩ (.int .i64 x)) w.heap.size 36 3 (.slice (some ⟨g, o, none⟩) N.n c8) N.n (arcCell (N.given f x (k + 1)))) := by
          refine ⟨hBx.setCell hg1 _, hrow.setOther (fun e => HNE.out (by show some g = some p8; rw [e])) _, ?_⟩
          refine (hO.set (a := (f k).toNat) (b := 2) (by omega) (by omega) (.int .i64 x)).congr fun i hi j hj => ?_
          match j, hj with
          | 0, _ => exact if_neg (by omega)
          | 1, _ => exact if_neg (by omega)
          | 2, _ =>
            show (if i = (f k).toNat ∧ 2 = 2 then Value.int .i64 x else .int .i64 (capsTo N f x k i)) = .int .i64 (capsTo N f x (k + 1) i)
            simp only [capsTo]
            by_cases e : i = (f k).toNat <;> simp [e]
        clear hc hBx hrow hO
        go_wp2
        go_roundg (gk - 1)
        case measure => omega
        case rel => exact ⟨k + 1, by omega, by omega, by go_num, NB.out⟩
      · obtain rfl : k = m := by omega
        have hGE := given_ends HE.out f c0 c1 k
        have hMR : (N.given f x k).Reads wr wr.heap.size A8 := hO.rd rfl
        obtain ⟨M, hMd⟩ : ∃ M, M = N.given f x k := ⟨_, rfl⟩
        have eV : N.V = M.V := by rw [hMd]; rfl
        have eN : N.n = M.n := by rw [hMd]; rfl
        rw [← hMd] at hMR hGE
        rw [eV] at r0
        rw [eN] at r1
        have hMR2 : M.Reads wr.drew wr.drew.heap.size A8 := hMR
        have HMD := hid hMd
        have HGE := hid hGE
        have y3 := cellS hBx x3
        have y4 := cellS hBx x4
        have y5 := cellS hBx x5
        clear hMd eV eN hGE hrow hO
        go_wp2_with fail
        refine wp_region_held_drew (S := fun w' => (w'.cell? ⟨p8, 0, none⟩ = some (.int .i64 M.V) ∧ w'.cell? ⟨p8, 1, none⟩ = some (.slice A8 M.n c8) ∧ w'.cell? ⟨bs, 0, none⟩ = some (.int .i64 s) ∧ w'.cell? ⟨bt, 0, none⟩ = some (.int .i64 t) ∧ w'.cell? ⟨bq, 0, none⟩ = some (.int .i64 need)) ∧ Below w.heap.size w w') (by kernel_rfl) ⟨⟨r0, r1, y3, y4, y5⟩, hBx.drew⟩ (fun hHeld => ?_)
        refine wpAnyH_take (i := 0) (v := ?_) (by simp only [List.getElem?_toArray, List.getElem?_cons_zero]; rfl) (by kernel_rfl) (by kernel_rfl) (by kernel_rfl) (by exact fun _ _ _ h => h) (Or.inl ⟨by rfl, ?_⟩) (by assumption) ?_
        rotate_left
        · (intro w hSw; (try dsimp only at hSw); go_simp); first | done | with_reducible rfl
        try simp only [Act.put, List.setIfInBounds_toArray, List.set_cons_zero, List.set_cons_succ]
        refine wpAnyH_take (i := 1) (v := ?_) (by simp only [List.getElem?_toArray, List.getElem?_cons_succ, List.getElem?_cons_zero]; rfl) (by kernel_rfl) (by kernel_rfl) (by kernel_rfl) (by exact fun _ _ _ h => h) (Or.inl ⟨by rfl, ?_⟩) (by assumption) ?_
        rotate_left
        · (intro w hSw; (try dsimp only at hSw); go_simp); first | done | with_reducible rfl
        try simp only [Act.put, List.setIfInBounds_toArray, List.set_cons_zero, List.set_cons_succ]
        refine wpAnyH_take (i := 2) (v := ?_) (by simp only [List.getElem?_toArray, List.getElem?_cons_succ, List.getElem?_cons_zero]; rfl) (by kernel_rfl) (by kernel_rfl) (by kernel_rfl) (by exact fun _ _ _ h => h) (Or.inl ⟨by rfl, ?_⟩) (by assumption) ?_
        rotate_left
        · (intro w hSw; (try dsimp only at hSw); go_simp); first | done | with_reducible rfl
        try simp only [Act.put, List.setIfInBounds_toArray, List.set_cons_zero, List.set_cons_succ]
        refine wpAnyH_take (i := 5) (v := ?_) (by simp only [List.getElem?_toArray, List.getElem?_cons_succ, List.getElem?_cons_zero]; rfl) (by kernel_rfl) (by kernel_rfl) (by kernel_rfl) (by exact fun _ _ _ h => h) (Or.inl ⟨by rfl, ?_⟩) (by assumption) ?_
        rotate_left
        · (intro w hSw; (try dsimp only at hSw); go_simp); first | done | with_reducible rfl
        try simp only [Act.put, List.setIfInBounds_toArray, List.set_cons_zero, List.set_cons_succ]
        refine wpAnyH_ready (rs := [3]) (by kernel_rfl) (by simp) ?_
        refine AllReadyH.cons (by simp only [List.getElem?_toArray, List.getElem?_cons_succ, List.getElem?_cons_zero]; rfl) (fun K hK => ?_) AllReadyH.nil
        go_simp
        go_wp2_with fail
        with_reducible refine (greatest_any M A8 c8 s t _ hMR2 HGE.out).mono ?_
        rintro e w6 ⟨val, g, seen, arc, back, rk, cnt, A1, A2, hF, hR, hst, rfl, hb, k1, k2, k3, k4⟩
        have HMV := hid (show MaxVal M s t val from ⟨g, seen, arc, back, rk, cnt, hF, hR, hst⟩)
        clear hF hR hst k1 k2 k3 k4
        have hfld : ∀ W : World, (Instr.field 39 (.agg #[.int .i64 val, .slice A1 M.n M.n, .slice A2 M.V.toNat M.V.toNat]) 0).run Try.prog W = .ok (.int .i64 val) W := fun W => by kernel_rfl
        go_wp2_with fail
        refine hK.out _ _ ⟨⟨cellS hb hHeld.1.1, cellS hb hHeld.1.2.1, cellS hb hHeld.1.2.2.1, cellS hb hHeld.1.2.2.2.1, cellS hb hHeld.1.2.2.2.2⟩, onS hHeld.2 hb⟩ (fun hHeld => ?_)
        clear hK K
        try simp only [Act.put, List.setIfInBounds_toArray, List.set_cons_zero, List.set_cons_succ]
        refine wpAnyH_take (i := 4) (v := ?_) (by simp only [List.getElem?_toArray, List.getElem?_cons_succ, List.getElem?_cons_zero]; rfl) (by kernel_rfl) (by kernel_rfl) (by kernel_rfl) (by exact fun _ _ _ h => h) (Or.inl ⟨by rfl, ?_⟩) (by assumption) ?_
        rotate_left
        · (intro w hSw; (try dsimp only at hSw); go_simp); first | done | with_reducible rfl
        try simp only [Act.put, List.setIfInBounds_toArray, List.set_cons_zero, List.set_cons_succ]
        refine wpAnyH_take (i := 6) (v := ?_) (by simp only [List.getElem?_toArray, List.getElem?_cons_succ, List.getElem?_cons_zero]; rfl) (by kernel_rfl) (by kernel_rfl) (by kernel_rfl) (by exact fun _ _ _ h => h) (Or.inl ⟨by rfl, ?_⟩) (by assumption) ?_
        rotate_left
        · (intro w hSw; (try dsimp only at hSw); go_simp); first | done | with_reducible rfl
        try simp only [Act.put, List.setIfInBounds_toArray, List.set_cons_zero, List.set_cons_succ]
        refine wpAnyH_take (i := 7) (v := ?_) (by simp only [List.getElem?_toArray, List.getElem?_cons_succ, List.getElem?_cons_zero]; rfl) (by kernel_rfl) (by kernel_rfl) (by kernel_rfl) (by exact fun _ _ _ h => h) (Or.inl ⟨by rfl, ?_⟩) (by assumption) ?_
        rotate_left
        · (intro w hSw; (try dsimp only at hSw); go_simp); first | done | with_reducible rfl
        try simp only [Act.put, List.setIfInBounds_toArray, List.set_cons_zero, List.set_cons_succ]
        refine wpAnyH_done (by kernel_rfl) ?_ _
        go_wp2
        go_ret
        refine ⟨⟨_, ?_, rfl⟩, hHeld.2⟩
        rw [HMD.out] at HMV HGE
        rw [enough_iff HGE.out HMV.out]
        simp
end Go.Proofs.Ythdeldaeghhfgaa
