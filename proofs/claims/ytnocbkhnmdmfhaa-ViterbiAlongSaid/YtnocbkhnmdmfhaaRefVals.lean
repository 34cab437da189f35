/- codewrightref49.vals: the costs of the edges. -/
import Derived.Test.YtnocbkhnmdmfhaaIVals
import Derived.Test.YtnocbkhnmdmfhaaRefForward
namespace Go.Proofs.Ytnocbkhnmdmfhaa
open Go.RowKit

theorem own_made {w : World} {base n : Nat} (hb : base ≤ w.heap.size) (hn : n ≤ maxLen) :
    Own (w.alloc (Obj.cells (madeCells #[Value.int .i64 0] n) 3)) base 3 1 (.slice (some ⟨w.heap.size, 0, none⟩) n n) n (fun _ _ => .int .i64 0) := by
  have hr := World.rowIs_made w (.int .i64 0) n 3
  refine Own.new hb (Nat.le_refl _) hn (by simp [size_madeCells]) (fun k hk j hj => ?_)
  obtain rfl : j = 0 := by omega
  have hc := hr.cell hk
  rw [World.cell?_alloc_at _ _ _ _ rfl] at hc
  rw [Nat.mul_one, Nat.add_zero]
  exact hc
/-- The table when rows ahead of k are done and j entries of row k. -/
def partI (y : Nat → Nat → Int) (k j : Nat) : Nat → Nat → Int := fun u q => if u = k ∧ j ≤ q then 0 else y u q
theorem partI_put (y : Nat → Nat → Int) (k j u q : Nat) : updI (partI y k j) k j (y k j) u q = partI y k (j + 1) u q := by
  unfold updI partI
  by_cases e : u = k
  · subst e
    by_cases e2 : q = j
    · subst e2
      rw [if_pos ⟨rfl, rfl⟩, if_neg (by omega)]
    · rw [if_neg (by omega)]
      by_cases e3 : j ≤ q
      · rw [if_pos ⟨rfl, e3⟩, if_pos ⟨rfl, by omega⟩]
      · rw [if_neg (by omega), if_neg (by omega)]
  · rw [if_neg (by omega), if_neg (by omega), if_neg (by omega)]
set_option maxRecDepth 100000 in
set_option maxHeartbeats 8000000 in
theorem refVals_any (T : Trel) (A B CA : Option Addr) (c d M cc : Nat) (ln : Nat → Nat) (C : Nat → Nat → Int) (w : World) (h : T.Reads w A B) (hs : T.Shape) (hC : IntRows w CA M ln C) (hM : M = T.n) (hF : T.Fit ln) :
    Calls Try.prog 44 #[.agg #[.slice A T.nw c, .slice B T.n d], .slice CA M cc] w (SecPost T (T.yOf C) w) := by
  obtain ⟨RB, hRB⟩ : ∃ o, o = (Obj.cells #[.slice A T.nw c, .slice B T.n d] 25) := ⟨_, rfl⟩
  have hB0 : Below (w.heap.size + 1) (w.alloc RB) (w.alloc RB) := Below.refl _ _
  have HS : Hid (∀ w', Below (w.heap.size + 1) (w.alloc RB) w' → (w'.cell? ⟨w.heap.size, 0, none⟩ = some (.slice A T.nw c) ∧ w'.cell? ⟨w.heap.size, 1, none⟩ = some (.slice B T.n d)) ∧ Below w.heap.size w w') := fun w' hB => by
    have hB' := tbox_below hB
    subst hRB
    exact ⟨⟨tbox hB rfl, tbox hB rfl⟩, hB'⟩
  obtain ⟨⟨p0, p1⟩, hW⟩ := HS.out _ hB0
  have hn64 := hs.n64
  have hmk := fun W => run_makeI (P := Try.prog) 26 22 _ 24 Try.underlying26 Try.infoInts rfl (T.n : Int) (by omega) (by omega) (by omega) W
  simp only [Int.toNat_natCast] at hmk
  have HR := hid h
  have HSH := hid hs
  have HC := hid hC
  have HF := hid hF
  have HM := hid hM
  obtain ⟨y, hy⟩ : ∃ y, y = T.yOf C := ⟨_, rfl⟩
  have HY := hid hy
  rw [← hy]
  clear h hs hC hF hM hy
  go_enter Try.func44, Try.ntmps44
  go_wp2_with fail
  rw [← hRB]
  go_upto_region 2 with fail
  obtain ⟨W2, hW2⟩ : ∃ W, W = w.alloc RB := ⟨_, rfl⟩
  have hsz2 : W2.heap.size = w.heap.size + 1 := by rw [hW2]; simp
  have HS2 : Hid (∀ w', Below (w.heap.size + 1) W2 w' → (w'.cell? ⟨w.heap.size, 0, none⟩ = some (.slice A T.nw c) ∧ w'.cell? ⟨w.heap.size, 1, none⟩ = some (.slice B T.n d)) ∧ Below w.heap.size w w') := by rw [hW2]; exact HS
  rw [← hW2] at hB0 ⊢
  obtain ⟨g, hg⟩ : ∃ g, g = w.heap.size + 1 := ⟨_, rfl⟩
  have hgz : g = W2.heap.size := by omega
  have hr3 := World.rowIs_made W2 (.slice none 0 0) T.n 22
  have hB3 := two_on_ hB0 (Nat.le_of_eq hsz2.symm) ((Below.refl W2.heap.size W2).alloc (Nat.le_refl _) (Obj.cells (madeCells #[Value.slice none 0 0] T.n) 22))
  have hl3 : w.heap.size + 1 < (W2.alloc (Obj.cells (madeCells #[Value.slice none 0 0] T.n) 22)).heap.size := by simp; omega
  obtain ⟨W3, hW3⟩ : ∃ W, W = W2.alloc (Obj.cells (madeCells #[Value.slice none 0 0] T.n) 22) := ⟨_, rfl⟩
  rw [← hgz] at hr3
  rw [← hW3] at hr3 hB3 hl3 ⊢
  rw [← hg]
  have hT3 : IntTab W3 g (g + 1) T.n (fun _ => .slice none 0 0) (fun v => if v < 0 then T.el v else 0) y := (intTab_start hr3).congr (fun v _ => (if_neg (by omega)).symm) (fun v _ k hk => rfl)
  have hg2 : w.heap.size + 1 ≤ g := by omega
  clear hW3 hgz hg hr3 hW2 HS hB0 hmk hRB hsz2 p0 p1 hW
  obtain ⟨⟨p0, p1⟩, hW⟩ := HS2.out _ hB3
  go_wp2
  go_loopg [6] T.n (fun gg iv wx => ∃ (k : Nat) (F : Nat → Value), iv = .int .i64 (k : Nat) ∧ k ≤ T.n ∧ T.n ≤ k + gg ∧ IntTab wx g (g + 1) T.n F (fun v => if v < k then T.el v else 0) y ∧ Hid (∀ v, k ≤ v → F v = .slice none 0 0) ∧ Below (w.heap.size + 1) W2 wx ∧ w.heap.size + 1 < wx.heap.size)
  case atStart => exact ⟨0, _, rfl, by omega, by omega, hT3, fun _ _ => rfl, hB3, hl3⟩
  case round =>
    clear hW p0 p1 hT3 hB3 hl3
    obtain ⟨gK, hgK⟩ : ∃ g, g = gk := ⟨_, rfl⟩
    subst hgK
    obtain ⟨k, F, rfl, hk, hkg, hT, HFF, hB, hl⟩ := hrel
    have hk0 : (0 : Int) ≤ (k : Int) := by omega
    obtain ⟨⟨p0, p1⟩, hW⟩ := HS2.out _ hB
    by_cases hlt : k < T.n
    · have hlt' : (k : Int) < (T.n : Int) := by omega
      obtain ⟨eb, eo, E, ec, rfl, heb, x0w, he1, he2, he3, he4⟩ := HR.out.sec hlt
      have x0 := cellS hW x0w
      have hel := HSH.out.elb hlt
      obtain ⟨n1, hn1⟩ : ∃ n : Nat, n = T.el k := ⟨_, rfl⟩
      rw [← hn1] at x0 hel
      have HN1 := hid hn1
      have HE3 := hid he3
      have HX0 := hid x0w
      clear hn1 he3 he4 he1 he2 x0w
      have hmk1 := fun W => run_makeI (P := Try.prog) 22 3 _ 8 Try.underlying22 Try.infoInt rfl (n1 : Int) (by omega) (by omega) (by omega) W
      simp only [Int.toNat_natCast] at hmk1
      have hgw : g < wr.heap.size := hT.row.lt
      have kb : Below wr.heap.size wr (wr.alloc (Obj.cells (madeCells #[Value.int .i64 0] n1) 3)) := (Below.refl _ _).alloc (Nat.le_refl _) _
      have hown := own_made (w := wr) (base := g + 1) (n := n1) (by omega) (by unfold maxLen; omega)
      have hput := hT.put (by omega) hlt (y := fun _ => 0) hown (grownBy_alloc _ _ _) (.inr rfl)
      have q0 := hT.row.cell hlt
      have z0 := hT.row.frozen k
      rw [HFF.out k (Nat.le_refl _)] at q0
      have hB4 := (two_on_ hB (Nat.le_of_lt hl) kb).setCell (p := ⟨g, k, none⟩) hg2 (.slice (some ⟨wr.heap.size, 0, none⟩) n1 n1)
      have hN := hput.congr (n' := fun v => if v < k + 1 then T.el v else 0) (x' := partI y k 0) (fun v _ => by
        by_cases e : v = k
        · subst e
          rw [if_pos rfl, if_pos (Nat.lt_succ_self _)]
          exact HN1.out
        · rw [if_neg e]
          by_cases e2 : v < k
          · rw [if_pos e2, if_pos (by omega)]
          · rw [if_neg e2, if_neg (by omega)]) (fun v _ q hq => by
        unfold partI
        by_cases e : v = k
        · rw [if_pos e, if_pos ⟨e, Nat.zero_le _⟩]
        · rw [if_neg e, if_neg fun hh => e hh.1])
      rw [World.setCell_alloc_past _ _ _ _ hgw] at hN hB4
      have HFN : Hid (∀ v, k + 1 ≤ v → (if v = k then Value.slice (some ⟨wr.heap.size, 0, none⟩) n1 n1 else F v) = .slice none 0 0) := fun v hv => by rw [if_neg (by omega)]; exact HFF.out v (by omega)
      have hl4 : w.heap.size + 1 < wr.heap.size + 1 := by omega
      have hRB : wr.heap.size < ((wr.setCell ⟨g, k, none⟩ (.slice (some ⟨wr.heap.size, 0, none⟩) n1 n1)).alloc (Obj.cells (madeCells #[Value.int .i64 0] n1) 3)).heap.size := by simp
      clear hT hput hown kb
      go_upto_region 6 with fail
      obtain ⟨F2, hF2⟩ : ∃ F2 : Nat → Value, F2 = fun v => if v = k then Value.slice (some ⟨wr.heap.size, 0, none⟩) n1 n1 else F v := ⟨_, rfl⟩
      have HFk : Hid (F2 k = .slice (some ⟨wr.heap.size, 0, none⟩) n1 n1) := by rw [hF2]; exact hid (if_pos rfl)
      have HFN2 : Hid (∀ v, k + 1 ≤ v → F2 v = .slice none 0 0) := by rw [hF2]; exact HFN
      rw [← hF2] at hN
      obtain ⟨w4, hw4⟩ : ∃ W, W = (wr.setCell ⟨g, k, none⟩ (.slice (some ⟨wr.heap.size, 0, none⟩) n1 n1)).alloc (Obj.cells (madeCells #[Value.int .i64 0] n1) 3) := ⟨_, rfl⟩
      have hl5 : w.heap.size + 1 < w4.heap.size := by rw [hw4]; simp; omega
      have hgr : g ≠ wr.heap.size := by omega
      rw [← hw4] at hN hB4 hRB ⊢
      obtain ⟨rk, hrk⟩ : ∃ b, b = wr.heap.size := ⟨_, rfl⟩
      have hbr : w.heap.size + 1 ≤ rk := by omega
      rw [← hrk] at HFk hRB hgr
      clear hw4 hF2 HFN hrk q0 z0 hmk1 p0 p1 hW x0
      obtain ⟨⟨p0, p1⟩, hW⟩ := HS2.out _ hB4
      have x0 := cellS hW HX0.out
      rw [← HN1.out] at x0
      go_wp2
      go_loopg [7] n1 (fun gg jv wx => ∃ j : Nat, jv = .int .i64 (j : Nat) ∧ j ≤ n1 ∧ n1 ≤ j + gg ∧ IntTab wx g (g + 1) T.n F2 (fun v => if v < k + 1 then T.el v else 0) (partI y k j) ∧ Below (w.heap.size + 1) W2 wx ∧ w.heap.size + 1 < wx.heap.size)
      case atStart => exact ⟨0, rfl, by omega, by omega, hN, hB4, hl5⟩
      case round =>
        clear hW p0 p1 hN hB4 hl5 x0 hRB
        obtain ⟨j, rfl, hj, hjg, hT, hB, hl⟩ := hrel
        have hj0 : (0 : Int) ≤ (j : Int) := by omega
        obtain ⟨⟨p0, p1⟩, hW⟩ := HS2.out _ hB
        have x0 := cellS hW HX0.out
        rw [← HN1.out] at x0
        by_cases hltj : j < n1
        · have hltj' : (j : Int) < (n1 : Int) := by omega
          have hjel : j < T.el k := by rw [← HN1.out]; exact hltj
          have hkM : k < M := by rw [HM.out]; exact hlt
          have hkM' : (k : Int) < (M : Int) := by omega
          obtain ⟨fb, fo, rfl, hfb, e0, e1, e2⟩ := edge_at ((Rd.below HE3.out hW (Nat.le_refl _)).mono hW.size) hjel
          have hfit := HF.out k hlt j hjel
          obtain ⟨la, hla⟩ : ∃ n : Nat, (n : Int) = T.lb k j := ⟨(T.lb k j).toNat, by omega⟩
          obtain ⟨cb, co, R, rc, rfl, hcb, y0, h1, h2, h3, h4⟩ := (HC.out.on hW) k hkM
          have hlal : la < ln k := by omega
          obtain ⟨rb, ro, rfl, hrb, y1⟩ := h3.at hlal
          have hyv : C k la = y k j := by rw [HY.out]; show C k la = C k (T.lb k j).toNat; rw [← hla]; rfl
          rw [hyv] at y1
          have hkk : j < (fun v => if v < k + 1 then T.el v else 0) k := by show j < if k < k + 1 then T.el k else 0; rw [if_pos (Nat.lt_succ_self _)]; exact hjel
          have hset := hT.set (y := y k j) (by omega) hlt (k := j) hkk (b := rk) (o := 0) (d := n1) (by rw [HFk.out]; show _ = Value.slice _ (if k < k + 1 then T.el k else 0) n1; rw [if_pos (Nat.lt_succ_self _), HN1.out])
          obtain ⟨b9, o9, d9, hF9, _, _, q9, z9⟩ := hT.at (v := k) hlt (k := j) hkk
          have hrow1 := hT.row.cell hlt
          rw [HFk.out] at hF9 hrow1
          injection hF9 with e9 e5 e6
          injection e9 with e9
          injection e9 with e8 e9
          subst e8 e9
          clear e5 e6
          have HSET := hid (hset.congr (x' := partI y k (j + 1)) (fun v _ => rfl) (fun u _ q _ => partI_put y k j u q))
          obtain ⟨yv, hyv2⟩ : ∃ z, z = y k j := ⟨_, rfl⟩
          obtain ⟨lk, hlk⟩ : ∃ z, z = ln k := ⟨_, rfl⟩
          rw [← hyv2] at y1 HSET
          rw [← hlk] at y0 hlal
          rw [← hla] at e1
          rw [Nat.zero_add] at q9 z9 HSET
          have HB5 := hid (hB.setCell (p := ⟨rk, j, none⟩) hbr (.int .i64 yv))
          have hl5 : w.heap.size + 1 < (wr.setCell ⟨rk, j, none⟩ (.int .i64 yv)).heap.size := by simpa using hl
          have hla0 : (0 : Int) ≤ (la : Int) := by omega
          have hlal' : (la : Int) < (lk : Int) := by omega
          clear hset hT hyv hyv2 hlk hla hfit h1 h2 h3 h4 hB hkk e0 e2 p0
          go_wp2
          go_still_tail 21, (by kernel_rfl)
          change wpList _ _ _ _ _ wr.drew
          go_wp2
          go_roundg (gk - 1)
          case measure => omega
          case rel => exact ⟨j + 1, by go_num, by omega, by omega, HSET.out.on (by exact (Below.refl _ _).drew), by exact HB5.out.drew, hl5⟩
        · have hltj' : ¬ (j : Int) < (n1 : Int) := by omega
          have hje : j = T.el k := by have := HN1.out; omega
          have hT1 := hid (hT.congr (n' := fun v => if v < k + 1 then T.el v else 0) (x' := y) (fun v _ => rfl) (fun u _ q hq => by
            unfold partI
            by_cases e : u = k
            · subst e
              rw [if_pos (Nat.lt_succ_self _)] at hq
              rw [if_neg (by omega)]
            · rw [if_neg fun hh => e hh.1]))
          have HB := hid hB
          clear hT hB hje
          go_wp2
          go_roundg (gK - 1)
          case measure => omega
          case rel => exact ⟨k + 1, F2, by go_num, by omega, by omega, hT1.out, HFN2, HB.out, hl⟩
    · have hlt' : ¬ (k : Int) < (T.n : Int) := by omega
      have hTf := hid (hT.congr (n' := T.el) (x' := y) (fun v hv => if_pos (by omega)) (fun v _ q hq => rfl))
      clear hT
      go_wp2
      go_ret
      exact ⟨g, F, rfl, by omega, hTf.out, hW⟩
end Go.Proofs.Ytnocbkhnmdmfhaa
