/- semiring.enumerator and codewrightref46.Poly: the canonical polynomial. -/
import Derived.Test.YtnocbkhnmdmfhaaPolN
namespace Go.Proofs.Ytnocbkhnmdmfhaa
open Go.RowKit

/-- A canonical polynomial of one's own. -/
def PolPost (d : Nat) (x : Nat → Nat) (w : World) (e : Ending) (w' : World) : Prop := ∃ v, e = .returned v ∧ NatOwn w' w.heap.size v d x ∧ Below w.heap.size w w'
set_option maxRecDepth 100000 in
set_option maxHeartbeats 8000000 in
theorem enumerator_any (A : Option Addr) (n c : Nat) (x : Nat → Nat) (w : World) (h : NatTab w w.heap.size A n x) (hn : n ≤ 4096) (hx : Hid (∀ k, k < n → dl (x k) ≤ 1048576)) :
    Calls Try.prog 157 #[.slice A n c] w (PolPost (plen x n) x w) := by
  have hmk := fun W => run_makeI (P := Try.prog) 39 43 _ 24 Try.underlying39 Try.infoNat rfl (n : Int) (by omega) (by omega) (by omega) W
  simp only [Int.toNat_natCast] at hmk
  have HT := hid h
  clear h
  go_enter Try.func157, Try.ntmps157
  go_upto_region 2 with fail
  have hO := natOwn_made (w := w) (base := w.heap.size) (n := n) (Nat.le_refl _) (by unfold maxLen; omega)
  have hB := (Below.refl w.heap.size w).alloc (Nat.le_refl _) (Obj.cells (madeCells #[Value.slice none 0 0] n) 43)
  obtain ⟨w1, hw1⟩ : ∃ W, W = w.alloc (Obj.cells (madeCells #[Value.slice none 0 0] n) 43) := ⟨_, rfl⟩
  obtain ⟨g, hg⟩ : ∃ b, b = w.heap.size := ⟨_, rfl⟩
  have HG := hid hg
  rw [← hw1] at hO hB ⊢
  rw [← hg]
  rw [← hg] at hO
  have hO0 : NatOwn w1 g (.slice (some ⟨g, 0, none⟩) n n) n (fun k => if k < 0 then x k else 0) := hO.congr fun i _ => (if_neg (by omega)).symm
  clear hw1 hO hmk hg
  go_wp2
  go_loopg [4, 12] n (fun gg nv iv wx => ∃ k : Nat, iv = .int .i64 (k : Nat) ∧ k ≤ n ∧ n ≤ k + gg ∧ nv = .int .i64 (plen x k : Nat) ∧ NatOwn wx g (.slice (some ⟨g, 0, none⟩) n n) n (fun i => if i < k then x i else 0) ∧ Below w.heap.size w wx)
  case atStart => exact ⟨0, rfl, by omega, by omega, rfl, hO0, hB⟩
  case round =>
    clear hO0 hB
    obtain ⟨k, rfl, hk, hkg, rfl, hO, hB⟩ := hrel
    have hk0 : (0 : Int) ≤ (k : Int) := by omega
    by_cases hlt : k < n
    · have hlt' : (k : Int) < (n : Int) := by omega
      obtain ⟨tb, to', A2, c2, rfl, htb, x0, x1, x2, x3⟩ := HT.out.on hB k hlt
      have hdl := hx.out k hlt
      have hst : plen x (k + 1) = if x k ≠ 0 then k + 1 else plen x k := rfl
      obtain ⟨y, hy⟩ : ∃ y, y = x k := ⟨_, rfl⟩
      rw [← hy] at x0 x1 x3 hdl hst
      have HY := hid hy
      have HST := hid hst
      clear hy hst
      go_wp2_with fail
      refine (natTrim_nat A2 c2 y wr x3 x1 x2 (by omega)).mono ?_
      rintro e w2 ⟨A3, c3, rfl, y1, y2, y3, kb⟩
      replace hO := hO.on kb
      replace hB := onS hB kb
      obtain ⟨A9, d9, q0, _, _, _, z0⟩ := hO.rd hlt
      have hO2 := hO.set hlt y3 y1 y2
      have hB2 := hB.setCell (p := ⟨g, 0 + k, none⟩) (by show w.heap.size ≤ g; rw [HG.out]; exact Nat.le_refl _) (.slice A3 (dl y) c3)
      rw [Nat.zero_add] at hO2 hB2 q0 z0
      have hO3 := hid (hO2.congr (y' := fun i => if i < k + 1 then x i else 0) fun i _ => by
        show updN (fun i => if i < k then x i else 0) k y i = if i < k + 1 then x i else 0
        unfold updN
        by_cases e : i = k
        · subst e; rw [if_pos rfl, if_pos (Nat.lt_succ_self _), HY.out]
        · rw [if_neg e]
          show (if i < k then x i else 0) = _
          by_cases e2 : i < k
          · rw [if_pos e2, if_pos (by omega)]
          · rw [if_neg e2, if_neg (by omega)])
      have HB2 := hid hB2
      clear hO hB hO2 hB2 kb x0 x1 x2 x3 y3
      by_cases h0 : y = 0
      · have e0 : dl y = 0 := dl_eq_zero.2 h0
        have HP : Hid (plen x (k + 1) = plen x k) := by rw [HST.out, if_neg (by simpa using h0)]; exact hid rfl
        rw [e0] at hO3 HB2 ⊢
        clear h0 hdl
        go_wp2
        go_roundg (gk - 1)
        case measure => omega
        case rel => exact ⟨k + 1, by go_num, by omega, by omega, by rw [HP.out], hO3.out, HB2.out⟩
      · have e0 : 0 < dl y := by
          rcases Nat.eq_zero_or_pos (dl y) with h | h
          · exact absurd (dl_eq_zero.1 h) h0
          · exact h
        have e1 : (0 : Int) < (dl y : Int) := by omega
        have HP : Hid (plen x (k + 1) = k + 1) := by rw [HST.out, if_pos h0]; exact hid rfl
        clear h0
        go_wp2
        go_roundg (gk - 1)
        case measure => omega
        case rel => exact ⟨k + 1, by go_num, by omega, by omega, by rw [HP.out]; go_num, hO3.out, HB2.out⟩
    · have hlt' : ¬ (k : Int) < (n : Int) := by omega
      obtain rfl : k = n := by omega
      have hpl := plen_le x k
      have hO1 := hid ((hO.cut hpl).congr (y' := x) fun i hi => if_pos (by omega))
      obtain ⟨d, hd⟩ : ∃ d, d = plen x k := ⟨_, rfl⟩
      rw [← hd] at hO1 hpl ⊢
      have HD := hid hd
      have hd' : (d : Int) ≤ (k : Int) := by omega
      have hd0 : (0 : Int) ≤ (d : Int) := by omega
      clear hO hd
      go_wp2
      go_ret
      exact ⟨_, rfl, by rw [← HG.out, ← HD.out]; exact hO1.out, hB⟩
theorem refZero_nat (A : Option Addr) (c x : Nat) (w : World) (h : NatOk w w.heap.size A x) (hc : dl x ≤ c) (hm : c ≤ maxLen) (hs : dl x ≤ 1048576) :
    Calls Try.prog 57 #[.slice A (dl x) c] w fun e w' => e = .returned (.bool (decide (x = 0))) ∧ Below w.heap.size w w' := by
  go_enter Try.func57, Try.ntmps57
  go_wp2_with fail
  refine (refTrim_nat A c x w h hc hm (by omega)).mono ?_
  rintro e w1 ⟨A1, c1, rfl, _, _, _, hB⟩
  by_cases h0 : x = 0
  · have e0 : dl x = 0 := dl_eq_zero.2 h0
    have ed := hid (decide_eq_true h0)
    rw [e0]
    clear h0 h hc
    go_wp2
    go_ret
    exact ⟨by rw [ed.out]; rfl, hB⟩
  · have e0 : 0 < dl x := by
      rcases Nat.eq_zero_or_pos (dl x) with h | h
      · exact absurd (dl_eq_zero.1 h) h0
      · exact h
    have ed := hid (decide_eq_false h0)
    have e1 : ((dl x : Int) == 0) = false := by
      rw [beq_eq_false_iff_ne]
      omega
    have e2 : (dl x == 0) = false := by
      rw [beq_eq_false_iff_ne]
      omega
    clear h0 h hc
    go_wp2
    go_ret
    exact ⟨by rw [ed.out]; rfl, hB⟩
set_option maxRecDepth 100000 in
set_option maxHeartbeats 8000000 in
theorem poly_any (A : Option Addr) (n c : Nat) (x : Nat → Nat) (w : World) (h : NatTab w w.heap.size A n x) (hn : n ≤ 4096) (hx : Hid (∀ k, k < n → dl (x k) ≤ 1048576)) :
    Calls Try.prog 88 #[.slice A n c] w (PolPost (plen x n) x w) := by
  have HT := hid h
  clear h
  go_enter Try.func88, Try.ntmps88
  go_wp2
  go_loopg [3, 4] n (fun gg nv iv wx => ∃ k : Nat, iv = .int .i64 (k : Nat) ∧ k ≤ n ∧ n ≤ k + gg ∧ nv = .int .i64 (plen x k : Nat) ∧ Below w.heap.size w wx)
  case atStart => exact ⟨0, rfl, by omega, by omega, rfl, Below.refl _ _⟩
  case round =>
    obtain ⟨k, rfl, hk, hkg, rfl, hB⟩ := hrel
    have hk0 : (0 : Int) ≤ (k : Int) := by omega
    by_cases hlt : k < n
    · have hlt' : (k : Int) < (n : Int) := by omega
      obtain ⟨tb, to', A2, c2, rfl, htb, x0, x1, x2, x3⟩ := HT.out.on hB k hlt
      have hdl := hx.out k hlt
      have hst : plen x (k + 1) = if x k ≠ 0 then k + 1 else plen x k := rfl
      obtain ⟨y, hy⟩ : ∃ y, y = x k := ⟨_, rfl⟩
      rw [← hy] at x0 x1 x3 hdl hst
      have HST := hid hst
      clear hy hst
      go_wp2_with fail
      refine (refZero_nat A2 c2 y wr x3 x1 x2 (by omega)).mono ?_
      rintro e w2 ⟨rfl, kb⟩
      have hB2 := onS hB kb
      clear kb hB x0 x1 x2 x3
      by_cases h0 : y = 0
      · have HP : Hid (plen x (k + 1) = plen x k) := by rw [HST.out, if_neg (by simpa using h0)]; exact hid rfl
        have hd := decide_eq_true h0
        rw [hd]
        clear h0 hdl hd
        go_wp2
        go_roundg (gk - 1)
        case measure => omega
        case rel => exact ⟨k + 1, by go_num, by omega, by omega, by rw [HP.out], hB2⟩
      · have HP : Hid (plen x (k + 1) = k + 1) := by rw [HST.out, if_pos h0]; exact hid rfl
        have hd := decide_eq_false h0
        rw [hd]
        clear h0 hdl hd
        go_wp2
        go_roundg (gk - 1)
        case measure => omega
        case rel => exact ⟨k + 1, by go_num, by omega, by omega, by rw [HP.out]; go_num, hB2⟩
    · have hlt' : ¬ (k : Int) < (n : Int) := by omega
      obtain rfl : k = n := by omega
      have hpl := plen_le x k
      obtain ⟨d, hd⟩ : ∃ d, d = plen x k := ⟨_, rfl⟩
      have HD := hid hd
      rw [← hd] at hpl ⊢
      have hmk := fun W => run_makeI (P := Try.prog) 39 43 _ 24 Try.underlying39 Try.infoNat rfl (d : Int) (by omega) (by omega) (by omega) W
      simp only [Int.toNat_natCast] at hmk
      have hO := natOwn_made (w := wr) (base := w.heap.size) (n := d) hB.size (by unfold maxLen; omega)
      have hB2 := onS hB ((Below.refl wr.heap.size wr).alloc (Nat.le_refl _) (Obj.cells (madeCells #[Value.slice none 0 0] d) 43))
      clear hd
      go_upto_region 8 with fail
      obtain ⟨w1, hw1⟩ : ∃ W, W = wr.alloc (Obj.cells (madeCells #[Value.slice none 0 0] d) 43) := ⟨_, rfl⟩
      have hgs := hB.size
      obtain ⟨g, hg⟩ : ∃ b, b = wr.heap.size := ⟨_, rfl⟩
      have HG : Hid (w.heap.size ≤ g) := by rw [hg]; exact hgs
      rw [← hw1] at hO hB2 ⊢
      rw [← hg]
      rw [← hg] at hO
      have hO0 : NatOwn w1 w.heap.size (.slice (some ⟨g, 0, none⟩) d d) d (fun i => if i < 0 then x i else 0) := hO.congr fun i _ => (if_neg (by omega)).symm
      clear hw1 hO hmk hg hgs hB
      go_wp2
      go_loopg [6] d (fun gg iv wx => ∃ i : Nat, iv = .int .i64 (i : Nat) ∧ i ≤ d ∧ d ≤ i + gg ∧ NatOwn wx w.heap.size (.slice (some ⟨g, 0, none⟩) d d) d (fun q => if q < i then x q else 0) ∧ Below w.heap.size w wx)
      case atStart => exact ⟨0, rfl, by omega, by omega, hO0, hB2⟩
      case round =>
        clear hO0 hB2
        obtain ⟨i, rfl, hi, hig, hO, hB⟩ := hrel
        have hi0 : (0 : Int) ≤ (i : Int) := by omega
        by_cases hlti : i < d
        · have hlti' : (i : Int) < (d : Int) := by omega
          have hik : i < k := by omega
          have hik' : (i : Int) < (k : Int) := by omega
          obtain ⟨tb, to', A2, c2, rfl, htb, x0, x1, x2, x3⟩ := HT.out.on hB i hik
          have hdl := hx.out i hik
          obtain ⟨y, hy⟩ : ∃ y, y = x i := ⟨_, rfl⟩
          rw [← hy] at x0 x1 x3 hdl
          have HY := hid hy
          clear hy
          go_wp2_with fail
          refine (refTrim_nat A2 c2 y wr x3 x1 x2 (by omega)).mono ?_
          rintro e w2 ⟨A3, c3, rfl, y1, y2, y3, kb⟩
          replace hO := hO.on kb
          replace hB := onS hB kb
          obtain ⟨A9, d9, q0, _, _, _, z0⟩ := hO.rd hlti
          have hO2 := hO.set hlti y3 y1 y2
          have hB2 := hB.setCell (p := ⟨g, 0 + i, none⟩) HG.out (.slice A3 (dl y) c3)
          rw [Nat.zero_add] at hO2 hB2 q0 z0
          have hO3 := hid (hO2.congr (y' := fun q => if q < i + 1 then x q else 0) fun q _ => by
            show updN (fun q => if q < i then x q else 0) i y q = if q < i + 1 then x q else 0
            unfold updN
            by_cases e : q = i
            · subst e; rw [if_pos rfl, if_pos (Nat.lt_succ_self _), HY.out]
            · rw [if_neg e]
              show (if q < i then x q else 0) = _
              by_cases e2 : q < i
              · rw [if_pos e2, if_pos (by omega)]
              · rw [if_neg e2, if_neg (by omega)])
          have HB2 := hid hB2
          clear hO hB hO2 hB2 kb x0 x1 x2 x3 y3
          go_wp2
          go_roundg (gk - 1)
          case measure => omega
          case rel => exact ⟨i + 1, by go_num, by omega, by omega, hO3.out, HB2.out⟩
        · have hlti' : ¬ (i : Int) < (d : Int) := by omega
          have hOf := hid (hO.congr (y' := x) fun q hq => if_pos (by omega))
          clear hO
          go_wp2
          go_ret
          exact ⟨_, rfl, by rw [← HD.out]; exact hOf.out, hB⟩
end Go.Proofs.Ytnocbkhnmdmfhaa
